/- A part of the proof: nothing is stated here for its own sake. -/
import Derived.Test.YtjohlemfgcmaoaaGreatDoorPpA
import Derived.Laws.StructEq
import Derived.Deep.AppendSrc
import Derived.Laws.BytesString
open _root_.Go.Addr renaming add->AD
open _root_.Array renaming getD_eq_getD_getElem?->BO,getElem?_eq_some_iff->Au,getElem?_push->Cq,getElem?_setIfInBounds_ne->A3,length_toList->CP,range->Et,size_setIfInBounds->Bm,toList_map->Dc
open _root_.Bool renaming false_eq_true->Bv,true_and->Dj
open _root_.Go.Builtin renaming append_->AU,firstCells->CZ,len_->DT
open _root_.Go.Code renaming region->Em
open _root_.Go.Deferred renaming ofValue->DU
open _root_.Go.Instr renaming fill->Eu,indexAt->Ej,loadAt->DR,next->Ea,sliceAt->DY,storeAt->AI,sureAddr->DJ
open _root_.List renaming append_assoc->Bo,append_nil->Bu,cons_append->A8,drop_drop->Bq,drop_eq_getElem_cons->A9,drop_eq_nil_of_le->BJ,drop_left->De,drop_take->Dp,drop_zero->Cc,eq_nil_of_length_eq_zero->Bb,ext_getElem?->BB,getElem?_append_left->BE,getElem?_append_right->Bf,getElem?_drop->AY,getElem?_eq_getElem->AE,getElem?_eq_none->Ce,getElem?_eq_some_iff->AQ,getElem?_map->Ct,getElem?_take->AR,getElem_append_left->Dk,getElem_append_right->CV,getElem_of_mem->BR,length_append->AF,length_cons->AN,length_drop->AW,length_map->BN,length_nil->Bh,length_take->Bc,mapM_cons->Ee,map_cons->Cf,mem_append->AP,mem_append_left->AJ,mem_append_right->AO,mem_cons->Ay,mem_cons_of_mem->Aw,mem_cons_self->AC,nil_append->BV,pairwise_append->CH,pairwise_cons->BW,take_append_drop->Cm,take_left->Dn,take_length->BL,take_of_length_le->Cv,take_succ_eq_append_getElem->Ba,take_take->Dq
open _root_.List.cons renaming injEq->Ca
open _root_.Nat renaming add_assoc->D3,add_mul->Cp,blt_eq->CC,eq_of_beq_eq_true->Az,eq_zero_or_pos->Dx,le_of_ble_eq_true->Cd,le_refl->Av,le_trans->Ec,lt_of_lt_of_le->Dr,lt_or_ge->A1,min_eq_left->C7,mul_comm->C4,mul_le_mul_right->AZ,mul_one->C5,one_mul->DK,succ_mul->C8,zero_add->AX,zero_le->Da,zero_mul->Ef
open _root_.Go.Next renaming value->Dt
open _root_.Go.Op renaming equal->Er
open _root_.Option renaming bind_some->CX,map_eq_some_iff->CO,map_some->D6
open _root_.Option.some renaming inj->AL,injEq->As
open _root_.Prod.mk renaming injEq->Bn
open _root_.Pure renaming pure->Dg
open _root_.Go.Region renaming wanted->BD
open _root_.UInt8 renaming ofNat->Be
open _root_.Go.Utf8 renaming decode->Es,encode->En
open _root_.Go.Value renaming int->Ep
open _root_.Go.Value.slice renaming injEq->A4
set_option linter.unusedVariables false
set_option maxRecDepth 100000
namespace Go.X
end Go.X
namespace Go.Proofs
end Go.Proofs
open Go Go.X Go.Proofs
section
namespace Go.X
section
variable {M M':Fr} {h h':Za} {b c o n0:Nat} {γ γ':Gh} {us:List Value} {u:Value} {t:Ty} {cs C R:CS} {e:TypeId}
def AgM(M:Fr)(h:Za):Prop:=∀b c,M b=some c->∃T m,h[b]?=some (.cells c T m)
theorem AgM.lt(H:AgM M h){c:Array Value}(e:M b=some c):b<h.size:=by
 obtain⟨T,m,e'⟩:=H b c e;exact(Au.1 e').1
theorem AgM.none{M:Fr}{h:Za}(H:AgM M h){b:Nat}(hb:h.size<=b):M b=none:=by
 cases e:M b with
 |none=>rfl
 |some c=>have:=H.lt e;omega
theorem AgM.cell(H:AgM M h){c:Array Value}{v:Value}(e:M b=some c)(hv:c[o]?=some v):Ze h ⟨b,o,Option.none⟩=some v:=by
 obtain⟨T,m,e'⟩:=H b c e
 unfold Ze;simp[e',hv]
def Gx(c:Option Nat)(γ γ':Gh):Prop:=Fr.le γ.M γ'.M/\∀i,c≠some i->γ'.β i=γ.β i/\γ'.σ i=γ.σ i
theorem Gx.refl(c:Option Nat)(γ:Gh):Gx c γ γ:=⟨Fr.le.refl _,λ_ _=>⟨rfl,rfl⟩⟩
def zve(c:Nat):AA->Bool
 |.box j _=>Nat.beq j c
 |.own j=>Nat.beq j c
 |.oelt j _ _ _=>Nat.beq j c
 |_=>false
def znr(c:Nat):List AA->Bool
 |[]=>false
 |x::l=>bif zve c x then true else znr c l
def zgh(c:Nat):Ch->Bool
 |.box l=>znr c l
 |_=>false
def z96(c:Nat):AG->Bool
 |.a x=>zve c x
 |.agg l=>znr c l
def z1o(c:Nat):List AG->Bool
 |[]=>false
 |x::l=>bif z96 c x then true else z1o c l
def zxn(c:Nat):AV->Bool
 |.g x=>z96 c x
 |.tup l=>z1o c l
 |.nx _ _ _=>false
def zxo{α:Type}(f:Nat->α->Bool):Option Nat->α->Bool
 |none,_=>false
 |some c,x=>f c x
theorem zn6{j c:Nat}(h:Nat.beq j c=false):some c≠some j:=by
 intro e;simp only[As]at e;subst e;simp at h
theorem DenA.gx{c:Option Nat}(g:Gx c γ γ'):∀{x:AA} {u:Value},zxo zve c x=false->DenA γ x u->DenA γ' x u
 |.v _,_,_,h=>h
 |.d _ _,_,_,h=>Rd.mono g.1 h
 |.box j o,u,hm,h=>by
  have:c≠some j:=by cases c with|none=>simp|some c=>exact zn6 hm
  rw[show u=_ from h];simp only[DenA,(g.2 j this).1]
 |.own j,u,hm,h=>by
  have:c≠some j:=by cases c with|none=>simp|some c=>exact zn6 hm
  rw[show u=_ from h];simp only[DenA,(g.2 j this).2]
 |.oelt j z i o,u,hm,h=>by
  have:c≠some j:=by cases c with|none=>simp|some c=>exact zn6 hm
  obtain⟨b,e1,e2⟩:=h
  exact⟨b,by rw[(g.2 j this).2];exact e1,e2⟩
 |.elt _ _ _,_,_,⟨b,f,cs,e,h1,h2⟩=>⟨b,f,cs,e,g.1 _ _ h1,Rd.mono g.1 h2⟩
 |.dc _ _,_,_,⟨s,e1,e2,h⟩=>⟨s,e1,e2,Rd.mono g.1 h⟩
theorem z1p{l:List AA}(h:znr c l=false):∀x∈l,zve c x=false:=by
 induction l with
 |nil=>intro x hx;cases hx
 |cons y l ih=>
  intro x hx
  simp only[znr]at h
  cases hy:zve c y with
  |true=>simp[hy]at h
  |false=>
   simp only[hy,cond_false]at h
   rcases Ay.1 hx with rfl|hx
   ·exact hy
   ·exact ih h x hx
theorem DenL.gx{c:Option Nat}(g:Gx c γ γ'){l:List AA}(hm:zxo znr c l=false)(h:All2 (DenA γ) l us):All2 (DenA γ') l us:=
 h.imp λx hx u hu=>DenA.gx g (by cases c with|none=>rfl|some c=>exact z1p hm x hx) hu
theorem DenG.gx{c:Option Nat}(g:Gx c γ γ'){x:AG}(hm:zxo z96 c x=false)(h:DenG γ x u):DenG γ' x u:=by
 cases x with
 |a x=>exact DenA.gx g (by cases c <;> exact hm) h
 |agg l=>obtain⟨us,e,h⟩:=h;exact⟨us,e,DenL.gx g (by cases c <;> exact hm) h⟩
theorem zxp{l:List AG}(h:z1o c l=false):∀x∈l,z96 c x=false:=by
 induction l with
 |nil=>intro x hx;cases hx
 |cons y l ih=>
  intro x hx
  simp only[z1o]at h
  cases hy:z96 c y with
  |true=>simp[hy]at h
  |false=>
   simp only[hy,cond_false]at h
   rcases Ay.1 hx with rfl|hx
   ·exact hy
   ·exact ih h x hx
theorem DenV.gx{c:Option Nat}(g:Gx c γ γ'){x:AV}(hm:zxo zxn c x=false)(h:DenV γ x u):DenV γ' x u:=by
 cases x with
 |g x=>exact DenG.gx g (by cases c <;> exact hm) h
 |tup l=>
  obtain⟨us,e,h⟩:=h
  exact⟨us,e,h.imp λx hx u hu=>DenG.gx g (by cases c with|none=>rfl|some c=>exact zxp hm x hx) hu⟩
 |nx b p c=>exact h
def RowC(M:Fr)(t:Ty)(xs:List (El t))(cells:List Value):Prop:=
 cells.length=xs.length*sz t/\∀i (h:i<xs.length),Rd M t xs[i] ((cells.drop (i*sz t)).take (sz t))
theorem RowC.mono(hM:Fr.le M M'){xs:List (El t)}{cells:List Value}(H:RowC M t xs cells):RowC M' t xs cells:=⟨H.1,λi h=>Rd.mono hM (H.2 i h)⟩
theorem RowC.nil(M:Fr)(t:Ty):RowC M t [] []:=⟨by simp,λi h=>absurd h (by simp)⟩
theorem RowC.single{x:El t}{cs:List Value}(h:Rd M t x cs):RowC M t [x] cs:=by
 have hl:=h.len
 refine⟨by simp[hl],λi hi=>?_⟩
 have:i=0:=by simpa using hi
 subst this
 simp only[Ef,Cc,List.getElem_cons_zero,<-hl,BL]
 exact h
theorem RowC.append{xs ys:List (El t)}{c1 c2:List Value}(h1:RowC M t xs c1)(h2:RowC M t ys c2):RowC M t (xs++ys) (c1++c2):=by
 refine⟨by rw[AF,AF,h1.1,h2.1,Cp],λi hi=>?_⟩
 by_cases Z:i<xs.length
 ·rw[Dk Z]
  have ab:(i+1)*sz t<=c1.length:=by rw[h1.1];exact AZ _ Z
  rw[Cp,DK]at ab
  rw[List.drop_append_of_le_length (by omega),List.take_append_of_le_length (by rw[AW];omega)]
  exact h1.2 i Z
 ·have aa:xs.length<=i:=by omega
  rw[CV aa]
  have ae:i-xs.length<ys.length:=by rw[AF]at hi;omega
  have:=h2.2 (i-xs.length) ae
  have e:(c1++c2).drop (i*sz t)=c2.drop ((i-xs.length)*sz t):=by
   rw[List.drop_append]
   have:c1.length<=i*sz t:=by rw[h1.1];exact AZ _ aa
   rw[BJ this,BV,h1.1,<-Nat.sub_mul]
  rw[e];exact this
theorem RowC.one{xs:List (El t)}{cells:List Value}(H:RowC M t xs cells):∀v∈cells,v.oneCell'=true:=by
 intro v hv
 obtain⟨j,hj,rfl⟩:=BR hv
 have hz:0<sz t:=by
  rcases Dx (sz t)with h|h
  ·rw[H.1,h,Nat.mul_zero]at hj;omega
  ·exact h
 have hi:j / sz t<xs.length:=by rw[H.1]at hj;exact Nat.div_lt_of_lt_mul (by rw[C4];exact hj)
 refine Rd.one (H.2 _ hi) _ ?_
 rw[List.mem_iff_getElem?]
 refine⟨j % sz t,?_⟩
 rw[AR,if_pos (Nat.mod_lt _ hz),AY,C4,Nat.div_add_mod,AE hj]
theorem RowC.rd{xs:List (El t)}{cells:List Value}(H:RowC M t xs cells){cs:Array Value}(hM:M b=some cs)(hc:(cs.toList.drop o).take (xs.length*sz t)=cells)(hn:xs.length<=140737488355328/\xs.length<=c):
  Rd M (.row t) xs [.slice (some ⟨b,o,none⟩) xs.length c]:=by
 refine⟨_,rfl,_,_,rfl,hn,.inr ⟨b,o,cs,rfl,hM,λi hi=>?_⟩⟩
 have:=H.2 i hi
 rw[<-hc]at this
 have Z:(i+1)*sz t<=xs.length*sz t:=AZ _ hi
 rw[Cp,DK]at Z
 have e:(((cs.toList.drop o).take (xs.length*sz t)).drop (i*sz t)).take (sz t)=cut cs (o+i*sz t) (sz t):=by
  unfold cut
  rw[Dp,Dq,Bq,C7 (by omega)]
 rw[e]at this
 exact this
theorem Rd.rowC(ag:AgM M h){xs:List (El t)}(H:Rd M (.row t) xs [u]):∃s:Sl,u=slV s/\s.len=xs.length/\(xs.length<=140737488355328/\xs.length<=s.cap)/\∃cells,RowC M t xs cells/\Arr h.size h s.a cells:=by
 obtain⟨v,e,a,c,rfl,hn,H⟩:=H
 cases e
 refine⟨⟨a,xs.length,c⟩,rfl,rfl,hn,?_⟩
 rcases H with rfl|⟨b,o,cs,rfl,hM,hi⟩
 ·exact⟨[],RowC.nil _ _,.inl rfl⟩
 ·have Z:xs=[]\/xs.length*sz t<=(cs.toList.drop o).length:=by
   rcases Dx xs.length with h0|h0
   ·exact .inl (Bb h0)
   ·right
    have:=(hi (xs.length-1) (by omega)).len
    unfold cut at this
    rw[Bc,AW]at this
    rw[AW]
    rcases Dx (sz t)with hz|hz
    ·rw[hz];simp
    ·have e:xs.length*sz t=(xs.length-1)*sz t+sz t:=by
      rw[<-C8];congr 1;omega
     rw[e];omega
  rcases Z with rfl|Z
  ·exact⟨[],RowC.nil _ _,.inl rfl⟩
  refine⟨(cs.toList.drop o).take (xs.length*sz t),⟨by rw[Bc];omega,λi aa=>?_⟩,.inr ⟨b,o,rfl,ag.lt hM,λi v hv=>?_⟩⟩
  ·have:=hi i aa
   have ab:(i+1)*sz t<=xs.length*sz t:=AZ _ aa
   rw[Cp,DK]at ab
   unfold cut at this
   rw[Dp,Dq,Bq,C7 (by omega)]
   exact this
  ·refine ag.cell hM ?_
   rw[AR]at hv
   split at hv
   ·rw[AY]at hv;simpa using hv
   ·cases hv
def z5z(o:Option Obj)(us:List Value):Prop:=((∃T,o=some (.cells us.toArray T (0,0)))/\∀s p,us≠[Jx s p])\/(∃s p,us=[Jx s p]/\o=some (.stringIter s p))
def DenC(n0:Nat)(γ:Gh)(h:Za)(c:Nat):Ch->Prop
 |.box l=>∃us,z5z h[γ.β c]? us/\All2 (DenA γ) l us
 |.row e t xs=>∃cells,Owns h n0 e (sz t) (γ.σ c) cells/\RowC γ.M t xs cells/\xs.length<=140737488355328/\(γ.σ c).len=xs.length
 |.fz t xs=>Rd γ.M (.row t) xs [slV (γ.σ c)]
def blk(γ:Gh)(c:Nat):Ch->Option Nat
 |.box _=>some (γ.β c)
 |.row _ _ _=>(γ.σ c).a.map (·.block)
 |.fz _ _=>none
structure Inv (h0:Za) (W:Nat->Prop) (M0:Fr) (cs:CS) (γ:Gh) (h:Za):Prop where
 ag:AgM γ.M h
 frame:∀i,i<h0.size->¬W i->h[i]?=h0[i]?
 size:h0.size<=h.size
 old:∀b,b<h0.size->γ.M b=M0 b
 le:Fr.le M0 γ.M
 den:∀x∈cs,DenC h0.size γ h x.1 x.2
 sep:∀x∈cs,∀b,blk γ x.1 x.2=some b->(h0.size<=b\/W b)/\γ.M b=none
 apart:cs.Pairwise λx y=>∀b,blk γ x.1 x.2=some b->blk γ y.1 y.2≠some b
variable {h0 : Za} {W : Nat -> Prop} {M0 : Fr}
theorem DenC.lt{k:Ch}(H:DenC n0 γ h c k):∀b,blk γ c k=some b->b<h.size:=by
 intro b hb
 cases k with
 |box l=>
  obtain⟨us,e,_⟩:=H
  simp only[blk,As]at hb
  subst hb
  rcases e with⟨⟨T,e⟩,_⟩|⟨s,p,_,e⟩
  ·exact(Au.1 e).1
  ·exact(Au.1 e).1
 |row e t xs=>
  obtain⟨cells,h1,_⟩:=H
  simp only[blk,CO]at hb
  obtain⟨p,hp,rfl⟩:=hb
  exact(h1.base_le p hp).2
 |fz t xs=>cases hb
theorem DenC.gx{c:Option Nat}(g:Gx c γ γ'){j:Nat}{k:Ch}(hj:c≠some j)(hm:zxo zgh c k=false)(H:DenC n0 γ h j k)(hb:∀b,blk γ j k=some b->h'[b]?=h[b]?):DenC n0 γ' h' j k:=by
 obtain⟨e1,e2⟩:=g.2 j hj
 cases k with
 |box l=>
  obtain⟨us,e,h1⟩:=H
  exact⟨us,by rw[e1,hb _ rfl];exact e,DenL.gx g (by cases c <;> exact hm) h1⟩
 |row e t xs=>
  obtain⟨cells,h1,h2,h3,h4⟩:=H
  refine⟨cells,?_,h2.mono g.1,h3,by rw[e2];exact h4⟩
  rw[e2]
  exact h1.keep λp hp=>hb _ (by simp[blk,hp])
 |fz t xs=>simp only[DenC,e2];exact Rd.mono g.1 H
theorem zkq{c:Option Nat}(g:Gx c γ γ'){j:Nat}(k:Ch)(hj:c≠some j):blk γ' j k=blk γ j k:=by
 obtain⟨e1,e2⟩:=g.2 j hj
 cases k <;> simp[blk,e1,e2]
theorem Inv.rest{cs rest:CS}{γ γ':Gh}{h h':Za}(I:Inv h0 W M0 cs γ h)(hsub:rest.Sublist cs){c:Option Nat}(g:Gx c γ γ')
  (hmen:∀x∈rest,c≠some x.1/\zxo zgh c x.2=false) (hk:∀x∈rest,∀b,blk γ x.1 x.2=some b->h'[b]?=h[b]?/\γ'.M b=none)
  (ag:AgM γ'.M h') (hframe:∀i,i<h0.size->¬W i->h'[i]?=h[i]?) (hsize:h.size<=h'.size) (hold:∀b,b<h0.size->γ'.M b=γ.M b):Inv h0 W M0 rest γ' h' where
 ag:=ag
 frame:=λi hi hw=>(hframe i hi hw).trans (I.frame i hi hw)
 size:=Ec I.size hsize
 old:=λb hb=>(hold b hb).trans (I.old b hb)
 le:=I.le.trans g.1
 den:=λx hx=>(I.den x (hsub.subset hx)).gx g (hmen x hx).1 (hmen x hx).2 λb hb=>(hk x hx b hb).1
 sep:=λx hx b hb=>by
  rw[zkq g _ (hmen x hx).1]at hb
  exact⟨(I.sep x (hsub.subset hx) b hb).1,(hk x hx b hb).2⟩
 apart:=by
  refine(I.apart.sublist hsub).imp_of_mem λ {x y} hx hy h=>?_
  intro b hb
  rw[zkq g _ (hmen x hx).1]at hb
  rw[zkq g _ (hmen y hy).1]
  exact h b hb
theorem Inv.cons{rest:CS}(I:Inv h0 W M0 rest γ h){k:Ch}(hd:DenC h0.size γ h c k)(hs:∀b,blk γ c k=some b->(h0.size<=b\/W b)/\γ.M b=none)
  (ha:∀b,blk γ c k=some b->∀x∈rest,blk γ x.1 x.2≠some b):Inv h0 W M0 ((c,k)::rest) γ h where
 ag:=I.ag
 frame:=I.frame
 size:=I.size
 old:=I.old
 le:=I.le
 den:=λx hx=>by rcases Ay.1 hx with rfl|hx;exact hd;exact I.den x hx
 sep:=λx hx=>by rcases Ay.1 hx with rfl|hx;exact hs;exact I.sep x hx
 apart:=BW.2 ⟨λy hy b hb=>ha b hb y hy,I.apart⟩
theorem Inv.sub{cs rest:CS}(I:Inv h0 W M0 cs γ h)(hsub:rest.Sublist cs):Inv h0 W M0 rest γ h where
 ag:=I.ag
 frame:=I.frame
 size:=I.size
 old:=I.old
 le:=I.le
 den:=λx hx=>I.den x (hsub.subset hx)
 sep:=λx hx=>I.sep x (hsub.subset hx)
 apart:=I.apart.sublist hsub
theorem Inv.fz(I:Inv h0 W M0 cs γ h):z09 γ cs:=λc t xs hm=>I.den _ hm
theorem Inv.call(I:Inv h0 W M0 cs γ h)(k:Keep h.size h h')(hM:Fr.le γ.M M')(Z:∀b,b<h.size->M' b=γ.M b)(ag:AgM M' h'):Inv h0 W M0 cs { γ with M:=M' } h':=
 I.rest (List.Sublist.refl _) (c:=none) ⟨hM,λ_ _=>⟨rfl,rfl⟩⟩ (λx _=>⟨by simp,rfl⟩)
  (λx hx b hb=>by
   have aa:=(I.den x hx).lt b hb
   exact⟨k.get b aa,(Z b aa).trans (I.sep x hx b hb).2⟩) ag (λi hi _=>k.get i (Dr hi I.size)) k.size (λb hb=>Z b (Dr hb I.size))
def Qi(c:Nat):CS->CS
 |[]=>[]
 |(j,k)::l=>bif (bif Nat.beq j c then true else zgh c k)then Qi c l else(j,k)::Qi c l
def Qf(c:Nat):CS->Bool
 |[]=>true
 |(j,k)::l=>bif (bif Nat.beq j c then true else zgh c k)then false else Qf c l
def zaz(c:Nat):CS->CS
 |[]=>[]
 |(j,k)::l=>bif Nat.beq j c then zaz c l else(j,k)::zaz c l
theorem Yp(c:Nat):∀l:CS,(Qi c l).Sublist l
 |[]=>.slnil
 |(j,k)::l=>by
  simp only[Qi]
  cases(bif Nat.beq j c then true else zgh c k)with
  |true=>exact(Yp c l).cons _
  |false=>exact(Yp c l).cons_cons _
theorem Y0(c:Nat):∀l:CS,(zaz c l).Sublist l
 |[]=>.slnil
 |(j,k)::l=>by
  simp only[zaz]
  cases Nat.beq j c with
  |true=>exact(Y0 c l).cons _
  |false=>exact(Y0 c l).cons_cons _
theorem zgi{c:Nat}:∀{l:CS} {x:Nat×Ch},x∈Qi c l->some c≠some x.1/\zgh c x.2=false
 |(j,k)::l,x,h=>by
  simp only[Qi]at h
  cases hb:(bif Nat.beq j c then true else zgh c k)with
  |true=>rw[hb]at h;exact zgi h
  |false=>
   rw[hb]at h
   rcases Ay.1 h with rfl|h
   ·cases hj:Nat.beq j c with
    |true=>simp[hj]at hb
    |false=>simp only[hj,cond_false]at hb;exact⟨zn6 hj,hb⟩
   ·exact zgi h
theorem Xf{c:Nat}:∀{l:CS},Qf c l=true->∀x∈l,some c≠some x.1/\zgh c x.2=false
 |[],_,x,h=>by cases h
 |(j,k)::l,hn,x,h=>by
  simp only[Qf]at hn
  cases hb:(bif Nat.beq j c then true else zgh c k)with
  |true=>rw[hb]at hn;cases hn
  |false=>
   rw[hb]at hn
   rcases Ay.1 h with rfl|h
   ·cases hj:Nat.beq j c with
    |true=>simp[hj]at hb
    |false=>simp only[hj,cond_false]at hb;exact⟨zn6 hj,hb⟩
   ·exact Xf hn x h
theorem Xv{c:Nat}:∀{l:CS} {x:Nat×Ch},x∈zaz c l->x∈l/\x.1≠c
 |(j,k)::l,x,h=>by
  simp only[zaz]at h
  cases hb:Nat.beq j c with
  |true=>rw[hb]at h;exact⟨Aw _ (Xv h).1,(Xv h).2⟩
  |false=>
   rw[hb]at h
   rcases Ay.1 h with rfl|h
   ·refine⟨AC,λe=>?_⟩
    simp only at e
    subst e
    simp at hb
   ·exact⟨Aw _ (Xv h).1,(Xv h).2⟩
def zwx(γ:Gh)(c b:Nat):Gh:={ γ with β:=λi=>bif Nat.beq i c then b else γ.β i }
def zq5(γ:Gh)(c:Nat)(s:Sl):Gh:={ γ with σ:=λi=>bif Nat.beq i c then s else γ.σ i }
theorem zb8(γ:Gh)(c b:Nat):Gx (some c) γ (zwx γ c b):=⟨Fr.le.refl _,λi hi=>by
 have:Nat.beq i c=false:=by
  cases h:Nat.beq i c with
  |false=>rfl
  |true=>exact absurd (congrArg some (Az h).symm) hi
 simp[zwx,this]⟩
theorem Wl(γ:Gh)(c:Nat)(s:Sl):Gx (some c) γ (zq5 γ c s):=⟨Fr.le.refl _,λi hi=>by
 have:Nat.beq i c=false:=by
  cases h:Nat.beq i c with
  |false=>rfl
  |true=>exact absurd (congrArg some (Az h).symm) hi
 simp[zq5,this]⟩
theorem J9(γ:Gh)(c b:Nat):(zwx γ c b).β c=b:=by simp[zwx]
theorem Ql(γ:Gh)(c:Nat)(s:Sl):(zq5 γ c s).σ c=s:=by simp[zq5]
theorem zds(hR:Qf c R=true):∀x∈Qi c C++R,some c≠some x.1/\zxo zgh (some c) x.2=false:=by
 intro x hx
 rcases AP.1 hx with hx|hx
 ·exact zgi hx
 ·exact Xf hR x hx
theorem Inv.newBoxO(I:Inv h0 W M0 (C++R) γ h)(hR:Qf c R=true){l:List AA}(hd:All2 (DenA γ) l us)(hl:znr c l=false){ob:Obj}(aa:z5z (some ob) us):
  Inv h0 W M0 ((c,.box l)::Qi c C++R) (zwx γ c h.size) (h.push ob):=by
 have Z:∀x∈Qi c C++R,∀b,blk γ x.1 x.2=some b->b<h.size:=λx hx b hb=>(I.den x (((Yp c C).append_right R).subset hx)).lt b hb
 have hI:Inv h0 W M0 (Qi c C++R) (zwx γ c h.size) (h.push ob):=by
  refine I.rest ((Yp c C).append_right R) (zb8 γ c h.size) (zds hR) (λx hx b hb=>?_) (λb cc e=>?_) (λi hi _=>?_) (by simp) (λb hb=>rfl)
  ·have:=Z x hx b hb
   exact⟨by rw[Cq,if_neg (by omega)],(I.sep x (((Yp c C).append_right R).subset hx) b hb).2⟩
  ·have:=I.ag.lt e
   obtain⟨T',m,e'⟩:=I.ag b cc e
   exact⟨T',m,by rw[Cq,if_neg (by omega)];exact e'⟩
  ·have:=I.size
   rw[Cq,if_neg (by omega)]
 refine hI.cons ⟨us,by rw[J9,Jh];exact aa,DenL.gx (zb8 γ c h.size) hl hd⟩ (λb hb=>?_) (λb hb x hx e=>?_)
 ·simp only[blk,J9,As]at hb
  subst hb
  exact⟨.inl I.size,I.ag.none (Av _)⟩
 ·simp only[blk,J9,As]at hb
  subst hb
  rw[zkq (zb8 γ c h.size) _ (zds hR x hx).1]at e
  have:=Z x hx _ e
  omega
theorem Inv.newBox(I:Inv h0 W M0 (C++R) γ h)(hR:Qf c R=true){l:List AA}(hd:All2 (DenA γ) l us)(hl:znr c l=false)(Z:itB l=false)(T:TypeId):
  Inv h0 W M0 ((c,.box l)::Qi c C++R) (zwx γ c h.size) (h.push (.cells us.toArray T)):=
 Inv.newBoxO I hR hd hl (.inl ⟨⟨T,rfl⟩,λs p=>zs3 Z hd s p⟩)
theorem zfb{α:Type}{R:α->α->Prop}(hs:∀x y,R x y->R y x):∀{l:List α},l.Pairwise R->∀{x y:α},x∈l->y∈l->x≠y->R x y
 |[],_,_,_,hx,_,_=>by cases hx
 |z::l,h,x,y,hx,hy,hne=>by
  rw[BW]at h
  rcases Ay.1 hx with e1|h1
  ·rcases Ay.1 hy with e2|h2
   ·exact absurd (e1.trans e2.symm) hne
   ·rw[e1];exact h.1 _ h2
  ·rcases Ay.1 hy with e2|h2
   ·rw[e2];exact hs _ _ (h.1 _ h1)
   ·exact zfb hs h.2 h1 h2 hne
theorem Inv.setBox(I:Inv h0 W M0 (C++R) γ h){l l':List AA}(hc:(c,Ch.box l)∈C)(e:z5z h'[γ.β c]? us)
  (ho:∀i,i≠γ.β c->h'[i]?=h[i]?) (hs:h'.size=h.size) (hd:All2 (DenA γ) l' us) (hR:∀x∈R,x.1≠c):Inv h0 W M0 ((c,.box l')::zaz c C++R) γ h':=by
 have Z:=I.sep _ (AJ R hc) _ rfl
 have aa:∀x∈zaz c C++R,blk γ x.1 x.2≠some (γ.β c):=by
  intro x hx
  have af:x≠(c,Ch.box l):=by
   rintro rfl
   rcases AP.1 hx with hx|hx
   ·exact(Xv hx).2 rfl
   ·exact hR _ hx rfl
  have ae:x∈C++R:=((Y0 c C).append_right R).subset hx
  have hp:=@zfb _ (λ(x y:Nat×Ch)=>∀b,blk γ x.1 x.2=some b->blk γ y.1 y.2≠some b) (λx y h b hb ab=>h b ab hb) _ I.apart
  intro hb
  exact hp (AJ R hc) ae (λe=>af e.symm) _ rfl hb
 have hI:Inv h0 W M0 (zaz c C++R) γ h':=by
  refine I.rest ((Y0 c C).append_right R) (c:=none) (Gx.refl _ _) (λx _=>⟨by simp,rfl⟩) (λx hx b hb=>?_) (λb cc eM=>?_) (λi hi hw=>?_) (by omega) (λb hb=>rfl)
  ·exact⟨ho b λe'=>aa x hx (e' ▸ hb),(I.sep x (((Y0 c C).append_right R).subset hx) b hb).2⟩
  ·obtain⟨T',m,e'⟩:=I.ag b cc eM
   exact⟨T',m,by rw[ho b λe2=>by rw[e2,Z.2]at eM;cases eM];exact e'⟩
  ·refine ho i λe'=>?_
   have h2:=Z.1
   simp only at h2
   rcases h2 with h1|h1
   ·omega
   ·rw[e']at hw;exact hw h1
 refine hI.cons ⟨us,e,hd⟩ (λb hb=>?_) (λb hb x hx=>?_)
 ·simp only[blk,As]at hb;subst hb;exact Z
 ·simp only[blk,As]at hb;subst hb;exact aa x hx
theorem Inv.newRow(I:Inv h0 W M0 (C++R) γ h)(hR:Qf c R=true)(hs:h.size<=h'.size){p:Option Nat}(ho:∀i,i<h.size->p≠some i->h'[i]?=h[i]?)
  (hp:∀b,p=some b->h0.size<=b/\γ.M b=none/\∀x∈C++R,blk γ x.1 x.2≠some b) {s:Sl} {xs:List (El t)} {cells:List Value} (af:Owns h' h0.size e (sz t) s cells)
  (hb:∀q,s.a=some q->p=some q.block\/q.block=h.size) (ab:RowC γ.M t xs cells) (hn:xs.length<=140737488355328) (hl:s.len=xs.length):
  Inv h0 W M0 ((c,.row e t xs)::Qi c C++R) (zq5 γ c s) h':=by
 have Z:=(Yp c C).append_right R
 have ae:∀x∈Qi c C++R,∀b,blk γ x.1 x.2=some b->b<h.size:=λx hx b hb=>(I.den x (Z.subset hx)).lt b hb
 have hI:Inv h0 W M0 (Qi c C++R) (zq5 γ c s) h':=by
  refine I.rest Z (Wl γ c s) (zds hR) (λx hx b hb=>?_) (λb cc eM=>?_) (λi hi hw=>?_) hs (λb hb=>rfl)
  ·exact⟨ho b (ae x hx b hb) λe'=>(hp b e').2.2 x (Z.subset hx) hb,(I.sep x (Z.subset hx) b hb).2⟩
  ·obtain⟨T',m,e'⟩:=I.ag b cc eM
   exact⟨T',m,by rw[ho b (I.ag.lt eM) λe2=>by have:=(hp b e2).2.1;rw[show γ.M b=some cc from eM]at this;cases this];exact e'⟩
  ·have:=I.size
   refine ho i (by omega) λe'=>?_
   have:=(hp i e').1
   omega
 refine hI.cons ⟨cells,by rw[Ql];exact af,ab,hn,by rw[Ql];exact hl⟩ (λb aa=>?_) (λb aa x hx e'=>?_)
 ·simp only[blk,Ql,CO]at aa
  obtain⟨q,hq,rfl⟩:=aa
  rcases hb q hq with h1|h1
  ·exact⟨.inl (hp _ h1).1,(hp _ h1).2.1⟩
  ·rw[h1];exact⟨.inl I.size,I.ag.none (Av _)⟩
 ·simp only[blk,Ql,CO]at aa
  obtain⟨q,hq,rfl⟩:=aa
  rw[zkq (Wl γ c s) _ (zds hR x hx).1]at e'
  rcases hb q hq with h1|h1
  ·exact(hp _ h1).2.2 x (Z.subset hx) e'
  ·rw[h1]at e';have:=ae x hx _ e';omega
def z6a(c:Nat):CS->CS
 |[]=>[]
 |(j,k)::l=>bif Nat.beq j c then(match k with
  |.row _ t xs=>(j,.fz t xs)::z6a c l
  |k=>(j,k)::z6a c l)else(j,k)::z6a c l
def zg7(γ:Gh)(b:Nat)(cs:Array Value):Gh:={ γ with M:=λi=>bif Nat.beq i b then some cs else γ.M i }
theorem Inv.freeze1{A C:CS}{xs:List (El t)}(I:Inv h0 W M0 (A++(c,.row e t xs)::C) γ h):∃γ',Inv h0 W M0 (A++(c,.fz t xs)::C) γ' h/\Gx none γ γ':=by
 obtain⟨cells,aj,ae,hn,hl⟩:=I.den (c,.row e t xs) (by simp)
 have au:=ae.1
 rcases aj.2 with⟨hv,h1⟩|⟨g,cap,Z,hv,ab,hg,az,ap,ay,ah⟩
 ·refine⟨γ,?_,Gx.refl _ _⟩
  have an:xs=[]:=Bb (by omega)
  have hd:DenC h0.size γ h c (.fz t xs):=by
   subst an
   simp only[A4]at hv
   exact⟨_,rfl,none,0,by simp[slV,hv],⟨by simp,by simp⟩,.inl rfl⟩
  have aa:∀x,x∈A++(c,Ch.fz t xs)::C->x∈A++(c,Ch.row e t xs)::C\/x=(c,Ch.fz t xs):=by
   intro x hx
   simp only[AP,Ay]at hx ⊢
   rcases hx with h|h|h
   ·exact .inl (.inl h)
   ·exact .inr h
   ·exact .inl (.inr (.inr h))
  refine⟨I.ag,I.frame,I.size,I.old,I.le,λx hx=>?_,λx hx b hb=>?_,?_⟩
  ·rcases aa x hx with h|rfl
   ·exact I.den x h
   ·exact hd
  ·rcases aa x hx with h|rfl
   ·exact I.sep x h b hb
   ·cases hb
  ·have:=I.apart
   simp only[CH,BW]at this ⊢
   obtain⟨a1,⟨a2,a3⟩,a4⟩:=this
   refine⟨a1,⟨λy hy b hb=>(by simp[blk]at hb),a3⟩,λx hx y hy b hb=>?_⟩
   rcases Ay.1 hy with rfl|hy
   ·simp[blk]
   ·exact a4 x hx y (Aw _ hy) b hb
 ·simp only[A4]at hv
  have am:γ.M g=none:=(I.sep (c,.row e t xs) (by simp) g (by simp[blk,hv.1])).2
  have ai:Fr.le γ.M (zg7 γ g Z).M:=by
   intro b cc eM
   have:Nat.beq b g=false:=by
    cases hb:Nat.beq b g with
    |false=>rfl
    |true=>rw[Az hb,am]at eM;cases eM
   simp[zg7,this,eM]
  have gx:Gx none γ (zg7 γ g Z):=⟨ai,λ_ _=>⟨rfl,rfl⟩⟩
  have ar:g<h.size:=(Au.1 hg).1
  have ak:∀x,x∈A++C->blk γ x.1 x.2≠some g:=by
   intro x hx
   have:=I.apart
   simp only[CH,BW]at this
   obtain⟨a1,⟨a2,a3⟩,a4⟩:=this
   rcases AP.1 hx with hx|hx
   ·intro hb
    exact a4 x hx (c,.row e t xs) AC g hb (by simp[blk,hv.1])
   ·exact a2 x hx g (by simp[blk,hv.1])
  have af:∀b,b≠g->(zg7 γ g Z).M b=γ.M b:=by
   intro b hb
   have:Nat.beq b g=false:=by
    cases h:Nat.beq b g with
    |false=>rfl
    |true=>exact absurd (Az h) hb
   simp[zg7,this]
  have hI:Inv h0 W M0 (A++C) (zg7 γ g Z) h:=by
   refine I.rest (by simp) gx (λx _=>⟨by simp,rfl⟩) (λx hx b hb=>?_) (λb cc eM=>?_) (λ_ _ _=>rfl) (Av _) (λb hb=>af b (by omega))
   ·have ab:b≠g:=λe'=>ak x hx (e' ▸ hb)
    refine⟨rfl,(af b ab).trans (I.sep x ?_ b hb).2⟩
    simp only[AP,Ay]at hx ⊢
    rcases hx with h|h
    ·exact .inl h
    ·exact .inr (.inr h)
   ·by_cases ab:b=g
    ·subst ab
     have:cc=Z:=by simp[zg7]at eM;exact eM.symm
     subst this
     exact⟨_,_,hg⟩
    ·rw[af b ab]at eM;exact I.ag b cc eM
  refine⟨zg7 γ g Z,?_,gx⟩
  have hd:DenC h0.size (zg7 γ g Z) h c (.fz t xs):=by
   have:=(ae.mono ai).rd (b:=g) (o:=0) (c:=cap) (cs:=Z) (by simp[zg7]) (by rw[Cc,<-hl];exact ah) ⟨hn,by omega⟩
   show Rd _ _ _ [slV (γ.σ c)]
   have e3:slV (γ.σ c)=.slice (some ⟨g,0,none⟩) xs.length cap:=by
    unfold slV;rw[hv.1,hl,hv.2.2]
   rw[e3];exact this
  have aa:∀x,x∈A++(c,Ch.fz t xs)::C->x∈A++C\/x=(c,Ch.fz t xs):=by
   intro x hx
   simp only[AP,Ay]at hx ⊢
   rcases hx with h|h|h
   ·exact .inl (.inl h)
   ·exact .inr h
   ·exact .inl (.inr h)
  refine⟨hI.ag,hI.frame,hI.size,hI.old,hI.le,λx hx=>?_,λx hx b hb=>?_,?_⟩
  ·rcases aa x hx with h|rfl
   ·exact hI.den x h
   ·exact hd
  ·rcases aa x hx with h|rfl
   ·exact hI.sep x h b hb
   ·cases hb
  ·have:=hI.apart
   simp only[CH,BW]at this ⊢
   obtain⟨a1,a3,a4⟩:=this
   refine⟨a1,⟨λy hy b hb=>(by simp[blk]at hb),a3⟩,λx hx y hy b hb=>?_⟩
   rcases Ay.1 hy with rfl|hy
   ·simp[blk]
   ·exact a4 x hx y hy b hb
theorem Inv.freeze{R:CS}{h:Za}(c:Nat):∀(C A:CS) {γ:Gh},Inv h0 W M0 (A++C++R) γ h->∃γ',Inv h0 W M0 (A++z6a c C++R) γ' h/\Gx none γ γ'
 |[],A,γ,I=>⟨γ,I,Gx.refl _ _⟩
 |(j,k)::l,A,γ,I=>by
  have go:∀(k:Ch) {γ:Gh},Inv h0 W M0 (A++(j,k)::l++R) γ h->∃γ',Inv h0 W M0 (A++(j,k)::z6a c l++R) γ' h/\Gx none γ γ':=by
   intro k γ I
   have:=Inv.freeze c l (A++[(j,k)]) (R:=R) (γ:=γ) (by simpa using I)
   simpa using this
  simp only[z6a]
  cases Nat.beq j c with
  |true=>
   cases k with
   |row e t xs=>
    obtain⟨γ1,I1,g1⟩:=Inv.freeze1 (A:=A) (C:=l++R) (γ:=γ) (by simpa using I)
    obtain⟨γ2,I2,g2⟩:=go (.fz t xs) (γ:=γ1) (by simpa using I1)
    exact⟨γ2,I2,g1.1.trans g2.1,λi hi=>⟨(g2.2 i hi).1.trans (g1.2 i hi).1,(g2.2 i hi).2.trans (g1.2 i hi).2⟩⟩
   |box l'=>exact go _ I
   |fz t xs=>exact go _ I
  |false=>exact go _ I
end
section
variable {i n:Nat} {c:Zr} {v:AV} {γ γ':Gh} {a:Act} {u:Value} {o:Oper} {g:Option Bool} {σ:Operand -> Value}
abbrev Qe:=List (Nat×Zr×AV)
def zl7:Qe->Nat->Option (Zr×AV)
 |[],_=>none
 |(j,c,v)::e,i=>bif Nat.beq i j then some (c,v)else zl7 e i
def zl8(γ:Gh)(σ:Nat->Value)(x:Nat×Zr×AV):Prop:=(valid σ x.2.1->DenV γ x.2.2 (σ x.1))/\(¬valid σ x.2.1->σ x.1=undef)
structure SatA (n:Nat) (e:Qe) (γ:Gh) (a:Act):Prop where
 defers:a.defers=[]
 size:a.tmps.size=n
 all:∀x∈e,zl8 γ (Zl a) x
def z97:Qe->Nat->Qe
 |[],_=>[]
 |(j,c,v)::e,i=>bif (bif Nat.beq i j then true else mentions c i)then z97 e i else(j,c,v)::z97 e i
def qej(e:Qe)(i:Nat)(c:Zr)(v:AV):Qe:=(i,c,v)::z97 e i
def z1q(e:Qe):Option Nat->Zr->AV->Qe
 |none,_,_=>e
 |some d,c,v=>qej e d c v
def zg8:Qe->Qe
 |[]=>[]
 |(j,[],v)::e=>(j,[],v)::zg8 e
 |(_,_::_,_)::e=>zg8 e
def zn7(c:Nat):Qe->Qe
 |[]=>[]
 |(j,ch,v)::e=>bif zxn c v then zn7 c e else(j,ch,v)::zn7 c e
def zs4:Option Nat->Qe->Qe
 |none,e=>e
 |some c,e=>zn7 c e
theorem Wa{e:Qe}(h:zl7 e i=some (c,v)):(i,c,v)∈e:=by
 induction e with
 |nil=>cases h
 |cons x e ih=>
  obtain⟨j,cj,vj⟩:=x
  simp only[zl7]at h
  by_cases hb:Nat.beq i j=true
  ·simp only[hb,cond_true,As,Bn]at h
   obtain⟨rfl,rfl⟩:=h
   rw[Az hb]
   exact AC
  ·simp only[hb,cond_false]at h
   exact Aw _ (ih h)
theorem z1r{e:Qe}{x:Nat×Zr×AV}(h:x∈z97 e i):x∈e/\x.1≠i/\mentions x.2.1 i=false:=by
 induction e with
 |nil=>cases h
 |cons y e ih=>
  obtain⟨j,cj,vj⟩:=y
  simp only[z97]at h
  by_cases hb:Nat.beq i j=true
  ·simp only[hb,cond_true]at h
   exact⟨Aw _ (ih h).1,(ih h).2⟩
  ·have ab:Nat.beq i j=false:=Bool.eq_false_iff.2 hb
   simp only[ab,cond_false]at h
   by_cases hm:mentions cj i=true
   ·simp only[hm,cond_true]at h
    exact⟨Aw _ (ih h).1,(ih h).2⟩
   ·have Z:mentions cj i=false:=by simpa using hm
    simp only[Z,cond_false]at h
    rcases Ay.1 h with rfl|h
    ·refine⟨AC,λaa=>?_,Z⟩
     simp only at aa
     rw[aa]at hb
     exact hb (by simp)
    ·exact⟨Aw _ (ih h).1,(ih h).2⟩
theorem zvf{e:Qe}{x:Nat×Zr×AV}(h:x∈zg8 e):x∈e/\x.2.1=[]:=by
 induction e with
 |nil=>cases h
 |cons y e ih=>
  obtain⟨j,cj,vj⟩:=y
  cases cj with
  |nil=>
   simp only[zg8]at h
   rcases Ay.1 h with rfl|h
   ·exact⟨AC,rfl⟩
   ·exact⟨Aw _ (ih h).1,(ih h).2⟩
  |cons c cs=>
   simp only[zg8]at h
   exact⟨Aw _ (ih h).1,(ih h).2⟩
theorem zvg{c:Option Nat}{e:Qe}{x:Nat×Zr×AV}(h:x∈zs4 c e):x∈e/\zxo zxn c x.2.2=false:=by
 cases c with
 |none=>exact⟨h,rfl⟩
 |some c=>
  have key:∀e:Qe,x∈zn7 c e->x∈e/\zxn c x.2.2=false:=by
   intro e
   induction e with
   |nil=>intro h;cases h
   |cons y e ih=>
    obtain⟨j,cj,vj⟩:=y
    intro h
    simp only[zn7]at h
    cases hm:zxn c vj with
    |true=>rw[hm]at h;exact⟨Aw _ (ih h).1,(ih h).2⟩
    |false=>
     rw[hm]at h
     rcases Ay.1 h with rfl|h
     ·exact⟨AC,hm⟩
     ·exact⟨Aw _ (ih h).1,(ih h).2⟩
  exact key e h
theorem SatA.sub{e e':Qe}(h:SatA n e γ a)(hs:∀x∈e',x∈e):SatA n e' γ a:=⟨h.defers,h.size,λx hx=>h.all x (hs x hx)⟩
theorem SatA.clean{e:Qe}(h:SatA n e γ a):SatA n (zg8 e) γ a:=h.sub λ_ hx=>(zvf hx).1
theorem SatA.gx{e:Qe}{c:Option Nat}(h:SatA n e γ a)(g:Gx c γ γ'):SatA n (zs4 c e) γ' a:=
 ⟨h.defers,h.size,λx hx=>by
  obtain⟨h1,h2⟩:=zvg hx
  exact⟨λhv=>((h.all x h1).1 hv).gx g h2,(h.all x h1).2⟩⟩
theorem SatA.gx0{e:Qe}(h:SatA n e γ a)(g:Gx none γ γ'):SatA n e γ' a:=h.gx g
theorem SatA.put{e:Qe}(h:SatA n e γ a)(hi:i<n)(hm:mentions c i=false)
  (hy:valid (Zl a) c->DenV γ v u) (hn:¬valid (Zl a) c->u=undef):SatA n (qej e i c v) γ (a.put (some i) u):=by
 refine⟨by rw[Zs];exact h.defers,by rw[size_put];exact h.size,λx hx=>?_⟩
 have aa:i<a.tmps.size:=by rw[h.size];exact hi
 rcases Ay.1 hx with rfl|hx
 ·have hv:=Js (σ:=Zl (a.put (some i) u)) (τ:=Zl a) hm (λj hj=>Zz hj)
  refine⟨λhc=>?_,λhc=>?_⟩
  ·simp only;rw[Z4 aa];exact hy (hv.1 hc)
  ·exact(Z4 aa).trans (hn (λZ=>hc (hv.2 Z)))
 ·obtain⟨h1,h2,h3⟩:=z1r hx
  have hv:=Js (σ:=Zl (a.put (some i) u)) (τ:=Zl a) h3 (λj hj=>Zz hj)
  have hf:=h.all x h1
  refine⟨λhc=>?_,λhc=>?_⟩
  ·rw[Zz h2];exact hf.1 (hv.1 hc)
  ·exact(Zz h2).trans (hf.2 (λZ=>hc (hv.2 Z)))
theorem SatA.putO{e:Qe}(h:SatA n e γ a){d:Option Nat}(hd:Z5 n c d=true)
  (hy:valid (Zl a) c->DenV γ v u) (hn:¬valid (Zl a) c->u=undef):SatA n (z1q e d c v) γ (a.put d u):=by
 cases d with
 |none=>exact h
 |some i=>
  simp only[Z5]at hd
  by_cases hm:mentions c i=true
  ·simp[hm]at hd
  ·have Z:mentions c i=false:=by simpa using hm
   simp only[Z,cond_false]at hd
   exact h.put (by simpa[CC]using hd) Z hy hn
def qcx:Value->AG
 |.agg cs=>.agg (cs.toList.map .v)
 |v=>.a (.v v)
def zvh:Value->AV
 |.tuple vs=>.tup (vs.toList.map qcx)
 |v=>.g (qcx v)
theorem zs5(γ:Gh)(v:Value):DenG γ (qcx v) v:=by
 cases v with
 |agg cs=>
  refine⟨cs.toList,by simp,?_⟩
  generalize cs.toList=l
  induction l with
  |nil=>trivial
  |cons x l ih=>exact⟨rfl,ih⟩
 |_=>exact rfl
theorem zac(γ:Gh)(v:Value):DenV γ (zvh v) v:=by
 cases v with
 |tuple vs=>
  refine⟨vs.toList,by simp,?_⟩
  generalize vs.toList=l
  induction l with
  |nil=>trivial
  |cons x l ih=>exact⟨zs5 γ x,ih⟩
 |agg cs=>exact zs5 γ (.agg cs)
 |_=>exact rfl
def exL:List AA->Option (List Value)
 |[]=>some []
 |.v x::l=>match exL l with
  |some vs=>some (x::vs)
  |none=>none
 |_::_=>none
def exV:AV->Option Value
 |.g (.a (.v x))=>some x
 |.g (.agg l)=>match exL l with
  |some vs=>some (.agg vs.toArray)
  |none=>none
 |_=>none
theorem zxq{γ:Gh}:∀{l:List AA} {vs us:List Value},exL l=some vs->All2 (DenA γ) l us->us=vs
 |[],vs,[],h,_=>by simp only[exL,As]at h;exact h
 |[],_,_::_,_,h=>h.elim
 |.v x::l,vs,u::us,h,hd=>by
  simp only[exL]at h
  split at h
  ·rename_i ws hw
   simp only[As]at h
   subst h
   rw[show u=x from hd.1,zxq hw hd.2]
  ·cases h
 |.v _::_,_,[],_,h=>h.elim
 |.d _ _::_,_,_,h,_=>by simp[exL]at h
 |.box _ _::_,_,_,h,_=>by simp[exL]at h
 |.own _::_,_,_,h,_=>by simp[exL]at h
 |.oelt _ _ _ _::_,_,_,h,_=>by simp[exL]at h
 |.elt _ _ _::_,_,_,h,_=>by simp[exL]at h
 |.dc _ _::_,_,_,h,_=>by simp[exL]at h
theorem zq6{x:AV}{v u:Value}(h:exV x=some v)(hd:DenV γ x u):u=v:=by
 unfold exV at h
 split at h
 ·simp only[As]at h;subst h;exact hd
 ·rename_i l
  split at h
  ·rename_i vs hv
   simp only[As]at h
   subst h
   obtain⟨us,rfl,h2⟩:=hd
   rw[zxq hv h2]
  ·cases h
 ·cases h
def zhg(e:Qe)(c:Zr):Operand->Option AV
 |.tmp t=>match zl7 e t with
  |some (cs,v)=>bif suf cs c then some v else none
  |none=>none
 |.const v=>some (zvh v)
 |.global g=>some (.g (.a (.v (.pointer (some ⟨g,0,none⟩)))))
 |.func f=>some (.g (.a (.v (.func (.func f) #[] #[]))))
theorem Zn{e:Qe}(h:SatA n e γ a)(hc:valid (Zl a) c){x:Operand}(hx:zhg e c x=some v):DenV γ v (a.eval x):=by
 cases x with
 |tmp t=>
  simp only[zhg]at hx
  split at hx
  ·rename_i cs u hl
   by_cases hs:suf cs c=true
   ·simp only[hs,cond_true,As]at hx
    subst hx
    exact(h.all _ (Wa hl)).1 (X5 hs hc)
   ·simp[hs]at hx
  ·cases hx
 |const u=>simp only[zhg,As]at hx;subst hx;exact zac γ u
 |global g=>simp only[zhg,As]at hx;subst hx;exact rfl
 |func f=>simp only[zhg,As]at hx;subst hx;exact rfl
def zvi:AV->Option Bool
 |.g (.a (.v (.bool b)))=>some b
 |_=>none
theorem zio{b:Bool}(h:zvi v=some b)(hd:DenV γ v u):u=.bool b:=by
 unfold zvi at h
 split at h
 ·simp only[As]at h;subst h;exact hd
 ·cases h
def Xw(ops:Array Oper)(e:Qe):Option (Nat×Bool)->Option Zr
 |none=>some []
 |some (j,p)=>match Qp ops j with
  |some g=>match zl7 e g with
   |some (cg,v)=>match zvi v with
    |some _=>some ((g,p)::cg)
    |none=>none
   |none=>none
  |none=>none
def zn8(e:Qe):Zr->Option Bool
 |[]=>some true
 |(g,p)::c=>match zl7 e g with
  |some (cg,v)=>match zvi v with
   |some b=>bif Jt cg c then(match zn8 e c with
    |some cb=>some (cb&&(bif p then b else !b))
    |none=>none)else none
   |none=>none
  |none=>none
theorem zb9{n:Nat}{e:Qe}{γ:Gh}{a:Act}(h:SatA n e γ a):∀{c:Zr} {b:Bool},zn8 e c=some b->(b=true↔valid (Zl a) c)
 |[],b,hb=>by simp only[zn8,As]at hb;simp[<-hb,valid]
 |(g,p)::c,b,hb=>by
  simp only[zn8]at hb
  split at hb
  ·rename_i cg v hl
   split at hb
   ·rename_i bg Z
    by_cases hq:Jt cg c=true
    ·simp only[hq,cond_true]at hb
     split at hb
     ·rename_i cb aa
      simp only[As]at hb
      have ih:=zb9 h aa
      have hf:=h.all _ (Wa hl)
      rw[X4 hq]at hf
      by_cases hv:valid (Zl a) c
      ·have h1:Zl a g=.bool bg:=zio Z (hf.1 hv)
       have h2:=ih.2 hv
       subst hb
       simp only[valid,h1,hv,h2,Dj,and_true,Value.bool.injEq]
       cases p <;> cases bg <;> simp
      ·have h1:cb=false:=by cases cb with|false=>rfl|true=>exact absurd (ih.1 rfl) hv
       subst hb
       simp[valid,hv,h1]
     ·cases hb
    ·simp[hq]at hb
   ·cases hb
  ·cases hb
theorem Jj{ops:Array Oper}{e:Qe}(h:SatA n e γ a)(hc:Xw ops e o.guard=some c):
  BD o (yielded ops a.tmps)=true↔valid (Zl a) c:=by
 unfold BD
 cases hg:o.guard with
 |none=>rw[hg]at hc;simp only[Xw,As]at hc;simp[<-hc,valid]
 |some jp=>
  obtain⟨j,p⟩:=jp
  rw[hg]at hc
  simp only[Xw]at hc
  split at hc
  ·rename_i g hd
   split at hc
   ·rename_i cg v hl
    split at hc
    ·rename_i b hb
     simp only[As]at hc
     subst hc
     have Z:((ops[j]?).bind (·.dst))=some g:=by
      simp only[Qp]at hd
      split at hd
      ·rename_i o' aa;simp[aa,hd]
      ·cases hd
     have hf:=h.all _ (Wa hl)
     have hy:yielded ops a.tmps j=some p↔Zl a g=.bool p:=by
      unfold yielded Zl
      rw[Z]
      simp only[CX]
      cases ht:a.tmps[g]? with
      |none=>simp[BO,ht,undef]
      |some v=>cases v <;> simp[BO,ht]
     simp only[beq_iff_eq,hy,valid]
     constructor
     ·intro h1
      refine⟨h1,?_⟩
      by_cases hv:valid (Zl a) cg
      ·exact hv
      ·have:=hf.2 hv
       simp only at this
       rw[h1]at this
       exact absurd this.symm ze1
     ·exact λh1=>h1.1
    ·cases hc
   ·cases hc
  ·cases hc
def za0(e:Qe):Zr->Option (Option Bool)
 |[]=>some none
 |c=>match zn8 e c with
  |some b=>some (some b)
  |none=>none
theorem Jb{e:Qe}(hs:SatA n e γ a)(h:za0 e c=some g)(hv:valid (Zl a) c):gok g:=by
 unfold za0 at h
 split at h
 ·simp only[As]at h;subst h;trivial
 ·split at h
  ·rename_i b hb
   simp only[As]at h
   subst h
   exact(zb9 hs hb).2 hv
  ·cases h
theorem zdt{e:Qe}(hs:SatA n e γ a)(h:za0 e c=some g)(hv:¬valid (Zl a) c):g=some false:=by
 unfold za0 at h
 split at h
 ·exact absurd trivial hv
 ·split at h
  ·rename_i b hb
   simp only[As]at h
   subst h
   cases b with
   |false=>rfl
   |true=>exact absurd ((zb9 hs hb).1 rfl) hv
  ·cases h
def qcd(ρ:Operand->Option AV)(x:Operand):Value:=match ρ x with
 |some av=>match exV av with
  |some v=>v
  |none=>undef
 |none=>undef
def ziq(ρ:Operand->Option AV):List Operand->Bool
 |[]=>true
 |x::l=>match ρ x with
  |some av=>match exV av with
   |some _=>ziq ρ l
   |none=>false
  |none=>false
theorem zn9{ρ:Operand->Option AV}(hρ:∀x av,ρ x=some av->DenV γ av (σ x)){l:List Operand}(hk:ziq ρ l=true):∀x∈l,σ x=qcd ρ x:=by
 induction l with
 |nil=>intro x hx;cases hx
 |cons y l ih=>
  intro x hx
  simp only[ziq]at hk
  split at hk
  ·rename_i av hv
   split at hk
   ·rename_i v Z
    rcases Ay.1 hx with rfl|hx
    ·rw[zq6 Z (hρ _ _ hv)];simp[qcd,hv,Z]
    ·exact ih hk x hx
   ·cases hk
  ·cases hk
theorem zoa{ρ:Operand->Option AV}(hρ:∀x av,ρ x=some av->DenV γ av (σ x))(hs:Yc o.op=true)(hk:ziq ρ o.op.operands.toList=true):
  execOp σ o=execOp (qcd ρ) o:=
 execOp_congr o (λcs b hb=>by rw[hb]at hs;cases hs) λx hx=>zn9 hρ hk x (by simpa using hx)
end
section
variable {o n f k:Nat} {h:Za} {u:Value} {us:List Value} {cs:CS} {γ:Gh} {t ty:TypeId} {P:Program} {s:Option Nat}
variable {h0 : Za} {W : Nat -> Prop} {M0 : Fr}
def takeN(l:List AA)(o n:Nat):Option (List AA):=bif Nat.beq ((l.drop o).take n).length n then some ((l.drop o).take n)else none
theorem zcy{l r:List AA}(h:takeN l o n=some r):r=(l.drop o).take n/\r.length=n:=by
 unfold takeN at h
 cases hb:Nat.beq ((l.drop o).take n).length n with
 |false=>rw[hb]at h;cases h
 |true=>
  rw[hb]at h
  simp only[cond_true,As]at h
  subst h
  exact⟨rfl,Az hb⟩
theorem zob{h:Za}{p:Addr}:∀{us:List Value} {i:Nat},(∀j v,us[j]?=some v->Ze h (p.add (i+j))=some v)->Zb h p i us
 |[],_,_=>trivial
 |v::us,i,H=>⟨by have:=H 0 v rfl;simpa using this,zob λj u hu=>by have:=H (j+1) u (by simpa using hu);rwa[show i+(j+1)=i+1+j by omega]at this⟩
def Behind(h:Za)(u:Value)(us:List Value):Prop:=∃b o,u=.pointer (some ⟨b,o,none⟩)/\∀j v,us[j]?=some v->Ze h ⟨b,o+j,none⟩=some v
theorem Behind.ld(H:Behind h u us):∃p:Addr,u=.pointer (some p)/\Zb h p 0 us/\∀v,us=[v]->Ze h p=some v:=by
 obtain⟨b,o,e,hc⟩:=H
 refine⟨_,e,zob λj v hv=>?_,λv hv=>?_⟩
 ·rw[Zq,AX];exact hc j v hv
 ·have:=hc 0 v (by rw[hv];rfl);simpa using this
theorem z6b{cs:Array Value}{f n j:Nat}{v:Value}(h:(cut cs f n)[j]?=some v):cs[f+j]?=some v:=by
 unfold cut at h
 rw[AR]at h
 split at h
 ·rw[AY]at h;simpa using h
 ·cases h
def z1s(cs:CS)(n:Nat):AA->Option (List AA)
 |.box c o=>match Xe cs c with
  |some (.box l)=>bif itB l then none else takeN l o n
  |_=>none
 |.elt t x o=>takeN (zaa t x) o n
 |_=>none
theorem zq7(I:Inv h0 W M0 cs γ h){aa:AA}{r:List AA}(hf:z1s cs n aa=some r)(hd:DenA γ aa u):
  ∃us,Behind h u us/\us.length=n/\All2 (DenA γ) r us:=by
 unfold z1s at hf
 split at hf
 ·rename_i c o
  split at hf
  ·rename_i l hl
   cases hit:itB l with
   |true=>rw[hit]at hf;cases hf
   |false=>
   rw[hit]at hf
   obtain⟨rfl,hn⟩:=zcy hf
   obtain⟨us,e,h2⟩:=I.den _ (Zu hl)
   rcases e with⟨⟨T,e⟩,_⟩|⟨s,p,e,_⟩
   case inr=>exact absurd e (zs3 hit h2 s p)
   have h3:=(h2.drop o).take n
   refine⟨(us.drop o).take n,⟨_,_,hd,λj v hv=>?_⟩,by rw[<-h3.length];exact hn,h3⟩
   rw[AR]at hv
   split at hv
   ·rw[AY]at hv
    unfold Ze;simp only[e];simp;exact hv
   ·cases hv
  ·cases hf
 ·rename_i t x o
  obtain⟨rfl,hn⟩:=zcy hf
  obtain⟨b,f,cc,e,hM,hr⟩:=hd
  have h3:=((Ja (γ:=γ) hr).drop o).take n
  refine⟨_,⟨_,_,e,λj v hv=>?_⟩,by rw[<-h3.length];exact hn,h3⟩
  rw[AR]at hv
  split at hv
  ·rw[AY]at hv
   have:=z6b hv
   exact I.ag.cell hM (by rw[show f+o+j=f+(o+j)by omega];exact this)
  ·cases hv
 ·cases hf
theorem z6c(I:Inv h0 W M0 cs γ h){c:Nat}{e:TypeId}{t:Ty}{xs:List (El t)}(hc:Xe cs c=some (.row e t xs)){i:Nat}{y:El t}(hy:xs[i]?=some y){r:List AA}(hr:takeN (zaa t y) o n=some r)(hd:DenA γ (.oelt c (sz t) i o) u):∃us,Behind h u us/\us.length=n/\All2 (DenA γ) r us:=by
 obtain⟨rfl,hn⟩:=zcy hr
 obtain⟨g,hg,rfl⟩:=hd
 obtain⟨cells,aa,ae,_,hl⟩:=I.den _ (Zu hc)
 simp only at hl aa
 rcases aa.2 with⟨hv,h1⟩|⟨g',cap,af,hv,_,ai,_,_,_,ab⟩
 ·simp only[A4]at hv;rw[hg]at hv;cases hv.1
 ·simp only[A4]at hv
  rw[hg]at hv
  have aj:g=g':=by have:=hv.1;simp only[As,Addr.mk.injEq]at this;exact this.1
  subst aj
  have hi:i<xs.length:=(AQ.1 hy).1
  have ah:xs[i]=y:=(AQ.1 hy).2
  have h4:=ae.2 i hi
  rw[ah]at h4
  have h3:=((Ja (γ:=γ) h4).drop o).take n
  refine⟨_,⟨_,_,rfl,λj v Z=>?_⟩,by rw[<-h3.length];exact hn,h3⟩
  rw[AR]at Z
  split at Z
  ·rw[AY,AR]at Z
   split at Z
   ·rw[AY,<-ab,AR]at Z
    split at Z
    ·have e2:h[g]?=some (.cells af e (0,0)):=ai
     unfold Ze
     simp only[e2]
     simp
     rw[show i*sz t+o+j=i*sz t+(o+j)by omega]
     simpa using Z
    ·cases Z
   ·cases Z
  ·cases Z
def zl9:Option Nat->List AA->Option AG
 |none,[x]=>some (.a x)
 |some _,l=>some (.agg l)
 |_,_=>none
def zca(P:Program)(t:TypeId):Option (Option Nat):=match zww P t with
 |some (.one _)=>some none
 |some (.agg l)=>some (some l.length)
 |none=>none
def z1a:Option Nat->Nat
 |none=>1
 |some n=>n
theorem zgj(hs:zca P t=some s)(hb:Behind h u us)(hn:us.length=z1a s){r:List AA}(hr:All2 (DenA γ) r us){ag:AG}(hp:zl9 s r=some ag):
  ∃v,DenG γ ag v/\QExec P (DR t u) h v:=by
 obtain⟨p,e,hl,h1⟩:=hb.ld
 subst e
 have Z:∀v,QExec P (loadVar t p) h v->QExec P (DR t (.pointer (some p))) h v:=λv hq B d=>by
  unfold DR DJ
  simp only[Sem.run_bind,Sem.run_pure,Result.andThen_ok]
  exact hq B d
 unfold zca at hs
 split at hs
 ·rename_i a hv
  simp only[As]at hs
  subst hs
  match us,hn,r,hr with
  |[v],_,[x],hr=>
   simp only[zl9,As]at hp
   subst hp
   exact⟨v,hr.1,Z v (ze3 hv (h1 v rfl))⟩
  |[v],_,[],hr=>exact hr.elim
  |[v],_,_::_::_,hr=>exact hr.2.elim
 ·rename_i l hv
  simp only[As]at hs
  subst hs
  simp only[zl9,As]at hp
  subst hp
  exact⟨.agg us.toArray,⟨us,rfl,hr⟩,Z _ (ze4 hv hn hl)⟩
 ·cases hs
def zvj(P:Program)(cs:CS)(t:TypeId)(aa:AA)(g:Option Bool)(K:AV->Prop):Prop:=
 match zca P t with
 |some s=>match aa with
  |.oelt c z i o=>match Xe cs c with
   |some (.row e ty xs)=>bif Nat.beq z (sz ty)then(∃y:El ty,req g (xs[i]?=some y)/\match takeN (zaa ty y) o (z1a s)with
    |some r=>match zl9 s r with
     |some ag=>K (.g ag)
     |none=>False
    |none=>False)else False
   |_=>False
  |aa=>match z1s cs (z1a s) aa with
   |some r=>match zl9 s r with
    |some ag=>K (.g ag)
    |none=>False
   |none=>False
 |none=>False
theorem zir{aa:AA}{g:Option Bool}{K:AV->Prop}(H:zvj P cs t aa g K):
  ∃av,K av/\(gok g->∀γ h u,Inv h0 W M0 cs γ h->DenA γ aa u->∃v,DenV γ av v/\QExec P (DR t u) h v):=by
 unfold zvj at H
 split at H
 ·rename_i s hs
  split at H
  ·rename_i c z i o
   split at H
   ·rename_i e ty xs hc
    cases hz:Nat.beq z (sz ty)with
    |false=>rw[hz]at H;exact H.elim
    |true=>
     rw[hz]at H
     obtain⟨y,hy,H⟩:=H
     split at H
     ·rename_i r hr
      split at H
      ·rename_i ag hp
       refine⟨_,H,λhg γ h u I hd=>?_⟩
       rw[Az hz]at hd
       obtain⟨us,h1,h2,h3⟩:=z6c I hc (hy.out hg) hr hd
       exact zgj hs h1 h2 h3 hp
      ·exact H.elim
     ·exact H.elim
   ·exact H.elim
  ·split at H
   ·rename_i r hr
    split at H
    ·rename_i ag hp
     refine⟨_,H,λhg γ h u I hd=>?_⟩
     obtain⟨us,h1,h2,h3⟩:=zq7 I hr hd
     exact zgj hs h1 h2 h3 hp
    ·exact H.elim
   ·exact H.elim
 ·exact H.elim
def zxr(P:Program)(t:TypeId)(f:Nat):Option (Nat×TypeId):=match P.underlying t with
 |some (.struct fs)=>match fs[f]? with
  |some fl=>match P.info? fl.type with
   |some i=>bif Nat.beq i.size 0 then none else some (fl.offset,fl.type)
   |none=>none
  |none=>none
 |_=>none
def qce(k:Nat):AA->Option AA
 |.box c o=>some (.box c (o+k))
 |.elt t x o=>some (.elt t x (o+k))
 |.oelt c z i o=>some (.oelt c z i (o+k))
 |_=>none
theorem zxs(hf:zxr P t f=some (k,ty))(b o:Nat):QExec P (Instr.fieldAt t (.pointer (some ⟨b,o,none⟩)) f) h (.pointer (some ⟨b,o+k,none⟩)):=by
 unfold zxr at hf
 split at hf
 ·rename_i fs hu
  split at hf
  ·rename_i fl Z
   split at hf
   ·rename_i i hi
    cases hz:Nat.beq i.size 0 with
    |true=>rw[hz]at hf;cases hf
    |false=>
     rw[hz]at hf
     simp only[cond_false,As,Bn]at hf
     obtain⟨rfl,rfl⟩:=hf
     intro B d
     have hq:=QExec.underlying (h:=h) hu B d
     have hs:=QExec.sizeOf (h:=h) hi B d
     have aa:¬(Qh P fl.type=0):=by
      unfold Qh;rw[hi]
      intro e
      simp only at e
      rw[e]at hz;simp at hz
     unfold Instr.fieldAt DJ fieldPlace
     simp only[Sem.run_bind,hq,Result.andThen_ok,Z,Sem.run_pure,hs,aa,if_false,Zq]
   ·cases hf
  ·cases hf
 ·cases hf
theorem zs6{aa Z:AA}(h:qce k aa=some Z)(hd:DenA γ aa u):∃b o,u=.pointer (some ⟨b,o,none⟩)/\DenA γ Z (.pointer (some ⟨b,o+k,none⟩)):=by
 unfold qce at h
 split at h
 ·simp only[As]at h;subst h;exact⟨_,_,hd,rfl⟩
 ·simp only[As]at h;subst h
  obtain⟨b,f,cs,e,h1,h2⟩:=hd
  exact⟨_,_,e,b,f,cs,by rw[D3],h1,h2⟩
 ·simp only[As]at h;subst h
  obtain⟨g,e1,e2⟩:=hd
  exact⟨_,_,e2,g,e1,by rw[D3]⟩
 ·cases h
def zxt(P:Program)(ty:TypeId)(l:List AA)(k:Nat):Option AG:=match zca P ty with
 |some s=>match takeN l k (z1a s)with
  |some r=>zl9 s r
  |none=>none
 |none=>none
theorem zoc(hs:zca P t=some s)(h:Za):QExec P (isAgg t) h s.isSome:=by
 unfold zca at hs
 split at hs
 ·rename_i a hv
  simp only[As]at hs;subst hs
  unfold zww at hv
  split at hv
  ·exact absurd hv (by split <;> (first|(intro h;cases h;done)|(cases Nat.beq _ _ <;> intro h <;> cases h)))
  ·exact absurd hv (by split <;> (first|(intro h;cases h;done)|(cases Nat.beq _ _ <;> intro h <;> cases h)))
  ·rename_i d Z aa hu
   intro B e
   have hq:=QExec.underlying (h:=h) hu B e
   unfold isAgg
   rw[Sem.run_bind,hq]
   cases d <;> first|rfl|exact(Z _ rfl).elim|exact(aa _ _ rfl).elim
  ·cases hv
 ·rename_i l hv
  simp only[As]at hs;subst hs
  unfold zww at hv
  have hu:(∃fs,P.underlying t=some (.struct fs))\/∃n e,P.underlying t=some (.array n e):=by
   split at hv
   ·exact .inl ⟨_,by assumption⟩
   ·exact .inr ⟨_,_,by assumption⟩
   ·simp at hv
   ·cases hv
  intro B e
  rcases hu with⟨fs,hu⟩|⟨m,e',hu⟩
  ·have hq:=QExec.underlying (h:=h) hu B e
   unfold isAgg
   rw[Sem.run_bind,hq];rfl
  ·have hq:=QExec.underlying (h:=h) hu B e
   unfold isAgg
   rw[Sem.run_bind,hq];rfl
 ·cases hs
theorem z1t(hs:zca P t=some (some n)):Qh P t=n/\∃i,P.info? t=some i:=by
 unfold zca at hs
 split at hs
 ·cases hs
 ·rename_i l hv
  simp only[As]at hs
  subst hs
  unfold zww at hv
  have key:∀x:Option (List Atom),(match x with
    |some l=>bif Nat.beq l.length (Qh P t)then some (VT.agg l)else none
    |none=>none)=some (.agg l)->Qh P t=l.length:=by
   intro x hx
   split at hx
   ·rename_i l'
    cases hb:Nat.beq l'.length (Qh P t)with
    |false=>rw[hb]at hx;cases hx
    |true=>
     rw[hb]at hx
     simp only[cond_true,As,VT.agg.injEq]at hx
     rw[<-hx];exact(Az hb).symm
   ·cases hx
  split at hv
  ·exact⟨key _ hv,info_of_underlying (by assumption)⟩
  ·exact⟨key _ hv,info_of_underlying (by assumption)⟩
  ·simp at hv
  ·cases hv
 ·cases hs
theorem zdu{l:List AA}{ag:AG}(hp:zxt P ty l k=some ag)(hd:All2 (DenA γ) l us)(h:Za):∃v,DenG γ ag v/\QExec P (part ty us.toArray k) h v:=by
 unfold zxt at hp
 split at hp
 ·rename_i s hs
  split at hp
  ·rename_i r hr
   obtain⟨rfl,hn⟩:=zcy hr
   have h3:=(hd.drop k).take (z1a s)
   have Z:((us.drop k).take (z1a s)).length=z1a s:=by rw[<-h3.length];exact hn
   cases s with
   |none=>
    generalize hq:(us.drop k).take (z1a none)=q at *
    match q,Z,hq with
    |[v],_,hq=>
     generalize aa:(l.drop k).take (z1a none)=r' at *
     match r',h3 with
     |[x],h3=>
      simp only[zl9,As]at hp
      subst hp
      refine⟨v,h3.1,λB d=>?_⟩
      have ha:=zoc hs h B d
      have hv:us[k]?=some v:=by
       have:((us.drop k).take 1)[0]?=some v:=by rw[show(us.drop k).take 1=[v]from hq];rfl
       rw[AR,if_pos (by omega),AY]at this
       simpa using this
      unfold part
      rw[Sem.run_bind,ha]
      simp[hv]
     |[],h3=>exact h3.elim
     |_::_::_,h3=>exact h3.2.elim
   |some n=>
    simp only[zl9,As]at hp
    subst hp
    refine⟨.agg ((us.drop k).take n).toArray,⟨_,rfl,h3⟩,λB d=>?_⟩
    have ha:=zoc hs h B d
    obtain⟨hz,i,hi⟩:=z1t hs
    have hS:=QExec.sizeOf (h:=h) hi B d
    unfold part
    rw[Sem.run_bind,ha]
    simp only[Option.isSome_some,Result.andThen_ok,if_true]
    rw[Sem.run_bind,hS,hz]
    simp
  ·cases hp
 ·cases hp
end
section
variable {cs:CS} {γ:Gh} {h:Za} {u:Value} {t el:TypeId} {a:Option Addr} {n:Int} {av:AV} {P:Program} {cap:Nat} {g:Option Bool} {σ:Operand -> Value} {b:Bool} {o:Oper}
variable {h0 : Za} {W : Nat -> Prop} {M0 : Fr}
def rowOf(cs:CS):AA->Option ((t:Ty)×List (El t))
 |.d (.row t) xs=>some ⟨t,xs⟩
 |.dc t xs=>some ⟨t,xs⟩
 |.own c=>match Xe cs c with
  |some (.fz t xs)=>some ⟨t,xs⟩
  |_=>none
 |_=>none
theorem zfc(I:Inv h0 W M0 cs γ h){aa:AA}{r:(t:Ty)×List (El t)}(hr:rowOf cs aa=some r)(hd:DenA γ aa u):Rd γ.M (.row r.1) r.2 [u]:=by
 unfold rowOf at hr
 split at hr
 ·simp only[As]at hr;subst hr;exact hd
 ·simp only[As]at hr;subst hr;obtain⟨s,_,_,h⟩:=hd;exact h
 ·split at hr
  ·rename_i t xs hc
   simp only[As]at hr;subst hr
   rw[show u=_ from hd]
   exact I.den _ (Zu hc)
  ·cases hr
 ·cases hr
theorem Rd.sub{M:Fr}{t:Ty}{xs:List (El t)}{n c:Nat}(H:Rd M (.row t) xs [.slice a n c]){l r m:Nat}(h1:l<=r)(h2:r<=xs.length)(h3:r<=m)(h4:m<=c):
  Rd M (.row t) ((xs.take r).drop l) [.slice (zjr a (sz t) l m) (r-l) (m-l)]:=by
 obtain⟨v,e,a',c',e2,hn,H⟩:=H
 cases e
 simp only[A4]at e2
 obtain⟨rfl,rfl,rfl⟩:=e2
 have Z:((xs.take r).drop l).length=r-l:=by simp;omega
 refine⟨_,rfl,zjr a (sz t) l m,m-l,by rw[Z],⟨by rw[Z];omega,by rw[Z];omega⟩,?_⟩
 by_cases hr:r=l
 ·left
  apply Bb
  omega
 rcases H with ab|⟨b,o,cs,e1,hM,hi⟩
 ·left;subst ab;simp
 ·right
  have aa:¬(m=l):=by omega
  refine⟨b,o+l*sz t,cs,?_,hM,λi ae=>?_⟩
  ·unfold zjr;rw[if_neg aa,e1];simp[Zq]
  ·have:=hi (l+i) (by omega)
   have e3:((xs.take r).drop l)[i]=xs[l+i]:=by simp
   rw[e3]
   have e4:o+l*sz t+i*sz t=o+(l+i)*sz t:=by rw[Cp];omega
   rw[e4];exact this
def qcf:AV->Option Int
 |.g (.a (.v (.int _ n)))=>some n
 |_=>none
theorem zs7(h:qcf av=some n)(hd:DenV γ av u):∃k,u=.int k n:=by
 unfold qcf at h
 split at h
 ·simp only[As]at h;subst h;exact⟨_,hd⟩
 ·cases h
def z1u(P:Program)(t:TypeId):Option TypeId:=match P.underlying t with
 |some (.slice el)=>bif Z6 P el then some el else none
 |_=>none
theorem zad(h:z1u P t=some el):P.underlying t=some (.slice el)/\Z6 P el=true:=by
 unfold z1u at h
 split at h
 ·rename_i e hu
  cases ho:Z6 P e with
  |false=>rw[ho]at h;cases h
  |true=>rw[ho]at h;simp only[cond_true,As]at h;subst h;exact⟨hu,ho⟩
 ·cases h
def zxu(P:Program)(cs:CS)(t:TypeId)(aa:AA)(n:Int)(g:Option Bool)(K:AV->Prop):Prop:=
 match z1u P t with
 |some el=>match rowOf cs aa with
  |some r=>bif Nat.beq (Qh P el) (sz r.1)then ∃y:El r.1,req g (0<=n/\r.2[n.toNat]?=some y)/\K (.g (.a (.elt r.1 y 0)))else False
  |none=>match aa with
   |.own c=>match Xe cs c with
    |some (.row e ty xs)=>bif Nat.beq (Qh P el) (sz ty)then req g (0<=n/\n.toNat<xs.length)/\K (.g (.a (.oelt c (sz ty) n.toNat 0)))else False
    |_=>False
   |_=>False
 |none=>False
theorem zod(hu:P.underlying t=some (.slice el))(ho:Z6 P el=true){a:Addr}{len cap:Nat}{k:IntKind}(h1:0<=n)(h2:n<(len:Int))(h:Za):
  QExec P (Ej t (.slice (some a) len cap) (.int k n)) h (.pointer (some (a.add (n.toNat*Qh P el)))):=by
 have:=Y6 (P:=P) (t:=t) (x:=.slice (some a) len cap) (i:=.int k n) (g:=none) (K:=λv=>v=.pointer (some (a.add (n.toNat*Qh P el))))
  (λaa Z=>by
   rcases Z with Z|⟨m,Z⟩
   ·rw[hu]at Z;cases Z;exact Q7 ho
   ·rw[hu]at Z;cases Z) (by unfold znt;rw[hu];exact⟨a,⟨rfl,h1,h2⟩,rfl⟩)
 obtain⟨v,rfl,hq⟩:=this
 exact hq trivial h
theorem zoe{aa:AA}{K:AV->Prop}(H:zxu P cs t aa n g K):
  ∃av,K av/\(gok g->∀γ h u k,Inv h0 W M0 cs γ h->DenA γ aa u->∃v,DenV γ av v/\QExec P (Ej t u (.int k n)) h v):=by
 unfold zxu at H
 split at H
 ·rename_i el ah
  obtain⟨hu,ho⟩:=zad ah
  split at H
  ·rename_i r hr
   cases hz:Nat.beq (Qh P el) (sz r.1)with
   |false=>rw[hz]at H;exact H.elim
   |true=>
    rw[hz]at H
    obtain⟨y,hy,hK⟩:=H
    refine⟨_,hK,λhg γ h u k I hd=>?_⟩
    obtain⟨ab,af⟩:=hy.out hg
    have ae:=Az hz
    obtain⟨v,e,a,c,e2,hn,H⟩:=zfc I hr hd
    cases e
    subst e2
    have hi:n.toNat<r.2.length:=(AQ.1 af).1
    have hx:r.2[n.toNat]=y:=(AQ.1 af).2
    rcases H with am|⟨b,o,cc,e1,hM,aj⟩
    ·rw[am]at hi;simp at hi
    ·subst e1
     refine⟨_,?_,zod hu ho ab (by omega) h⟩
     have:=aj n.toNat hi
     rw[hx]at this
     rw[Zq,ae]
     exact⟨b,o+n.toNat*sz r.1,cc,rfl,hM,this⟩
  ·split at H
   ·rename_i c _
    split at H
    ·rename_i e ty xs hc
     cases hz:Nat.beq (Qh P el) (sz ty)with
     |false=>rw[hz]at H;exact H.elim
     |true=>
      rw[hz]at H
      obtain⟨hy,hK⟩:=H
      refine⟨_,hK,λhg γ h u k I hd=>?_⟩
      obtain⟨ab,hi⟩:=hy.out hg
      have ae:=Az hz
      obtain⟨cells,Z,an,_,hl⟩:=I.den _ (Zu hc)
      simp only at hl Z
      rcases Z.2 with⟨hv,h1⟩|⟨g',cap,ap,hv,_,ar,_,_,_,ak⟩
      ·omega
      ·simp only[A4]at hv
       have ai:u=slV (γ.σ c):=hd
       subst ai
       unfold slV
       rw[hv.1]
       refine⟨_,?_,zod hu ho ab (by omega) h⟩
       rw[Zq,ae,AX]
       exact⟨g',hv.1,rfl⟩
    ·exact H.elim
   ·exact H.elim
 ·exact H.elim
def zof(ρ:Operand->Option AV)(d:Int):Option Operand->Option Int
 |none=>some d
 |some x=>match ρ x with
  |some av=>qcf av
  |none=>none
theorem zae{ρ:Operand->Option AV}(hρ:∀x av,ρ x=some av->DenV γ av (σ x)){d n:Int}{x:Option Operand}(h:zof ρ d x=some n):Qz (x.map σ) d=some n:=by
 unfold zof at h
 split at h
 ·exact h
 ·rename_i y
  split at h
  ·rename_i av Z
   obtain⟨k,e⟩:=zs7 h (hρ _ _ Z)
   simp[Qz,e]
  ·cases h
def zxv(P:Program)(cs:CS)(ρ:Operand->Option AV)(t:TypeId)(aa:AA)(lo hi mx:Option Operand)(g:Option Bool)(K:AV->Prop):Prop:=
 match z1u P t with
 |some el=>match rowOf cs aa with
  |some r=>bif Nat.beq (Qh P el) (sz r.1)then(match zof ρ 0 lo,zof ρ (r.2.length:Int) hi with
   |some l,some h=>match mx with
    |none=>req g (0<=l/\l<=h/\h<=(r.2.length:Int))/\K (.g (.a (.d (.row r.1) ((r.2.take h.toNat).drop l.toNat))))
    |some m=>match zof ρ 0 (some m),hi with
     |some m,some _=>req g (0<=l/\l<=h/\h<=(r.2.length:Int)/\m=h)/\K (.g (.a (.dc r.1 ((r.2.take h.toNat).drop l.toNat))))
     |_,_=>False
   |_,_=>False)else False
  |none=>False
 |none=>False
theorem zog(hu:P.underlying t=some (.slice el))(ho:Z6 P el=true){len cap:Nat}{lo hi mx:Option Value}{l r m:Int}(hl:Qz lo 0=some l)(hr:Qz hi (len:Int)=some r)(hm:Qz mx (cap:Int)=some m)
  (h0:mx=none\/∃v,hi=some v) (h1:0<=l) (h2:l<=r) (h3:r<=m) (h4:m<=(cap:Int)) (h:Za):
  QExec P (DY t (.slice a len cap) lo hi mx) h (.slice (zjr a (Qh P el) l.toNat m.toNat) (r.toNat-l.toNat) (m.toNat-l.toNat)):=by
 have:=Xr (P:=P) (t:=t) (x:=.slice a len cap) (lo:=lo) (hi:=hi) (mx:=mx) (g:=none) (K:=λv=>v=.slice (zjr a (Qh P el) l.toNat m.toNat) (r.toNat-l.toNat) (m.toNat-l.toNat))
  (λaa Z=>by rcases Z with Z|⟨n',Z⟩ <;> (rw[hu]at Z;cases Z);exact Q7 ho) (by unfold zst;rw[hu];simp only[hl,hr,hm];exact⟨h0,⟨h1,h2,h3,h4⟩,trivial⟩)
 obtain⟨v,rfl,hq⟩:=this
 exact hq trivial h
theorem zoh{ρ:Operand->Option AV}{aa:AA}{lo hi mx:Option Operand}{K:AV->Prop}(H:zxv P cs ρ t aa lo hi mx g K):
  ∃av,K av/\(gok g->∀γ h u σ,Inv h0 W M0 cs γ h->(∀x av,ρ x=some av->DenV γ av (σ x))->DenA γ aa u->∃v,DenV γ av v/\QExec P (DY t u (lo.map σ) (hi.map σ) (mx.map σ)) h v):=by
 unfold zxv at H
 split at H
 ·rename_i el ai
  obtain⟨hu,ho⟩:=zad ai
  split at H
  ·rename_i r hr
   cases hz:Nat.beq (Qh P el) (sz r.1)with
   |false=>rw[hz]at H;exact H.elim
   |true=>
    rw[hz]at H
    have ah:=Az hz
    simp only[cond_true]at H
    split at H
    ·rename_i l hh hl af
     split at H
     ·obtain⟨hy,hK⟩:=H
      refine⟨_,hK,λhg γ h u σ I hρ hd=>?_⟩
      obtain⟨h1,h2,h3⟩:=hy.out hg
      have ab:=zfc I hr hd
      have Z:=ab
      obtain⟨v,e,a,c,e2,hn,_⟩:=Z
      cases e
      subst e2
      refine⟨_,?_,zog hu ho (zae hρ hl) (zae hρ af) (m:=(c:Int)) rfl (.inl rfl) h1 h2 (by omega) (Int.le_refl _) h⟩
      rw[ah]
      exact ab.sub (by omega) (by omega) (by omega) (by omega)
     ·rename_i m
      split at H
      ·rename_i m' hx hm
       obtain⟨hy,hK⟩:=H
       refine⟨_,hK,λhg γ h u σ I hρ hd=>?_⟩
       obtain⟨h1,h2,h3,h4⟩:=hy.out hg
       subst h4
       have ab:=zfc I hr hd
       have Z:=ab
       obtain⟨v,e,a,c,e2,hn,_⟩:=Z
       cases e
       subst e2
       have ae:=zae hρ hm
       have aj:Qz ((some m).map σ) (c:Int)=some m':=by
        unfold Qz at ae ⊢
        simp only[D6]at ae ⊢
        split at ae <;> simp_all
       refine⟨_,?_,zog hu ho (zae hρ hl) (zae hρ af) aj (.inr ⟨_,rfl⟩) h1 h2 (Int.le_refl _) (by omega) h⟩
       rw[ah]
       refine⟨⟨_,_,_⟩,rfl,rfl,ab.sub (by omega) (by omega) (by omega) (by omega)⟩
      ·exact H.elim
    ·exact H.elim
  ·exact H.elim
 ·exact H.elim
def qcy(cs:CS):AA->Option Nat
 |.d (.row _) xs=>some xs.length
 |.dc _ xs=>some xs.length
 |.own c=>match Xe cs c with
  |some (.fz _ xs)=>some xs.length
  |some (.row _ _ xs)=>some xs.length
  |_=>none
 |_=>none
theorem z1v(I:Inv h0 W M0 cs γ h){aa:AA}{n:Nat}(hn:qcy cs aa=some n)(hd:DenA γ aa u):∃a c,u=.slice a n c:=by
 have key:∀{t:Ty} {xs:List (El t)},Rd γ.M (.row t) xs [u]->∃a c,u=.slice a xs.length c:=by
  rintro t xs ⟨v,e,a,c,e2,_⟩
  cases e
  exact⟨a,c,e2⟩
 unfold qcy at hn
 split at hn
 ·simp only[As]at hn;subst hn;exact key hd
 ·simp only[As]at hn;subst hn;obtain⟨s,_,_,hd⟩:=hd;exact key hd
 ·split at hn
  ·rename_i c t xs hc
   simp only[As]at hn;subst hn
   rw[show u=_ from hd]at key ⊢
   exact key (I.den _ (Zu hc))
  ·rename_i c e t xs hc
   simp only[As]at hn;subst hn
   obtain⟨cells,_,_,_,hl⟩:=I.den _ (Zu hc)
   simp only at hl
   rw[show u=_ from hd]
   exact⟨_,_,by unfold slV;rw[hl]⟩
  ·cases hn
 ·cases hn
def z98:AA->List AA
 |.v x=>x.cells.toList.map .v
 |x=>[x]
def zvk:AV->Option (List AA)
 |.g (.a x)=>some (z98 x)
 |.g (.agg l)=>some l
 |_=>none
theorem z99(h:u.oneCell'=true):u.cells.toList=[u]:=by
 cases u <;> first|rfl|simp[Value.oneCell']at h
theorem Wb(γ:Gh):∀l:List Value,All2 (DenA γ) (l.map .v) l
 |[]=>trivial
 |_::l=>⟨rfl,Wb γ l⟩
theorem zxw{x:AA}(hd:DenA γ x u):All2 (DenA γ) (z98 x) u.cells.toList:=by
 have key:u.oneCell'=true->All2 (DenA γ) [x] u.cells.toList:=λh=>by rw[z99 h];exact⟨hd,trivial⟩
 cases x with
 |v y=>rw[show u=y from hd];exact Wb γ _
 |d t y=>exact key (Rd.one (show Rd γ.M t y [u]from hd) u (by simp))
 |box c o=>exact key (by rw[show u=_ from hd];rfl)
 |own c=>exact key (by rw[show u=_ from hd];rfl)
 |oelt c z i o=>obtain⟨g,_,e⟩:=hd;exact key (by rw[e];rfl)
 |elt t y o=>obtain⟨b,f,cs,e,_⟩:=hd;exact key (by rw[e];rfl)
 |dc t xs=>obtain⟨s,e,_⟩:=hd;exact key (by rw[e];rfl)
theorem zfd{l:List AA}(h:zvk av=some l)(hd:DenV γ av u):All2 (DenA γ) l u.cells.toList:=by
 unfold zvk at h
 split at h
 ·simp only[As]at h;subst h;exact zxw hd
 ·simp only[As]at h;subst h
  obtain⟨us,rfl,h2⟩:=hd
  simpa[Value.cells]using h2
 ·cases h
def zoi(Z:Nat->Option (Nat×Nat))(cells:List AA):List (Nat×AV)->Option (List AA)
 |[]=>some cells
 |(i,av)::rest=>match Z i,zvk av with
  |some (off,size),some l=>bif Nat.beq l.length size then(bif Nat.ble (off+l.length) cells.length then zoi Z (cells.take off++l++cells.drop (off+l.length)) rest else none)else none
  |_,_=>none
theorem z1w(vs:List Value):∀(k off:Nat) (cs:Array Value),off+k+vs.length<=cs.size ->
  ((vs.zipIdx k).foldl (λcs (x:Value×Nat)=>cs.setIfInBounds (off+x.2) x.1) cs).toList=cs.toList.take (off+k)++vs++cs.toList.drop (off+k+vs.length):=by
 induction vs with
 |nil=>intro k off cs h;simp
 |cons v vs ih=>
  intro k off cs h
  simp only[AN]at h
  rw[List.zipIdx_cons,List.foldl_cons]
  refine(ih (k+1) off (cs.setIfInBounds (off+k) v) (by rw[Bm];omega)).trans ?_
  simp only[Array.toList_setIfInBounds,AN]
  have hi:off+k<cs.toList.length:=by simp;omega
  rw[<-D3,List.drop_set_of_lt (by omega)]
  have e2:(cs.toList.set (off+k) v).take (off+k+1)=cs.toList.take (off+k)++[v]:=by
   rw[List.take_set,Ba hi,List.set_append_right _ _ (by simp;omega)]
   have:off+k-(cs.toList.take (off+k)).length=0:=by simp;omega
   rw[this];rfl
  rw[e2,show off+k+(vs.length+1)=off+k+1+vs.length by omega]
  simp
theorem za1{Z:Nat->Option (Nat×Nat)}{γ:Gh}:∀{aa:List (Nat×AV)} {cells r:List AA} {us:List Value} {ps:List (Nat×Value)},zoi Z cells aa=some r->All2 (DenA γ) cells us->All2 (λ(x:Nat×AV) (y:Nat×Value)=>x.1=y.1/\DenV γ x.2 y.2) aa ps ->
  ∃ws:List Value,Eu Z us.toArray ps=some ws.toArray/\All2 (DenA γ) r ws
 |[],cells,r,us,[],h,hc,_=>by
  simp only[zoi,As]at h
  subst h
  exact⟨us,rfl,hc⟩
 |[],_,_,_,_::_,_,_,hp=>hp.elim
 |_::_,_,_,_,[],_,_,hp=>hp.elim
 |(i,av)::rest,cells,r,us,(j,v)::ps,h,hc,hp=>by
  obtain⟨⟨ab,hv⟩,hp⟩:=hp
  simp only at ab hv
  subst ab
  simp only[zoi]at h
  split at h
  ·rename_i off size l ak hl
   cases hb:Nat.beq l.length size with
   |false=>rw[hb]at h;cases h
   |true=>
    rw[hb]at h
    simp only[cond_true]at h
    cases hb2:Nat.ble (off+l.length) cells.length with
    |false=>rw[hb2]at h;cases h
    |true=>
     rw[hb2]at h
     simp only[cond_true]at h
     have ah:=zfd hl hv
     have ae:=ah.length
     have am:=hc.length
     have h1:=Az hb
     have h2:=Cd hb2
     have aj:v.cells.size=size:=by rw[<-h1,ae];simp
     have af:All2 (DenA γ) (cells.take off++l++cells.drop (off+l.length)) (us.take off++v.cells.toList++us.drop (off+l.length)):=((hc.take off).append ah).append (hc.drop _)
     obtain⟨ws,e1,e2⟩:=za1 h af hp
     refine⟨ws,?_,e2⟩
     simp only[Eu,ak]
     have ai:¬((decide (v.cells.size≠size)||decide (off+v.cells.size>us.toArray.size))=true):=by
      rw[aj];simp;omega
     rw[if_neg ai]
     rw[<-e1]
     congr 1
     apply Array.ext'
     have:=z1w v.cells.toList 0 off us.toArray (by simp;omega)
     rw[<-Array.foldl_toList,Array.toList_zipIdx]
     refine this.trans ?_
     simp[<-ae]
  ·cases h
def zfe(P:Program):List Field->Bool
 |[]=>true
 |f::l=>bif Z6 P f.type then zfe P l else false
theorem zkr{P:Program}{h:Za}:∀{l:List Field},zfe P l=true->QExec P (l.mapM λf=>do pure (f.offset,<-Go.sizeOf f.type)) h (l.map λf=>(f.offset,Qh P f.type))
 |[],_=>λ_ _=>rfl
 |f::l,H=>by
  simp only[zfe]at H
  cases ho:Z6 P f.type with
  |false=>rw[ho]at H;cases H
  |true=>
   rw[ho]at H
   obtain⟨i,hi⟩:=Q7 ho
   rw[Ee]
   exact QExec.bind (QExec.bind (QExec.sizeOf hi) (QExec.pure _)) (QExec.bind (zkr H) (QExec.pure _))
def placeOf(P:Program)(fs:Array Field)(i:Nat):Option (Nat×Nat):=match fs[i]? with
 |some f=>some (f.offset,Qh P f.type)
 |none=>none
def zff(ρ:Operand->Option AV):List (Nat×Operand)->Option (List (Nat×AV))
 |[]=>some []
 |(i,x)::l=>match ρ x,zff ρ l with
  |some av,some r=>some ((i,av)::r)
  |_,_=>none
theorem zcz{γ:Gh}{ρ:Operand->Option AV}{σ:Operand->Value}(hρ:∀x av,ρ x=some av->DenV γ av (σ x)):∀{l:List (Nat×Operand)} {r:List (Nat×AV)},zff ρ l=some r ->
  All2 (λ(x:Nat×AV) (y:Nat×Value)=>x.1=y.1/\DenV γ x.2 y.2) r (l.map λx=>(x.1,σ x.2))
 |[],r,h=>by simp only[zff,As]at h;subst h;trivial
 |(i,x)::l,r,h=>by
  simp only[zff]at h
  split at h
  ·rename_i av r' h1 h2
   simp only[As]at h
   subst h
   exact⟨⟨rfl,hρ _ _ h1⟩,zcz hρ h2⟩
  ·cases h
def zeroOf(P:Program)(t:TypeId):Option Value:=match P.info? t with
 |some i=>i.zero
 |none=>none
theorem zaf{z:Value}(h:zeroOf P t=some z)(hp:Za):QExec P (zeroValue t) hp z:=by
 unfold zeroOf at h
 split at h
 ·rename_i i hi
  intro B d
  simp[zeroValue,typeInfo,program,hi,Sem.run,h]
 ·cases h
def zxx(P:Program)(t:TypeId)(Z:List (Nat×AV)):Option (List AA):=match P.underlying t,zeroOf P t with
 |some (.struct fs),some z=>bif zfe P fs.toList then zoi (placeOf P fs) (z.cells.toList.map .v) Z else none
 |_,_=>none
theorem zoj{Z:List (Nat×AV)}{r:List AA}(h:zxx P t Z=some r){ps:List (Nat×Value)}(hp:All2 (λ(x:Nat×AV) (y:Nat×Value)=>x.1=y.1/\DenV γ x.2 y.2) Z ps)(hh:Za):
  ∃ws:List Value,QExec P (Instr.build t ps.toArray) hh (.agg ws.toArray)/\All2 (DenA γ) r ws:=by
 unfold zxx at h
 split at h
 ·rename_i fs z hu hz
  cases hof:zfe P fs.toList with
  |false=>rw[hof]at h;cases h
  |true=>
   rw[hof]at h
   simp only[cond_true]at h
   obtain⟨ws,e1,e2⟩:=za1 h (Wb γ _) hp
   refine⟨ws,?_,e2⟩
   intro B d
   have hq:=QExec.underlying (h:=hh) hu B d
   have aa:=zaf hz hh B d
   have ab:=zkr (P:=P) (h:=hh) hof B d
   unfold Instr.build
   rw[Sem.run_bind,aa]
   simp only[Result.andThen_ok]
   rw[Sem.run_bind,hq]
   simp only[Result.andThen_ok]
   rw[Sem.run_bind,Array.mapM_eq_mapM_toList,Sem.run_map,ab]
   simp only[Result.andThen_ok]
   have e3:(λi=>((fs.toList.map λf=>(f.offset,Qh P f.type)).toArray)[i]?)=placeOf P fs:=by
    funext i
    unfold placeOf
    cases hi:fs[i]? <;> simp[hi]
   rw[e3]
   have e4:z.cells.toList.toArray=z.cells:=by simp
   rw[e4]at e1
   simp only[e1]
   rfl
 ·cases h
def zxy(P:Program)(t:TypeId)(a b:Value):Option Bool:=match P.underlying t,a,b with
 |some (.int _),.int k x,.int k' y=>if k=k' then some (x==y)else none
 |some .string,.string x,.string y=>some (x.toList==y.toList)
 |some .bool,.bool x,.bool y=>some (x==y)
 |_,_,_=>none
def z6d(P:Program)(xs ys:List AA):List Field->Option Bool
 |[]=>some true
 | f :: fs => if f.name = "_" then none else match zxt P f.type xs f.offset, zxt P f.type ys f.offset with
  |some (.a (.v a)),some (.a (.v b))=>match zxy P f.type a b,z6d P xs ys fs with
   |some p,some q=>some (p&&q)
   |_,_=>none
  |_,_=>none
def eqA(P:Program)(o:Oper)(ρ:Operand->Option AV):Option Bool:=match o.op with
 |.binOp .eql t x y _=>match ρ x,ρ y with
  |some (.g (.agg xs)),some (.g (.agg ys))=>match P.underlying t with
   |some (.struct _)=>bif P.stoodInHeld t then none else bif P.eqGuardType P.depth t then none else z6d P xs ys (P.fieldsOf t).toList
   |_=>none
  |_,_=>none
 |.binOp .neq t x y _=>match ρ x,ρ y with
  |some (.g (.agg xs)),some (.g (.agg ys))=>match P.underlying t with
   |some (.struct _)=>bif P.stoodInHeld t then none else bif P.eqGuardType P.depth t then none else(match z6d P xs ys (P.fieldsOf t).toList with
    |some b=>some (!b)
    |none=>none)
   |_=>none
  |_,_=>none
 |_=>none
theorem zok{a b:Value}{r:Bool}(h:zxy P t a b=some r)(d:Nat)(w:World):(Op.equalIn (d+1) t a b).run P w=.ok r w:=by
 unfold zxy at h
 split at h
 ·rename_i k0 k x k' y hu
  split at h
  ·rename_i hk
   simp only[As]at h
   subst hk;subst h
   exact run_equalIn_int w d t k k0 x y hu
  ·cases h
 ·rename_i x y hu
  simp only[As]at h
  subst h
  exact run_equalIn_string w d t x y hu
 ·rename_i x y hu
  simp only[As]at h
  subst h
  exact run_equalIn_bool' w d t x y hu
 ·cases h
theorem zks{P:Program}{γ:Gh}{xs ys:List AA}{us vs:List Value}(hx:All2 (DenA γ) xs us)(hy:All2 (DenA γ) ys vs)(d:Nat)(h:Za):∀(fs:List Field) (b:Bool),z6d P xs ys fs=some b->QExec P (Op.eqFields (d+1) us.toArray vs.toArray fs) h b
 |[],b,hb=>by
  simp only[z6d,As]at hb
  subst hb
  exact QExec.pure _
 |f::fs,b,hb=>by
  unfold z6d at hb
  split at hb
  ·cases hb
  ·rename_i hn
   split at hb
   ·rename_i a b' aa ae
    split at hb
    ·rename_i p q hp hq
     simp only[As]at hb
     subst hb
     obtain⟨v1,e1,r1⟩:=zdu aa hx h
     obtain⟨v2,e2,r2⟩:=zdu ae hy h
     have ab:v1=a:=e1
     have Z:v2=b':=e2
     subst ab;subst Z
     intro B dd
     unfold Op.eqFields
     rw[if_pos (by exact hn)]
     rw[Sem.run_bind,r1 B dd]
     simp only[Result.andThen_ok]
     rw[Sem.run_bind,r2 B dd]
     simp only[Result.andThen_ok]
     rw[Sem.run_bind,zok hp d]
     simp only[Result.andThen_ok]
     cases p with
     |false=>rfl
     |true=>simpa using zks hx hy d h fs q hq B dd
    ·cases hb
   ·cases hb
theorem zol{ρ:Operand->Option AV}(H:eqA P o ρ=some b)(hρ:∀x av,ρ x=some av->DenV γ av (σ x))(h:Za):QExec P (execOp σ o) h (.value (.bool b)):=by
 have key:∀{t:TypeId} {xs ys:List AA} {us vs:List Value} {fs:Array Field} {b:Bool},P.underlying t=some (.struct fs)->P.stoodInHeld t=false->All2 (DenA γ) xs us->All2 (DenA γ) ys vs->z6d P xs ys (P.fieldsOf t).toList=some b->QExec P (Op.equalIn 10000 t (.agg us.toArray) (.agg vs.toArray)) h b:=by
  intro t xs ys us vs fs b hu hs hx hy hb B d
  have hf:P.underlying t=some (.struct (P.fieldsOf t)):=by rw[hu];simp[Program.fieldsOf,hu]
  rw[run_equalIn_struct _ 9999 t us.toArray vs.toArray hf hs]
  exact zks hx hy 9998 h _ b hb B d
 unfold eqA at H
 split at H
 ·rename_i t x y yt ho
  split at H
  ·rename_i xs ys hx hy
   split at H
   ·rename_i fs hu
    cases hs:P.stoodInHeld t with
    |true=>rw[hs]at H;cases H
    |false=>
     cases hg:P.eqGuardType P.depth t with
     |true=>rw[hs,hg]at H;cases H
     |false=>
      rw[hs,hg]at H
      obtain⟨us,e1,d1⟩:=hρ _ _ hx
      obtain⟨vs,e2,d2⟩:=hρ _ _ hy
      have hk:=key hu hs d1 d2 H
      simp only[execOp,ho,e1,e2]
      refine QExec.val λB d=>?_
      rw[Sem.run_bind,run_eqGuard_agg _ _ _ _ _ _ _ hg]
      simp only[Result.andThen_ok]
      rw[run_eql_struct,hk B d]
      rfl
   ·cases H
  ·cases H
 ·rename_i t x y yt ho
  split at H
  ·rename_i xs ys hx hy
   split at H
   ·rename_i fs hu
    cases hs:P.stoodInHeld t with
    |true=>rw[hs]at H;cases H
    |false=>
     cases hg:P.eqGuardType P.depth t with
     |true=>rw[hs,hg]at H;cases H
     |false=>
      rw[hs,hg]at H
      simp only[cond_false]at H
      split at H
      ·rename_i b' Z
       simp only[As]at H
       subst H
       obtain⟨us,e1,d1⟩:=hρ _ _ hx
       obtain⟨vs,e2,d2⟩:=hρ _ _ hy
       have hk:=key hu hs d1 d2 Z
       simp only[execOp,ho,e1,e2]
       refine QExec.val λB d=>?_
       rw[Sem.run_bind,run_eqGuard_agg _ _ _ _ _ _ _ hg]
       simp only[Result.andThen_ok]
       rw[run_neq_struct,hk B d]
       rfl
      ·cases H
   ·cases H
  ·cases H
 ·cases H
def qA0(P:Program)(o:Oper)(ρ:Operand->Option AV)(g:Option Bool)(cs:CS)(K:AV->Prop):Prop:=
 bif (bif zhf o then(bif isQ P o then(bif Yc o.op then ziq ρ o.op.operands.toList else false)else false)else false)then Jn P o (qcd ρ) g #[] (λv=>K (zvh v))else
 match o.op with
 |.move x=>match ρ x with
  |some av=>K av
  |none=>False
 |.assign x=>match ρ x with
  |some av=>K av
  |none=>False
 |.extract x i=>match ρ x with
  |some (.tup l)=>match l[i]? with
   |some ag=>K (.g ag)
   |none=>False
  |some (.nx b p c)=>match i with
   |0=>K (.g (.a (.v (.bool b))))
   |1=>req g (b=true)/\K (.g (.a (.v (.int .i64 p))))
   |2=>req g (b=true)/\K (.g (.a (.v (.int .i32 c))))
   |_=>False
  |_=>False
 |.field t x f=>match ρ x,zxr P t f with
  |some (.g (.agg l)),some (k,ty)=>match zxt P ty l k with
   |some ag=>K (.g ag)
   |none=>False
  |_,_=>False
 |.fieldAddr t x f=>match ρ x,zxr P t f with
  |some (.g (.a aa)),some (k,_)=>match qce k aa with
   |some ab=>K (.g (.a ab))
   |none=>False
  |_,_=>False
 |.load t x=>match ρ x with
  |some (.g (.a aa))=>zvj P cs t aa g K
  |_=>False
 |.indexAddr t x i=>match ρ x,ρ i with
  |some (.g (.a aa)),some iv=>match qcf iv with
   |some n=>zxu P cs t aa n g K
   |none=>False
  |_,_=>False
 |.slice t x lo hi mx=>match ρ x with
  |some (.g (.a aa))=>zxv P cs ρ t aa lo hi mx g K
  |_=>False
 |.nilCheck x=>match ρ x with
  |some (.g (.a aa))=>match qce 0 aa with
   |some _=>K (.g (.a aa))
   |none=>False
  |_=>False
 |.build t Z=>match zff ρ Z.toList with
  |some ps=>match zxx P t ps with
   |some r=>K (.g (.agg r))
   |none=>False
  |none=>False
 |.call c=>match c.callee with
  |.builtin .len=>match c.args.toList,c.argTypes.toList with
   |[x],[t]=>match ρ x,P.underlying t with
    |some (.g (.a (.v (.string s)))),some .string=>K (.g (.a (.v (.int .i64 (s.size:Int)))))
    |some (.g (.a (.v (.slice _ n _)))),some (.slice _)=>K (.g (.a (.v (.int .i64 (n:Int)))))
    |some (.g (.a aa)),some (.slice _)=>match qcy cs aa with
     |some n=>K (.g (.a (.v (.int .i64 (n:Int)))))
     |none=>False
    |_,_=>False
   |_,_=>False
  |_=>False
 |_=>False
theorem zxz{ρ:Operand->Option AV}{K:AV->Prop}(H:qA0 P o ρ g cs K):
  ∃av,K av/\(gok g->∀γ h σ,Inv h0 W M0 cs γ h->(∀x av,ρ x=some av->DenV γ av (σ x))->∃v,DenV γ av v/\QExec P (execOp σ o) h (.value v)):=by
 unfold qA0 at H
 cases hb:(bif zhf o then(bif isQ P o then(bif Yc o.op then ziq ρ o.op.operands.toList else false)else false)else false)with
 |true=>
  rw[hb]at H
  cases hfam:zhf o with
  |false=>rw[hfam]at hb;cases hb
  |true=>
   cases hq:isQ P o with
   |false=>rw[hfam,hq]at hb;cases hb
   |true=>
    cases hns:Yc o.op with
    |false=>rw[hfam,hq,hns]at hb;cases hb
    |true=>
     rw[hfam,hq,hns]at hb
     simp only[cond_true]at hb H
     obtain⟨v,h1,h2⟩:=zcs hfam H
     refine⟨_,h1,λhg γ h σ I hρ=>⟨v,zac γ v,?_⟩⟩
     rw[zoa hρ hns hb]
     exact h2 hg h ⟨by simp,λi hi=>absurd hi (by simp)⟩
 |false=>
  rw[hb]at H
  simp only[cond_false]at H
  have val:∀{s:Sem Value} {h:Za} {v:Value},QExec P s h v->QExec P (s >>= λx=>(Dg (Dt x):Sem Next)) h (.value v):=λhq=>QExec.val hq
  split at H
  ·rename_i x ho
   split at H
   ·rename_i av Z
    exact⟨av,H,λ_ γ h σ I hρ=>⟨_,hρ _ _ Z,by simp only[execOp,ho];exact QExec.pure _⟩⟩
   ·exact H.elim
  ·rename_i x ho
   split at H
   ·rename_i av Z
    exact⟨av,H,λ_ γ h σ I hρ=>⟨_,hρ _ _ Z,by simp only[execOp,ho];exact QExec.pure _⟩⟩
   ·exact H.elim
  ·rename_i x i ho
   split at H
   ·rename_i l Z
    split at H
    ·rename_i ag af
     refine⟨_,H,λ_ γ h σ I hρ=>?_⟩
     obtain⟨us,e,h2⟩:=hρ _ _ Z
     obtain⟨u,hu,hd⟩:=h2.get af
     refine⟨u,hd,?_⟩
     simp only[execOp,ho,e]
     refine val λB d=>?_
     unfold Instr.extract
     simp[hu]
    ·exact H.elim
   ·rename_i b p c Z
    split at H
    ·refine⟨_,H,λ_ γ h σ I hρ=>⟨_,rfl,?_⟩⟩
     obtain⟨e1,e2⟩:=hρ _ _ Z
     simp only[execOp,ho]
     refine val λB d=>?_
     cases b with
     |true=>rw[e1 rfl];rfl
     |false=>rw[e2 rfl];rfl
    ·refine⟨_,H.2,λhg γ h σ I hρ=>⟨_,rfl,?_⟩⟩
     obtain⟨e1,_⟩:=hρ _ _ Z
     simp only[execOp,ho,e1 (H.1.out hg)]
     exact val λB d=>rfl
    ·refine⟨_,H.2,λhg γ h σ I hρ=>⟨_,rfl,?_⟩⟩
     obtain⟨e1,_⟩:=hρ _ _ Z
     simp only[execOp,ho,e1 (H.1.out hg)]
     exact val λB d=>rfl
    ·exact H.elim
   ·exact H.elim
  ·rename_i t x f ho
   split at H
   ·rename_i l k ty Z hf
    split at H
    ·rename_i ag af
     refine⟨_,H,λ_ γ h σ I hρ=>?_⟩
     obtain⟨us,e,h2⟩:=hρ _ _ Z
     obtain⟨v,hd,hq⟩:=zdu af h2 h
     refine⟨v,hd,?_⟩
     simp only[execOp,ho,e]
     refine val λB d=>?_
     unfold zxr at hf
     split at hf
     ·rename_i fs hu
      split at hf
      ·rename_i fl an
       split at hf
       ·rename_i i hi
        cases hz:Nat.beq i.size 0 with
        |true=>rw[hz]at hf;cases hf
        |false=>
         rw[hz]at hf
         simp only[cond_false,As,Bn]at hf
         obtain⟨rfl,rfl⟩:=hf
         have ay:=QExec.underlying (h:=h) hu B d
         unfold Instr.field
         rw[Sem.run_bind,ay]
         simp only[Result.andThen_ok,an,asAgg,Sem.run_bind,Sem.run_pure]
         exact hq B d
       ·cases hf
      ·cases hf
     ·cases hf
    ·exact H.elim
   ·exact H.elim
  ·rename_i t x f ho
   split at H
   ·rename_i aa k ty Z hf
    split at H
    ·rename_i ap aj
     refine⟨_,H,λ_ γ h σ I hρ=>?_⟩
     obtain⟨b,o',e,hd⟩:=zs6 aj (hρ _ _ Z)
     refine⟨_,hd,?_⟩
     simp only[execOp,ho]
     rw[e]
     exact val (zxs hf b o')
    ·exact H.elim
   ·exact H.elim
  ·rename_i t x ho
   split at H
   ·rename_i aa Z
    obtain⟨av,h1,h2⟩:=zir (h0:=h0) (W:=W) (M0:=M0) H
    refine⟨av,h1,λhg γ h σ I hρ=>?_⟩
    obtain⟨v,hd,hq⟩:=h2 hg γ h _ I (hρ _ _ Z)
    refine⟨v,hd,?_⟩
    simp only[execOp,ho]
    exact val hq
   ·exact H.elim
  ·rename_i t x i ho
   split at H
   ·rename_i aa iv Z am
    split at H
    ·rename_i n hn
     obtain⟨av,h1,h2⟩:=zoe (h0:=h0) (W:=W) (M0:=M0) H
     refine⟨av,h1,λhg γ h σ I hρ=>?_⟩
     obtain⟨k,e⟩:=zs7 hn (hρ _ _ am)
     obtain⟨v,hd,hq⟩:=h2 hg γ h _ k I (hρ _ _ Z)
     refine⟨v,hd,?_⟩
     simp only[execOp,ho]
     rw[e]
     exact val hq
    ·exact H.elim
   ·exact H.elim
  ·rename_i t x lo hi mx ho
   split at H
   ·rename_i aa Z
    obtain⟨av,h1,h2⟩:=zoh (h0:=h0) (W:=W) (M0:=M0) H
    refine⟨av,h1,λhg γ h σ I hρ=>?_⟩
    obtain⟨v,hd,hq⟩:=h2 hg γ h _ σ I hρ (hρ _ _ Z)
    refine⟨v,hd,?_⟩
    simp only[execOp,ho]
    exact val hq
   ·exact H.elim
  ·rename_i x ho
   split at H
   ·rename_i aa Z
    split at H
    ·rename_i ap aj
     refine⟨_,H,λ_ γ h σ I hρ=>?_⟩
     obtain⟨b,o',e,hd⟩:=zs6 aj (hρ _ _ Z)
     have ar:=hρ _ _ Z
     refine⟨σ x,ar,?_⟩
     simp only[execOp,ho]
     rw[e]
     exact QExec.pure _
    ·exact H.elim
   ·exact H.elim
  ·rename_i t ab ho
   split at H
   ·rename_i ps au
    split at H
    ·rename_i r hr
     refine⟨_,H,λ_ γ h σ I hρ=>?_⟩
     obtain⟨ws,hq,hd⟩:=zoj hr (zcz hρ au) h
     refine⟨.agg ws.toArray,⟨ws,rfl,hd⟩,?_⟩
     simp only[execOp,ho]
     have e:(ab.map λx=>(x.1,σ x.2))=(ab.toList.map λx=>(x.1,σ x.2)).toArray:=by rw[<-Dc]
     have:=val hq
     rw[<-e]at this
     exact this
    ·exact H.elim
   ·exact H.elim
  ·rename_i c ho
   split at H
   ·rename_i hc
    split at H
    ·rename_i x t ai ak
     have ae:c.args=#[x]:=by
      have:=congrArg List.toArray ai;simp at this;exact this
     have ah:c.argTypes=#[t]:=by
      have:=congrArg List.toArray ak;simp at this;exact this
     have key:∀(σ:Operand->Value) (h:Za) (n:Int),(QExec P (DT #[t] o.type #[σ x]) h (.int .i64 n))->QExec P (execOp σ o) h (.value (.int .i64 n)):=by
      intro σ h n hq
      have e:execOp σ o=(DT c.argTypes o.type (c.args.map σ) >>= λx=>(Dg (Dt x):Sem Next)):=by
       simp only[execOp,ho,resolve,hc]
       rfl
      rw[e,ae,ah]
      refine val ?_
      simpa using hq
     split at H
     ·rename_i s Z hu
      refine⟨_,H,λ_ γ h σ I hρ=>⟨_,rfl,key σ h _ λB d=>?_⟩⟩
      have hq:=QExec.underlying (h:=h) hu B d
      have e:σ x=.string s:=hρ _ _ Z
      unfold DT
      simp only[List.getElem?_toArray,List.getElem?_cons_zero,e,Sem.run_bind,hq,Result.andThen_ok,Sem.run_pure]
      rfl
     ·rename_i a n cp el Z hu
      refine⟨_,H,λ_ γ h σ I hρ=>⟨_,rfl,key σ h _ λB d=>?_⟩⟩
      have hq:=QExec.underlying (h:=h) hu B d
      have e:σ x=.slice a n cp:=hρ _ _ Z
      unfold DT
      simp only[List.getElem?_toArray,List.getElem?_cons_zero,e,Sem.run_bind,hq,Result.andThen_ok,Sem.run_pure]
      rfl
     ·rename_i aa el _ _ Z hu
      split at H
      ·rename_i n hn
       refine⟨_,H,λ_ γ h σ I hρ=>⟨_,rfl,key σ h _ λB d=>?_⟩⟩
       have hq:=QExec.underlying (h:=h) hu B d
       obtain⟨a,cp,e⟩:=z1v I hn (hρ _ _ Z)
       unfold DT
       simp only[List.getElem?_toArray,List.getElem?_cons_zero,e,Sem.run_bind,hq,Result.andThen_ok,Sem.run_pure]
       rfl
      ·exact H.elim
     ·exact H.elim
    ·exact H.elim
   ·exact H.elim
  ·exact H.elim
def qcz(P:Program)(o:Oper)(ρ:Operand->Option AV):Option Bool:=match o.op with
 |.binOp op t x (.const .nilIface) _=>match ρ x,ρ (.const .nilIface),P.underlying t with
  |some (.g (.a (.d .err b))),some (.g (.a (.v .nilIface))),some (.interface _)=>match op with
   |.eql=>some b
   |.neq=>some (!b)
   |_=>none
  |_,_,_=>none
 |_=>none
theorem zkt{ρ:Operand->Option AV}(H:qcz P o ρ=some b)(hρ:∀x av,ρ x=some av->DenV γ av (σ x))(h:Za):QExec P (execOp σ o) h (.value (.bool b)):=by
 have key:∀{t:TypeId} {ms:Array (String×TypeId)} {b:Bool} {u:Value},P.underlying t=some (.interface ms)->((b=true/\u=.nilIface)\/(b=false/\∃t u',u=.iface t u'))->QExec P (Er t u .nilIface) h b:=by
  intro t ms b u hu hb B d
  have hq:=QExec.underlying (h:=h) hu B d
  unfold Er Op.maxDepth
  rcases hb with⟨rfl,rfl⟩|⟨rfl,t',u',rfl⟩
  ·unfold Op.equalIn;rw[Sem.run_bind,hq];rfl
  ·unfold Op.equalIn;rw[Sem.run_bind,hq];rfl
 unfold qcz at H
 split at H
 ·rename_i op t x yt ho
  split at H
  ·rename_i b0 ms hx hy hu
   have hσ:σ (.const .nilIface)=.nilIface:=hρ _ _ hy
   obtain⟨u,e,hb⟩:=(show Rd γ.M .err b0 [σ x]from hρ _ _ hx)
   have eu:u=σ x:=by simpa using e.symm
   subst eu
   have hk:=key hu hb
   have hg:∀op,QExec P (eqGuard op t x (.const .nilIface) (σ x) .nilIface) h ():=by
    intro op B d
    unfold eqGuard
    rcases hb with⟨_,e2⟩|⟨_,t',u',e2⟩
    ·rw[e2];cases op <;> simp
    ·rw[e2];cases op <;> simp
   have Z:∀op,(binOp op t (σ x) .nilIface=match op with | .eql=>(do pure (.bool (<-Er t (σ x) .nilIface))) | .neq=>(do pure (.bool (!(<-Er t (σ x) .nilIface))))|_=>binOp op t (σ x) .nilIface):=by
    intro op
    rcases hb with⟨_,e2⟩|⟨_,t',u',e2⟩
    ·rw[e2];cases op <;> rfl
    ·rw[e2];cases op <;> rfl
   simp only[execOp,ho,hσ]
   refine QExec.val ((hg op).bind ?_)
   split at H
   ·simp only[As]at H;subst H
    rw[Z]
    exact hk.bind (QExec.pure _)
   ·simp only[As]at H;subst H
    rw[Z]
    exact hk.bind (QExec.pure _)
   ·cases H
  ·cases H
 ·cases H
def z6e(o:Oper)(ρ:Operand->Option AV):Option (TypeId×Nat×Nat):=match o.op with
 |.load t x=>match ρ x with
  |some (.g (.a (.v (.pointer (some ⟨b,off,none⟩)))))=>some (t,b,off)
  |_=>none
 |_=>none
def zis(gl:Fr)(b off:Nat)(v:Value):Prop:=∃cs,gl b=some cs/\cs[off]?=some v
def zku(gl:Fr)(b:Nat)(g:Option Bool):List Atom->Nat->(List AA->Prop)->Prop
 |[],_,K=>K []
 |.int k::l,o,K=>∃x:Int,req g (zis gl b o (.int k x))/\zku gl b g l (o+1) λr=>K (.v (.int k x)::r)
 |.str::l,o,K=>∃x:Bt,req g (zis gl b o (.string x))/\zku gl b g l (o+1) λr=>K (.v (.string x)::r)
 |.bool::l,o,K=>∃x:Bool,req g (zis gl b o (.bool x))/\zku gl b g l (o+1) λr=>K (.v (.bool x)::r)
 |_::_,_,_=>False
theorem Wc{gl:Fr}{b:Nat}{g:Option Bool}:∀{l:List Atom} {o:Nat} {K:List AA->Prop},zku gl b g l o K->∃vs:List Value,vs.length=l.length/\K (vs.map .v)/\(gok g->∀(j:Nat) (v:Value),vs[j]?=some v->zis gl b (o+j) v)
 |[],o,K,H=>⟨[],rfl,H,λ_ j v h=>by simp at h⟩
 |.int k::l,o,K,⟨x,h1,h2⟩=>by
  obtain⟨vs,e1,e2,e3⟩:=Wc h2
  refine⟨.int k x::vs,by simp[e1],e2,λhg j v hv=>?_⟩
  cases j with
  |zero=>simp at hv;subst hv;exact h1.out hg
  |succ j=>have:=e3 hg j v (by simpa using hv);rwa[show o+1+j=o+(j+1)by omega]at this
 |.str::l,o,K,⟨x,h1,h2⟩=>by
  obtain⟨vs,e1,e2,e3⟩:=Wc h2
  refine⟨.string x::vs,by simp[e1],e2,λhg j v hv=>?_⟩
  cases j with
  |zero=>simp at hv;subst hv;exact h1.out hg
  |succ j=>have:=e3 hg j v (by simpa using hv);rwa[show o+1+j=o+(j+1)by omega]at this
 |.bool::l,o,K,⟨x,h1,h2⟩=>by
  obtain⟨vs,e1,e2,e3⟩:=Wc h2
  refine⟨.bool x::vs,by simp[e1],e2,λhg j v hv=>?_⟩
  cases j with
  |zero=>simp at hv;subst hv;exact h1.out hg
  |succ j=>have:=e3 hg j v (by simpa using hv);rwa[show o+1+j=o+(j+1)by omega]at this
 |.sl::_,_,_,H=>H.elim
 |.mp::_,_,_,H=>H.elim
 |.ptr::_,_,_,H=>H.elim
 |.raw::_,_,_,H=>H.elim
def qaa(P:Program)(gl:Fr)(t:TypeId)(b off:Nat)(g:Option Bool)(K:AV->Prop):Prop:=match zww P t with
 |some (.one a)=>zku gl b g [a] off λr=>match r with
  |[x]=>K (.g (.a x))
  |_=>False
 |some (.agg l)=>zku gl b g l off λr=>K (.g (.agg r))
 |none=>False
def z6f(P:Program)(o:Oper)(ρ:Operand->Option AV):Option (Nat×Nat×Int×Nat×Nat):=match o.op with
 |.indexAddr t x i=>match ρ x,ρ i,P.underlying t with
  |some (.g (.a (.v (.pointer (some ⟨b,off,none⟩))))),some (.g (.a (.v (.int _ n)))),some (.array len el)=>bif Z6 P el then some (b,off,n,len,Qh P el)else none
  |_,_,_=>none
 |_=>none
def qA(P:Program)(gl:Fr)(o:Oper)(ρ:Operand->Option AV)(g:Option Bool)(cs:CS)(K:AV->Prop):Prop:=match eqA P o ρ with
 |some b=>K (.g (.a (.v (.bool b))))
 |none=>match qcz P o ρ with
  |some b=>K (.g (.a (.v (.bool b))))
  |none=>match z6e o ρ with
   |some (t,b,off)=>qaa P gl t b off g K
   |none=>match z6f P o ρ with
    |some (b,off,n,len,z)=>req g (0<=n/\n<(len:Int))/\K (.g (.a (.v (.pointer (some ⟨b,off+n.toNat*z,none⟩)))))
    |none=>qA0 P o ρ g cs K
theorem zhw{gl:Fr}(ae:Fr.le gl M0){ρ:Operand->Option AV}{K:AV->Prop}(H:qA P gl o ρ g cs K):
  ∃av,K av/\(gok g->∀γ h σ,Inv h0 W M0 cs γ h->(∀x av,ρ x=some av->DenV γ av (σ x))->∃v,DenV γ av v/\QExec P (execOp σ o) h (.value v)):=by
 unfold qA at H
 split at H
 ·rename_i b hb
  exact⟨_,H,λ_ γ h σ _ hρ=>⟨_,rfl,zol hb hρ h⟩⟩
 ·split at H
  ·rename_i b hb
   exact⟨_,H,λ_ γ h σ _ hρ=>⟨_,rfl,zkt hb hρ h⟩⟩
  ·split at H
   ·rename_i t b off hg
    unfold z6e at hg
    split at hg
    ·rename_i t' x ho
     split at hg
     ·rename_i b' Z hx
      simp only[As,Bn]at hg
      obtain⟨rfl,rfl,rfl⟩:=hg
      have key:∀{s:Option Nat} {vs:List Value} {ag:AG},zca P t'=some s->vs.length=z1a s->zl9 s (vs.map .v)=some ag->(gok g->∀(j:Nat) (v:Value),vs[j]?=some v->zis gl b' (Z+j) v)->gok g->∀γ h σ,Inv h0 W M0 cs γ h->(∀x av,ρ x=some av->DenV γ av (σ x))->∃u,DenV γ (.g ag) u/\QExec P (execOp σ o) h (.value u):=by
       intro s vs ag hs hn hp hc hg γ h σ I hρ
       have hu:σ x=.pointer (some ⟨b',Z,none⟩):=hρ _ _ hx
       obtain⟨u,hd,hq⟩:=zgj (γ:=γ) hs (u:=σ x) (us:=vs) ⟨_,_,hu,λj w hw=>by
        obtain⟨cc,e1,e2⟩:=hc hg j w hw
        exact I.ag.cell (I.le _ _ (ae _ _ e1)) e2⟩ hn (Wb γ vs) hp
       exact⟨u,hd,by simp only[execOp,ho];exact QExec.val hq⟩
      unfold qaa at H
      split at H
      ·rename_i a hv
       obtain⟨vs,e1,e2,e3⟩:=Wc H
       match vs,e1,e2,e3 with
       |[v],e1,e2,e3=>exact⟨_,e2,key (s:=none) (by unfold zca;rw[hv]) rfl rfl e3⟩
      ·rename_i l hv
       obtain⟨vs,e1,e2,e3⟩:=Wc H
       exact⟨_,e2,key (s:=some l.length) (by unfold zca;rw[hv]) e1 rfl e3⟩
      ·exact H.elim
     ·cases hg
    ·cases hg
   ·split at H
    ·rename_i b off n len z hg
     unfold z6f at hg
     split at hg
     ·rename_i t x i ho
      split at hg
      ·rename_i b' Z k n' ai el hx hi hu
       cases hok:Z6 P el with
       |false=>rw[hok]at hg;cases hg
       |true=>
        rw[hok]at hg
        simp only[cond_true,As,Bn]at hg
        obtain⟨rfl,rfl,rfl,rfl,rfl⟩:=hg
        refine⟨_,H.2,λab γ h σ I hρ=>⟨_,rfl,?_⟩⟩
        have ah:σ x=.pointer (some ⟨b',Z,none⟩):=hρ _ _ hx
        have af:σ i=.int k n':=hρ _ _ hi
        obtain⟨h1,h2⟩:=H.1.out ab
        obtain⟨v,rfl,hq⟩:=Y6 (P:=P) (t:=t) (x:=.pointer (some ⟨b',Z,none⟩)) (i:=.int k n') (g:=none) (K:=λv=>v=.pointer (some (AD ⟨b',Z,none⟩ (n'.toNat*Qh P el))))
         (λaj aa=>by
          rcases aa with aa|⟨m,aa⟩
          ·rw[hu]at aa;cases aa
          ·rw[hu]at aa;cases aa;exact Q7 hok) (by unfold znt;rw[hu];exact⟨_,⟨rfl,h1,h2⟩,rfl⟩)
        have:=hq trivial h
        rw[Zq]at this
        simp only[execOp,ho,ah,af]
        exact QExec.val this
      ·cases hg
     ·cases hg
    ·exact zxz H
end
section
variable {M gl:Fr} {u:Value} {P:Program} {f:FuncId} {γ:Gh} {cs C R:CS} {o:Oper} {σ:Operand -> Value} {h:Za} {Post:Value -> Za -> Prop} {tr:TypeId}
variable {h0 : Za} {W : Nat -> Prop} {M0 : Fr}
def zom:Ty->Bool
 |.tree=>true
 |.unit=>true
 |.pair _ _=>true
 |_=>false
def RdV(M:Fr)(t:Ty)(x:El t)(u:Value):Prop:=if zom t=true then ∃cs:List Value,u=.agg cs.toArray/\Rd M t x cs else Rd M t x [u]
theorem RdV.mono{M M':Fr}(hM:Fr.le M M'){t:Ty}{x:El t}(h:RdV M t x u):RdV M' t x u:=by
 unfold RdV at *
 by_cases ha:zom t=true
 ·rw[if_pos ha]at *
  obtain⟨cs,e,h⟩:=h;exact⟨cs,e,Rd.mono hM h⟩
 ·rw[if_neg ha]at *
  exact Rd.mono hM h
structure Arg where
 t:Ty
 x:El t
def zcb(M:Fr)(l:List Arg)(vs:List Value):Prop:=All2 (λ(a:Arg) u=>RdV M a.t a.x u) l vs
@[reducible] def Els:List Ty->Type
 |[]=>Unit
 |[t]=>El t
 |t::t'::l=>El t×Els (t'::l)
def qab:(l:List Ty)->Els l
 |[]=>()
 |[t]=>z94 t
 |t::t'::l=>(z94 t,qab (t'::l))
def RdL(M:Fr):(l:List Ty)->Els l->List Value->Prop
 |[],_,us=>us=[]
 |[t],x,us=>∃u,us=[u]/\RdV M t x u
 |t::t'::l,x,us=>∃u Z,us=u::Z/\RdV M t x.1 u/\RdL M (t'::l) x.2 Z
def ze0(M:Fr)(l:List Ty)(x:Els l)(v:Value):Prop:=∃us,RdL M l x us/\v=zim us
theorem RdL.length{M:Fr}:∀{l:List Ty} {x:Els l} {us:List Value},RdL M l x us->us.length=l.length
 |[],_,_,h=>by rw[h];rfl
 |[_],_,_,⟨u,e,_⟩=>by rw[e];rfl
 |_::t'::l,x,_,⟨u,us,e,_,h⟩=>by rw[e,AN,RdL.length h];rfl
def PC(P:Program)(gl:Fr)(f:FuncId)(args:List Arg)(rt:List Ty)(R:Els rt->Prop):Prop:=
 ∀(h:Za) (M:Fr) (vs:List Value),Fr.le gl M->AgM M h->zcb M args vs->XC P f vs.toArray h λv h'=>
  Keep h.size h h'/\∃M' r,Fr.le M M'/\(∀b,b<h.size->M' b=M b)/\AgM M' h'/\ze0 M' rt r v/\R r
theorem PC.mono{args:List Arg}{rt:List Ty}{R R':Els rt->Prop}(H:PC P gl f args rt R)(hR:∀r,R r->R' r):PC P gl f args rt R':=
 λh M vs h1 h2 h3=>(H h M vs h1 h2 h3).mono λv h' ⟨k,M',r,e1,e2,e3,e4,e5⟩=>⟨k,M',r,e1,e2,e3,e4,hR r e5⟩
def BdL:(l:List Ty)->Els l->Prop
 |[],_=>True
 |[t],x=>Bd t x
 |t::t'::l,x=>Bd t x.1/\BdL (t'::l) x.2
theorem RdV.bd{t:Ty}{x:El t}(h:RdV M t x u):Bd t x:=by
 unfold RdV at h
 split at h
 ·obtain⟨cs,_,h⟩:=h;exact h.bd
 ·exact h.bd
theorem RdL.bd{M:Fr}:∀{l:List Ty} {x:Els l} {us:List Value},RdL M l x us->BdL l x
 |[],_,_,_=>trivial
 |[_],_,_,⟨u,_,h⟩=>h.bd
 |_::_::_,_,_,⟨_,_,_,h,h'⟩=>⟨h.bd,RdL.bd h'⟩
theorem PC.bd{args:List Arg}{rt:List Ty}{R:Els rt->Prop}(H:(∀a∈args,Bd a.t a.x)->PC P gl f args rt R):PC P gl f args rt R:=by
 intro h M vs h1 h2 h3
 refine H ?_ h M vs h1 h2 h3
 clear H h1 h2
 induction args generalizing vs with
 |nil=>intro a ha;cases ha
 |cons a args ih=>
  cases vs with
  |nil=>exact h3.elim
  |cons u us=>
   intro b hb
   rcases Ay.1 hb with rfl|hb
   ·exact RdV.bd h3.1
   ·exact ih us h3.2 b hb
def gOf(t:Ty)(x:El t):AG:=bif zom t then .agg (zaa t x)else(match zaa t x with
 |[y]=>.a y
 |l=>.agg l)
theorem zq8{t:Ty}{x:El t}(h:RdV γ.M t x u):DenG γ (gOf t x) u:=by
 unfold RdV at h
 unfold gOf
 split at h
 ·rename_i ha
  rw[ha]
  obtain⟨cs,e,h⟩:=h
  exact⟨cs,e,Ja h⟩
 ·rename_i ha
  have Z:zom t=false:=by simpa using ha
  rw[Z]
  simp only[cond_false]
  have hd:=Ja (γ:=γ) h
  match hx:zaa t x,hd with
  |[y],hd=>exact hd.1
  |[],hd=>exact hd.elim
  |_::_::_,hd=>exact hd.2.elim
def qcg:(l:List Ty)->Els l->List AG
 |[],_=>[]
 |[t],x=>[gOf t x]
 |t::t'::l,x=>gOf t x.1::qcg (t'::l) x.2
theorem zs8{γ:Gh}:∀{l:List Ty} {x:Els l} {us:List Value},RdL γ.M l x us->All2 (DenG γ) (qcg l x) us
 |[],_,_,h=>by rw[h];trivial
 |[_],_,_,⟨u,e,h⟩=>by rw[e];exact⟨zq8 h,trivial⟩
 |_::_::_,_,_,⟨u,us,e,h,h'⟩=>by rw[e];exact⟨zq8 h,zs8 h'⟩
def z9m(l:List Ty)(x:Els l):AV:=match qcg l x with
 |[g]=>.g g
 |gs=>.tup gs
theorem z1x{l:List Ty}{x:Els l}{v:Value}(h:ze0 γ.M l x v):DenV γ (z9m l x) v:=by
 obtain⟨us,h,rfl⟩:=h
 have hd:=zs8 (γ:=γ) h
 unfold z9m
 generalize qcg l x=gs at *
 match gs,us,hd with
 |[],[],_=>exact⟨[],rfl,trivial⟩
 |[g],[u],hd=>exact hd.1
 |g::g'::gs,u::u'::us,hd=>exact⟨_,rfl,hd⟩
 |[],_::_,hd=>exact hd.elim
 |_::_,[],hd=>exact hd.elim
 |[_],_::_::_,hd=>exact hd.2.elim
 |_::_::_,[_],hd=>exact hd.2.elim
def z4n(P:Program)(tr:TypeId):Nat->TypeId->Option Ty
 |0,_=>none
 |n+1,t=>bif Nat.beq t tr then some .tree else match P.underlying t with
  |some (.int k)=>some (.int k)
  |some .bool=>some .bool
  |some .string=>some .str
  |some (.slice e)=>match z4n P tr n e with
   |some x=>some (.row x)
   |none=>none
  |some (.struct fs)=>tysOf P (λt=>z4n P tr n t) fs.toList
  |some (.interface _)=>some .err
  |_=>none
where tysOf (P:Program) (f:TypeId->Option Ty):List Field->Option Ty
 |[]=>some .unit
 |[x]=>f x.type
 |x::y::l=>match f x.type,tysOf P f (y::l)with
  |some a,some b=>some (.pair a b)
  |_,_=>none
def tyL(P:Program)(tr:TypeId):List TypeId->Option (List Ty)
 |[]=>some []
 |t::l=>match z4n P tr 8 t,tyL P tr l with
  |some a,some b=>some (a::b)
  |_,_=>none
def qac:AA->List Nat
 |.own c=>[c]
 |_=>[]
def zvl:List AA->List Nat
 |[]=>[]
 |x::l=>qac x++zvl l
def qc0:AV->List Nat
 |.g (.a x)=>qac x
 |.g (.agg l)=>zvl l
 |_=>[]
def zbn:List AV->List Nat
 |[]=>[]
 |v::l=>qc0 v++zbn l
def frzL:List Nat->CS->CS
 |[],C=>C
 |c::l,C=>frzL l (z6a c C)
theorem Inv.frzL{C R:CS}{γ:Gh}{h:Za}:∀(l:List Nat) {C:CS} {γ:Gh},Inv h0 W M0 (C++R) γ h->∃γ',Inv h0 W M0 (frzL l C++R) γ' h/\Gx none γ γ'
 |[],C,γ,I=>⟨γ,I,Gx.refl _ _⟩
 |c::l,C,γ,I=>by
  obtain⟨γ1,I1,g1⟩:=Inv.freeze c C [] I
  obtain⟨γ2,I2,g2⟩:=Inv.frzL (C:=C) (γ:=γ) l I1
  exact⟨γ2,I2,g1.1.trans g2.1,λi hi=>⟨(g2.2 i hi).1.trans (g1.2 i hi).1,(g2.2 i hi).2.trans (g1.2 i hi).2⟩⟩
def zfg(cs:CS)(t:Ty):AV->Option (El t)
 |.g (.agg l)=>bif zom t then(match collect cs t l with
  |some (y,[])=>some y
  |_=>none)else none
 |.g (.a x)=>bif zom t then none else zjt cs t x
 |_=>none
theorem zdv(hf:z09 γ cs){t:Ty}{av:AV}{y:El t}(h:zfg cs t av=some y)(hd:DenV γ av u):RdV γ.M t y u:=by
 unfold zfg at h
 unfold RdV
 split at h
 ·rename_i l
  cases ha:zom t with
  |false=>rw[ha]at h;cases h
  |true=>
   rw[ha]at h
   simp only[cond_true]at h
   split at h
   ·rename_i y' hc
    simp only[As]at h
    subst h
    obtain⟨us,e,h2⟩:=hd
    obtain⟨c1,c2,rfl,r1,r2⟩:=zab hf hc h2
    cases c2 with
    |nil=>simp only[if_true];exact⟨c1,by rw[e,Bu],r1⟩
    |cons _ _=>exact r2.elim
   ·cases h
 ·rename_i x
  cases ha:zom t with
  |true=>rw[ha]at h;cases h
  |false=>
   rw[ha]at h
   simp only[Bv,if_false]
   exact Yj hf h hd
 ·cases h
def Q9(cs:CS):List Ty->List AV->Option (List Arg)
 |[],[]=>some []
 |t::ts,v::vs=>match zfg cs t v,Q9 cs ts vs with
  |some x,some l=>some (⟨t,x⟩::l)
  |_,_=>none
 |_,_=>none
theorem Yt{γ:Gh}{cs:CS}(hf:z09 γ cs):∀{ts:List Ty} {vs:List AV} {l:List Arg},Q9 cs ts vs=some l->∀{us:List Value},All2 (DenV γ) vs us->zcb γ.M l us
 |[],[],l,h,[],_=>by simp only[Q9,As]at h;subst h;trivial
 |[],[],_,_,_::_,hd=>hd.elim
 |t::ts,v::vs,l,h,[],hd=>hd.elim
 |t::ts,v::vs,l,h,u::us,hd=>by
  simp only[Q9]at h
  split at h
  ·rename_i x l' h1 h2
   simp only[As]at h
   subst h
   exact⟨zdv hf h1 hd.1,Yt hf h2 hd.2⟩
  ·cases h
 |[],_::_,_,h,_,_=>by simp[Q9]at h
 |_::_,[],_,h,_,_=>by simp[Q9]at h
def zq9(ρ:Operand->Option AV):List Operand->Option (List AV)
 |[]=>some []
 |x::l=>match ρ x,zq9 ρ l with
  |some v,some vs=>some (v::vs)
  |_,_=>none
theorem zcc{γ:Gh}{ρ:Operand->Option AV}{σ:Operand->Value}(hρ:∀x av,ρ x=some av->DenV γ av (σ x)):∀{l:List Operand} {vs:List AV},zq9 ρ l=some vs->All2 (DenV γ) vs (l.map σ)
 |[],vs,h=>by simp only[zq9,As]at h;subst h;trivial
 |x::l,vs,h=>by
  simp only[zq9]at h
  split at h
  ·rename_i v Z h1 h2
   simp only[As]at h
   subst h
   exact⟨hρ _ _ h1,zcc hρ h2⟩
  ·cases h
def ExA(P:Program)(s:Sem Next)(h:Za)(Post:Value->Za->Prop):Prop:=∀B d,
 (∃v d' h',s.run P (mk B d h)=.ok (.value v) (mk B d' h')/\Post v h') \/
 (∃d' h',s.run P (mk B d h)=.ok .skip (mk B d' h')/\Post undef h') \/
 (∃f args,s.run P (mk B d h)=.ok (.enter f args) (mk B d h)/\XC P f args h Post)
theorem ExA.upon(H:ExA P (execOp σ o) h Post)(B:World)(d:Nat){a:Act}{next:Act->World->Prop}{Q:Exit->Act->World->Prop}
  (hn:∀v d' h',Post v h'->next (a.put o.dst v) (mk B d' h')):o.upon P a next Q ((execOp σ o).run P (mk B d h)):=by
 rcases H B d with⟨v,d',h',e,hp⟩|⟨d',h',e,hp⟩|⟨f,args,e,hx⟩
 ·exact upon_value e (hn _ _ _ hp)
 ·exact upon_skip e (hn _ _ _ hp)
 ·rw[e]
  refine(hx B d).mono ?_
  rintro e' w' ⟨v,d',Z,rfl,rfl,h3⟩
  exact hn _ _ _ h3
theorem ExA.mono{s:Sem Next}{Post Z:Value->Za->Prop}(H:ExA P s h Post)(hp:∀v h',Post v h'->Z v h'):ExA P s h Z:=λB d=>by
 rcases H B d with⟨v,d',h',e,q⟩|⟨d',h',e,q⟩|⟨f,args,e,hx⟩
 ·exact .inl ⟨v,d',h',e,hp _ _ q⟩
 ·exact .inr (.inl ⟨d',h',e,hp _ _ q⟩)
 ·exact .inr (.inr ⟨f,args,e,hx.mono hp⟩)
def zdw(h0:Za)(W:Nat->Prop)(M0:Fr)(R:CS)(γ:Gh)(K:AV->CS->Option Nat->Prop)(v:Value)(h':Za):Prop:=
 ∃av C' c γ',K av C' c/\DenV γ' av v/\Inv h0 W M0 (C'++R) γ' h'/\Gx c γ γ'
theorem z6g(Z:Fr.le gl M0){ρ:Operand->Option AV}{K:AV->CS->Option Nat->Prop}(H:qA P gl o ρ none (C++R) λav=>K av C none)(I:Inv h0 W M0 (C++R) γ h)
  (hρ:∀x av,ρ x=some av->DenV γ av (σ x)):ExA P (execOp σ o) h (zdw h0 W M0 R γ K):=by
 obtain⟨av,h1,h2⟩:=zhw (h0:=h0) (W:=W) (M0:=M0) Z H
 obtain⟨v,hd,hq⟩:=h2 trivial γ h σ I hρ
 exact λB d=>.inl ⟨v,d,h,hq B d,av,C,none,γ,h1,hd,I,Gx.refl _ _⟩
def qad:Operand->Option FuncId
 |.func f=>some f
 |_=>none
def z6h(P:Program)(tr:TypeId)(f:FuncId):Option (List Ty×List Ty):=match P.funcs[f]? with
 |some fn=>match tyL P tr fn.params.toList,tyL P tr fn.resultTypes.toList with
  |some a,some b=>some (a,b)
  |_,_=>none
 |none=>none
def z6i(P:Program)(gl:Fr)(tr:TypeId)(o:Oper)(ρ:Operand->Option AV)(C R:CS)(K:AV->CS->Prop):Prop:=
 match o.op with
 |.call c=>match c.callee with
  |.value x=>match qad x with
   |some f=>bif Zp P f then(match z6h P tr f,zq9 ρ c.args.toList with
    |some (ts,rt),some vs=>match Q9 (frzL (zbn vs) C++R) ts vs with
     |some args=>PC P gl f args rt λr=>K (z9m rt r) (frzL (zbn vs) C)
     |none=>False
    |_,_=>False)else False
   |none=>False
  |_=>False
 |_=>False
def zvm(P:Program)(gl:Fr)(tr:TypeId)(o:Oper)(ρ:Operand->Option AV)(b:Bool)(cs:CS)(K:AV->Prop):Prop:=
 match o.op with
 |.call c=>match c.callee with
  |.value x=>match qad x with
   |some f=>bif Zp P f then(match z6h P tr f,zq9 ρ c.args.toList with
    |some (ts,rt),some vs=>match Q9 cs ts vs with
     |some args=>∃J:Els rt->Prop,(b=true->PC P gl f args rt J)/\∀r,(b=true->J r)->K (z9m rt r)
     |none=>False
    |_,_=>False)else False
   |none=>False
  |_=>False
 |_=>False
theorem zma{x:Operand}(h:qad x=some f):x=.func f:=by
 unfold qad at h
 split at h
 ·simp only[As]at h;rw[h]
 ·cases h
theorem zfh{c:Call}(ho:o.op=.call c)(hc:c.callee=.value (.func f))(hf:Zp P f=true)(hσ:σ (.func f)=.func (.func f) #[] #[])(w:World):
  (execOp σ o).run P w=.ok (.enter f (c.args.map σ)) w:=by
 simp only[execOp,ho,resolve,hc,hσ,DU,Sem.run_bind,Sem.run_pure,Result.andThen_ok,invoke]
 rw[zb4 hf]
 simp
theorem zmb(Z:Fr.le gl M0){args:List Arg}{rt:List Ty}{Rr:Els rt->Prop}(H:PC P gl f args rt Rr)(I:Inv h0 W M0 cs γ h){us:List Value}(ha:zcb γ.M args us):
  XC P f us.toArray h λv h'=>∃r γ',Rr r/\DenV γ' (z9m rt r) v/\Inv h0 W M0 cs γ' h'/\Gx none γ γ'/\Keep h.size h h':=
 (H h γ.M us (Z.trans I.le) I.ag ha).mono λv h' ⟨k,M',r,e1,e2,e3,e4,e5⟩=>
  ⟨r,{ γ with M:=M' },e5,z1x (γ:={ γ with M:=M' }) e4,I.call k e1 e2 e3,⟨e1,λ_ _=>⟨rfl,rfl⟩⟩,k⟩
theorem z1y(aa:Fr.le gl M0){ρ:Operand->Option AV}{K:AV->CS->Option Nat->Prop}(H:z6i P gl tr o ρ C R λav C'=>K av C' none)(I:Inv h0 W M0 (C++R) γ h)
  (hσ:∀f,σ (.func f)=.func (.func f) #[] #[]) (hρ:∀x av,ρ x=some av->DenV γ av (σ x)):ExA P (execOp σ o) h (zdw h0 W M0 R γ K):=by
 unfold z6i at H
 split at H
 ·rename_i c ho
  split at H
  ·rename_i x hx
   split at H
   ·rename_i f hf
    cases hcal:Zp P f with
    |false=>rw[hcal]at H;exact H.elim
    |true=>
     rw[hcal]at H
     simp only[cond_true]at H
     split at H
     ·rename_i ts rt vs hs ab
      split at H
      ·rename_i args Z
       intro B d
       have e:=zma hf
       subst e
       obtain⟨γ1,I1,g1⟩:=Inv.frzL (C:=C) (γ:=γ) (zbn vs) I
       have ha:=Yt I1.fz Z ((zcc hρ ab).imp λv _ u hu=>hu.gx g1 rfl)
       refine .inr (.inr ⟨f,c.args.map σ,zfh ho hx hcal (hσ f) _,?_⟩)
       have e2:c.args.map σ=(c.args.toList.map σ).toArray:=by rw[<-Dc]
       rw[e2]
       refine(zmb aa H I1 ha).mono ?_
       rintro v h' ⟨r,γ',h1,h2,h3,h4,_⟩
       exact⟨_,_,none,γ',h1,h2,h3,g1.1.trans h4.1,λi hi=>⟨(h4.2 i hi).1.trans (g1.2 i hi).1,(h4.2 i hi).2.trans (g1.2 i hi).2⟩⟩
      ·exact H.elim
     ·exact H.elim
   ·exact H.elim
  ·exact H.elim
 ·exact H.elim
theorem zdx{ρ:Operand->Option AV}{b:Bool}{K:AV->Prop}(H:zvm P gl tr o ρ b cs K):(b=false->∃av,K av) /\
  (b=true->Fr.le gl M0->∀γ h σ,Inv h0 W M0 cs γ h->(∀f,σ (.func f)=.func (.func f) #[] #[])->(∀x av,ρ x=some av->DenV γ av (σ x))->∃f args,(∀w,(execOp σ o).run P w=.ok (.enter f args) w) /\
   XC P f args h λv h'=>∃av γ',K av/\DenV γ' av v/\Inv h0 W M0 cs γ' h'/\Gx none γ γ'/\Keep h.size h h'):=by
 unfold zvm at H
 split at H
 ·rename_i c ho
  split at H
  ·rename_i x hx
   split at H
   ·rename_i f hf
    cases hcal:Zp P f with
    |false=>rw[hcal]at H;exact H.elim
    |true=>
     rw[hcal]at H
     simp only[cond_true]at H
     split at H
     ·rename_i ts rt vs hs ab
      split at H
      ·rename_i args Z
       obtain⟨J,h1,h2⟩:=H
       refine⟨λhb=>⟨_,h2 (qab rt) (λh=>by rw[hb]at h;cases h)⟩,λhb aa γ h σ I hσ hρ=>?_⟩
       have e:=zma hf
       subst e
       refine⟨f,c.args.map σ,λw=>zfh ho hx hcal (hσ f) w,?_⟩
       have e2:c.args.map σ=(c.args.toList.map σ).toArray:=by rw[<-Dc]
       rw[e2]
       refine(zmb aa (h1 hb) I (Yt I.fz Z (zcc hρ ab))).mono ?_
       rintro v h' ⟨r,γ',g1,g2,g3,g4,g5⟩
       exact⟨_,γ',h2 r (λ_=>g1),g2,g3,g4,g5⟩
      ·exact H.elim
     ·exact H.elim
   ·exact H.elim
  ·exact H.elim
 ·exact H.elim
end
section
variable {P:Program} {t:TypeId} {o:Oper} {d:Nat} {C R:CS} {γ:Gh} {h:Za} {σ:Operand -> Value} {av:AV}
variable {h0 : Za} {W : Nat -> Prop} {M0 : Fr}
def zx0(P:Program)(t:TypeId)(d:Nat)(C R:CS)(K:AV->CS->Option Nat->Prop):Prop:=match zeroOf P t with
 |some z=>bif Qf d R then(bif itB (z.cells.toList.map .v)then False else K (.g (.a (.box d 0))) ((d,.box (z.cells.toList.map .v))::Qi d C) (some d))else False
 |none=>False
theorem zgk(c:Nat):∀l:List Value,znr c (l.map .v)=false
 |[]=>rfl
 |_::l=>by simp only[Cf,znr,zve,cond_false,zgk c l]
theorem zc0(t:TypeId)(v:Value)(B:World)(d:Nat)(h:Za):(newVar t v).run P (mk B d h)=.ok ⟨h.size,0,none⟩ (mk B d (h.push (.cells v.cells t))):=rfl
theorem zx1(ho:o.op=.alloc t){K:AV->CS->Option Nat->Prop}(H:zx0 P t d C R K)(I:Inv h0 W M0 (C++R) γ h):ExA P (execOp σ o) h (zdw h0 W M0 R γ K):=by
 unfold zx0 at H
 split at H
 ·rename_i z hz
  cases hR:Qf d R with
  |false=>rw[hR]at H;exact H.elim
  |true=>
   rw[hR]at H
   cases hit:itB (z.cells.toList.map .v)with
   |true=>rw[hit]at H;exact H.elim
   |false=>
   rw[hit]at H
   intro B e
   refine .inl ⟨.pointer (some ⟨h.size,0,none⟩),e,h.push (.cells z.cells t),?_,_,_,_,zwx γ d h.size,H,?_,?_,zb8 _ _ _⟩
   ·have Z:=zaf hz h B e
    simp only[execOp,ho]
    refine Xn ?_
    unfold Instr.alloc
    rw[Sem.run_bind,Z]
    simp only[Result.andThen_ok]
    rw[Sem.run_bind,zc0]
    rfl
   ·simp only[DenV,DenG,DenA,J9]
   ·have:=I.newBox (c:=d) hR (Wb γ z.cells.toList) (zgk d _) hit t
    simpa using this
 ·exact H.elim
def qc1(t:TypeId)(d:Nat)(l:List AA)(C R:CS)(K:AV->CS->Option Nat->Prop):Prop:=
 bif Qf d R then(bif znr d l then False else(bif itB l then False else K (.g (.a (.box d 0))) ((d,.box l)::Qi d C) (some d)))else False
theorem z6j{x:Operand}(ho:o.op=.box t x){l:List AA}{K:AV->CS->Option Nat->Prop}(H:qc1 t d l C R K)(I:Inv h0 W M0 (C++R) γ h)
  (hl:All2 (DenA γ) l (σ x).cells.toList):ExA P (execOp σ o) h (zdw h0 W M0 R γ K):=by
 unfold qc1 at H
 cases hR:Qf d R with
 |false=>rw[hR]at H;exact H.elim
 |true=>
  rw[hR]at H
  cases hm:znr d l with
  |true=>rw[hm]at H;exact H.elim
  |false=>
   rw[hm]at H
   cases hit:itB l with
   |true=>rw[hit]at H;exact H.elim
   |false=>
   rw[hit]at H
   intro B e
   refine .inl ⟨.pointer (some ⟨h.size,0,none⟩),e,h.push (.cells (σ x).cells t),?_,_,_,_,zwx γ d h.size,H,?_,?_,zb8 _ _ _⟩
   ·simp only[execOp,ho]
    refine Xn ?_
    unfold Instr.box
    rw[Sem.run_bind,zc0]
    rfl
   ·simp only[DenV,DenG,DenA,J9]
   ·have:=I.newBox (c:=d) hR hl hm hit t
    simpa using this
def zx2:AA->Bool
 |.v x=>x.oneCell'
 |_=>true
def zit:List AA->Bool
 |[]=>true
 |x::l=>bif zx2 x then zit l else false
theorem zvn{x:AA}{u:Value}(h:zx2 x=true)(hd:DenA γ x u):u.oneCell'=true:=by
 cases x with
 |v y=>rw[show u=y from hd];exact h
 |d t y=>exact Rd.one (show Rd γ.M t y [u]from hd) u (by simp)
 |box c o=>rw[show u=_ from hd];rfl
 |own c=>rw[show u=_ from hd];rfl
 |oelt c z i o=>obtain⟨g,_,e⟩:=hd;rw[e];rfl
 |elt t y o=>obtain⟨b,f,cs,e,_⟩:=hd;rw[e];rfl
 |dc t xs=>obtain⟨s,e,_⟩:=hd;rw[e];rfl
theorem ziu{γ:Gh}:∀{l:List AA} {us:List Value},zit l=true->All2 (DenA γ) l us->∀u∈us,u.oneCell'=true
 |[],[],_,_,u,hu=>by cases hu
 |[],_::_,_,h,_,_=>h.elim
 |_::_,[],_,h,_,_=>h.elim
 |x::l,v::us,h,hd,u,hu=>by
  simp only[zit]at h
  cases hx:zx2 x with
  |false=>rw[hx]at h;cases h
  |true=>
   rw[hx]at h
   rcases Ay.1 hu with rfl|hu
   ·exact zvn hx hd.1
   ·exact ziu h hd.2 u hu
def zx3(c:Nat):CS->Bool
 |[]=>true
 |(j,_)::l=>bif Nat.beq j c then false else zx3 c l
theorem zc1{c:Nat}:∀{l:CS},zx3 c l=true->∀x∈l,x.1≠c
 |[],_,x,hx=>by cases hx
 |(j,k)::l,h,x,hx=>by
  simp only[zx3]at h
  cases hb:Nat.beq j c with
  |true=>rw[hb]at h;cases h
  |false=>
   rw[hb]at h
   rcases Ay.1 hx with rfl|hx
   ·intro e;simp only at e;subst e;simp at hb
   ·exact zc1 h x hx
theorem zdy{P:Program}{g o:Nat}:∀(vs:List Value) (i:Nat) (w:World),(storeCells ⟨g,o,none⟩ vs i).run P w=(storeCells ⟨g,0,none⟩ vs (o+i)).run P w
 |[],i,w=>rfl
 |v::vs,i,w=>by
  unfold storeCells
  rw[Sem.run_bind,Sem.run_bind,Zq,Zq,AX]
  congr 1
  funext a w'
  exact zdy vs (i+1) w'
theorem za2{n:Nat}(hi:Z6 P t=true)(hs:Qh P t=n){b o:Nat}{cs:Array Value}{T:TypeId}(e:h[b]?=some (.cells cs T (0,0))){v:Value}(hv:v.cells.size=n)(hl:o+n<=cs.size)(h1:∀u∈v.cells.toList,u.oneCell'=true)(B:World)(d:Nat):
  ∃h',(AI t (.pointer (some ⟨b,o,none⟩)) v).run P (mk B d h)=.ok () (mk B d h')/\h'[b]?=some (.cells (cs.toList.take o++v.cells.toList++cs.toList.drop (o+n)).toArray T (0,0))/\h'.size=h.size/\∀j,j≠b->h'[j]?=h[j]?:=by
 obtain⟨h',r1,r2,r3,r4⟩:=X0 (P:=P) B d v.cells.toList (o+0) h cs e (by simp;omega) h1
 refine⟨h',?_,by rw[r2];simp[hv],r3,r4⟩
 have hz:=QExec.sizeOf (P:=P) (h:=h) (Q7 hi).choose_spec B d
 unfold AI DJ
 simp only[Sem.run_bind,Sem.run_pure,Result.andThen_ok]
 unfold storeVar
 rw[Sem.run_bind,hz]
 simp only[Result.andThen_ok]
 rw[hs,hv]
 simp only[ne_eq,not_true_eq_false,if_false]
 rw[zdy]
 exact r1
theorem W6{α:Type}{L vs:List α}{p:Nat}(h:p+vs.length<=L.length)(q:Nat):(L.take p++vs++L.drop (p+vs.length))[q]?=if q<p then L[q]? else if q<p+vs.length then vs[q-p]? else L[q]?:=by
 have h1:(L.take p).length=p:=by simp;omega
 by_cases h2:q<p
 ·rw[if_pos h2,Bo,BE (by omega),AR,if_pos h2]
 ·rw[if_neg h2]
  by_cases h3:q<p+vs.length
  ·rw[if_pos h3,BE (by rw[AF,h1];omega),Bf (by omega),h1]
  ·rw[if_neg h3,Bf (by rw[AF,h1];omega),AY,AF,h1]
   congr 1;omega
theorem RowC.set{M:Fr}{t:Ty}{xs:List (El t)}{cells:List Value}(H:RowC M t xs cells){i:Nat}(hi:i<xs.length){y:El t}{o:Nat}{vs:List Value}(hl:o+vs.length<=sz t)
  (hy:Rd M t y ((((cells.drop (i*sz t)).take (sz t)).take o)++vs++(((cells.drop (i*sz t)).take (sz t)).drop (o+vs.length)))):
  RowC M t (xs.set i y) (cells.take (i*sz t+o)++vs++cells.drop (i*sz t+o+vs.length)):=by
 have aa:(i+1)*sz t<=cells.length:=by rw[H.1];exact AZ _ hi
 rw[Cp,DK]at aa
 have hE:((cells.drop (i*sz t)).take (sz t)).length=sz t:=by rw[Bc,AW];omega
 refine⟨?_,λj hj=>?_⟩
 ·rw[List.length_set,<-H.1]
  simp only[AF,Bc,AW];omega
 ·rw[List.length_set]at hj
  by_cases Z:i=j
  ·subst Z
   rw[List.getElem_set_self]
   have e:(((cells.take (i*sz t+o)++vs++cells.drop (i*sz t+o+vs.length)).drop (i*sz t)).take (sz t))=(((cells.drop (i*sz t)).take (sz t)).take o)++vs++(((cells.drop (i*sz t)).take (sz t)).drop (o+vs.length)):=by
    apply BB
    intro k
    rw[W6 (by rw[hE];exact hl),AR,AR,AY,AY,W6 (by omega)]
    by_cases hk:k<sz t
    ·simp only[hk,if_true]
     by_cases h1:k<o
     ·rw[if_pos (by omega),if_pos h1]
     ·rw[if_neg (by omega),if_neg h1]
      by_cases h2:k<o+vs.length
      ·rw[if_pos (by omega),if_pos h2];congr 1;omega
      ·rw[if_neg (by omega),if_neg h2]
    ·simp only[hk,if_false]
     rw[if_neg (by omega),if_neg (by omega)]
   rw[e];exact hy
  ·rw[List.getElem_set_ne Z]
   have e:(((cells.take (i*sz t+o)++vs++cells.drop (i*sz t+o+vs.length)).drop (j*sz t)).take (sz t))=(cells.drop (j*sz t)).take (sz t):=by
    apply BB
    intro k
    rw[AR,AR,AY,AY,W6 (by omega)]
    by_cases hk:k<sz t
    ·simp only[hk,if_true]
     rcases A1 j i with h1|h1
     ·have:(j+1)*sz t<=i*sz t:=AZ _ h1
      rw[Cp,DK]at this
      rw[if_pos (by omega)]
     ·have h2:i+1<=j:=by omega
      have:(i+1)*sz t<=j*sz t:=AZ _ h2
      rw[Cp,DK]at this
      rw[if_neg (by omega),if_neg (by omega)]
    ·simp only[hk,if_false]
   rw[e];exact H.2 j hj
theorem Inv.setRow{h h':Za}(I:Inv h0 W M0 (C++R) γ h){c:Nat}{e:TypeId}{t:Ty}{xs aa:List (El t)}(hc:(c,Ch.row e t xs)∈C){g:Nat}(hg:(γ.σ c).a.map (·.block)=some g)
  (ho:∀i,i≠g->h'[i]?=h[i]?) (hs:h'.size=h.size) (hd:DenC h0.size γ h' c (.row e t aa)) (hR:∀x∈R,x.1≠c):Inv h0 W M0 ((c,.row e t aa)::zaz c C++R) γ h':=by
 have Z:=I.sep _ (AJ R hc) g hg
 have ab:∀x∈zaz c C++R,blk γ x.1 x.2≠some g:=by
  intro x hx
  have ah:x≠(c,Ch.row e t xs):=by
   rintro rfl
   rcases AP.1 hx with hx|hx
   ·exact(Xv hx).2 rfl
   ·exact hR _ hx rfl
  have ae:x∈C++R:=((Y0 c C).append_right R).subset hx
  have hp:=@zfb _ (λ(x y:Nat×Ch)=>∀b,blk γ x.1 x.2=some b->blk γ y.1 y.2≠some b) (λx y h b hb af=>h b af hb) _ I.apart
  intro hb
  exact hp (AJ R hc) ae (λe=>ah e.symm) _ hg hb
 have hI:Inv h0 W M0 (zaz c C++R) γ h':=by
  refine I.rest ((Y0 c C).append_right R) (c:=none) (Gx.refl _ _) (λx _=>⟨by simp,rfl⟩) (λx hx b hb=>?_) (λb cc eM=>?_) (λi hi hw=>?_) (by omega) (λb hb=>rfl)
  ·exact⟨ho b λe'=>ab x hx (e' ▸ hb),(I.sep x (((Y0 c C).append_right R).subset hx) b hb).2⟩
  ·obtain⟨T',m,e'⟩:=I.ag b cc eM
   exact⟨T',m,by rw[ho b λe2=>by rw[e2,Z.2]at eM;cases eM];exact e'⟩
  ·refine ho i λe'=>?_
   have h2:=Z.1
   rcases h2 with h1|h1
   ·omega
   ·rw[e']at hw;exact hw h1
 refine hI.cons hd (λb hb=>?_) (λb hb x hx=>?_)
 ·simp only[blk,hg,As]at hb;subst hb;exact Z
 ·simp only[blk,hg,As]at hb;subst hb;exact ab x hx
def zx4(P:Program)(t:TypeId)(aa:AA)(l2:List AA)(C R:CS)(K:AV->CS->Option Nat->Prop):Prop:=
 bif Z6 P t then(bif Nat.beq l2.length (Qh P t)then(bif zit l2 then(match aa with
 |.box c o=>match Xe C c with
  |some (.box l)=>bif zx3 c R then(bif (bif itB l then true else itB (l.take o++l2++l.drop (o+l2.length)))then False else(bif Nat.ble (o+l2.length) l.length then K (zvh undef) ((c,.box (l.take o++l2++l.drop (o+l2.length)))::zaz c C) none else False))else False
  |_=>False
 |.oelt c z i o=>match Xe (frzL (zvl l2) C) c with
  |some (.row e ty xs)=>bif zx3 c R then(bif Nat.beq z (sz ty)then(bif Nat.ble (o+l2.length) (sz ty)then ∃y:El ty,xs[i]?=some y/\(match collect (frzL (zvl l2) C++R) ty ((zaa ty y).take o++l2++(zaa ty y).drop (o+l2.length))with
   |some (y',[])=>K (zvh undef) ((c,.row e ty (xs.set i y'))::zaz c (frzL (zvl l2) C)) none
   |_=>False)else False)else False)else False
  |_=>False
 |_=>False)else False)else False)else False
theorem zx5{a x:Operand}(ho:o.op=.store t a x){aa:AA}{l2:List AA}{K:AV->CS->Option Nat->Prop}(H:zx4 P t aa l2 C R K)(I:Inv h0 W M0 (C++R) γ h)
  (hl:All2 (DenA γ) l2 (σ x).cells.toList) (ha:DenA γ aa (σ a)):ExA P (execOp σ o) h (zdw h0 W M0 R γ K):=by
 unfold zx4 at H
 cases hi:Z6 P t with
 |false=>rw[hi]at H;exact H.elim
 |true=>
  rw[hi]at H
  cases hn:Nat.beq l2.length (Qh P t)with
  |false=>rw[hn]at H;exact H.elim
  |true=>
   rw[hn]at H
   cases hok:zit l2 with
   |false=>rw[hok]at H;exact H.elim
   |true=>
    rw[hok]at H
    have aC:l2.length=Qh P t:=Az hn
    have ah:(σ x).cells.size=Qh P t:=by rw[<-aC,hl.length];simp
    have h1:=ziu hok hl
    simp only[cond_true]at H
    split at H
    ·rename_i c off
     split at H
     ·rename_i l hc
      cases hR:zx3 c R with
      |false=>rw[hR]at H;exact H.elim
      |true=>
       rw[hR]at H
       cases hit:itB l with
       |true=>rw[hit]at H;exact H.elim
       |false=>
       rw[hit]at H
       cases hit2:itB (l.take off++l2++l.drop (off+l2.length))with
       |true=>rw[hit2]at H;exact H.elim
       |false=>
       rw[hit2]at H
       simp only[cond_true,cond_false]at H
       cases hble:Nat.ble (off+l2.length) l.length with
       |false=>rw[hble]at H;exact H.elim
       |true=>
        rw[hble]at H
        have aG:=Cd hble
        obtain⟨us,e,h2⟩:=I.den _ (AJ R (Zu hc))
        rcases e with⟨⟨T,e⟩,_⟩|⟨s,p,e,_⟩
        case inr=>exact absurd e (zs3 hit h2 s p)
        have aU:=h2.length
        intro B d
        obtain⟨h',r1,r2,r3,r4⟩:=za2 (P:=P) hi rfl e (o:=off) ah (by simp;omega) h1 B d
        refine .inr (.inl ⟨d,h',?_,_,_,_,γ,H,zac _ _,?_,Gx.refl _ _⟩)
        ·simp only[execOp,ho]
         rw[show σ a=_ from ha]
         exact zu3 r1
        ·refine I.setBox (Zu hc) (us:=us.take off++(σ x).cells.toList++us.drop (off+l2.length)) (.inl ⟨⟨T,?_⟩,λs p=>zs3 hit2 (((h2.take off).append hl).append (h2.drop _)) s p⟩) r4 r3 ?_ (zc1 hR)
         ·rw[r2,aC]
         ·exact((h2.take off).append hl).append (h2.drop _)
     ·exact H.elim
    ·rename_i c z i off
     split at H
     ·rename_i e ty xs hc
      cases hR:zx3 c R with
      |false=>rw[hR]at H;exact H.elim
      |true=>
       rw[hR]at H
       cases hz:Nat.beq z (sz ty)with
       |false=>rw[hz]at H;exact H.elim
       |true=>
        rw[hz]at H
        cases hble:Nat.ble (off+l2.length) (sz ty)with
        |false=>rw[hble]at H;exact H.elim
        |true=>
         rw[hble]at H
         simp only[cond_true]at H
         obtain⟨y,hy,H⟩:=H
         split at H
         ·rename_i y' aE
          have aG:=Cd hble
          obtain⟨γ1,I1,g1⟩:=Inv.frzL (C:=C) (γ:=γ) (zvl l2) I
          have aA:=ha.gx g1 rfl
          have aS:=DenL.gx (c:=none) g1 rfl hl
          rw[Az hz]at aA
          obtain⟨g,hg,aO⟩:=aA
          have aj:=Zu hc
          obtain⟨cells,ai,ae,ab,Z⟩:=I1.den _ (AJ R aj)
          simp only at ai ae ab Z
          have am:i<xs.length:=(AQ.1 hy).1
          have aM:xs[i]=y:=(AQ.1 hy).2
          rcases ai.2 with⟨hv,aT⟩|⟨g',cap,au,hv,aL,aN,aQ,aB,ar,ap⟩
          ·omega
          simp only[A4]at hv
          have aJ:g'=g:=by
           have:=hv.1;rw[hg]at this;simp only[As,Addr.mk.injEq]at this;exact this.1.symm
          subst aJ
          have af:cells.length=xs.length*sz ty:=ae.1
          have aF:(i+1)*sz ty<=xs.length*sz ty:=AZ _ am
          rw[Cp,DK]at aF
          have aI:xs.length*sz ty<=cap*sz ty:=AZ _ (by omega)
          have an:(σ x).cells.toList.length=l2.length:=hl.length.symm
          intro B d
          obtain⟨h',r1,r2,r3,r4⟩:=za2 (P:=P) hi rfl aN (o:=i*sz ty+off) ah (by rw[ar];omega) h1 B d
          refine .inr (.inl ⟨d,h',?_,_,_,_,γ1,H,zac _ _,?_,g1⟩)
          ·simp only[execOp,ho]
           rw[aO]
           exact zu3 r1
          ·refine I1.setRow aj (g:=g') (by rw[hg];rfl) r4 r3 ?_ (zc1 hR)
           have hE:=ae.2 i am
           rw[aM]at hE
           have ay:=Ja (γ:=γ1) hE
           have aH:=((ay.take off).append aS).append (ay.drop (off+l2.length))
           obtain⟨c1,c2,e1,r5,r6⟩:=zab I1.fz aE aH
           cases c2 with
           |cons _ _=>exact r6.elim
           |nil=>
            rw[Bu]at e1
            rw[<-e1]at r5
            have ak:=ae.set am (o:=off) (vs:=(σ x).cells.toList) (by rw[an];exact aG) (by rw[an];exact r5)
            refine⟨_,⟨?_,.inr ⟨g',cap,_,by simp[hv],aL,r2,aQ,aB,?_,?_⟩⟩,ak,by simpa using ab,by simpa using Z⟩
            ·rw[ak.1,Z,List.length_set]
            ·simp only[List.size_toArray,AF,Bc,AW,CP]
             have:(σ x).cells.toList.length=Qh P t:=by simpa using ah
             simp only[CP]at this
             rw[this,ar];omega
            ·apply BB
             intro k
             have az:(σ x).cells.toList.length=Qh P t:=by simpa using ah
             rw[AR,<-az]
             simp only
             rw[W6 (L:=cells) (by rw[af];omega)]
             have aP:cells=au.toList.take (xs.length*sz ty):=by rw[<-ap,Z]
             rw[W6 (L:=au.toList) (by simp only[CP];rw[ar];simp only[CP]at an;omega),aP,Z]
             by_cases hk:k<xs.length*sz ty
             ·rw[if_pos hk,AR,if_pos hk]
             ·rw[if_neg hk,AR,if_neg hk]
              rw[if_neg (by omega),if_neg (by omega)]
         ·exact H.elim
     ·exact H.elim
    ·exact H.elim
def nxB(s:Bt)(p:Nat):Bool:=Nat.blt p s.size
def nxP(s:Bt)(p:Nat):Nat:=bif Nat.blt p s.size then p+(Es s p).2 else p
def nxR(s:Bt)(p:Nat):Int:=((Es s p).1:Int)
def zx6(P:Program)(t:TypeId)(av:AV)(d:Nat)(C R:CS)(K:AV->CS->Option Nat->Prop):Prop:=match av,P.underlying t with
 |.g (.a (.v (.string s))),some .string=>bif Qf d R then K (.g (.a (.box d 0))) ((d,.box [.d .iter (s,0)])::Qi d C) (some d)else False
 |_,_=>False
theorem zx7{x:Operand}(ho:o.op=.range t x){K:AV->CS->Option Nat->Prop}(H:zx6 P t av d C R K)(I:Inv h0 W M0 (C++R) γ h)
  (hd:DenV γ av (σ x)):ExA P (execOp σ o) h (zdw h0 W M0 R γ K):=by
 unfold zx6 at H
 split at H
 ·rename_i s hu
  cases hR:Qf d R with
  |false=>rw[hR]at H;exact H.elim
  |true=>
   rw[hR]at H
   intro B e
   refine .inl ⟨.pointer (some ⟨h.size,0,none⟩),e,h.push (.stringIter s 0),?_,_,_,_,zwx γ d h.size,H,?_,?_,zb8 _ _ _⟩
   ·simp only[execOp,ho,show σ x=.string s from hd]
    refine Xn ?_
    have hq:=QExec.underlying (h:=h) hu B e
    unfold Instr.range
    rw[Sem.run_bind,hq]
    rfl
   ·simp only[DenV,DenG,DenA,J9]
   ·exact Inv.newBoxO (c:=d) I hR (l:=[.d .iter (s,0)]) (us:=[Jx s 0]) ⟨rfl,trivial⟩ rfl (.inr ⟨s,0,rfl,rfl⟩)
 ·exact H.elim
def z6k(av:AV)(C R:CS)(K:AV->CS->Option Nat->Prop):Prop:=match av with
 |.g (.a (.box c 0))=>match Xe C c with
  |some (.box [.d .iter x])=>bif zx3 c R then K (.nx (nxB x.1 x.2) (x.2:Int) (nxR x.1 x.2)) ((c,.box [.d .iter (x.1,nxP x.1 x.2)])::zaz c C) none else False
  |_=>False
 |_=>False
theorem z1z{x:Operand}(ho:o.op=.next x true){K:AV->CS->Option Nat->Prop}(H:z6k av C R K)(I:Inv h0 W M0 (C++R) γ h)
  (hd:DenV γ av (σ x)):ExA P (execOp σ o) h (zdw h0 W M0 R γ K):=by
 unfold z6k at H
 split at H
 ·rename_i c
  split at H
  ·rename_i y hc
   cases hR:zx3 c R with
   |false=>rw[hR]at H;exact H.elim
   |true=>
    rw[hR]at H
    simp only[cond_true]at H
    obtain⟨us,ob,h2⟩:=I.den _ (AJ R (Zu hc))
    have aa:us=[Jx y.1 y.2]:=by
     match us,h2 with
     |[u],h2=>
      have h3:Rd γ.M .iter y [u]:=h2.1
      simpa[Rd]using h3
    subst aa
    have Z:h[γ.β c]?=some (.stringIter y.1 y.2):=by
     rcases ob with⟨_,e⟩|⟨s,p,e1,e2⟩
     ·exact absurd rfl (e _ _)
     ·have e3:y.1=s/\y.2=p:=by
       simp only[Jx,Ca,Value.iface.injEq,Value.agg.injEq,Array.mk.injEq,Value.string.injEq,Value.int.injEq,and_true,true_and]at e1
       exact⟨e1.1,by omega⟩
      rw[e2,e3.1,e3.2]
    have ab:γ.β c<h.size:=(Au.1 Z).1
    intro B d
    have hg:∀(w:World),w.heap[γ.β c]?=some (.stringIter y.1 y.2)->(getObj (γ.β c)).run P w=.ok (.stringIter y.1 y.2) w:=λw e=>by simp[getObj,Sem.run,e]
    have hs:∀(w:World) (o':Obj),w.heap[γ.β c]?=some (.stringIter y.1 y.2)->(setObj (γ.β c) o').run P w=.ok () { w with heap:=w.heap.setIfInBounds (γ.β c) o' }:=λw o' e=>by simp[setObj,Sem.run,e]
    have hx:σ x=.pointer (some ⟨γ.β c,0,none⟩):=hd
    by_cases hb:y.2<y.1.size
    ·have eb:nxB y.1 y.2=true:=by simpa[nxB,CC]using hb
     have ep:nxP y.1 y.2=y.2+(Es y.1 y.2).2:=by unfold nxP;rw[show Nat.blt y.2 y.1.size=true from eb];rfl
     refine .inl ⟨.tuple #[.bool true,.int .i64 y.2,.int .i32 (nxR y.1 y.2)],d,h.setIfInBounds (γ.β c) (.stringIter y.1 (nxP y.1 y.2)),?_,_,_,_,γ,H,⟨λ_=>rfl,λhc=>by rw[eb]at hc;cases hc⟩,?_,Gx.refl _ _⟩
     ·simp only[execOp,ho,hx]
      refine Xn ?_
      unfold Ea
      simp only
      rw[Sem.run_bind,hg _ Z]
      simp only[Result.andThen_ok,hb,if_true]
      rw[Sem.run_bind,hs _ _ Z,ep]
      rfl
     ·refine I.setBox (Zu hc) (us:=[Jx y.1 (nxP y.1 y.2)]) (.inr ⟨_,_,rfl,by simp[ab]⟩) (λi hi=>by simp[A3 (Ne.symm hi)]) (by simp) ⟨rfl,trivial⟩ (zc1 hR)
    ·have eb:nxB y.1 y.2=false:=by
      cases h:nxB y.1 y.2 with
      |false=>rfl
      |true=>exact absurd (by simpa[nxB,CC]using h) hb
     have ep:nxP y.1 y.2=y.2:=by unfold nxP;rw[show Nat.blt y.2 y.1.size=false from eb];rfl
     refine .inl ⟨.tuple #[.bool false],d,h,?_,_,_,_,γ,H,⟨λhc=>(by rw[eb]at hc;cases hc),λ_=>rfl⟩,?_,Gx.refl _ _⟩
     ·simp only[execOp,ho,hx]
      refine Xn ?_
      unfold Ea
      simp only
      rw[Sem.run_bind,hg _ Z]
      simp only[Result.andThen_ok,hb,if_false]
      rfl
     ·refine I.setBox (Zu hc) (us:=[Jx y.1 (nxP y.1 y.2)]) (.inr ⟨_,_,rfl,by rw[ep];exact Z⟩) (λi hi=>rfl) rfl ⟨rfl,trivial⟩ (zc1 hR)
  ·exact H.elim
 ·exact H.elim
end
section
variable {P:Program} {tr t tx e ty:TypeId} {n d m b:Nat} {C R:CS} {γ:Gh} {h:Za} {s:Sl} {z x u:Value} {xs news:List Value}
variable {h0 : Za} {W : Nat -> Prop} {M0 : Fr}
def za3(cs:CS)(t:Ty):Nat->List AA->Option (List (El t)×List AA)
 |0,l=>some ([],l)
 |n+1,l=>match collect cs t l with
  |some (y,l')=>match za3 cs t n l' with
   |some (ys,l'')=>some (y::ys,l'')
   |none=>none
  |none=>none
theorem zdz{γ:Gh}{cs:CS}(hf:z09 γ cs){t:Ty}:∀{n:Nat} {l l':List AA} {ys:List (El t)},za3 cs t n l=some (ys,l')->∀{us:List Value},All2 (DenA γ) l us->∃c1 c2,us=c1++c2/\RowC γ.M t ys c1/\ys.length=n/\All2 (DenA γ) l' c2
 |0,l,l',ys,h,us,hu=>by
  simp only[za3,As,Bn]at h
  obtain⟨rfl,rfl⟩:=h
  exact⟨[],us,rfl,RowC.nil _ _,rfl,hu⟩
 |n+1,l,l',ys,h,us,hu=>by
  simp only[za3]at h
  split at h
  ·rename_i y l1 h1
   split at h
   ·rename_i Z l2 h2
    simp only[As,Bn]at h
    obtain⟨rfl,rfl⟩:=h
    obtain⟨c1,c2,rfl,r1,r2⟩:=zab hf h1 hu
    obtain⟨c3,c4,rfl,r3,r4,r5⟩:=zdz hf h2 r2
    exact⟨c1++c3,c4,by simp,by simpa using (RowC.single r1).append r3,by simp[r4],r5⟩
   ·cases h
  ·cases h
def zgl(P:Program)(el:TypeId)(k:Nat):Option (List Value):=bif Nat.beq k 0 then some []else(match zeroOf P el with
 |some z=>some ((Et k).map (z.cells[· % z.cells.size]!)).toList
 |none=>none)
def qae:List (Nat×AV)->List AV
 |[]=>[]
 |(_,v)::l=>v::qae l
def za4(P:Program)(tr:TypeId)(t:TypeId)(n:Nat)(ps:List (Nat×AV))(d:Nat)(C R:CS)(K:AV->CS->Option Nat->Prop):Prop:=
 match z1u P t with
 |some el=>match z4n P tr 8 el,zgl P el (n*Qh P el)with
  |some ty,some zs=>bif Nat.beq (Qh P el) (sz ty)then(bif Nat.ble (n*Qh P el) 16777216 then(bif Nat.blt 0 (Qh P el)then(bif Qf d R then(match zoi (λi=>some (i*Qh P el,Qh P el)) (zs.map .v) ps with
   |some r=>match za3 (frzL (zbn (qae ps)) C++R) ty n r with
    |some (ys,[])=>K (.g (.a (.own d))) ((d,.row el ty ys)::Qi d (frzL (zbn (qae ps)) C)) (some d)
    |_=>False
   |none=>False)else False)else False)else False)else False
  |_,_=>False
 |none=>False
theorem zdf{Z:Array (Nat×Operand)}{o:Oper}(ho:o.op=.buildSlice t n Z){ps:List (Nat×AV)}{ρ:Operand->Option AV}(ap:zff ρ Z.toList=some ps){K:AV->CS->Option Nat->Prop}
  (H:za4 P tr t n ps d C R K) {σ:Operand->Value} (I:Inv h0 W M0 (C++R) γ h) (hρ:∀x av,ρ x=some av->DenV γ av (σ x)):ExA P (execOp σ o) h (zdw h0 W M0 R γ K):=by
 unfold za4 at H
 split at H
 ·rename_i el ai
  obtain⟨hu,ak⟩:=zad ai
  split at H
  ·rename_i ty zs ay aa
   cases hz:Nat.beq (Qh P el) (sz ty)with
   |false=>rw[hz]at H;exact H.elim
   |true=>
   rw[hz]at H
   cases hb1:Nat.ble (n*Qh P el) 16777216 with
   |false=>rw[hb1]at H;exact H.elim
   |true=>
   rw[hb1]at H
   cases hb2:Nat.blt 0 (Qh P el)with
   |false=>rw[hb2]at H;exact H.elim
   |true=>
   rw[hb2]at H
   cases hR:Qf d R with
   |false=>rw[hR]at H;exact H.elim
   |true=>
   rw[hR]at H
   simp only[cond_true]at H
   split at H
   ·rename_i r hr
    split at H
    ·rename_i ys an
     obtain⟨γ1,I1,g1⟩:=Inv.frzL (C:=C) (γ:=γ) (zbn (qae ps)) I
     have am:∀x av,ρ x=some av->DenV γ1 av (σ x):=λx av hx=>(hρ x av hx).gx g1 rfl
     obtain⟨ws,e1,e2⟩:=za1 hr (Wb γ1 zs) (zcz am ap)
     obtain⟨c1,c2,rfl,r3,r4,r5⟩:=zdz I1.fz an e2
     cases c2 with
     |cons _ _=>exact r5.elim
     |nil=>
     rw[Bu]at *
     have ab:=Az hz
     have af:0<Qh P el:=by simpa[CC]using hb2
     have au:n*Qh P el<=16777216:=Cd hb1
     have hn:n<=n*Qh P el:=Nat.le_mul_of_pos_right _ af
     have ah:c1.length=n*Qh P el:=by rw[r3.1,r4,ab]
     intro B e
     refine .inl ⟨.slice (some ⟨h.size,0,none⟩) n n,e,h.push (.cells c1.toArray el),?_,_,_,_,zq5 γ1 d ⟨some ⟨h.size,0,none⟩,n,n⟩,H,?_,?_,?_⟩
     ·have hq:=QExec.underlying (h:=h) hu B e
      have hs:=QExec.sizeOf (P:=P) (h:=h) (Q7 ak).choose_spec B e
      have e5:(Z.map λx=>(x.1,σ x.2)).toList=Z.toList.map λx=>(x.1,σ x.2):=by rw[Dc]
      have e6:Eu (λi=>some (i*Qh P el,Qh P el)) zs.toArray (Z.map λx=>(x.1,σ x.2)).toList=some c1.toArray:=by rw[e5];exact e1
      simp only[execOp,ho]
      refine Xn ?_
      unfold Instr.buildSlice
      rw[Sem.run_bind,hq]
      simp only[Result.andThen_ok]
      rw[Sem.run_bind,hs]
      simp only[Result.andThen_ok]
      rw[if_neg (by omega)]
      unfold zgl at aa
      by_cases ae:n*Qh P el=0
      ·rw[if_pos ae]
       rw[ae]at aa ⊢
       simp at aa
       subst aa
       simp only[Sem.run_bind,Sem.run_pure,Result.andThen_ok]
       have e7:Array.map (λx=>(#[]:Array Value)[x % (#[]:Array Value).size]!) (Et 0)=([]:List Value).toArray:=by simp
       rw[e7,e6]
       rfl
      ·rw[if_neg ae]
       have hb:Nat.beq (n*Qh P el) 0=false:=by
        cases hh:Nat.beq (n*Qh P el) 0 with
        |false=>rfl
        |true=>exact absurd (Az hh) ae
       rw[hb]at aa
       simp only[cond_false]at aa
       split at aa
       ·rename_i z ar
        have aj:=zaf ar h B e
        simp only[As]at aa
        rw[Sem.run_bind,aj]
        simp only[Result.andThen_ok,Sem.run_bind,Sem.run_pure]
        have e7:Array.map (λx=>z.cells[x % z.cells.size]!) (Et (n*Qh P el))=zs.toArray:=by
         rw[<-aa]
        rw[e7,e6]
        rfl
       ·cases aa
     ·simp only[DenV,DenG,DenA,Ql];rfl
     ·refine I1.newRow hR (by simp) (p:=none) (λi hi _=>by rw[Cq,if_neg (by omega)]) (λb hb=>by cases hb) (cells:=c1) ⟨by rw[ah,<-ab],.inr ⟨h.size,n,c1.toArray,rfl,I.size,Jh _ _,Av _,by unfold maxLen;omega,by rw[<-ab];simpa using ah,?_⟩⟩ (λq hq=>.inr (by cases hq;rfl)) r3 (by omega) r4.symm
      rw[Cv]
      rw[<-ab];simp;omega
     ·exact⟨g1.1,λi hi=>⟨((Wl γ1 d _).2 i hi).1.trans (g1.2 i (by simp)).1,((Wl γ1 d _).2 i hi).2.trans (g1.2 i (by simp)).2⟩⟩
    ·exact H.elim
   ·exact H.elim
  ·exact H.elim
 ·exact H.elim
theorem Xg{n sz:Nat}{cells:List Value}(ha:Arr n h s.a cells)(hl:cells.length=s.len*sz)(Z:0<sz)(B:World)(d:Nat):
  (CZ sz s.len (.slice s.a s.len s.cap)).run P (mk B d h)=.ok cells.toArray (mk B d h):=by
 rcases ha with rfl|⟨b,o,e,_,hc⟩
 ·have h0:s.len=0:=by
   rcases Dx s.len with h0|h0
   ·exact h0
   ·have:=Nat.mul_pos h0 Z;simp at hl;omega
  rw[h0]
  cases s.a with
  |none=>simp[CZ]
  |some p=>simp[CZ,loadCells,loadCellsFrom]
 ·rw[e]
  exact run_firstCells_some (mk B d h) sz s.len ⟨b,o,none⟩ s.len s.cap cells hl λj u hu=>by rw[Zq];exact hc j u hu
theorem zon{n sz:Nat}{cells:List Value}(ha:Arr n h s.a cells)(hl:cells.length=s.len*sz)(Z:0<sz)(h1:∀u∈cells,u.oneCell'=true){tx e':TypeId}(hk:P.underlying tx=some (.slice e'))(B:World)(d:Nat):
  Src P sz tx (slV s) s.len cells (mk B d h):=
 ⟨.inl ⟨e',hk⟩,λ_=>rfl,Xg ha hl Z B d,Xg ha hl Z B (d+1),hl,h1⟩
theorem zoo{g o:Nat}{Z:Array Value}{T:TypeId}(hg:h[g]?=some (.cells Z T (0,0))){vs:List Value}(hl:o+vs.length<=Z.size)(h1:∀u∈vs,u.oneCell'=true)(B:World)(d:Nat):
  ∃h',(storeCells ⟨g,o,none⟩ vs 0).run P (mk B d h)=.ok () (mk B d h')/\h'[g]?=some (.cells (Z.toList.take o++vs++Z.toList.drop (o+vs.length)).toArray T (0,0))/\h'.size=h.size/\∀j,j≠g->h'[j]?=h[j]?:=by
 obtain⟨h',r1,r2,r3,r4⟩:=X0 (P:=P) B d vs (o+0) h Z hg (by omega) h1
 exact⟨h',by rw[zdy];exact r1,r2,r3,r4⟩
theorem za5{sz bytes:Nat}(T:ElemT P t e z sz bytes){base:Nat}(ab:xs.length=s.len*sz)(ae:∀B d,(CZ sz s.len (slV s)).run P (mk B d h)=.ok xs.toArray (mk B d h))(hs:∀B d,Src P sz tx x m news (mk B d h))(Z:(s.len+m)*bytes<=140737488355328)(am:s.len+m<=140737488355328)(ak:base<=h.size)(hg:s.cap<s.len+m)(B:World)(d:Nat):
  ∃c blk,(AU #[t,tx] ty #[slV s,x]).run P (mk B d h)=.ok (.slice (some ⟨h.size,0,none⟩) (s.len+m) c) (mk B (d+1) (h.push (.cells blk e)))/\s.len+m<=c/\c<=maxLen/\blk.size=c*sz/\blk.toList.take ((s.len+m)*sz)=xs++news:=by
 obtain⟨i,hi,hz,ah,af⟩:=T.info
 subst ah
 subst af
 have hS:=hs B d
 have aa:=hS.newsLen
 have hr:=run_append_grow_src (P:=P) (mk B d h) t tx ty e i z T.slice hi hz s.a s.len s.cap xs (ae B (d+1)) x m news hS hg (by omega) (growslice_fits (by omega) Z)
 have aj:=grownCap_ge (mk B d h) (s.len+m) s.cap e
 have ai:=grownCap_le_maxLen (mk B d h) (s.len+m) s.cap e (by unfold maxLen;omega)
 generalize grownCap (mk B d h) (s.len+m) s.cap e=c at *
 refine⟨c,_,hr,aj,ai,?_,?_⟩
 ·simp only[Array.size_append,List.size_toArray,size_zeroCells,AF,T.zero,ab,aa,<-Cp]
  congr 1
  omega
 ·simp only[Array.toList_append]
  have:(xs++news).length=(s.len+m)*i.size:=by rw[AF,ab,aa,Cp]
  rw[<-this]
  exact Dn
theorem Xh{sz bytes:Nat}(T:ElemT P t e z sz bytes){h h':Za}{B:World}(hS:Src P sz tx x m news (mk B d h))(Z:s.len+m<=s.cap)
  (ab:∀p,s.a=some p->(storeCells (p.add (s.len*sz)) news 0).run P (mk B d h)=.ok () (mk B d h')) (aa:s.a=none->h'=h):(AU #[t,tx] ty #[slV s,x]).run P (mk B d h)=.ok (.slice s.a (s.len+m) s.cap) (mk B d h'):=by
 obtain⟨i,hi,hz,ae,af⟩:=T.info
 subst ae
 have ht:=T.slice
 unfold slV
 rcases hS.kind with⟨e',hk⟩|hk
 ·cases ha:s.a with
  |none=>rw[aa ha];simp[AU,run_underlying ht,run_underlying hk,sizeOf,typeInfo,hi,hS.len,Z,hS.cells]
  |some p=>simp[AU,run_underlying ht,run_underlying hk,sizeOf,typeInfo,hi,hS.len,Z,hS.cells,ab p ha]
 ·cases ha:s.a with
  |none=>rw[aa ha];simp[AU,run_underlying ht,run_underlying hk,sizeOf,typeInfo,hi,hS.len,Z,hS.cells]
  |some p=>simp[AU,run_underlying ht,run_underlying hk,sizeOf,typeInfo,hi,hS.len,Z,hS.cells,ab p ha]
theorem zgm{sz bytes:Nat}(T:ElemT P t e z sz bytes){base:Nat}(H:Owns h base e sz s xs)(hs:∀B d,Src P sz tx x m news (mk B d h))
  (ah:(s.len+m)*bytes<=140737488355328) (am:s.len+m<=140737488355328) (ab:base<=h.size) {K:Value->Za->Prop}
  (hK:∀(s':Sl) (h':Za),s'.len=s.len+m->Owns h' base e sz s' (xs++news)->(∀i,i<h.size->(∀p,s.a=some p->i≠p.block)->h'[i]?=h[i]?)->h.size<=h'.size->(∀p',s'.a=some p'->(∃p,s.a=some p/\p'.block=p.block)\/p'.block=h.size)->K (slV s') h'):
  XRun P (AU #[t,tx] ty #[slV s,x]) h K:=by
 intro B d
 have hS:=hs B d
 have ae:=hS.newsLen
 have aa:=H.1
 have aj:=H.arr
 by_cases af:s.len+m<=s.cap
 ·rcases H.2 with⟨hv,aG⟩|⟨g,cap,an,hv,ar,hg,aF,aA,ak,ai⟩
  ·simp only[A4]at hv
   obtain⟨e1,e2,e3⟩:=hv
   have hm:m=0:=by omega
   subst hm
   have hn:news=[]:=Bb (by simpa using ae)
   subst hn
   have hr:=Xh (P:=P) (ty:=ty) T (s:=s) (h':=h) hS af (λp hp=>by rw[e1]at hp;cases hp) (λ_=>rfl)
   refine⟨_,d,h,hr,hK ⟨s.a,s.len+0,s.cap⟩ h rfl ?_ (λ_ _ _=>rfl) (Av _) (λp' Z=>by rw[show s.a=none from e1]at Z;cases Z)⟩
   rw[Bu]
   exact H
  ·simp only[A4]at hv
   obtain⟨e1,_,e3⟩:=hv
   have ay:h[g]?=some (.cells an e (0,0)):=hg
   have ap:(s.len+m)*sz<=cap*sz:=AZ _ (by omega)
   rw[Cp]at ap
   obtain⟨h',r1,r2,r3,r4⟩:=zoo (P:=P) ay (o:=s.len*sz) (vs:=news) (by rw[ak];omega) hS.one B d
   have hr:=Xh (P:=P) (ty:=ty) T (s:=s) (h':=h') hS af (λp hp=>by
    rw[e1]at hp;cases hp;rw[Zq,AX];exact r1) (λhn=>by rw[e1]at hn;cases hn)
   refine⟨_,d,h',hr,hK ⟨s.a,s.len+m,s.cap⟩ h' rfl ⟨?_,.inr ⟨g,cap,_,?_,ar,r2,(by show s.len+m<=cap;omega),aA,?_,?_⟩⟩ (λi hi aC=>r4 i λe'=>aC _ e1 e') (by omega) (λp' Z=>.inl ⟨p',Z,rfl⟩)⟩
   ·rw[AF,aa,ae,Cp]
   ·simp[e1,e3]
   ·simp only[List.size_toArray,AF,Bc,AW,CP]
    rw[ae,ak]at *;omega
   ·simp only
    rw[ai]
    have:(xs++news).length=(s.len+m)*sz:=by rw[AF,aa,ae,Cp]
    rw[<-this]
    exact Dn
 ·obtain⟨c,blk,hr,az,aE,aB,au⟩:=za5 (P:=P) (ty:=ty) (base:=base) T aa (λB d=>Xg aj aa T.pos B d) hs ah am ab (by omega) B d
  refine⟨_,d+1,_,hr,hK ⟨some ⟨h.size,0,none⟩,s.len+m,c⟩ _ rfl ⟨?_,.inr ⟨h.size,c,blk,rfl,ab,Jh _ _,az,aE,aB,au⟩⟩ (λi hi _=>by rw[Cq,if_neg (by omega)]) (by simp) (λp' Z=>.inr (by cases Z;rfl))⟩
  rw[AF,aa,ae,Cp]
def zfi(s:Bt):List Int:=s.data.toList.map λb=>(b.toNat:Int)
def z4o:(ty:Ty)->Bt->Option (List (El ty))
 |.int .u8,s=>some (zfi s)
 |_,_=>none
def z6l(P:Program)(cs:CS)(tx:TypeId)(ty:Ty):AV->Option (List (El ty))
 |.g (.a (.v (.string s)))=>match P.underlying tx with
  |some .string=>z4o ty s
  |_=>none
 |.g (.a (.v (.slice none 0 0)))=>match P.underlying tx with
  |some (.slice _)=>some []
  |_=>none
 |.g (.a aa)=>match P.underlying tx with
  |some (.slice _)=>match rowOf cs aa with
   |some r=>Wk (.row r.1) (.row ty) r.2
   |none=>match aa with
    |.own c=>match Xe cs c with
     |some (.row _ t xs)=>Wk (.row t) (.row ty) xs
     |_=>none
    |_=>none
  |_=>none
 |_=>none
theorem RowC.bytes(M:Fr)(s:Bt):RowC M (.int .u8) (zfi s) (byteCells s):=by
 have hl:(byteCells s).length=(zfi s).length:=by unfold byteCells zfi;simp
 refine⟨by rw[hl];simp[sz],λi hi=>?_⟩
 have Z:i<(byteCells s).length:=by rw[hl];exact hi
 have e:(byteCells s)[i]=.int .u8 (zfi s)[i]:=by simp only[byteCells,zfi,List.getElem_map]
 have e2:((byteCells s).drop (i*1)).take 1=[(byteCells s)[i]]:=by
  rw[C5,A9 Z];rfl
 show((byteCells s).drop (i*1)).take 1=[.int .u8 (zfi s)[i]]
 rw[e2,e]
theorem Xi{t t':Ty}{xs:List (El t)}{ys:List (El t')}(h:Wk (.row t) (.row t') xs=some ys):∃e:t=t',ys=e ▸ xs:=by
 unfold Wk at h
 split at h
 ·rename_i e
  have e':t=t':=by injection e
  subst e'
  simp only[As]at h
  exact⟨rfl,h.symm⟩
 ·cases h
theorem zs9{cs:CS}(I:Inv h0 W M0 cs γ h){ty:Ty}{av:AV}{ys:List (El ty)}(hs:z6l P cs tx ty av=some ys)(ae:0<sz ty)(hd:DenV γ av u):
  ∃news,RowC γ.M ty ys news/\∀B d,Src P (sz ty) tx u ys.length news (mk B d h):=by
 have row:∀{t:Ty} {xs:List (El t)} {n:Nat} {s:Sl} {cells:List Value} {e':TypeId},Wk (.row t) (.row ty) xs=some ys->P.underlying tx=some (.slice e')->u=slV s->s.len=xs.length->RowC γ.M t xs cells->Arr n h s.a cells ->
   ∃news,RowC γ.M ty ys news/\∀B d,Src P (sz ty) tx u ys.length news (mk B d h):=by
  intro t xs n s cells e' hc hu e hl hr ha
  obtain⟨e1,e2⟩:=Xi hc
  subst e1
  simp only at e2
  subst e2
  refine⟨cells,hr,λB d=>?_⟩
  rw[e,<-hl]
  exact zon ha (by rw[hl];exact hr.1) ae hr.one hu B d
 unfold z6l at hs
 split at hs
 ·rename_i s
  split at hs
  ·rename_i hu
   unfold z4o at hs
   split at hs
   case h_2=>cases hs
   simp only[As]at hs
   subst hs
   refine⟨byteCells s,RowC.bytes _ s,λB d=>?_⟩
   rw[show u=.string s from hd]
   have:=Src.ofString (P:=P) (mk B d h) hu s
   have e:(zfi s).length=s.size:=by unfold zfi;rw[BN,CP];rfl
   rw[e];exact this
  ·cases hs
 ·split at hs
  ·rename_i e' hu
   simp only[As]at hs
   subst hs
   refine⟨[],RowC.nil _ _,λB d=>?_⟩
   rw[show u=.slice none 0 0 from hd]
   exact Src.ofNil (mk B d h) hu 0
  ·cases hs
 ·rename_i aa _ _
  split at hs
  ·rename_i e' hu
   split at hs
   ·rename_i r hr
    obtain⟨s,e,hl,hn,cells,Z,ab⟩:=(zfc I hr hd).rowC I.ag
    exact row hs hu e hl Z ab
   ·split at hs
    ·rename_i c _ _ _
     split at hs
     ·rename_i e t xs hc
      obtain⟨cells,af,Z,hn,hl⟩:=I.den _ (Zu hc)
      exact row hs hu (show u=slV _ from hd) hl Z af.arr
     ·cases hs
    ·cases hs
  ·cases hs
 ·cases hs
def zhx(P:Program)(el:TypeId)(ty:Ty):Option Nat:=match P.info? el with
 |some i=>match i.zero with
  |some z=>bif (bif Nat.beq i.size (sz ty)then(bif Nat.beq z.cells.size i.size then(bif Nat.blt 0 i.size then Nat.blt 0 i.bytes else false)else false)else false)then some i.bytes else none
  |none=>none
 |none=>none
theorem zkv{t el:TypeId}{ty:Ty}(hu:P.underlying t=some (.slice el))(h:zhx P el ty=some b):(∃z,ElemT P t el z (sz ty) b)/\0<b:=by
 unfold zhx at h
 split at h
 ·rename_i i hi
  split at h
  ·rename_i z hz
   cases h1:Nat.beq i.size (sz ty)with
   |false=>rw[h1]at h;cases h
   |true=>
   cases h2:Nat.beq z.cells.size i.size with
   |false=>rw[h1,h2]at h;cases h
   |true=>
   cases h3:Nat.blt 0 i.size with
   |false=>rw[h1,h2,h3]at h;cases h
   |true=>
   cases h4:Nat.blt 0 i.bytes with
   |false=>rw[h1,h2,h3,h4]at h;cases h
   |true=>
   rw[h1,h2,h3,h4]at h
   simp only[cond_true,As]at h
   have e1:=Az h1
   have e2:=Az h2
   have e3:0<i.size:=by simpa[CC]using h3
   have e4:0<i.bytes:=by simpa[CC]using h4
   exact⟨⟨z,hu,⟨i,hi,hz,e1,h⟩,by rw[e2,e1],by rw[<-e1];exact e3⟩,by rw[<-h];exact e4⟩
  ·cases h
 ·cases h
def zcd(P:Program)(tr:TypeId)(t tx:TypeId)(bv sv:AV)(d:Nat)(C R:CS)(K:AV->CS->Option Nat->Prop):Prop:=
 match z1u P t with
 |some el=>match z4n P tr 8 el with
  |some ty=>match zhx P el ty,z6l P (C++R) tx ty sv with
   |some b,some ys=>match bv with
    |.g (.a (.v (.slice none 0 0)))=>bif Qf d R then(ys.length*b<=140737488355328/\K (.g (.a (.own d))) ((d,.row el ty ys)::Qi d C) (some d))else False
    |.g (.a (.own c))=>match Xe C c with
     |some (.row e t' xs)=>match Wk (.row t') (.row ty) xs with
      |some xs=>bif Nat.beq e el then(bif Qf d R then((xs.length+ys.length)*b<=140737488355328/\K (.g (.a (.own d))) ((d,.row el ty (xs++ys))::Qi d (zaz c C)) (some d))else False)else False
      |none=>False
     |_=>False
    |.g (.a (.dc t' xs))=>match Wk (.row t') (.row ty) xs with
     |some xs=>(xs.length+ys.length)*b<=140737488355328/\K (.g (.a (.d (.row ty) (xs++ys)))) C none
     |none=>False
    |_=>False
   |_,_=>False
  |none=>False
 |none=>False
theorem zfj{n b k:Nat}(hb:0<b)(h:n*b<=k):n<=k:=Ec (Nat.le_mul_of_pos_right _ hb) h
theorem zkw{tr t tx ty':TypeId}{bv sv:AV}{K:AV->CS->Option Nat->Prop}(H:zcd P tr t tx bv sv d C R K)(I:Inv h0 W M0 (C++R) γ h)
  {u v:Value} (az:DenV γ bv u) (aQ:DenV γ sv v):XRun P (AU #[t,tx] ty' #[u,v]) h (zdw h0 W M0 R γ K):=by
 unfold zcd at H
 split at H
 ·rename_i el aL
  obtain⟨hu,ba⟩:=zad aL
  split at H
  ·rename_i ty a7
   split at H
   ·rename_i b ys hb aY
    obtain⟨⟨z,T⟩,ar⟩:=zkv hu hb
    obtain⟨news,ak,aj⟩:=zs9 I aY T.pos aQ
    split at H
    ·cases hR:Qf d R with
     |false=>rw[hR]at H;exact H.elim
     |true=>
     rw[hR]at H
     obtain⟨ae,hK⟩:=H
     rw[show u=slV ⟨none,0,0⟩from az]
     have af:=zfj ar ae
     refine zgm T (Owns.nil h h0.size el (sz ty)) aj (by simpa using ae) (by simpa using af) I.size λs' h' hl am hk hs hp=>?_
     rw[BV]at am
     simp only[AX]at hl
     refine⟨_,_,_,zq5 γ d s',hK,?_,I.newRow hR hs (p:=none) (λi hi _=>hk i hi (by simp)) (λb hb=>by cases hb) am (λq hq=>?_) ak af hl,Wl _ _ _⟩
     ·simp only[DenV,DenG,DenA,Ql]
     ·rcases hp q hq with⟨p,hp,_⟩|hp
      ·simp at hp
      ·exact .inr hp
    ·rename_i c
     split at H
     ·rename_i e t' aV hc
      split at H
      ·rename_i xs ai
       cases hee:Nat.beq e el with
       |false=>rw[hee]at H;exact H.elim
       |true=>
       rw[hee]at H
       cases hR:Qf d R with
       |false=>rw[hR]at H;exact H.elim
       |true=>
       rw[hR]at H
       obtain⟨ae,hK⟩:=H
       have af:=zfj ar ae
       have an:=Zu hc
       obtain⟨e1,e2⟩:=Xi ai
       subst e1
       simp only at e2
       subst e2
       have e3:=Az hee
       subst e3
       have aC:=I.den _ (AJ R an)
       obtain⟨cells,ah,aa,aM,Z⟩:=aC
       simp only at ah aa Z
       rw[show u=slV (γ.σ c)from az]
       refine zgm T ah aj (by rw[Z];exact ae) (by rw[Z];exact af) I.size λs' h' hl am hk hs hp=>?_
       have aE:=I.sep _ (AJ R an)
       have a1:=Xf hR
       have aO:Inv h0 W M0 (zaz c C++R) γ h:=I.sub ((Y0 c C).append_right R)
       refine⟨_,_,_,zq5 γ d s',hK,?_,aO.newRow hR hs (p:=(γ.σ c).a.map (·.block)) (λi hi ay=>hk i hi λp hp e=>ay (by rw[hp,e];rfl)) (λb hb=>?_) am (λq hq=>?_) (aa.append ak) (by rw[AF];exact af) (by rw[hl,Z,AF]),Wl _ _ _⟩
       ·simp only[DenV,DenG,DenA,Ql]
       ·obtain⟨h1,h2⟩:=aE b hb
        refine⟨?_,h2,λx hx aJ=>?_⟩
        ·simp only[CO]at hb
         obtain⟨p,hp,rfl⟩:=hb
         exact(ah.base_le p hp).1
        ·have aT:x∈C++R:=((Y0 c C).append_right R).subset hx
         have ay:x≠(c,Ch.row e t' xs):=by
          rintro rfl
          rcases AP.1 hx with hx|hx
          ·exact(Xv hx).2 rfl
          ·have aF:=I.apart
           rw[CH]at aF
           exact aF.2.2 _ an _ hx b hb hb
         have hp:=@zfb _ (λ(x y:Nat×Ch)=>∀b,blk γ x.1 x.2=some b->blk γ y.1 y.2≠some b) (λx y h b hb ap=>h b ap hb) _ I.apart
         exact hp aT (AJ R an) ay b aJ hb
       ·rcases hp q hq with⟨p,hp,aI⟩|hp
        ·exact .inl (by rw[hp,aI];rfl)
        ·exact .inr hp
      ·exact H.elim
     ·exact H.elim
    ·rename_i t' aV
     split at H
     ·rename_i xs ai
      obtain⟨ae,hK⟩:=H
      have af:=zfj ar ae
      obtain⟨e1,e2⟩:=Xi ai
      subst e1
      simp only at e2
      subst e2
      obtain⟨s,e,a8,aG⟩:=(show ∃s:Sl,u=slV s/\s.cap=s.len/\Rd γ.M (.row t') xs [u]from az)
      subst e
      obtain⟨s2,e,Z,aM,cells,aa,aA⟩:=aG.rowC I.ag
      have e':s=s2:=by cases s;cases s2;simp only[slV,A4]at e;simp[e]
      subst e'
      have au:cells.length=s.len*sz t':=by rw[Z];exact aa.1
      intro B dr
      by_cases hm:ys.length=0
      ·have aU:ys=[]:=Bb hm
       subst aU
       have aS:news=[]:=Bb (by rw[ak.1];simp)
       subst aS
       have hr:=Xh (P:=P) (ty:=ty') T (s:=s) (h':=h) (aj B dr) (by simp;omega) (λp hp=>by simp[storeCells]) (λ_=>rfl)
       refine⟨_,dr,h,hr,_,C,none,γ,hK,?_,I,Gx.refl _ _⟩
       rw[Bu]
       exact aG
      ·obtain⟨c,ab,hr,aP,a6,be,aN⟩:=za5 (P:=P) (ty:=ty') (base:=0) T au (λB d=>Xg aA au T.pos B d) aj (by rw[Z];exact ae) (by rw[Z];exact af) (Da _) (by omega) B dr
       have aZ:γ.M h.size=none:=I.ag.none (Av _)
       have hM:Fr.le γ.M (zg7 γ h.size ab).M:=by
        intro b cc eM
        have:Nat.beq b h.size=false:=by
         cases hb:Nat.beq b h.size with
         |false=>rfl
         |true=>rw[Az hb,aZ]at eM;cases eM
        simp[zg7,this,eM]
       have aH:AgM (zg7 γ h.size ab).M (h.push (.cells ab el)):=by
        intro b cc eM
        by_cases hb:b=h.size
        ·subst hb
         have:cc=ab:=by simp[zg7]at eM;exact eM.symm
         subst this
         exact⟨_,_,Jh _ _⟩
        ·have:Nat.beq b h.size=false:=by
          cases ap:Nat.beq b h.size with
          |false=>rfl
          |true=>exact absurd (Az ap) hb
         simp only[zg7,this,cond_false]at eM
         obtain⟨T',m,e'⟩:=I.ag b cc eM
         exact⟨T',m,by rw[Cq,if_neg hb];exact e'⟩
       refine⟨_,dr+1,_,hr,_,C,none,zg7 γ h.size ab,hK,?_,I.call (Keep.push h _ (Av _)) hM (λb hb=>?_) aH,⟨hM,λ_ _=>⟨rfl,rfl⟩⟩⟩
       ·have aB:=((aa.append ak).mono hM).rd (b:=h.size) (o:=0) (c:=c) (cs:=ab) (by simp[zg7]) (by rw[Cc,AF,<-Z];exact aN) (by rw[AF,<-Z];exact⟨by rw[Z];exact af,aP⟩)
        rw[AF,<-Z]at aB
        exact aB
       ·have:Nat.beq b h.size=false:=by
         cases ap:Nat.beq b h.size with
         |false=>rfl
         |true=>have:=Az ap;omega
        simp[this]
     ·exact H.elim
    ·exact H.elim
   ·exact H.elim
  ·exact H.elim
 ·exact H.elim
end
section
variable {cs C R:CS} {γ b:Gh} {h:Za} {u:Value} {P:Program} {o:Oper} {σ:Operand -> Value} {n:Nat} {gl:Fr} {tr:TypeId} {c:Zr} {a:Act} {S:List Nat}
variable {h0 : Za} {W : Nat -> Prop} {M0 : Fr}
def qch(ns:List Int):Bt:=ns.foldl (λr n=>r.push (Be n.toNat)) ByteArray.empty
def qc2(t:Ty)(xs:List (El t)):Option (List Int):=Wk (.row t) (.row (.int .u8)) xs
def zta(cs:CS):AA->Option ((t:Ty)×List (El t))
 |.own c=>match Xe cs c with
  |some (.row _ t xs)=>some ⟨t,xs⟩
  |some (.fz t xs)=>some ⟨t,xs⟩
  |_=>none
 |aa=>rowOf cs aa
theorem zkx(I:Inv h0 W M0 cs γ h){aa:AA}{r:(t:Ty)×List (El t)}(hr:zta cs aa=some r)(hd:DenA γ aa u):
  ∃s:Sl,u=slV s/\s.len=r.2.length/\∃cells,RowC γ.M r.1 r.2 cells/\Arr h.size h s.a cells:=by
 unfold zta at hr
 split at hr
 ·split at hr
  ·rename_i c e t xs hc
   simp only[As]at hr
   subst hr
   obtain⟨cells,ab,Z,hn,hl⟩:=I.den _ (Zu hc)
   exact⟨_,hd,hl,cells,Z,ab.arr⟩
  ·rename_i c t xs hc
   simp only[As]at hr
   subst hr
   have:Rd γ.M (.row t) xs [u]:=by rw[show u=_ from hd];exact I.den _ (Zu hc)
   obtain⟨s,e,hl,hn,cells,h1,h2⟩:=this.rowC I.ag
   exact⟨s,e,hl,cells,h1,h2⟩
  ·cases hr
 ·obtain⟨s,e,hl,hn,cells,h1,h2⟩:=(zfc I hr hd).rowC I.ag
  exact⟨s,e,hl,cells,h1,h2⟩
def zmc(P:Program)(s t:TypeId)(av:AV)(cs:CS)(K:AV->Prop):Prop:=
 match P.underlying s,P.underlying t with
 |some (.slice e),some .string=>match P.underlying e,av with
  |some (.int .u8),.g (.a aa)=>match zta cs aa with
   |some r=>match qc2 r.1 r.2 with
    |some ns=>K (.g (.a (.v (.string (qch ns)))))
    |none=>False
   |none=>False
  |_,_=>False
 |some (.int _),some .string=>match av with
  |.g (.a (.v (.int _ n)))=>K (.g (.a (.v (.string (En n)))))
  |_=>False
 |_,_=>False
theorem zx8{M:Fr}{k:IntKind}:∀{ns:List Int} {cells:List Value},RowC M (.int k) ns cells->cells=ns.map (Ep k)
 |ns,cells,H=>by
  apply BB
  intro i
  have hl:cells.length=ns.length:=by rw[H.1];simp[sz]
  rw[Ct]
  by_cases hi:i<ns.length
  ·have:((cells.drop (i*1)).take 1)=[.int k ns[i]]:=H.2 i hi
   have e:cells[i]?=some (.int k ns[i]):=by
    have h2:((cells.drop (i*1)).take 1)[0]?=some (.int k ns[i]):=by rw[this];rfl
    rw[AR,if_pos (by omega),AY]at h2
    simpa using h2
   rw[e,AE hi];rfl
  ·rw[Ce (by omega),Ce (by omega)];rfl
theorem zra{s t:TypeId}{x:Operand}(ho:o.op=.convert s t x){av:AV}{K:AV->Prop}(H:zmc P s t av cs K)(I:Inv h0 W M0 cs γ h)(hd:DenV γ av (σ x)):
  ∃af v,K af/\DenV γ af v/\QExec P (execOp σ o) h (.value v):=by
 have val:∀{v:Value},QExec P (convert s t (σ x)) h v->QExec P (execOp σ o) h (.value v):=λhq=>by
  simp only[execOp,ho];exact QExec.val hq
 unfold zmc at H
 split at H
 ·rename_i e hs ht
  split at H
  ·rename_i aa he
   split at H
   ·rename_i r hr
    split at H
    ·rename_i ns ai
     refine⟨_,.string (qch ns),H,rfl,val λB d=>?_⟩
     obtain⟨sl,e1,hl,cells,ab,ae⟩:=zkx I hr hd
     obtain⟨tt,xs⟩:=r
     obtain⟨e2,e3⟩:=Xi ai
     simp only at e2
     subst e2
     simp only at e3 hl ab
     subst e3
     have hc:=zx8 ab
     subst hc
     have h1:=QExec.underlying (h:=h) hs B d
     have h2:=QExec.underlying (h:=h) ht B d
     have h3:=QExec.underlying (h:=h) he B d
     have Z:(Conv.bytesToString (σ x)).run P (mk B d h)=.ok (.string (qch ns)) (mk B d h):=by
      rw[e1]
      unfold slV
      rcases ae with ak|⟨b,o',e4,_,aj⟩
      ·have ah:ns=[]:=by simpa using ak
       subst ah
       simp only[Bh]at hl
       cases ha:sl.a with
       |none=>simp[Conv.bytesToString,qch]
       |some p=>
        have:=run_bytesToString (P:=P) (mk B d h) p sl.len sl.cap [] (by rw[hl];simp[loadCells,loadCellsFrom])
        exact this
      ·rw[e4]
       refine run_bytesToString (mk B d h) ⟨b,o',none⟩ sl.len sl.cap ns ?_
       have:=Xg (P:=P) (h:=h) (n:=b+1) (sz:=1) (s:=sl) (cells:=ns.map (Ep .u8)) (.inr ⟨b,o',e4,by omega,aj⟩) (by rw[hl];simp) (by omega) B d
       rw[e4]at this
       simpa[CZ]using this
     unfold convert
     rw[Sem.run_bind,h1]
     simp only[Result.andThen_ok]
     rw[Sem.run_bind,h2]
     simp only[Result.andThen_ok]
     rw[e1]at Z ⊢
     unfold slV at Z ⊢
     simp only[Sem.run_bind,h3,Result.andThen_ok]
     exact Z
    ·exact H.elim
   ·exact H.elim
  ·exact H.elim
 ·rename_i k hs ht
  split at H
  ·rename_i k' n
   refine⟨_,.string (En n),H,rfl,val λB d=>?_⟩
   have h1:=QExec.underlying (h:=h) hs B d
   have h2:=QExec.underlying (h:=h) ht B d
   have e:σ x=.int k' n:=hd
   unfold convert
   rw[Sem.run_bind,h1]
   simp only[Result.andThen_ok]
   rw[Sem.run_bind,h2,e]
   rfl
  ·exact H.elim
 ·exact H.elim
def qaf:BinOp->Option Bool
 |.eql=>some true
 |.neq=>some false
 |_=>none
def qc3(P:Program)(o:Oper)(ρ:Operand->Option AV)(cs:CS):Option (Bool×Nat):=match o.op with
 |.binOp op t x y _=>match qaf op,ρ x,ρ y with
  |some pol,some (.g (.a aa)),some (.g (.a (.v (.slice none 0 0))))=>match zta cs aa,P.underlying t with
   |some ⟨ty,xs⟩,some (.slice _)=>bif Nat.blt 0 (sz ty)then some (pol,xs.length)else none
   |_,_=>none
  |_,_,_=>none
 |_=>none
theorem zmd(op:BinOp)(t:TypeId)(x y:Operand)(a b:Option Addr)(l c l' c':Nat)(w:World):(eqGuard op t x y (.slice a l c) (.slice b l' c')).run P w=.ok () w:=by
 unfold eqGuard;cases op <;> rfl
theorem z6m{ρ:Operand->Option AV}{af:Bool}(hn:qc3 P o ρ (C++R)=some (af,n)){K:AV->CS->Option Nat->Prop}(H:∀b:Bool,(b=true->n=0)->K (.g (.a (.v (.bool (bif af then b else !b))))) C none)
  (I:Inv h0 W M0 (C++R) γ h) (hρ:∀x av,ρ x=some av->DenV γ av (σ x)):ExA P (execOp σ o) h (zdw h0 W M0 R γ K):=by
 unfold qc3 at hn
 split at hn
 ·rename_i op t x y yt ho
  split at hn
  ·rename_i ai aa Z hx hy
   split at hn
   ·rename_i ty xs e hr hu
    cases hz:Nat.blt 0 (sz ty)with
    |false=>rw[hz]at hn;cases hn
    |true=>
     rw[hz]at hn
     simp only[cond_true,As,Bn]at hn
     obtain⟨rfl,rfl⟩:=hn
     have aj:0<sz ty:=by simpa[CC]using hz
     obtain⟨s,e1,hl,cells,ah,ab⟩:=zkx I hr (hρ _ _ hx)
     have e2:σ y=.slice none 0 0:=hρ _ _ hy
     have ae:s.a.isNone=true->xs.length=0:=by
      intro hs
      have hc:cells=[]:=by
       rcases ab with hc|⟨b,o,ha,_⟩
       ·exact hc
       ·rw[ha]at hs;cases hs
      have:=ah.1
      rw[hc]at this
      simp only[Bh]at this
      rcases Nat.mul_eq_zero.1 this.symm with h1|h1
      ·exact h1
      ·omega
     have hK:=H s.a.isNone ae
     intro B d
     refine .inl ⟨_,d,h,?_,_,C,none,γ,hK,rfl,I,Gx.refl _ _⟩
     simp only[execOp,ho]
     refine Xn ?_
     rw[e1,e2]
     simp only[slV]
     rw[Sem.run_bind,zmd]
     simp only[Result.andThen_ok]
     cases op <;> simp only[qaf,As]at Z <;> (try (cases Z;done)) <;> subst Z
     ·simp only[binOp,Sem.run_bind,run_equal_slice_nil _ t _ _ _ _ hu];rfl
     ·simp only[binOp,Sem.run_bind,run_equal_slice_nil _ t _ _ _ _ hu];rfl
   ·cases hn
  ·cases hn
 ·cases hn
def hA0(P:Program)(gl:Fr)(tr:TypeId)(o:Oper)(ρ:Operand->Option AV)(C R:CS)(K:AV->CS->Option Nat->Prop):Prop:=
 match o.op with
 |.alloc t=>match o.dst with
  |some d=>zx0 P t d C R K
  |none=>False
 |.box t x=>match o.dst,ρ x with
  |some d,some av=>match zvk av with
   |some l=>qc1 t d l C R K
   |none=>False
  |_,_=>False
 |.store t a x=>match ρ a,ρ x with
  |some (.g (.a aa)),some xv=>match zvk xv with
   |some l2=>zx4 P t aa l2 C R K
   |none=>False
  |_,_=>False
 |.buildSlice t n Z=>match o.dst,zff ρ Z.toList with
  |some d,some ps=>za4 P tr t n ps d C R K
  |_,_=>False
 |.convert s t x=>bif isQ P o then qA P gl o ρ none (C++R) (λav=>K av C none)else(match ρ x with
  |some av=>zmc P s t av (C++R) λab=>K ab C none
  |none=>False)
 |.call c=>match c.callee with
  |.builtin .append=>match c.args.toList,c.argTypes.toList,o.dst with
   |[s,x],[t,tx],some d=>match ρ s,ρ x with
    |some bv,some sv=>zcd P tr t tx bv sv d C R K
    |_,_=>False
   |_,_,_=>False
  |.builtin _=>qA P gl o ρ none (C++R) λav=>K av C none
  |_=>z6i P gl tr o ρ C R λav C'=>K av C' none
 |.range t x=>match o.dst,ρ x with
  |some d,some av=>zx6 P t av d C R K
  |_,_=>False
 |.next x true=>match ρ x with
  |some av=>z6k av C R K
  |none=>False
 |_=>qA P gl o ρ none (C++R) λav=>K av C none
theorem toList_eq{α:Type}{x:Array α}{l:List α}(h:x.toList=l):x=l.toArray:=by
 have:=congrArg List.toArray h;simpa using this
theorem qag(ab:Fr.le gl M0){ρ:Operand->Option AV}{K:AV->CS->Option Nat->Prop}(H:hA0 P gl tr o ρ C R K)(I:Inv h0 W M0 (C++R) γ h)
  (hσ:∀f,σ (.func f)=.func (.func f) #[] #[]) (hρ:∀x av,ρ x=some av->DenV γ av (σ x)):ExA P (execOp σ o) h (zdw h0 W M0 R γ K):=by
 unfold hA0 at H
 split at H
 ·rename_i t ho
  split at H
  ·exact zx1 ho H I
  ·exact H.elim
 ·rename_i t x ho
  split at H
  ·rename_i d av hd Z
   split at H
   ·rename_i l hl
    exact z6j ho H I (zfd hl (hρ _ _ Z))
   ·exact H.elim
  ·exact H.elim
 ·rename_i t a x ho
  split at H
  ·rename_i aa xv ha hx
   split at H
   ·rename_i l hl
    exact zx5 ho H I (zfd hl (hρ _ _ hx)) (hρ _ _ ha)
   ·exact H.elim
  ·exact H.elim
 ·rename_i t n ai ho
  split at H
  ·rename_i d ps hd ak
   exact zdf ho ak H I hρ
  ·exact H.elim
 ·rename_i s t x ho
  cases hq:isQ P o with
  |true=>rw[hq]at H;exact z6g ab H I hρ
  |false=>
   rw[hq]at H
   simp only[cond_false]at H
   split at H
   ·rename_i av Z
    obtain⟨aj,v,h1,h2,h3⟩:=zra ho H I (hρ _ _ Z)
    exact λB d=>.inl ⟨v,d,h,h3 B d,aj,C,none,γ,h1,h2,I,Gx.refl _ _⟩
   ·exact H.elim
 ·rename_i c ho
  split at H
  ·rename_i hc
   split at H
   ·rename_i s x t tx d ae af hd
    split at H
    ·rename_i bv sv hs hx
     have ah:=zkw (ty':=o.type) H I (hρ _ _ hs) (hρ _ _ hx)
     intro B e
     obtain⟨v,d',h',r,hp⟩:=ah B e
     refine .inl ⟨v,d',h',?_,hp⟩
     have ee:execOp σ o=(AU c.argTypes o.type (c.args.map σ) >>= λx=>(Dg (Dt x):Sem Next)):=by
      simp only[execOp,ho,resolve,hc]
      rfl
     rw[ee,toList_eq ae,toList_eq af]
     refine Xn ?_
     simpa using r
    ·exact H.elim
   ·exact H.elim
  ·exact z6g ab H I hρ
  ·exact z1y ab H I hσ hρ
 ·rename_i t x ho
  split at H
  ·rename_i d av hd Z
   exact zx7 ho H I (hρ _ _ Z)
  ·exact H.elim
 ·rename_i x ho
  split at H
  ·rename_i av Z
   exact z1z ho H I (hρ _ _ Z)
  ·exact H.elim
 ·exact z6g ab H I hρ
def hA(P:Program)(gl:Fr)(tr:TypeId)(o:Oper)(ρ:Operand->Option AV)(C R:CS)(K:AV->CS->Option Nat->Prop):Prop:=match qc3 P o ρ (C++R)with
 |some (pol,n)=>∀b:Bool,(b=true->n=0)->K (.g (.a (.v (.bool (bif pol then b else !b))))) C none
 |none=>hA0 P gl tr o ρ C R K
theorem qc4(Z:Fr.le gl M0){ρ:Operand->Option AV}{K:AV->CS->Option Nat->Prop}(H:hA P gl tr o ρ C R K)(I:Inv h0 W M0 (C++R) γ h)
  (hσ:∀f,σ (.func f)=.func (.func f) #[] #[]) (hρ:∀x av,ρ x=some av->DenV γ av (σ x)):ExA P (execOp σ o) h (zdw h0 W M0 R γ K):=by
 unfold hA at H
 split at H
 ·rename_i aa n hn
  exact z6m hn H I hρ
 ·exact qag Z H I hσ hρ
def orA:Option AV->Option AV->Option AV
 |some v,_=>some v
 |none,w=>w
def qc5(b:Bool)(x y:AV):Option AV:=match exV x,exV y with
 |some u,some v=>some (zvh (zw6 b u v))
 |_,_=>match x,y with
  |.g (.a (.d t xs)),.g (.a (.d t' ys))=>match Wk t' t ys with
   |some ys=>some (.g (.a (.d t (bif b then xs else ys))))
   |none=>none
  |_,_=>none
theorem z16{b:Bool}{x y z:AV}(h:qc5 b x y=some z){u v:Value}(hx:b=true->DenV γ x u)(hy:b=false->DenV γ y v):DenV γ z (if b=true then u else v):=by
 unfold qc5 at h
 split at h
 ·rename_i p q hp hq
  simp only[As]at h
  subst h
  have e:(if b=true then u else v)=zw6 b p q:=by
   rw[zsx]
   cases b with
   |true=>simp only[if_true];exact zq6 hp (hx rfl)
   |false=>simp only[Bv,if_false];exact zq6 hq (hy rfl)
  rw[e];exact zac γ _
 ·split at h
  ·rename_i t xs t' ys _
   split at h
   ·rename_i Z hc
    simp only[As]at h
    subst h
    cases b with
    |true=>exact hx rfl
    |false=>exact zay hc (hy rfl)
   ·cases h
  ·cases h
def z2a(e:Qe)(c:Zr)(x a b:Operand)(K:AV->Prop):Prop:=
 match x with
 |.tmp s=>match zl7 e s with
  |some (cs,v)=>match zvi v with
   |some t=>bif suf cs c then(match orA (zhg e c a) (zhg e ((s,true)::cs) a),orA (zhg e c b) (zhg e ((s,false)::cs) b)with
    |some va,some vb=>match qc5 t va vb with
     |some z=>K z
     |none=>False
    |_,_=>False)else False
   |none=>False
  |none=>False
 |_=>False
theorem za6{e:Qe}{x a b:Operand}{K:AV->Prop}(H:z2a e c x a b K):
  ∃z,K z/\∀(n:Nat) (γ:Gh) (Z:Act),SatA n e γ Z->valid (Zl Z) c->∃t,Z.eval x=.bool t/\DenV γ z (if t=true then Z.eval a else Z.eval b):=by
 unfold z2a at H
 split at H
 ·rename_i s
  split at H
  ·rename_i cs v hl
   split at H
   ·rename_i t ht
    cases hsf:suf cs c with
    |false=>rw[hsf]at H;exact H.elim
    |true=>
     rw[hsf]at H
     simp only[cond_true]at H
     split at H
     ·rename_i va vb ha hb
      split at H
      ·rename_i z hz
       refine⟨z,H,λn γ Z hs hv=>?_⟩
       have aa:=X5 hsf hv
       have hx:Zl Z s=.bool t:=zio ht ((hs.all _ (Wa hl)).1 aa)
       refine⟨t,hx,z16 hz (λae=>?_) (λab=>?_)⟩
       ·unfold orA at ha
        split at ha
        ·rename_i w _ h1
         simp only[As]at ha;subst ha
         exact Zn hs hv h1
        ·exact Zn hs (c:=(s,true)::cs) ⟨by rw[hx,ae],aa⟩ ha
       ·unfold orA at hb
        split at hb
        ·rename_i w _ h1
         simp only[As]at hb;subst hb
         exact Zn hs hv h1
        ·exact Zn hs (c:=(s,false)::cs) ⟨by rw[hx,ab],aa⟩ hb
      ·exact H.elim
     ·exact H.elim
   ·exact H.elim
  ·exact H.elim
 ·exact H.elim
def opA(P:Program)(gl:Fr)(tr:TypeId)(o:Oper)(e:Qe)(c:Zr)(C R:CS)(K:AV->CS->Option Nat->Prop):Prop:=
 match o.op with
 |.pick x a b=>z2a e c x a b λav=>K av C none
 |_=>match za0 e c with
  |some none=>hA P gl tr o (zhg e c) C R K
  |some (some b)=>bif zib o then zvm P gl tr o (zhg e c) b (C++R) (λav=>K av C none)else qA P gl o (zhg e c) (some b) (C++R) (λav=>K av C none)
  |none=>False
theorem z6n(Z:Fr.le gl M0){e:Qe}{K:AV->CS->Option Nat->Prop}(H:opA P gl tr o e c C R K)(hs:SatA n e γ a)(I:Inv h0 W M0 (C++R) γ h)(hv:valid (Zl a) c):
  ExA P (execOp a.eval o) h (zdw h0 W M0 R γ K):=by
 have hσ:∀f,a.eval (.func f)=.func (.func f) #[] #[]:=λ_=>rfl
 have hρ:∀x av,zhg e c x=some av->DenV γ av (a.eval x):=λx av hx=>Zn hs hv hx
 unfold opA at H
 split at H
 ·rename_i x y z ho
  obtain⟨av,h1,h2⟩:=za6 H
  obtain⟨t,h3,h4⟩:=h2 n γ a hs hv
  refine λB d=>.inl ⟨_,d,h,?_,av,C,none,γ,h1,h4,I,Gx.refl _ _⟩
  simp only[execOp,ho,h3,asBool,Sem.run_bind,Sem.run_pure,Result.andThen_ok]
 ·split at H
  ·exact qc4 Z H I hσ hρ
  ·rename_i b hb
   have hg:=Jb hs hb hv
   cases hic:zib o with
   |true=>
    rw[hic]at H
    simp only[cond_true]at H
    obtain⟨f,args,h1,h2⟩:=(zdx (h0:=h0) (W:=W) (M0:=M0) H).2 hg Z γ h a.eval I hσ hρ
    refine λB d=>.inr (.inr ⟨f,args,h1 _,h2.mono ?_⟩)
    rintro v h' ⟨av,γ',g1,g2,g3,g4,_⟩
    exact⟨av,C,none,γ',g1,g2,g3,g4⟩
   |false=>
    rw[hic]at H
    simp only[cond_false]at H
    obtain⟨av,h1,h2⟩:=zhw (h0:=h0) (W:=W) (M0:=M0) Z H
    obtain⟨v,hd,hq⟩:=h2 hg γ h a.eval I hρ
    exact λB d=>.inl ⟨v,d,h,hq B d,av,C,none,γ,h1,hd,I,Gx.refl _ _⟩
  ·exact H.elim
theorem qah{e:Qe}{K:AV->CS->Option Nat->Prop}(H:opA P gl tr o e c C R K)(hs:SatA n e γ a)(hv:¬valid (Zl a) c):∃av,K av C none:=by
 unfold opA at H
 split at H
 ·obtain⟨av,h1,_⟩:=za6 H
  exact⟨av,h1⟩
 ·split at H
  ·rename_i hg
   have:=zdt hs hg hv
   cases this
  ·rename_i b hb
   have Z:=zdt hs hb hv
   simp only[As]at Z
   cases hic:zib o with
   |true=>rw[hic]at H;simp only[cond_true]at H;exact(zdx (h0:=#[]) (W:=λ_=>False) (M0:=λ_=>none) H).1 Z
   |false=>
    rw[hic]at H
    simp only[cond_false]at H
    obtain⟨av,h1,_⟩:=zhw (h0:=#[]) (W:=λ_=>False) (M0:=gl) (Fr.le.refl _) H
    exact⟨av,h1⟩
  ·exact H.elim
def GxS(S:List Nat)(γ γ':Gh):Prop:=Fr.le γ.M γ'.M/\∀i,i∉S->γ'.β i=γ.β i/\γ'.σ i=γ.σ i
theorem GxS.refl(S:List Nat)(γ:Gh):GxS S γ γ:=⟨Fr.le.refl _,λ_ _=>⟨rfl,rfl⟩⟩
theorem GxS.trans{a b c:Gh}(h:GxS S a b)(k:GxS S b c):GxS S a c:=⟨h.1.trans k.1,λi hi=>⟨(k.2 i hi).1.trans (h.2 i hi).1,(k.2 i hi).2.trans (h.2 i hi).2⟩⟩
theorem GxS.mono{S S':List Nat}{a b:Gh}(h:GxS S a b)(hs:∀x∈S,x∈S'):GxS S' a b:=⟨h.1,λi hi=>h.2 i λhm=>hi (hs i hm)⟩
def qci(c:Option Nat)(d:Option Nat):Bool:=match c,d with
 |none,_=>true
 |some x,some y=>Nat.beq x y
 |some _,none=>false
theorem Gx.toS{c d:Option Nat}{γ γ':Gh}(g:Gx c γ γ')(h:qci c d=true)(hS:∀i,d=some i->i∈S):GxS S γ γ':=by
 refine⟨g.1,λi hi=>g.2 i λe=>?_⟩
 subst e
 cases d with
 |none=>cases h
 |some y=>
  have:i=y:=Az h
  subst this
  exact hi (hS _ rfl)
def wRA(P:Program)(gl:Fr)(tr:TypeId)(n:Nat)(ops:Array Oper)(R:CS)(K:Qe->CS->Prop):List Oper->Qe->CS->Prop
 |[],e,C=>K (zg8 e) C
 |o::rest,e,C=>match Xw ops e o.guard with
  |some c=>bif Z5 n c o.dst then opA P gl tr o e c C R (λav C' i=>bif qci i o.dst then wRA P gl tr n ops R K rest (z1q (zs4 i e) o.dst c av) C' else False)else False
  |none=>False
theorem zfk{P:Program}{gl:Fr}(af:Fr.le gl M0){tr:TypeId}{n:Nat}{ops:Array Oper}{R:CS}{K:Qe->CS->Prop}{Q:Exit->Act->World->Prop}(B:World):
  ∀(l:List Oper) (e:Qe) (C:CS) (γ:Gh) (h:Za) (a:Act) (d:Nat),wRA P gl tr n ops R K l e C->SatA n e γ a->Inv h0 W M0 (C++R) γ h ->
   (∀e' C' γ' a' d' h',SatA n e' γ' a'->Inv h0 W M0 (C'++R) γ' h'->Same (Qx l) a a'->GxS (Qx l) γ γ'->K e' C'->Q .normal a' (mk B d' h'))->wpList P ops Q l a (mk B d h)
 |[],e,C,γ,h,a,d,H,hs,I,hQ=>hQ _ _ _ _ _ _ hs.clean I (Same.refl _ _) (GxS.refl _ _) H
 |o::rest,e,C,γ,h,a,d,H,hs,I,hQ=>by
  unfold wRA at H
  split at H
  ·rename_i c hc
   cases hd:Z5 n c o.dst with
   |false=>rw[hd]at H;exact H.elim
   |true=>
    rw[hd]at H
    simp only[cond_true]at H
    have hw:=Jj hs hc
    have ab:∀i,o.dst=some i->i∈Qx (o::rest):=λi hi=>by simp[Qx,hi]
    have Z:∀x∈Qx rest,x∈Qx (o::rest):=λx hx=>by
     unfold Qx
     split
     ·exact Aw _ hx
     ·exact hx
    have aa:∀av u d' h' C' i γ',(valid (Zl a) c->DenV γ' av u)->(¬valid (Zl a) c->u=undef)->Inv h0 W M0 (C'++R) γ' h'->Gx i γ γ'->(bif qci i o.dst then wRA P gl tr n ops R K rest (z1q (zs4 i e) o.dst c av) C' else False) ->
      wpList P ops Q rest (a.put o.dst u) (mk B d' h'):=λav u d' h' C' i γ' h1 h2 I' g h3=>by
     cases hid:qci i o.dst with
     |false=>rw[hid]at h3;exact h3.elim
     |true=>
      rw[hid]at h3
      exact zfk af B rest _ _ _ _ _ _ h3 ((hs.gx g).putO hd h1 h2) I' λe' aj ak a' ai ah q1 q2 q3 q4 q5=>
       hQ e' aj ak a' ai ah q1 q2 ((Same.put a o.dst u ab).trans (q3.mono Z)) ((g.toS hid ab).trans (q4.mono Z)) q5
    unfold wpList
    by_cases hv:valid (Zl a) c
    ·rw[if_pos (hw.2 hv)]
     refine .inl ((z6n af H hs I hv).upon B d ?_)
     rintro v d' h' ⟨av,C',i,γ',g1,g2,g3,g4⟩
     exact aa av v d' h' C' i γ' (λ_=>g2) (λae=>absurd hv ae) g3 g4 g1
    ·rw[if_neg (λhx=>hv (hw.1 hx))]
     obtain⟨av,hK⟩:=qah H hs hv
     exact aa av undef d h C none γ (λae=>absurd ae hv) (λ_=>rfl) I (Gx.refl _ _) hK
  ·exact H.elim
end
section
variable {cs C R:CS} {γ:Gh} {h:Za} {i:Nat} {e:TypeId} {t:Ty}
variable {h0 : Za} {W : Nat -> Prop} {M0 : Fr}
inductive Shp where
 |dat (t:Ty)
 |own (e:TypeId) (t:Ty)
 deriving DecidableEq
@[reducible] def DS:Shp->Type
 |.dat t=>El t
 |.own _ t=>List (El t)
inductive SG where
 |one (s:Shp)
 |agg (l:List Shp)
structure AnnA where
 slots:List (Nat×SG)
 boxes:List (Nat×List Shp)
 ro:List Nat
 ids:List Nat
abbrev Dy:=(s:Shp)×DS s
@[reducible] def zvo:List Shp->Type->Type
 |[],X=>X
 |s::l,X=>DS s->zvo l X
def z6o(s s':Shp)(x:DS s):Option (DS s'):=if h:s=s' then some (h ▸ x)else none
def zx9{X:Type}:(l:List Shp)->zvo l X->(List Dy->X->Prop)->Prop
 |[],f,k=>k [] f
 |s::l,f,k=>∀x:DS s,zx9 l (f x) λvs y=>k (⟨s,x⟩::vs) y
def zhh{X:Type}:(l:List Shp)->List Dy->zvo l X->Option X
 |[],[],f=>some f
 |s::l,d::ds,f=>match z6o d.1 s d.2 with
  |some x=>zhh l ds (f x)
  |none=>none
 |_,_,_=>none
def qai{X:Type}:(l:List Shp)->(List Dy->X)->zvo l X
 |[],f=>f []
 |s::l,f=>λx=>qai l λvs=>f (⟨s,x⟩::vs)
def zop{X Y:Type}:(l:List Shp)->zvo l X->zvo l Y->zvo l (X×Y)
 |[],f,g=>(f,g)
 |_::l,f,g=>λx=>zop l (f x) (g x)
theorem ztb{s s':Shp}{x:DS s}{y:DS s'}(h:z6o s s' x=some y):(⟨s',y⟩:Dy)=⟨s,x⟩:=by
 unfold z6o at h
 split at h
 ·rename_i e
  subst e
  have h:=AL h
  rw[<-h]
 ·cases h
theorem zky{X:Type}:∀{l:List Shp} {vs:List Dy} {f:zvo l X} {x:X} {k:List Dy->X->Prop},zhh l vs f=some x->zx9 l f k->k vs x
 |[],[],f,x,k,h,g=>by have h:=AL h;subst h;exact g
 |[],_::_,f,x,k,h,g=>by simp[zhh]at h
 |_::_,[],f,x,k,h,g=>by simp[zhh]at h
 |s::l,d::ds,f,x,k,h,g=>by
  simp only[zhh]at h
  split at h
  ·rename_i y hy
   have:=zky h (g y)
   rw[ztb hy]at this
   exact this
  ·cases h
theorem zoq{X:Type}:∀{l:List Shp} {vs:List Dy} {f:List Dy->X} {x:X},zhh l vs (qai l f)=some x->x=f vs
 |[],[],f,x,h=>(AL h).symm
 |[],_::_,f,x,h=>by simp[zhh]at h
 |_::_,[],f,x,h=>by simp[zhh]at h
 |s::l,d::ds,f,x,h=>by
  simp only[zhh,qai]at h
  split at h
  ·rename_i y hy
   have:=zoq h
   rw[ztb hy]at this
   exact this
  ·cases h
theorem zor{X:Type}:∀{l:List Shp} {f:List Dy->X} {k:List Dy->X->Prop},(∀vs,k vs (f vs))->zx9 l (qai l f) k
 |[],_,_,h=>h []
 |_::_,_,_,h=>λ_=>zor λ_=>h _
structure Pl where
 id:Nat
 s:Shp
 a:AA
def plL(base:Nat):List Shp->List AA->Option (List Pl)
 |[],[]=>some []
 |s::ss,a::as=>match plL (base+1) ss as with
  |some l=>some (⟨base,s,a⟩::l)
  |none=>none
 |_,_=>none
def ziv(e:Qe):List (Nat×SG)->Option (List Pl)
 |[]=>some []
 |(i,sg)::l=>match zl7 e i,ziv e l with
  |some ([],.g x),some r=>match sg,x with
   |.one s,.a a=>some (⟨100000+64*i,s,a⟩::r)
   |.agg ss,.agg as=>match plL (100000+64*i) ss as with
    |some q=>some (q++r)
    |none=>none
   |_,_=>none
  |_,_=>none
def ziw(C:CS):List (Nat×List Shp)->Option (List Pl)
 |[]=>some []
 |(c,ss)::l=>match Xe C c,ziw C l with
  |some (.box as),some r=>match plL (1000000+64*c) ss as with
   |some q=>some (q++r)
   |none=>none
  |_,_=>none
def qaj:SG->List Shp
 |.one s=>[s]
 |.agg l=>l
def ztc:List (Nat×SG)->List Shp
 |[]=>[]
 |(_,sg)::l=>qaj sg++ztc l
def zya:List (Nat×List Shp)->List Shp
 |[]=>[]
 |(_,ss)::l=>ss++zya l
def zd0(J:AnnA):List Shp:=ztc J.slots++zya J.boxes
def zvp:List Pl->List Nat
 |[]=>[]
 |⟨_,.dat _,.own c⟩::l=>c::zvp l
 |_::l=>zvp l
def qak(c:Nat):List Pl->Bool
 |[]=>false
 |p::l=>bif (bif Nat.beq p.id c then true else zve c p.a)then true else qak c l
def zme(R:CS):List Pl->CS->Option CS
 |[],C=>some C
 |p::l,C=>match p.s with
  |.dat _=>zme R l C
  |.own e t=>bif qak p.id l then none else(match p.a with
   |.own c=>match Xe C c with
    |some (.row e' t' xs)=>match Wk (.row t') (.row t) xs with
     |some ys=>bif Nat.beq e e' then(bif Nat.beq c p.id then zme R l C else(bif Qf p.id R then zme R l ((p.id,.row e t ys)::Qi p.id (zaz c C))else none))else none
     |none=>none
    |_=>none
   |.v (.slice none 0 0)=>bif Qf p.id R then zme R l ((p.id,.row e t [])::Qi p.id C)else none
   |_=>none)
theorem zkz(I:Inv h0 W M0 cs γ h){x y:Nat×Ch}(hx:x∈cs)(hy:y∈cs)(aa:x≠y):∀b,blk γ x.1 x.2=some b->blk γ y.1 y.2≠some b:=
 @zfb _ (λ(x y:Nat×Ch)=>∀b,blk γ x.1 x.2=some b->blk γ y.1 y.2≠some b) (λx y h b hb Z=>h b Z hb) _ I.apart _ _ hx hy aa
theorem Inv.rename(I:Inv h0 W M0 (C++R) γ h){c i:Nat}(hR:Qf i R=true){xs:List (El t)}(hc:(c,Ch.row e t xs)∈C):
  Inv h0 W M0 ((i,.row e t xs)::Qi i (zaz c C)++R) (zq5 γ i (γ.σ c)) h:=by
 have Z:(Qi i (zaz c C)++R).Sublist (C++R):=(((Yp i _).trans (Y0 c C))).append_right R
 have aa:(c,Ch.row e t xs)∈C++R:=AJ R hc
 have ah:∀x∈Qi i (zaz c C)++R,∀b,blk γ c (.row e t xs)=some b->blk γ x.1 x.2≠some b:=by
  intro x hx b hb ae
  have af:x≠(c,Ch.row e t xs):=by
   rintro rfl
   rcases AP.1 hx with hx|hx
   ·exact(Xv ((Yp i _).subset hx)).2 rfl
   ·have ab:=I.apart
    rw[CH]at ab
    exact ab.2.2 _ hc _ hx b hb hb
  exact zkz I (Z.subset hx) aa af b ae hb
 have hI:Inv h0 W M0 (Qi i (zaz c C)++R) (zq5 γ i (γ.σ c)) h:=
  I.rest Z (Wl γ i _) (zds hR) (λx hx b hb=>⟨rfl,(I.sep x (Z.subset hx) b hb).2⟩) I.ag (λ_ _ _=>rfl) (Av _) (λ_ _=>rfl)
 obtain⟨cells,h1,h2,h3,h4⟩:=I.den _ aa
 have eb:∀b,blk (zq5 γ i (γ.σ c)) i (.row e t xs)=some b->blk γ c (.row e t xs)=some b:=λb hb=>by simpa[blk,Ql]using hb
 refine hI.cons ⟨cells,by rw[Ql];exact h1,h2,h3,by rw[Ql];exact h4⟩ (λb hb=>I.sep _ aa b (eb b hb)) (λb hb x hx e'=>?_)
 rw[zkq (Wl γ i _) _ (zds hR x hx).1]at e'
 exact ah x hx b (eb b hb) e'
theorem Inv.nilRow(I:Inv h0 W M0 (C++R) γ h)(hR:Qf i R=true)(e:TypeId)(t:Ty):
  Inv h0 W M0 ((i,.row e t [])::Qi i C++R) (zq5 γ i ⟨none,0,0⟩) h:=by
 have Z:=(Yp i C).append_right R
 have hI:Inv h0 W M0 (Qi i C++R) (zq5 γ i ⟨none,0,0⟩) h:=
  I.rest Z (Wl γ i _) (zds hR) (λx hx b hb=>⟨rfl,(I.sep x (Z.subset hx) b hb).2⟩) I.ag (λ_ _ _=>rfl) (Av _) (λ_ _=>rfl)
 refine hI.cons ⟨[],by rw[Ql];exact Owns.nil _ _ _ _,RowC.nil _ _,by simp,by rw[Ql];rfl⟩ (λb hb=>by simp[blk,Ql]at hb) (λb hb=>by simp[blk,Ql]at hb)
theorem ztd{c:Nat}:∀{l:List Pl},qak c l=false->∀p∈l,p.id≠c/\zve c p.a=false
 |[],_,p,hp=>by cases hp
 |q::l,h,p,hp=>by
  simp only[qak]at h
  cases hq:(bif Nat.beq q.id c then true else zve c q.a)with
  |true=>rw[hq]at h;cases h
  |false=>
   rw[hq]at h
   rcases Ay.1 hp with rfl|hp
   ·cases hb:Nat.beq p.id c with
    |true=>rw[hb]at hq;cases hq
    |false=>rw[hb]at hq;exact⟨λe=>by rw[e]at hb;simp at hb,hq⟩
   ·exact ztd h p hp
def zvq:List Pl->List Nat
 |[]=>[]
 |p::l=>p.id::zvq l
theorem zd1{R:CS}{h:Za}:∀{l:List Pl} {C C1:CS} {γ:Gh},zme R l C=some C1->Inv h0 W M0 (C++R) γ h ->
  ∃γ1,Inv h0 W M0 (C1++R) γ1 h/\GxS (zvq l) γ γ1/\(γ1.M=γ.M/\γ1.β=γ.β)/\∀p∈l,∀e t,p.s=.own e t->∀u,DenA γ p.a u->DenA γ1 (.own p.id) u
 |[],C,C1,γ,hn,I=>by
  simp only[zme,As]at hn
  subst hn
  exact⟨γ,I,GxS.refl _ _,⟨rfl,rfl⟩,λp hp=>by cases hp⟩
 |p::l,C,C1,γ,hn,I=>by
  have tl:∀{S:List Nat} {a b:Gh},GxS (zvq l) a b->GxS (zvq (p::l)) a b:=λg=>g.mono λx hx=>Aw _ hx
  have Z:∀s,GxS (zvq (p::l)) γ (zq5 γ p.id s):=λs=>⟨Fr.le.refl _,λi hi=>(Wl γ p.id s).2 i (by
   simp only[zvq,Ay,not_or]at hi;intro e;simp only[As]at e;exact hi.1 e.symm)⟩
  simp only[zme]at hn
  split at hn
  ·rename_i t hs
   obtain⟨γ1,I1,g1,m1,h1⟩:=zd1 hn I
   exact⟨γ1,I1,tl (S:=[]) g1,m1,λq hq e t' aa=>by
    rcases Ay.1 hq with rfl|hq
    ·rw[hs]at aa;cases aa
    ·exact h1 q hq e t' aa⟩
  ·rename_i e t hs
   cases hm:qak p.id l with
   |true=>rw[hm]at hn;cases hn
   |false=>
    rw[hm]at hn
    simp only[cond_false]at hn
    have ah:=ztd hm
    have ab:∀{C2:CS} {γ2:Gh},zme R l C2=some C1->Inv h0 W M0 (C2++R) γ2 h->GxS (zvq (p::l)) γ γ2->(γ2.M=γ.M/\γ2.β=γ.β)->(∀i,i≠p.id->γ2.σ i=γ.σ i/\γ2.β i=γ.β i)->(∀u,DenA γ p.a u->DenA γ2 (.own p.id) u) ->
      ∃γ1,Inv h0 W M0 (C1++R) γ1 h/\GxS (zvq (p::l)) γ γ1/\(γ1.M=γ.M/\γ1.β=γ.β)/\∀q∈p::l,∀e t,q.s=.own e t->∀u,DenA γ q.a u->DenA γ1 (.own q.id) u:=by
     intro C2 γ2 ai I2 g2 m2 af aj
     obtain⟨γ1,I1,g1,m1,h1⟩:=zd1 ai I2
     refine⟨γ1,I1,g2.trans (tl (S:=[]) g1),⟨m1.1.trans m2.1,m1.2.trans m2.2⟩,λq hq e' t' aa u hu=>?_⟩
     rcases Ay.1 hq with rfl|hq
     ·have h2:=aj u hu
      have am:q.id∉zvq l:=by
       intro hi
       have:∀{l:List Pl},q.id∈zvq l->∃p∈l,p.id=q.id:=by
        intro l
        induction l with
        |nil=>intro h;cases h
        |cons x l ih=>
         intro h
         simp only[zvq,Ay]at h
         rcases h with h|h
         ·exact⟨x,AC,h.symm⟩
         ·obtain⟨y,hy,e⟩:=ih h;exact⟨y,Aw _ hy,e⟩
       obtain⟨y,hy,e⟩:=this hi
       exact(ah y hy).1 e
      rw[show u=_ from h2]
      simp only[DenA,(g1.2 _ am).2]
     ·refine h1 q hq e' t' aa u ?_
      have gx:Gx (some p.id) γ γ2:=⟨by rw[m2.1];exact Fr.le.refl _,λi hi=>by
       have:=af i (λe=>hi (by rw[e]))
       exact⟨this.2,this.1⟩⟩
      exact hu.gx gx (ah q hq).2
    split at hn
    ·rename_i c ha
     split at hn
     ·rename_i e' t' xs hc
      split at hn
      ·rename_i ys ae
       obtain⟨e1,e2⟩:=Xi ae
       subst e1
       simp only at e2
       subst e2
       cases hee:Nat.beq e e' with
       |false=>rw[hee]at hn;cases hn
       |true=>
        rw[hee]at hn
        have:=Az hee
        subst this
        simp only[cond_true]at hn
        cases hci:Nat.beq c p.id with
        |true=>
         rw[hci]at hn
         simp only[cond_true]at hn
         have ak:=Az hci
         exact ab hn I (GxS.refl _ _) ⟨rfl,rfl⟩ (λ_ _=>⟨rfl,rfl⟩) (λu hu=>by rw[ha,ak]at hu;exact hu)
        |false=>
         rw[hci]at hn
         simp only[cond_false]at hn
         cases hR:Qf p.id R with
         |false=>rw[hR]at hn;cases hn
         |true=>
          rw[hR]at hn
          simp only[cond_true]at hn
          refine ab hn (I.rename hR (Zu hc)) (Z _) ⟨rfl,rfl⟩ (λi hi=>?_) (λu hu=>?_)
          ·have:=(Wl γ p.id (γ.σ c)).2 i (by simp;exact λe=>hi e.symm)
           exact⟨this.2,this.1⟩
          ·rw[ha]at hu
           rw[show u=_ from hu]
           simp only[DenA,Ql]
      ·cases hn
     ·cases hn
    ·rename_i ha
     cases hR:Qf p.id R with
     |false=>rw[hR]at hn;cases hn
     |true=>
      rw[hR]at hn
      simp only[cond_true]at hn
      refine ab hn (I.nilRow hR e t) (Z _) ⟨rfl,rfl⟩ (λi hi=>?_) (λu hu=>?_)
      ·have:=(Wl γ p.id ⟨none,0,0⟩).2 i (by simp;exact λe=>hi e.symm)
       exact⟨this.2,this.1⟩
      ·rw[ha]at hu
       rw[show u=_ from hu]
       simp only[DenA,Ql]
       rfl
    ·cases hn
def qal(Z cs:CS)(p:Pl):Option Dy:=match p.s with
 |.dat t=>match zjt Z t p.a with
  |some x=>some ⟨.dat t,x⟩
  |none=>none
 |.own e t=>match Xe cs p.id with
  |some (.row e' t' xs)=>match Wk (.row t') (.row t) xs with
   |some ys=>bif Nat.beq e e' then some ⟨.own e t,ys⟩else none
   |none=>none
  |_=>none
def zvr(Z cs:CS):List Pl->Option (List Dy)
 |[]=>some []
 |p::l=>match qal Z cs p,zvr Z cs l with
  |some d,some v=>some (d::v)
  |_,_=>none
def qcj(i:Nat):Dy->AA
 |⟨.dat t,x⟩=>match zaa t x with
  |[a]=>a
  |_=>.v undef
 |⟨.own _ _,_⟩=>.own i
def qck:Nat->List Dy->List AA
 |_,[]=>[]
 |i,d::l=>qcj i d::qck (i+1) l
def z9n(i:Nat):Dy->CS
 |⟨.own e t,xs⟩=>[(i,.row e t xs)]
 |_=>[]
def zvs:Nat->List Dy->CS
 |_,[]=>[]
 |i,d::l=>z9n i d++zvs (i+1) l
theorem zte{x:El t}{u:Value}(h:Rd γ.M t x [u]):DenA γ (qcj i ⟨.dat t,x⟩) u:=by
 have hd:=Ja (γ:=γ) h
 unfold qcj
 match hx:zaa t x,hd with
 |[a],hd=>simp only[hx];exact hd.1
 |[],hd=>exact hd.elim
 |_::_::_,hd=>exact hd.2.elim
theorem zvt{t':Ty}{xs:List (El t')}{ys:List (El t)}(h:Wk (.row t') (.row t) xs=some ys):Ch.row e t' xs=Ch.row e t ys:=by
 obtain⟨e1,e2⟩:=Xi h
 subst e1
 simp only at e2
 rw[e2]
theorem zos{Z cs:CS}{p:Pl}{l:List Pl}{v:List Dy}(h:zvr Z cs (p::l)=some v):∃d w,v=d::w/\zvr Z cs l=some w /\
  ((∃t x,p.s=.dat t/\d=⟨.dat t,x⟩/\zjt Z t p.a=some x)\/(∃e t xs,p.s=.own e t/\d=⟨.own e t,xs⟩/\(p.id,Ch.row e t xs)∈cs)):=by
 simp only[zvr]at h
 split at h
 ·rename_i d w h1 h2
  have h:=AL h
  refine⟨d,w,h.symm,h2,?_⟩
  unfold qal at h1
  split at h1
  ·rename_i t hs
   split at h1
   ·rename_i y hy
    exact .inl ⟨t,y,hs,(AL h1).symm,hy⟩
   ·cases h1
  ·rename_i e t hs
   split at h1
   ·rename_i e' t' xs hf
    split at h1
    ·rename_i ys hc
     cases he:Nat.beq e e' with
     |false=>rw[he]at h1;cases h1
     |true=>
      rw[he]at h1
      refine .inr ⟨e,t,ys,hs,(AL (show some (⟨.own e t,ys⟩:Dy)=some d from h1)).symm,?_⟩
      have:=Zu hf
      rw[zvt hc,<-Az he]at this
      exact this
    ·cases h1
   ·cases h1
 ·cases h
theorem za7{Z cs:CS}:∀{q r:List Pl} {v:List Dy},zvr Z cs (q++r)=some v->∃v1 v2,v=v1++v2/\v1.length=q.length/\zvr Z cs q=some v1/\zvr Z cs r=some v2
 |[],r,v,h=>⟨[],v,rfl,rfl,rfl,h⟩
 |p::q,r,v,h=>by
  simp only[A8,zvr]at h
  split at h
  ·rename_i d w h1 h2
   have h:=AL h
   obtain⟨v1,v2,rfl,e1,e2,e3⟩:=za7 h2
   exact⟨d::v1,v2,by rw[<-h];rfl,by simp[e1],by simp only[zvr,h1,e2],e3⟩
  ·cases h
theorem zot{base:Nat}:∀{ss:List Shp} {as:List AA} {l:List Pl},plL base ss as=some l->l.length=ss.length/\∀{γ γ1:Gh} {Z aa:CS} {v:List Dy} {us:List Value},z09 γ Z->γ1.M=γ.M->zvr Z aa l=some v ->
   (∀p∈l,∀e t,p.s=.own e t->∀u,DenA γ p.a u->DenA γ1 (.own p.id) u)->All2 (DenA γ) as us->All2 (DenA γ1) (qck base v) us/\∀x∈zvs base v,x∈aa:=by
 intro ss
 induction ss generalizing base with
 |nil=>
  intro as l h
  cases as with
  |nil=>
   simp only[plL,As]at h
   subst h
   refine⟨rfl,λhf hM hd ho hu=>?_⟩
   have hd:=AL hd
   subst hd
   refine⟨?_,λx hx=>by cases hx⟩
   rename_i us
   cases us with
   |nil=>trivial
   |cons _ _=>exact hu.elim
  |cons a as=>simp[plL]at h
 |cons s ss ih=>
  intro as l h
  cases as with
  |nil=>simp[plL]at h
  |cons a as=>
   simp only[plL]at h
   split at h
   ·rename_i l' hl
    simp only[As]at h
    subst h
    obtain⟨e1,ih⟩:=ih hl
    refine⟨by simp[e1],λ {γ γ1 Z aa v us} hf hM hd ho hu=>?_⟩
    obtain⟨d,w,rfl,h2,h3⟩:=zos hd
    cases us with
    |nil=>exact hu.elim
    |cons u us=>
     obtain⟨i1,i2⟩:=ih hf hM h2 (λp hp=>ho p (Aw _ hp)) hu.2
     rcases h3 with⟨t,x,hs,rfl,hc⟩|⟨e,t,xs,hs,rfl,hm⟩
     ·have:=Yj hf hc hu.1
      rw[<-hM]at this
      refine⟨⟨zte this,i1⟩,λy hy=>i2 y ?_⟩
      simpa[zvs,z9n]using hy
     ·refine⟨⟨ho _ AC e t hs u hu.1,i1⟩,λy hy=>?_⟩
      simp only[zvs,z9n,A8,BV,Ay]at hy
      rcases hy with rfl|hy
      ·exact hm
      ·exact i2 y hy
   ·cases h
def zd2:List (Nat×SG)->List Dy->Qe
 |[],_=>[]
 |(i,.one _)::l,d::ds=>(i,[],.g (.a (qcj (100000+64*i) d)))::zd2 l ds
 |(_,.one _)::_,[]=>[]
 |(i,.agg ss)::l,ds=>(i,[],.g (.agg (qck (100000+64*i) (ds.take ss.length))))::zd2 l (ds.drop ss.length)
def za8:List (Nat×SG)->List Dy->CS
 |[],_=>[]
 |(i,.one _)::l,d::ds=>z9n (100000+64*i) d++za8 l ds
 |(_,.one _)::_,[]=>[]
 |(i,.agg ss)::l,ds=>zvs (100000+64*i) (ds.take ss.length)++za8 l (ds.drop ss.length)
def zmf:List (Nat×List Shp)->List Dy->CS
 |[],_=>[]
 |(c,ss)::l,ds=>(c,.box (qck (1000000+64*c) (ds.take ss.length)))::(zvs (1000000+64*c) (ds.take ss.length)++zmf l (ds.drop ss.length))
def zrb:List (Nat×SG)->Nat
 |[]=>0
 |(_,.one _)::l=>1+zrb l
 |(_,.agg ss)::l=>ss.length+zrb l
def z4p(J:AnnA)(ds:List Dy):Qe:=zd2 J.slots ds
def chJ(J:AnnA)(ds:List Dy):CS:=za8 J.slots ds++zmf J.boxes (ds.drop (zrb J.slots))
theorem za9{e:Qe}{n:Nat}{a:Act}:∀{ss:List (Nat×SG)} {l:List Pl},ziv e ss=some l->l.length=zrb ss/\∀{γ γ1:Gh} {ab ae:CS} {v w:List Dy},SatA n e γ a->z09 γ ab->γ1.M=γ.M->zvr ab ae l=some v ->
   (∀p∈l,∀e t,p.s=.own e t->∀u,DenA γ p.a u->DenA γ1 (.own p.id) u)->(∀x∈zd2 ss (v++w),zl8 γ1 (Zl a) x)/\∀x∈za8 ss (v++w),x∈ae
 |[],l,h=>by
  simp only[ziv,As]at h
  subst h
  refine⟨rfl,λ_ _ _ hd _=>?_⟩
  have hd:=AL hd
  subst hd
  exact⟨λx hx=>(by cases hx),λx hx=>(by cases hx)⟩
 |(i,sg)::ss,l,h=>by
  simp only[ziv]at h
  split at h
  ·rename_i x r hl hr
   split at h
   ·rename_i s aa
    simp only[As]at h
    subst h
    obtain⟨e1,ih⟩:=za9 (n:=n) (a:=a) hr
    refine⟨by simp[e1,zrb];omega,λ {γ γ1 ab ae v w} hs hf hM hd ho=>?_⟩
    obtain⟨d,v',rfl,h2,h3⟩:=zos hd
    obtain⟨i1,i2⟩:=ih (w:=w) hs hf hM h2 (λp hp=>ho p (Aw _ hp))
    have Z:DenA γ aa (Zl a i):=(hs.all _ (Wa hl)).1 trivial
    rcases h3 with⟨t,x,af,rfl,hc⟩|⟨e',t,xs,af,rfl,hm⟩
    ·have:=Yj hf hc Z
     rw[<-hM]at this
     refine⟨λy hy=>?_,λy hy=>?_⟩
     ·simp only[A8,zd2,Ay]at hy
      rcases hy with rfl|hy
      ·exact⟨λ_=>zte this,λhn=>absurd trivial hn⟩
      ·exact i1 y hy
     ·simp only[A8,za8,z9n,BV]at hy
      exact i2 y hy
    ·refine⟨λy hy=>?_,λy hy=>?_⟩
     ·simp only[A8,zd2,Ay]at hy
      rcases hy with rfl|hy
      ·exact⟨λ_=>ho _ AC e' t af _ Z,λhn=>absurd trivial hn⟩
      ·exact i1 y hy
     ·simp only[A8,za8,z9n,BV,Ay]at hy
      rcases hy with rfl|hy
      ·exact hm
      ·exact i2 y hy
   ·rename_i ah as
    split at h
    ·rename_i q hq
     simp only[As]at h
     subst h
     obtain⟨e1,ih⟩:=za9 (n:=n) (a:=a) hr
     obtain⟨e2,hp⟩:=zot hq
     refine⟨by simp[e1,e2,zrb],λ {γ γ1 ab ae v w} hs hf hM hd ho=>?_⟩
     obtain⟨v1,v2,rfl,l1,d1,d2⟩:=za7 hd
     obtain⟨i1,i2⟩:=ih (w:=w) hs hf hM d2 (λp hp=>ho p (AO _ hp))
     obtain⟨us,hu,Z⟩:=(show ∃us,Zl a i=.agg us.toArray/\All2 (DenA γ) as us from(hs.all _ (Wa hl)).1 trivial)
     obtain⟨p1,p2⟩:=hp hf hM d1 (λp hp=>ho p (AJ _ hp)) Z
     have et:(v1++v2++w).take ah.length=v1:=by rw[<-e2,<-l1,Bo,Dn]
     have ed:(v1++v2++w).drop ah.length=v2++w:=by rw[<-e2,<-l1,Bo,De]
     refine⟨λy hy=>?_,λy hy=>?_⟩
     ·simp only[zd2,et,ed,Ay]at hy
      rcases hy with rfl|hy
      ·exact⟨λ_=>⟨us,hu,p1⟩,λhn=>absurd trivial hn⟩
      ·exact i1 y hy
     ·simp only[za8,et,ed,AP]at hy
      rcases hy with hy|hy
      ·exact p2 y hy
      ·exact i2 y hy
    ·cases h
   ·cases h
  ·cases h
theorem zfl{C0:CS}:∀{bs:List (Nat×List Shp)} {l:List Pl},ziw C0 bs=some l->∀{R:CS} {γ γ1:Gh} {Z aa:CS} {v:List Dy} {h:Za},Inv h0 W M0 (C0++R) γ h->z09 γ Z->γ1.M=γ.M->γ1.β=γ.β->zvr Z aa l=some v ->
   (∀p∈l,∀e t,p.s=.own e t->∀u,DenA γ p.a u->DenA γ1 (.own p.id) u) ->
   ∀x∈zmf bs v,x∈aa\/(DenC h0.size γ1 h x.1 x.2/\(∃as,(x.1,Ch.box as)∈C0)/\(∃as,x.2=Ch.box as)/\∃ss,(x.1,ss)∈bs)
 |[],l,hp,R,γ,γ1,Z,aa,v,h,I,hf,hM,hβ,hd,ho,x,hx=>by cases hx
 |(c,ss)::bs,l,hp,R,γ,γ1,Z,aa,v,h,I,hf,hM,hβ,hd,ho,x,hx=>by
  simp only[ziw]at hp
  split at hp
  ·rename_i as r hc hr
   split at hp
   ·rename_i q hq
    simp only[As]at hp
    subst hp
    obtain⟨e2,ae⟩:=zot hq
    obtain⟨v1,v2,rfl,l1,d1,d2⟩:=za7 hd
    obtain⟨us,eb,ab⟩:=I.den _ (AJ R (Zu hc))
    obtain⟨p1,p2⟩:=ae hf hM d1 (λp hp=>ho p (AJ _ hp)) ab
    have et:(v1++v2).take ss.length=v1:=by rw[<-e2,<-l1,Dn]
    have ed:(v1++v2).drop ss.length=v2:=by rw[<-e2,<-l1,De]
    simp only[zmf,et,ed,Ay,AP]at hx
    rcases hx with rfl|hx|hx
    ·exact .inr ⟨⟨us,by rw[hβ];exact eb,p1⟩,⟨as,Zu hc⟩,⟨_,rfl⟩,ss,AC⟩
    ·exact .inl (p2 x hx)
    ·rcases zfl hr I hf hM hβ d2 (λp hp=>ho p (AO _ hp)) x hx with h1|⟨h1,h2,h3,s',h4⟩
     ·exact .inl h1
     ·exact .inr ⟨h1,h2,h3,s',Aw _ h4⟩
   ·cases hp
  ·cases hp
def zix(C:CS):List (Nat×List Shp)->Bool
 |[]=>true
 |(c,_)::l=>match Xe C c with
  |some (.box _)=>zix C l
  |_=>false
theorem ziy{C:CS}:∀{l:List (Nat×List Shp)},zix C l=true->∀c ss,(c,ss)∈l->∃as,(c,Ch.box as)∈C
 |[],_,c,ss,h=>by cases h
 |(c',ss')::l,hb,c,ss,h=>by
  simp only[zix]at hb
  split at hb
  ·rename_i as hf
   rcases Ay.1 h with h|h
   ·cases h;exact⟨as,Zu hf⟩
   ·exact ziy hb c ss h
  ·cases hb
def zvu:CS->Bool
 |[]=>true
 |(c,_)::l=>bif zx3 c l then zvu l else false
theorem zk0:∀{l:CS},zvu l=true->l.Pairwise λx y=>x.1≠y.1
 |[],_=>.nil
 |(c,k)::l,h=>by
  simp only[zvu]at h
  cases hn:zx3 c l with
  |false=>rw[hn]at h;cases h
  |true=>
   rw[hn]at h
   exact BW.2 ⟨λy hy e=>zc1 hn y hy e.symm,zk0 h⟩
def allIn(S:List Nat):List Nat->Bool
 |[]=>true
 |i::l=>bif memN S i then allIn S l else false
theorem zou{l:List Nat}(h:memN l i=true):i∈l:=by
 induction l with
 |nil=>cases h
 |cons j l ih=>
  simp only[memN]at h
  cases hb:Nat.beq i j with
  |true=>rw[Az hb];exact AC
  |false=>rw[hb]at h;exact Aw _ (ih h)
theorem zov{S:List Nat}:∀{l:List Nat},allIn S l=true->∀i∈l,i∈S
 |[],_,i,h=>by cases h
 |j::l,hl,i,h=>by
  simp only[allIn]at hl
  cases hm:memN S j with
  |false=>rw[hm]at hl;cases hl
  |true=>
   rw[hm]at hl
   rcases Ay.1 h with rfl|h
   ·exact zou hm
   ·exact zov hl i h
theorem Inv.pick{C F R:CS}(I:Inv h0 W M0 (C++R) γ h)(hnd:zvu F=true)(hsrc:∀x∈F,DenC h0.size γ h x.1 x.2/\∃k,(x.1,k)∈C/\blk γ x.1 k=blk γ x.1 x.2):Inv h0 W M0 (F++R) γ h where
 ag:=I.ag
 frame:=I.frame
 size:=I.size
 old:=I.old
 le:=I.le
 den:=λx hx=>by
  rcases AP.1 hx with hx|hx
  ·exact(hsrc x hx).1
  ·exact I.den x (AO _ hx)
 sep:=λx hx b hb=>by
  rcases AP.1 hx with hx|hx
  ·obtain⟨_,k,hk,e⟩:=hsrc x hx
   exact I.sep _ (AJ _ hk) b (by rw[e];exact hb)
  ·exact I.sep x (AO _ hx) b hb
 apart:=by
  have hI:=I.apart
  rw[CH]at hI ⊢
  refine⟨(zk0 hnd).imp_of_mem λ {x y} hx hy hne b hb hb'=>?_,hI.2.1,λx hx y hy b hb=>?_⟩
  ·obtain⟨_,k,hk,e⟩:=hsrc x hx
   obtain⟨_,k',hk',e'⟩:=hsrc y hy
   exact zkz I (AJ R hk) (AJ R hk') (λe2=>hne (Prod.mk.inj e2).1) b (by rw[e];exact hb) (by rw[e'];exact hb')
  ·obtain⟨_,k,hk,e⟩:=hsrc x hx
   exact hI.2.2 _ hk y hy b (by rw[e];exact hb)
def xtr(J:AnnA)(R:CS)(e:Qe)(C:CS):Option (List Dy):=
 match ziv e J.slots,ziw C J.boxes with
 |some ps,some pb=>match ziw (frzL (zvp (ps++pb)) C) J.boxes with
  |some Z=>match zme R (ps++Z) (frzL (zvp (ps++pb)) C)with
   |some C1=>bif zix C1 J.boxes then(bif allIn J.ids (zvq (ps++Z))then(match zvr (frzL (zvp (ps++pb)) C++R) C1 (ps++Z)with
    |some ds=>bif zvu (chJ J ds)then some ds else none
    |none=>none)else none)else none
   |none=>none
  |none=>none
 |_,_=>none
theorem ziz{J:AnnA}{e:Qe}{ds:List Dy}(hx:xtr J R e C=some ds){n:Nat}{a:Act}(hs:SatA n e γ a)(I:Inv h0 W M0 (C++R) γ h):
  ∃γ1,Inv h0 W M0 (chJ J ds++R) γ1 h/\GxS J.ids γ γ1/\∀x∈z4p J ds,zl8 γ1 (Zl a) x:=by
 unfold xtr at hx
 split at hx
 ·rename_i ps pb ak an
  split at hx
  ·rename_i aj Z
   split at hx
   ·rename_i C1 ah
    cases hbi:zix C1 J.boxes with
    |false=>rw[hbi]at hx;cases hx
    |true=>
    rw[hbi]at hx
    cases hai:allIn J.ids (zvq (ps++aj))with
    |false=>rw[hai]at hx;cases hx
    |true=>
    rw[hai]at hx
    simp only[cond_true]at hx
    split at hx
    ·rename_i aa ai
     cases hnd:zvu (chJ J aa)with
     |false=>rw[hnd]at hx;cases hx
     |true=>
     rw[hnd]at hx
     have hx:=AL (show some aa=some ds from hx)
     subst hx
     obtain⟨γ0,I0,g0⟩:=Inv.frzL (C:=C) (γ:=γ) (zvp (ps++pb)) I
     have af:=hs.gx0 g0
     obtain⟨γ1,I1,g1,⟨hM,hβ⟩,ho⟩:=zd1 ah I0
     obtain⟨v1,v2,rfl,l1,d1,d2⟩:=za7 ai
     obtain⟨e1,ae⟩:=za9 (n:=n) (a:=a) ak
     obtain⟨f1,f2⟩:=ae (w:=v2) af I0.fz hM d1 (λp hp=>ho p (AJ _ hp))
     have ab:=zfl Z I0 I0.fz hM hβ d2 (λp hp=>ho p (AO _ hp))
     have ed:(v1++v2).drop (zrb J.slots)=v2:=by rw[<-e1,<-l1,De]
     have gS:GxS J.ids γ γ1:=⟨g0.1.trans g1.1,λi hi=>by
      have h2:=g1.2 i (λhm=>hi (zov hai i hm))
      have h1:=g0.2 i (by simp)
      exact⟨h2.1.trans h1.1,h2.2.trans h1.2⟩⟩
     refine⟨γ1,I1.pick hnd λx hx=>?_,gS,f1⟩
     unfold chJ at hx
     rw[ed]at hx
     rcases AP.1 hx with hx|hx
     ·have:=f2 x hx
      exact⟨I1.den x (AJ _ this),x.2,this,rfl⟩
     ·rcases ab x hx with h1|⟨h1,_,⟨as,h2⟩,ss,h3⟩
      ·exact⟨I1.den x (AJ _ h1),x.2,h1,rfl⟩
      ·obtain⟨am,h4⟩:=ziy hbi _ _ h3
       exact⟨h1,_,h4,by rw[h2];rfl⟩
    ·cases hx
   ·cases hx
  ·cases hx
 ·cases hx
theorem zyb{α:Type}{R:α->α->Prop}(hs:∀x y,R x y->R y x){l l':List α}(p:l.Perm l'):l.Pairwise R->l'.Pairwise R:=by
 induction p with
 |nil=>exact id
 |cons x p ih=>intro h;rw[BW]at h ⊢;exact⟨λy hy=>h.1 y (p.symm.subset hy),ih h.2⟩
 |swap x y l=>
  intro h
  simp only[BW,Ay]at h ⊢
  obtain⟨h1,h2,h3⟩:=h
  exact⟨λz hz=>by rcases hz with rfl|hz;exact hs _ _ (h1 _ (.inl rfl));exact h2 z hz,λz hz=>h1 z (.inr hz),h3⟩
 |trans _ _ aa Z=>exact λh=>Z (aa h)
theorem Inv.perm{cs cs':CS}(I:Inv h0 W M0 cs γ h)(p:cs.Perm cs'):Inv h0 W M0 cs' γ h where
 ag:=I.ag
 frame:=I.frame
 size:=I.size
 old:=I.old
 le:=I.le
 den:=λx hx=>I.den x (p.symm.subset hx)
 sep:=λx hx=>I.sep x (p.symm.subset hx)
 apart:=zyb (λx y h b hb hb'=>h b hb' hb) p I.apart
end
section
variable {P:Program} {gl:Fr}
variable {h0 : Za} {W : Nat -> Prop} {M0 : Fr}
def z2b(P:Program)(gl:Fr)(o:Oper)(e:Qe)(c:Zr)(cs:CS)(K:AV->Prop):Prop:=
 match o.op with
 |.pick x a b=>z2a e c x a b K
 |_=>match za0 e c with
  |some g=>qA P gl o (zhg e c) g cs K
  |none=>False
def wQA(P:Program)(gl:Fr)(n:Nat)(ops:Array Oper)(cs:CS)(K:Qe->Prop):List Oper->Qe->Prop
 |[],e=>K e
 |o::rest,e=>match Xw ops e o.guard with
  |some c=>bif Z5 n c o.dst then z2b P gl o e c cs λv=>wQA P gl n ops cs K rest (z1q e o.dst c v)else False
  |none=>False
theorem zk1(Z:Fr.le gl M0){o:Oper}{e:Qe}{c:Zr}{cs:CS}{K:AV->Prop}(H:z2b P gl o e c cs K):∃av,K av/\∀(n:Nat) (γ:Gh) (a:Act) (h:Za),SatA n e γ a->Inv h0 W M0 cs γ h->valid (Zl a) c->∃v,DenV γ av v/\QExec P (execOp a.eval o) h (.value v):=by
 unfold z2b at H
 split at H
 ·rename_i x y z ho
  obtain⟨av,h1,h2⟩:=za6 H
  refine⟨av,h1,λn γ a h hs I hv=>?_⟩
  obtain⟨t,h3,h4⟩:=h2 n γ a hs hv
  refine⟨_,h4,λB d=>?_⟩
  simp only[execOp,ho,h3,asBool,Sem.run_bind,Sem.run_pure,Result.andThen_ok]
 ·split at H
  ·rename_i g hg
   obtain⟨av,h1,h2⟩:=zhw (h0:=h0) (W:=W) (M0:=M0) Z H
   exact⟨av,h1,λn γ a h hs I hv=>h2 (Jb hs hg hv) γ h a.eval I λx av hx=>Zn hs hv hx⟩
  ·exact H.elim
theorem zi0{P:Program}{gl:Fr}(ae:Fr.le gl M0){n:Nat}{ops:Array Oper}{cs:CS}{K:Qe->Prop}{Q:Act->Prop}{γ:Gh}{h:Za}(I:Inv h0 W M0 cs γ h)(B:World)(d:Nat):
  ∀(l:List Oper) (e:Qe) (a:Act),wQA P gl n ops cs K l e->SatA n e γ a->(∀e' a',SatA n e' γ a'->Same (Qx l) a a'->K e'->Q a')->wpStill P ops (mk B d h) Q l a
 |[],e,a,H,hs,hQ=>hQ _ _ hs (Same.refl _ _) H
 |o::rest,e,a,H,hs,hQ=>by
  unfold wQA at H
  split at H
  ·rename_i c hc
   cases hd:Z5 n c o.dst with
   |false=>rw[hd]at H;exact H.elim
   |true=>
    rw[hd]at H
    simp only[cond_true]at H
    have hw:=Jj hs hc
    have af:∀i,o.dst=some i->i∈Qx (o::rest):=λi hi=>by simp[Qx,hi]
    have aa:∀x∈Qx rest,x∈Qx (o::rest):=λx hx=>by
     unfold Qx
     split
     ·exact Aw _ hx
     ·exact hx
    obtain⟨av,hK,hy⟩:=zk1 (h0:=h0) (W:=W) (M0:=M0) ae H
    have Z:∀u,(valid (Zl a) c->DenV γ av u)->(¬valid (Zl a) c->u=undef)->wpStill P ops (mk B d h) Q rest (a.put o.dst u):=λu h1 h2=>
     zi0 ae I B d rest _ _ hK (hs.putO hd h1 h2) λe' a' q1 q2 q3=>hQ e' a' q1 ((Same.put a o.dst u af).trans (q2.mono aa)) q3
    unfold wpStill
    by_cases hv:valid (Zl a) c
    ·rw[if_pos (hw.2 hv)]
     unfold Oper.still
     obtain⟨v,h1,h2⟩:=hy n γ a h hs I hv
     rw[h2 B d,Oper.stillUpon_value]
     exact Z v (λ_=>h1) (λab=>absurd hv ab)
    ·rw[if_neg (λhx=>hv (hw.1 hx))]
     exact Z undef (λab=>absurd ab hv) (λ_=>rfl)
  ·exact H.elim
abbrev zyc:=List (Nat×Nat)
def zrc(P:Program)(gl:Fr)(tr:TypeId)(n:Nat)(tl:zyc)(id:Nat)(ops:Array Oper)(Z:Bool)(R:CS)(K:Qe->CS->Prop)(e:Qe)(C:CS):Prop:=
 bif Z then(match zxg tl id with
  |none=>bif Region.lexB .any ops then wQA P gl n ops (C++R) (λe'=>K (zg8 e') C) ops.toList e else False
  |some m=>bif Region.lexTailB .any ops m then wQA P gl n ops (C++R) (λe'=>wRA P gl tr n ops R K (ops.toList.drop m) e' C) (ops.toList.take m) e else False)
 else wRA P gl tr n ops R K ops.toList e C
theorem zmg(hm:P.follows .mixedOrders=true)(ab:Fr.le gl M0){tr:TypeId}{n:Nat}{tl:zyc}{id:Nat}{ops:Array Oper}{aa:Bool}{R C:CS}{K:Qe->CS->Prop}{e:Qe}
  (H:zrc P gl tr n tl id ops aa R K e C) {γ:Gh} {h:Za} (B:World) (d:Nat) {a:Act} (hs:SatA n e γ a) (I:Inv h0 W M0 (C++R) γ h) {Q:Exit->Act->World->Prop}
  (hQ:∀e' C' γ' a' d' h',SatA n e' γ' a'->Inv h0 W M0 (C'++R) γ' h'->Same (Qx ops.toList) a a'->GxS (Qx ops.toList) γ γ'->K e' C'->Q .normal a' (mk B d' h')):(Em id ops aa).wp P Q a (mk B d h):=by
 unfold zrc at H
 cases aa with
 |false=>exact wp_region_list (zfk ab B _ _ _ _ _ _ _ H hs I hQ)
 |true=>
  simp only[cond_true]at H
  split at H
  ·cases hB:Region.lexB .any ops with
   |false=>rw[hB]at H;exact H.elim
   |true=>
    rw[hB]at H
    refine wp_region_still hm hB ?_
    exact zi0 ab I B (d+1) _ _ _ H hs λe' a' q1 q2 q3=>hQ _ _ _ _ _ _ q1.clean I q2 (GxS.refl _ _) q3
  ·rename_i m _
   cases hB:Region.lexTailB .any ops m with
   |false=>rw[hB]at H;exact H.elim
   |true=>
    rw[hB]at H
    have Z:Qx ops.toList=Qx (ops.toList.take m)++Qx (ops.toList.drop m):=by rw[<-Jw,Cm]
    have:=wp_region_still_tail (id:=id) (Q:=Q) (a:=a) (w:=mk B d h) (l:=ops.toList) m hm (by simpa using hB) (by
     simp only[Array.toArray_toList]
     refine zi0 ab I B (d+1) _ _ _ H hs λe' a' q1 q2 q3=>?_
     refine zfk ab B _ _ _ _ _ _ (d+1) q3 q1 I λah aj ak af ai ae q4 q5 q6 q7 q8=>hQ ah aj ak af ai ae q4 q5 ?_ ?_ q8
     ·rw[Z]
      exact(q2.mono λx hx=>AJ _ hx).trans (q6.mono λx hx=>AO _ hx)
     ·rw[Z]
      exact q7.mono λx hx=>AO _ hx)
    simpa using this
end
end Go.X
end
