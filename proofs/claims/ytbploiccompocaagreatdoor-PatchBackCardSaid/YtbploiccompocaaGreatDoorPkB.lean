/- A part of the proof: nothing is stated here for its own sake. -/
import Derived.Test.YtbploiccompocaaGreatDoorPkA
import Derived.Laws.StructEq
import Derived.Deep.AppendSrc
import Derived.Laws.BytesString
open _root_.Go.Addr renaming add->Aj
open _root_.Array renaming ext'->ED,getD_eq_getD_getElem?->Bi,getElem?_eq_some_iff->Ac,getElem?_push->BH,getElem?_setIfInBounds_ne->AH,length_toList->CR,range->EV,size_setIfInBounds->B4,toList_map->C3
open _root_.Bool renaming false_eq_true->A0,true_and->B0
open _root_.Go.Builtin renaming append_->Ax,firstCells->Cr,len_->CK
open _root_.Go.Code renaming region->CX
open _root_.Go.Deferred renaming ofValue->D7
open _root_.Go.Instr renaming fill->E0,indexAt->EE,loadAt->D5,next->EZ,range->EU,sliceAt->EF,storeAt->Al,sureAddr->Ej
open _root_.List renaming append_assoc->AQ,append_nil->Ba,cons_append->A3,drop_drop->Ce,drop_eq_getElem_cons->AL,drop_eq_nil_of_le->A7,drop_take->Ep,drop_zero->A2,eq_nil_of_length_eq_zero->Aw,ext_getElem?->AZ,getElem?_append_left->Bg,getElem?_append_right->Bb,getElem?_cons_zero->Dn,getElem?_drop->AE,getElem?_eq_getElem->Ai,getElem?_eq_none->Bj,getElem?_eq_some_iff->Az,getElem?_map->Cc,getElem?_take->AC,getElem?_toArray->DK,getElem_append_left->Dj,getElem_append_right->CG,getElem_of_mem->Bf,length_append->Ar,length_cons->Av,length_drop->AX,length_map->Bv,length_nil->Ef,length_take->AY,mapM_cons->En,map_cons->CY,mem_append->An,mem_append_left->Ao,mem_append_right->AB,mem_cons->Ad,mem_cons_of_mem->Af,mem_cons_self->Aq,nil_append->BJ,pairwise_append->Cu,pairwise_cons->BL,size_toArray->DO,take_append_drop->BD,take_left->Em,take_length->AN,take_of_length_le->Be,take_succ_eq_append_getElem->Am,take_take->Er
open _root_.List.cons renaming injEq->Ci
open _root_.Nat renaming add_mul->BB,blt_eq->Cz,eq_of_beq_eq_true->Ag,eq_zero_or_pos->Dt,le_mul_of_pos_right->Do,le_of_ble_eq_true->BM,le_refl->Ae,lt_of_lt_of_le->Dq,lt_or_ge->AR,min_eq_left->CP,mul_comm->CU,mul_le_mul_right->AM,mul_one->B6,one_mul->Dd,succ_mul->Du,zero_add->AD,zero_le->CW,zero_mul->Dc
open _root_.Go.Next renaming value->D2
open _root_.Option renaming bind_some->Ck,map_eq_some_iff->CC
open _root_.Option.some renaming inj->Au,injEq->Aa
open _root_.Prod.mk renaming injEq->BA
open _root_.Pure renaming pure->Dl
open _root_.Go.Region renaming wanted->BN
open _root_.Go.Utf8 renaming encode->EP
open _root_.Go.Value renaming int->EX
open _root_.Go.Value.slice renaming injEq->AO
set_option linter.unusedVariables false
set_option maxRecDepth 100000
namespace Go.X
end Go.X
namespace Go.Proofs
end Go.Proofs
open Go Go.X Go.Proofs
section
namespace Go.X
section
variable {M M':Fr} {h h':zb} {b c o j n0:Nat} {γ γ':Gh} {us:List Value} {u:Value} {t:Ty} {cs C R:CS} {e:TypeId}
def AgM(M:Fr)(h:zb):Prop:=∀b c,M b=some c->∃T m,h[b]?=some (.cells c T m)
theorem AgM.lt(H:AgM M h){c:Array Value}(e:M b=some c):b<h.size:=by
 obtain⟨T,m,e'⟩:=H b c e;exact(Ac.1 e').1
theorem AgM.none{M:Fr}{h:zb}(H:AgM M h){b:Nat}(hb:h.size<=b):M b=none:=by
 cases e:M b with
 |none=>rfl
 |some c=>have:=H.lt e;omega
theorem AgM.cell(H:AgM M h){c:Array Value}{v:Value}(e:M b=some c)(hv:c[o]?=some v):zj h ⟨b,o,Option.none⟩=some v:=by
 obtain⟨T,m,e'⟩:=H b c e
 unfold zj;simp[e',hv]
def Gx(c:Option Nat)(γ γ':Gh):Prop:=Fr.le γ.M γ'.M/\∀i,c≠some i->γ'.β i=γ.β i/\γ'.σ i=γ.σ i
theorem Gx.refl(c:Option Nat)(γ:Gh):Gx c γ γ:=⟨Fr.le.refl _,λ_ _=>⟨rfl,rfl⟩⟩
def zug(c:Nat):AA->Bool
 |.box j _=>Nat.beq j c
 |.own j=>Nat.beq j c
 |.oelt j _ _ _=>Nat.beq j c
 |_=>false
def znf(c:Nat):List AA->Bool
 |[]=>false
 |x::l=>bif zug c x then true else znf c l
def zgh(c:Nat):Ch->Bool
 |.box l=>znf c l
 |_=>false
def z9z(c:Nat):AG->Bool
 |.a x=>zug c x
 |.agg l=>znf c l
def z1d(c:Nat):List AG->Bool
 |[]=>false
 |x::l=>bif z9z c x then true else z1d c l
def z0u(c:Nat):AV->Bool
 |.g x=>z9z c x
 |.tup l=>z1d c l
 |.nx _ _ _=>false
def z0v{α:Type}(f:Nat->α->Bool):Option Nat->α->Bool
 |none,_=>false
 |some c,x=>f c x
theorem znu(h:Nat.beq j c=false):some c≠some j:=by
 intro e;simp only[Aa]at e;subst e;simp at h
theorem DenA.gx{c:Option Nat}(g:Gx c γ γ'):∀{x:AA} {u:Value},z0v zug c x=false->DenA γ x u->DenA γ' x u
 |.v _,_,_,h=>h
 |.d _ _,_,_,h=>Rd.mono g.1 h
 |.box j o,u,hm,h=>by
  have:c≠some j:=by cases c with|none=>simp|some c=>exact znu hm
  rw[show u=_ from h];simp only[DenA,(g.2 j this).1]
 |.own j,u,hm,h=>by
  have:c≠some j:=by cases c with|none=>simp|some c=>exact znu hm
  rw[show u=_ from h];simp only[DenA,(g.2 j this).2]
 |.oelt j z i o,u,hm,h=>by
  have:c≠some j:=by cases c with|none=>simp|some c=>exact znu hm
  obtain⟨b,e1,e2⟩:=h
  exact⟨b,by rw[(g.2 j this).2];exact e1,e2⟩
 |.elt _ _ _,_,_,⟨b,f,cs,e,h1,h2⟩=>⟨b,f,cs,e,g.1 _ _ h1,Rd.mono g.1 h2⟩
 |.dc _ _,_,_,⟨s,e1,e2,h⟩=>⟨s,e1,e2,Rd.mono g.1 h⟩
theorem z1e{l:List AA}(h:znf c l=false):∀x∈l,zug c x=false:=by
 induction l with
 |nil=>intro x hx;cases hx
 |cons y l ih=>
  intro x hx
  simp only[znf]at h
  cases hy:zug c y with
  |true=>simp[hy]at h
  |false=>
   simp only[hy,cond_false]at h
   rcases Ad.1 hx with rfl|hx
   ·exact hy
   ·exact ih h x hx
theorem DenL.gx{c:Option Nat}(g:Gx c γ γ'){l:List AA}(hm:z0v znf c l=false)(h:All2 (DenA γ) l us):All2 (DenA γ') l us:=
 h.imp λx hx u hu=>DenA.gx g (by cases c with|none=>rfl|some c=>exact z1e hm x hx) hu
theorem DenG.gx{c:Option Nat}(g:Gx c γ γ'){x:AG}(hm:z0v z9z c x=false)(h:DenG γ x u):DenG γ' x u:=by
 cases x with
 |a x=>exact DenA.gx g (by cases c <;> exact hm) h
 |agg l=>obtain⟨us,e,h⟩:=h;exact⟨us,e,DenL.gx g (by cases c <;> exact hm) h⟩
theorem zwt{l:List AG}(h:z1d c l=false):∀x∈l,z9z c x=false:=by
 induction l with
 |nil=>intro x hx;cases hx
 |cons y l ih=>
  intro x hx
  simp only[z1d]at h
  cases hy:z9z c y with
  |true=>simp[hy]at h
  |false=>
   simp only[hy,cond_false]at h
   rcases Ad.1 hx with rfl|hx
   ·exact hy
   ·exact ih h x hx
theorem DenV.gx{c:Option Nat}(g:Gx c γ γ'){x:AV}(hm:z0v z0u c x=false)(h:DenV γ x u):DenV γ' x u:=by
 cases x with
 |g x=>exact DenG.gx g (by cases c <;> exact hm) h
 |tup l=>
  obtain⟨us,e,h⟩:=h
  exact⟨us,e,h.imp λx hx u hu=>DenG.gx g (by cases c with|none=>rfl|some c=>exact zwt hm x hx) hu⟩
 |nx b p c=>exact h
def RowC(M:Fr)(t:Ty)(xs:List (El t))(cells:List Value):Prop:=
 cells.length=xs.length*sz t/\∀i (h:i<xs.length),Rd M t xs[i] ((cells.drop (i*sz t)).take (sz t))
theorem RowC.mono(hM:Fr.le M M'){xs:List (El t)}{cells:List Value}(H:RowC M t xs cells):RowC M' t xs cells:=⟨H.1,λi h=>Rd.mono hM (H.2 i h)⟩
theorem RowC.nil(M:Fr)(t:Ty):RowC M t [] []:=⟨by simp,λi h=>absurd h (by simp)⟩
theorem RowC.single{x:El t}{cs:List Value}(h:Rd M t x cs):RowC M t [x] cs:=by
 have hl:=h.len
 refine⟨by simp[hl],λi hi=>?_⟩
 have:i=0:=by simpa using hi
 subst this
 simp only[Dc,A2,List.getElem_cons_zero,<-hl,AN]
 exact h
theorem RowC.append{xs ys:List (El t)}{c1 c2:List Value}(h1:RowC M t xs c1)(h2:RowC M t ys c2):RowC M t (xs++ys) (c1++c2):=by
 refine⟨by rw[Ar,Ar,h1.1,h2.1,BB],λi hi=>?_⟩
 by_cases O:i<xs.length
 ·rw[Dj O]
  have aa:(i+1)*sz t<=c1.length:=by rw[h1.1];exact AM _ O
  rw[BB,Dd]at aa
  rw[List.drop_append_of_le_length (by omega),List.take_append_of_le_length (by rw[AX];omega)]
  exact h1.2 i O
 ·have Z:xs.length<=i:=by omega
  rw[CG Z]
  have ac:i-xs.length<ys.length:=by rw[Ar]at hi;omega
  have:=h2.2 (i-xs.length) ac
  have e:(c1++c2).drop (i*sz t)=c2.drop ((i-xs.length)*sz t):=by
   rw[List.drop_append]
   have:c1.length<=i*sz t:=by rw[h1.1];exact AM _ Z
   rw[A7 this,BJ,h1.1,<-Nat.sub_mul]
  rw[e];exact this
theorem RowC.one{xs:List (El t)}{cells:List Value}(H:RowC M t xs cells):∀v∈cells,v.oneCell'=true:=by
 intro v hv
 obtain⟨j,hj,rfl⟩:=Bf hv
 have hz:0<sz t:=by
  rcases Dt (sz t)with h|h
  ·rw[H.1,h,Nat.mul_zero]at hj;omega
  ·exact h
 have hi:j / sz t<xs.length:=by rw[H.1]at hj;exact Nat.div_lt_of_lt_mul (by rw[CU];exact hj)
 refine Rd.one (H.2 _ hi) _ ?_
 rw[List.mem_iff_getElem?]
 refine⟨j % sz t,?_⟩
 rw[AC,if_pos (Nat.mod_lt _ hz),AE,CU,Nat.div_add_mod,Ai hj]
theorem RowC.rd{xs:List (El t)}{cells:List Value}(H:RowC M t xs cells){cs:Array Value}(hM:M b=some cs)(hc:(cs.toList.drop o).take (xs.length*sz t)=cells)(hn:xs.length<=140737488355328/\xs.length<=c):
  Rd M (.row t) xs [.slice (some ⟨b,o,none⟩) xs.length c]:=by
 refine⟨_,rfl,_,_,rfl,hn,.inr ⟨b,o,cs,rfl,hM,λi hi=>?_⟩⟩
 have:=H.2 i hi
 rw[<-hc]at this
 have O:(i+1)*sz t<=xs.length*sz t:=AM _ hi
 rw[BB,Dd]at O
 have e:(((cs.toList.drop o).take (xs.length*sz t)).drop (i*sz t)).take (sz t)=cut cs (o+i*sz t) (sz t):=by
  unfold cut
  rw[Ep,Er,Ce,CP (by omega)]
 rw[e]at this
 exact this
theorem Rd.rowC(ag:AgM M h){xs:List (El t)}(H:Rd M (.row t) xs [u]):∃s:Sl,u=slV s/\s.len=xs.length/\(xs.length<=140737488355328/\xs.length<=s.cap)/\∃cells,RowC M t xs cells/\Arr h.size h s.a cells:=by
 obtain⟨v,e,a,c,rfl,hn,H⟩:=H
 cases e
 refine⟨⟨a,xs.length,c⟩,rfl,rfl,hn,?_⟩
 rcases H with rfl|⟨b,o,cs,rfl,hM,hi⟩
 ·exact⟨[],RowC.nil _ _,.inl rfl⟩
 ·have O:xs=[]\/xs.length*sz t<=(cs.toList.drop o).length:=by
   rcases Dt xs.length with h0|h0
   ·exact .inl (Aw h0)
   ·right
    have:=(hi (xs.length-1) (by omega)).len
    unfold cut at this
    rw[AY,AX]at this
    rw[AX]
    rcases Dt (sz t)with hz|hz
    ·rw[hz];simp
    ·have e:xs.length*sz t=(xs.length-1)*sz t+sz t:=by
      rw[<-Du];congr 1;omega
     rw[e];omega
  rcases O with rfl|O
  ·exact⟨[],RowC.nil _ _,.inl rfl⟩
  refine⟨(cs.toList.drop o).take (xs.length*sz t),⟨by rw[AY];omega,λi Z=>?_⟩,.inr ⟨b,o,rfl,ag.lt hM,λi v hv=>?_⟩⟩
  ·have:=hi i Z
   have aa:(i+1)*sz t<=xs.length*sz t:=AM _ Z
   rw[BB,Dd]at aa
   unfold cut at this
   rw[Ep,Er,Ce,CP (by omega)]
   exact this
  ·refine ag.cell hM ?_
   rw[AC]at hv
   split at hv
   ·rw[AE]at hv;simpa using hv
   ·cases hv
def z5l(o:Option Obj)(us:List Value):Prop:=((∃T,o=some (.cells us.toArray T (0,0)))/\∀s p,us≠[Zp s p])\/(∃s p,us=[Zp s p]/\o=some (.stringIter s p))
def DenC(n0:Nat)(γ:Gh)(h:zb)(c:Nat):Ch->Prop
 |.box l=>∃us,z5l h[γ.β c]? us/\All2 (DenA γ) l us
 |.row e t xs=>∃cells,Owns h n0 e (sz t) (γ.σ c) cells/\RowC γ.M t xs cells/\xs.length<=140737488355328/\(γ.σ c).len=xs.length
 |.fz t xs=>Rd γ.M (.row t) xs [slV (γ.σ c)]
def blk(γ:Gh)(c:Nat):Ch->Option Nat
 |.box _=>some (γ.β c)
 |.row _ _ _=>(γ.σ c).a.map (·.block)
 |.fz _ _=>none
structure Inv (h0:zb) (W:Nat->Prop) (M0:Fr) (cs:CS) (γ:Gh) (h:zb):Prop where
 ag:AgM γ.M h
 frame:∀i,i<h0.size->¬W i->h[i]?=h0[i]?
 size:h0.size<=h.size
 old:∀b,b<h0.size->γ.M b=M0 b
 le:Fr.le M0 γ.M
 den:∀x∈cs,DenC h0.size γ h x.1 x.2
 sep:∀x∈cs,∀b,blk γ x.1 x.2=some b->(h0.size<=b\/W b)/\γ.M b=none
 apart:cs.Pairwise λx y=>∀b,blk γ x.1 x.2=some b->blk γ y.1 y.2≠some b
variable {h0 : zb} {W : Nat -> Prop} {M0 : Fr}
theorem DenC.lt{k:Ch}(H:DenC n0 γ h c k):∀b,blk γ c k=some b->b<h.size:=by
 intro b hb
 cases k with
 |box l=>
  obtain⟨us,e,_⟩:=H
  simp only[blk,Aa]at hb
  subst hb
  rcases e with⟨⟨T,e⟩,_⟩|⟨s,p,_,e⟩
  ·exact(Ac.1 e).1
  ·exact(Ac.1 e).1
 |row e t xs=>
  obtain⟨cells,h1,_⟩:=H
  simp only[blk,CC]at hb
  obtain⟨p,hp,rfl⟩:=hb
  exact(h1.base_le p hp).2
 |fz t xs=>cases hb
theorem DenC.gx{c:Option Nat}(g:Gx c γ γ'){k:Ch}(hj:c≠some j)(hm:z0v zgh c k=false)(H:DenC n0 γ h j k)(hb:∀b,blk γ j k=some b->h'[b]?=h[b]?):DenC n0 γ' h' j k:=by
 obtain⟨e1,e2⟩:=g.2 j hj
 cases k with
 |box l=>
  obtain⟨us,e,h1⟩:=H
  exact⟨us,by rw[e1,hb _ rfl];exact e,DenL.gx g (by cases c <;> exact hm) h1⟩
 |row e t xs=>
  obtain⟨cells,h1,h2,h3,h4⟩:=H
  refine⟨cells,?_,h2.mono g.1,h3,by rw[e2];exact h4⟩
  rw[e2]
  exact h1.keep λp hp=>hb _ (by simp[blk,hp])
 |fz t xs=>simp only[DenC,e2];exact Rd.mono g.1 H
theorem zjw{c:Option Nat}(g:Gx c γ γ')(k:Ch)(hj:c≠some j):blk γ' j k=blk γ j k:=by
 obtain⟨e1,e2⟩:=g.2 j hj
 cases k <;> simp[blk,e1,e2]
theorem Inv.rest{cs rest:CS}{γ γ':Gh}{h h':zb}(I:Inv h0 W M0 cs γ h)(hsub:rest.Sublist cs){c:Option Nat}(g:Gx c γ γ')
  (hmen:∀x∈rest,c≠some x.1/\z0v zgh c x.2=false) (hk:∀x∈rest,∀b,blk γ x.1 x.2=some b->h'[b]?=h[b]?/\γ'.M b=none)
  (ag:AgM γ'.M h') (hframe:∀i,i<h0.size->¬W i->h'[i]?=h[i]?) (hsize:h.size<=h'.size) (hold:∀b,b<h0.size->γ'.M b=γ.M b):Inv h0 W M0 rest γ' h' where
 ag:=ag
 frame:=λi hi hw=>(hframe i hi hw).trans (I.frame i hi hw)
 size:=Nat.le_trans I.size hsize
 old:=λb hb=>(hold b hb).trans (I.old b hb)
 le:=I.le.trans g.1
 den:=λx hx=>(I.den x (hsub.subset hx)).gx g (hmen x hx).1 (hmen x hx).2 λb hb=>(hk x hx b hb).1
 sep:=λx hx b hb=>by
  rw[zjw g _ (hmen x hx).1]at hb
  exact⟨(I.sep x (hsub.subset hx) b hb).1,(hk x hx b hb).2⟩
 apart:=by
  refine(I.apart.sublist hsub).imp_of_mem λ {x y} hx hy h=>?_
  intro b hb
  rw[zjw g _ (hmen x hx).1]at hb
  rw[zjw g _ (hmen y hy).1]
  exact h b hb
theorem Inv.cons{rest:CS}(I:Inv h0 W M0 rest γ h){k:Ch}(hd:DenC h0.size γ h c k)(hs:∀b,blk γ c k=some b->(h0.size<=b\/W b)/\γ.M b=none)
  (ha:∀b,blk γ c k=some b->∀x∈rest,blk γ x.1 x.2≠some b):Inv h0 W M0 ((c,k)::rest) γ h where
 ag:=I.ag
 frame:=I.frame
 size:=I.size
 old:=I.old
 le:=I.le
 den:=λx hx=>by rcases Ad.1 hx with rfl|hx;exact hd;exact I.den x hx
 sep:=λx hx=>by rcases Ad.1 hx with rfl|hx;exact hs;exact I.sep x hx
 apart:=BL.2 ⟨λy hy b hb=>ha b hb y hy,I.apart⟩
theorem Inv.sub{cs rest:CS}(I:Inv h0 W M0 cs γ h)(hsub:rest.Sublist cs):Inv h0 W M0 rest γ h where
 ag:=I.ag
 frame:=I.frame
 size:=I.size
 old:=I.old
 le:=I.le
 den:=λx hx=>I.den x (hsub.subset hx)
 sep:=λx hx=>I.sep x (hsub.subset hx)
 apart:=I.apart.sublist hsub
theorem Inv.fz(I:Inv h0 W M0 cs γ h):z0t γ cs:=λc t xs hm=>I.den _ hm
theorem Inv.call(I:Inv h0 W M0 cs γ h)(k:Keep h.size h h')(hM:Fr.le γ.M M')(O:∀b,b<h.size->M' b=γ.M b)(ag:AgM M' h'):Inv h0 W M0 cs { γ with M:=M' } h':=
 I.rest (List.Sublist.refl _) (c:=none) ⟨hM,λ_ _=>⟨rfl,rfl⟩⟩ (λx _=>⟨by simp,rfl⟩)
  (λx hx b hb=>by
   have Z:=(I.den x hx).lt b hb
   exact⟨k.get b Z,(O b Z).trans (I.sep x hx b hb).2⟩) ag (λi hi _=>k.get i (Dq hi I.size)) k.size (λb hb=>O b (Dq hb I.size))
def yv(c:Nat):CS->CS
 |[]=>[]
 |(j,k)::l=>bif (bif Nat.beq j c then true else zgh c k)then yv c l else(j,k)::yv c l
def j3(c:Nat):CS->Bool
 |[]=>true
 |(j,k)::l=>bif (bif Nat.beq j c then true else zgh c k)then false else j3 c l
def zie(c:Nat):CS->CS
 |[]=>[]
 |(j,k)::l=>bif Nat.beq j c then zie c l else(j,k)::zie c l
theorem wl(c:Nat):∀l:CS,(yv c l).Sublist l
 |[]=>.slnil
 |(j,k)::l=>by
  simp only[yv]
  cases(bif Nat.beq j c then true else zgh c k)with
  |true=>exact(wl c l).cons _
  |false=>exact(wl c l).cons_cons _
theorem x8(c:Nat):∀l:CS,(zie c l).Sublist l
 |[]=>.slnil
 |(j,k)::l=>by
  simp only[zie]
  cases Nat.beq j c with
  |true=>exact(x8 c l).cons _
  |false=>exact(x8 c l).cons_cons _
theorem zdl{c:Nat}:∀{l:CS} {x:Nat×Ch},x∈yv c l->some c≠some x.1/\zgh c x.2=false
 |(j,k)::l,x,h=>by
  simp only[yv]at h
  cases hb:(bif Nat.beq j c then true else zgh c k)with
  |true=>rw[hb]at h;exact zdl h
  |false=>
   rw[hb]at h
   rcases Ad.1 h with rfl|h
   ·cases hj:Nat.beq j c with
    |true=>simp[hj]at hb
    |false=>simp only[hj,cond_false]at hb;exact⟨znu hj,hb⟩
   ·exact zdl h
theorem zb6{c:Nat}:∀{l:CS},j3 c l=true->∀x∈l,some c≠some x.1/\zgh c x.2=false
 |[],_,x,h=>by cases h
 |(j,k)::l,hn,x,h=>by
  simp only[j3]at hn
  cases hb:(bif Nat.beq j c then true else zgh c k)with
  |true=>rw[hb]at hn;cases hn
  |false=>
   rw[hb]at hn
   rcases Ad.1 h with rfl|h
   ·cases hj:Nat.beq j c with
    |true=>simp[hj]at hb
    |false=>simp only[hj,cond_false]at hb;exact⟨znu hj,hb⟩
   ·exact zb6 hn x h
theorem Yd{c:Nat}:∀{l:CS} {x:Nat×Ch},x∈zie c l->x∈l/\x.1≠c
 |(j,k)::l,x,h=>by
  simp only[zie]at h
  cases hb:Nat.beq j c with
  |true=>rw[hb]at h;exact⟨Af _ (Yd h).1,(Yd h).2⟩
  |false=>
   rw[hb]at h
   rcases Ad.1 h with rfl|h
   ·refine⟨Aq,λe=>?_⟩
    simp only at e
    subst e
    simp at hb
   ·exact⟨Af _ (Yd h).1,(Yd h).2⟩
def zv3(γ:Gh)(c b:Nat):Gh:={ γ with β:=λi=>bif Nat.beq i c then b else γ.β i }
def zp0(γ:Gh)(c:Nat)(s:Sl):Gh:={ γ with σ:=λi=>bif Nat.beq i c then s else γ.σ i }
theorem Ww(γ:Gh)(c b:Nat):Gx (some c) γ (zv3 γ c b):=⟨Fr.le.refl _,λi hi=>by
 have:Nat.beq i c=false:=by
  cases h:Nat.beq i c with
  |false=>rfl
  |true=>exact absurd (congrArg some (Ag h).symm) hi
 simp[zv3,this]⟩
theorem Z6(γ:Gh)(c:Nat)(s:Sl):Gx (some c) γ (zp0 γ c s):=⟨Fr.le.refl _,λi hi=>by
 have:Nat.beq i c=false:=by
  cases h:Nat.beq i c with
  |false=>rfl
  |true=>exact absurd (congrArg some (Ag h).symm) hi
 simp[zp0,this]⟩
theorem Zu(γ:Gh)(c b:Nat):(zv3 γ c b).β c=b:=by simp[zv3]
theorem yg(γ:Gh)(c:Nat)(s:Sl):(zp0 γ c s).σ c=s:=by simp[zp0]
theorem zay(hR:j3 c R=true):∀x∈yv c C++R,some c≠some x.1/\z0v zgh (some c) x.2=false:=by
 intro x hx
 rcases An.1 hx with hx|hx
 ·exact zdl hx
 ·exact zb6 hR x hx
theorem Inv.newBoxO(I:Inv h0 W M0 (C++R) γ h)(hR:j3 c R=true){l:List AA}(hd:All2 (DenA γ) l us)(hl:znf c l=false){ob:Obj}(Z:z5l (some ob) us):
  Inv h0 W M0 ((c,.box l)::yv c C++R) (zv3 γ c h.size) (h.push ob):=by
 have O:∀x∈yv c C++R,∀b,blk γ x.1 x.2=some b->b<h.size:=λx hx b hb=>(I.den x (((wl c C).append_right R).subset hx)).lt b hb
 have hI:Inv h0 W M0 (yv c C++R) (zv3 γ c h.size) (h.push ob):=by
  refine I.rest ((wl c C).append_right R) (Ww γ c h.size) (zay hR) (λx hx b hb=>?_) (λb cc e=>?_) (λi hi _=>?_) (by simp) (λb hb=>rfl)
  ·have:=O x hx b hb
   exact⟨by rw[BH,if_neg (by omega)],(I.sep x (((wl c C).append_right R).subset hx) b hb).2⟩
  ·have:=I.ag.lt e
   obtain⟨T',m,e'⟩:=I.ag b cc e
   exact⟨T',m,by rw[BH,if_neg (by omega)];exact e'⟩
  ·have:=I.size
   rw[BH,if_neg (by omega)]
 refine hI.cons ⟨us,by rw[Zu,j6];exact Z,DenL.gx (Ww γ c h.size) hl hd⟩ (λb hb=>?_) (λb hb x hx e=>?_)
 ·simp only[blk,Zu,Aa]at hb
  subst hb
  exact⟨.inl I.size,I.ag.none (Ae _)⟩
 ·simp only[blk,Zu,Aa]at hb
  subst hb
  rw[zjw (Ww γ c h.size) _ (zay hR x hx).1]at e
  have:=O x hx _ e
  omega
theorem Inv.newBox(I:Inv h0 W M0 (C++R) γ h)(hR:j3 c R=true){l:List AA}(hd:All2 (DenA γ) l us)(hl:znf c l=false)(O:itB l=false)(T:TypeId):
  Inv h0 W M0 ((c,.box l)::yv c C++R) (zv3 γ c h.size) (h.push (.cells us.toArray T)):=
 Inv.newBoxO I hR hd hl (.inl ⟨⟨T,rfl⟩,λs p=>zr3 O hd s p⟩)
theorem zb7{α:Type}{R:α->α->Prop}(hs:∀x y,R x y->R y x):∀{l:List α},l.Pairwise R->∀{x y:α},x∈l->y∈l->x≠y->R x y
 |[],_,_,_,hx,_,_=>by cases hx
 |z::l,h,x,y,hx,hy,hne=>by
  rw[BL]at h
  rcases Ad.1 hx with e1|h1
  ·rcases Ad.1 hy with e2|h2
   ·exact absurd (e1.trans e2.symm) hne
   ·rw[e1];exact h.1 _ h2
  ·rcases Ad.1 hy with e2|h2
   ·rw[e2];exact hs _ _ (h.1 _ h1)
   ·exact zb7 hs h.2 h1 h2 hne
theorem Inv.setBox(I:Inv h0 W M0 (C++R) γ h){l l':List AA}(hc:(c,Ch.box l)∈C)(e:z5l h'[γ.β c]? us)
  (ho:∀i,i≠γ.β c->h'[i]?=h[i]?) (hs:h'.size=h.size) (hd:All2 (DenA γ) l' us) (hR:∀x∈R,x.1≠c):Inv h0 W M0 ((c,.box l')::zie c C++R) γ h':=by
 have O:=I.sep _ (Ao R hc) _ rfl
 have Z:∀x∈zie c C++R,blk γ x.1 x.2≠some (γ.β c):=by
  intro x hx
  have ae:x≠(c,Ch.box l):=by
   rintro rfl
   rcases An.1 hx with hx|hx
   ·exact(Yd hx).2 rfl
   ·exact hR _ hx rfl
  have aa:x∈C++R:=((x8 c C).append_right R).subset hx
  have hp:=@zb7 _ (λ(x y:Nat×Ch)=>∀b,blk γ x.1 x.2=some b->blk γ y.1 y.2≠some b) (λx y h b hb ac=>h b ac hb) _ I.apart
  intro hb
  exact hp (Ao R hc) aa (λe=>ae e.symm) _ rfl hb
 have hI:Inv h0 W M0 (zie c C++R) γ h':=by
  refine I.rest ((x8 c C).append_right R) (c:=none) (Gx.refl _ _) (λx _=>⟨by simp,rfl⟩) (λx hx b hb=>?_) (λb cc eM=>?_) (λi hi hw=>?_) (by omega) (λb hb=>rfl)
  ·exact⟨ho b λe'=>Z x hx (e' ▸ hb),(I.sep x (((x8 c C).append_right R).subset hx) b hb).2⟩
  ·obtain⟨T',m,e'⟩:=I.ag b cc eM
   exact⟨T',m,by rw[ho b λe2=>by rw[e2,O.2]at eM;cases eM];exact e'⟩
  ·refine ho i λe'=>?_
   have h2:=O.1
   simp only at h2
   rcases h2 with h1|h1
   ·omega
   ·rw[e']at hw;exact hw h1
 refine hI.cons ⟨us,e,hd⟩ (λb hb=>?_) (λb hb x hx=>?_)
 ·simp only[blk,Aa]at hb;subst hb;exact O
 ·simp only[blk,Aa]at hb;subst hb;exact Z x hx
theorem Inv.newRow(I:Inv h0 W M0 (C++R) γ h)(hR:j3 c R=true)(hs:h.size<=h'.size){p:Option Nat}(ho:∀i,i<h.size->p≠some i->h'[i]?=h[i]?)
  (hp:∀b,p=some b->h0.size<=b/\γ.M b=none/\∀x∈C++R,blk γ x.1 x.2≠some b) {s:Sl} {xs:List (El t)} {cells:List Value} (aa:Owns h' h0.size e (sz t) s cells)
  (hb:∀q,s.a=some q->p=some q.block\/q.block=h.size) (ae:RowC γ.M t xs cells) (hn:xs.length<=140737488355328) (hl:s.len=xs.length):
  Inv h0 W M0 ((c,.row e t xs)::yv c C++R) (zp0 γ c s) h':=by
 have O:=(wl c C).append_right R
 have ac:∀x∈yv c C++R,∀b,blk γ x.1 x.2=some b->b<h.size:=λx hx b hb=>(I.den x (O.subset hx)).lt b hb
 have hI:Inv h0 W M0 (yv c C++R) (zp0 γ c s) h':=by
  refine I.rest O (Z6 γ c s) (zay hR) (λx hx b hb=>?_) (λb cc eM=>?_) (λi hi hw=>?_) hs (λb hb=>rfl)
  ·exact⟨ho b (ac x hx b hb) λe'=>(hp b e').2.2 x (O.subset hx) hb,(I.sep x (O.subset hx) b hb).2⟩
  ·obtain⟨T',m,e'⟩:=I.ag b cc eM
   exact⟨T',m,by rw[ho b (I.ag.lt eM) λe2=>by have:=(hp b e2).2.1;rw[show γ.M b=some cc from eM]at this;cases this];exact e'⟩
  ·have:=I.size
   refine ho i (by omega) λe'=>?_
   have:=(hp i e').1
   omega
 refine hI.cons ⟨cells,by rw[yg];exact aa,ae,hn,by rw[yg];exact hl⟩ (λb Z=>?_) (λb Z x hx e'=>?_)
 ·simp only[blk,yg,CC]at Z
  obtain⟨q,hq,rfl⟩:=Z
  rcases hb q hq with h1|h1
  ·exact⟨.inl (hp _ h1).1,(hp _ h1).2.1⟩
  ·rw[h1];exact⟨.inl I.size,I.ag.none (Ae _)⟩
 ·simp only[blk,yg,CC]at Z
  obtain⟨q,hq,rfl⟩:=Z
  rw[zjw (Z6 γ c s) _ (zay hR x hx).1]at e'
  rcases hb q hq with h1|h1
  ·exact(hp _ h1).2.2 x (O.subset hx) e'
  ·rw[h1]at e';have:=ac x hx _ e';omega
def z5m(c:Nat):CS->CS
 |[]=>[]
 |(j,k)::l=>bif Nat.beq j c then(match k with
  |.row _ t xs=>(j,.fz t xs)::z5m c l
  |k=>(j,k)::z5m c l)else(j,k)::z5m c l
def zen(γ:Gh)(b:Nat)(cs:Array Value):Gh:={ γ with M:=λi=>bif Nat.beq i b then some cs else γ.M i }
theorem Inv.freeze1{A C:CS}{xs:List (El t)}(I:Inv h0 W M0 (A++(c,.row e t xs)::C) γ h):∃γ',Inv h0 W M0 (A++(c,.fz t xs)::C) γ' h/\Gx none γ γ':=by
 obtain⟨cells,ai,ac,hn,hl⟩:=I.den (c,.row e t xs) (by simp)
 have an:=ac.1
 rcases ai.2 with⟨hv,h1⟩|⟨g,cap,Z,hv,aa,hg,au,ap,ar,af⟩
 ·refine⟨γ,?_,Gx.refl _ _⟩
  have ak:xs=[]:=Aw (by omega)
  have hd:DenC h0.size γ h c (.fz t xs):=by
   subst ak
   simp only[AO]at hv
   exact⟨_,rfl,none,0,by simp[slV,hv],⟨by simp,by simp⟩,.inl rfl⟩
  have O:∀x,x∈A++(c,Ch.fz t xs)::C->x∈A++(c,Ch.row e t xs)::C\/x=(c,Ch.fz t xs):=by
   intro x hx
   simp only[An,Ad]at hx ⊢
   rcases hx with h|h|h
   ·exact .inl (.inl h)
   ·exact .inr h
   ·exact .inl (.inr (.inr h))
  refine⟨I.ag,I.frame,I.size,I.old,I.le,λx hx=>?_,λx hx b hb=>?_,?_⟩
  ·rcases O x hx with h|rfl
   ·exact I.den x h
   ·exact hd
  ·rcases O x hx with h|rfl
   ·exact I.sep x h b hb
   ·cases hb
  ·have:=I.apart
   simp only[Cu,BL]at this ⊢
   obtain⟨a1,⟨a2,a3⟩,a4⟩:=this
   refine⟨a1,⟨λy hy b hb=>(by simp[blk]at hb),a3⟩,λx hx y hy b hb=>?_⟩
   rcases Ad.1 hy with rfl|hy
   ·simp[blk]
   ·exact a4 x hx y (Af _ hy) b hb
 ·simp only[AO]at hv
  have aj:γ.M g=none:=(I.sep (c,.row e t xs) (by simp) g (by simp[blk,hv.1])).2
  have ah:Fr.le γ.M (zen γ g Z).M:=by
   intro b cc eM
   have:Nat.beq b g=false:=by
    cases hb:Nat.beq b g with
    |false=>rfl
    |true=>rw[Ag hb,aj]at eM;cases eM
   simp[zen,this,eM]
  have gx:Gx none γ (zen γ g Z):=⟨ah,λ_ _=>⟨rfl,rfl⟩⟩
  have am:g<h.size:=(Ac.1 hg).1
  have al:∀x,x∈A++C->blk γ x.1 x.2≠some g:=by
   intro x hx
   have:=I.apart
   simp only[Cu,BL]at this
   obtain⟨a1,⟨a2,a3⟩,a4⟩:=this
   rcases An.1 hx with hx|hx
   ·intro hb
    exact a4 x hx (c,.row e t xs) Aq g hb (by simp[blk,hv.1])
   ·exact a2 x hx g (by simp[blk,hv.1])
  have ae:∀b,b≠g->(zen γ g Z).M b=γ.M b:=by
   intro b hb
   have:Nat.beq b g=false:=by
    cases h:Nat.beq b g with
    |false=>rfl
    |true=>exact absurd (Ag h) hb
   simp[zen,this]
  have hI:Inv h0 W M0 (A++C) (zen γ g Z) h:=by
   refine I.rest (by simp) gx (λx _=>⟨by simp,rfl⟩) (λx hx b hb=>?_) (λb cc eM=>?_) (λ_ _ _=>rfl) (Ae _) (λb hb=>ae b (by omega))
   ·have aa:b≠g:=λe'=>al x hx (e' ▸ hb)
    refine⟨rfl,(ae b aa).trans (I.sep x ?_ b hb).2⟩
    simp only[An,Ad]at hx ⊢
    rcases hx with h|h
    ·exact .inl h
    ·exact .inr (.inr h)
   ·by_cases aa:b=g
    ·subst aa
     have:cc=Z:=by simp[zen]at eM;exact eM.symm
     subst this
     exact⟨_,_,hg⟩
    ·rw[ae b aa]at eM;exact I.ag b cc eM
  refine⟨zen γ g Z,?_,gx⟩
  have hd:DenC h0.size (zen γ g Z) h c (.fz t xs):=by
   have:=(ac.mono ah).rd (b:=g) (o:=0) (c:=cap) (cs:=Z) (by simp[zen]) (by rw[A2,<-hl];exact af) ⟨hn,by omega⟩
   show Rd _ _ _ [slV (γ.σ c)]
   have e3:slV (γ.σ c)=.slice (some ⟨g,0,none⟩) xs.length cap:=by
    unfold slV;rw[hv.1,hl,hv.2.2]
   rw[e3];exact this
  have O:∀x,x∈A++(c,Ch.fz t xs)::C->x∈A++C\/x=(c,Ch.fz t xs):=by
   intro x hx
   simp only[An,Ad]at hx ⊢
   rcases hx with h|h|h
   ·exact .inl (.inl h)
   ·exact .inr h
   ·exact .inl (.inr h)
  refine⟨hI.ag,hI.frame,hI.size,hI.old,hI.le,λx hx=>?_,λx hx b hb=>?_,?_⟩
  ·rcases O x hx with h|rfl
   ·exact hI.den x h
   ·exact hd
  ·rcases O x hx with h|rfl
   ·exact hI.sep x h b hb
   ·cases hb
  ·have:=hI.apart
   simp only[Cu,BL]at this ⊢
   obtain⟨a1,a3,a4⟩:=this
   refine⟨a1,⟨λy hy b hb=>(by simp[blk]at hb),a3⟩,λx hx y hy b hb=>?_⟩
   rcases Ad.1 hy with rfl|hy
   ·simp[blk]
   ·exact a4 x hx y hy b hb
theorem Inv.freeze{R:CS}{h:zb}(c:Nat):∀(C A:CS) {γ:Gh},Inv h0 W M0 (A++C++R) γ h->∃γ',Inv h0 W M0 (A++z5m c C++R) γ' h/\Gx none γ γ'
 |[],A,γ,I=>⟨γ,I,Gx.refl _ _⟩
 |(j,k)::l,A,γ,I=>by
  have go:∀(k:Ch) {γ:Gh},Inv h0 W M0 (A++(j,k)::l++R) γ h->∃γ',Inv h0 W M0 (A++(j,k)::z5m c l++R) γ' h/\Gx none γ γ':=by
   intro k γ I
   have:=Inv.freeze c l (A++[(j,k)]) (R:=R) (γ:=γ) (by simpa using I)
   simpa using this
  simp only[z5m]
  cases Nat.beq j c with
  |true=>
   cases k with
   |row e t xs=>
    obtain⟨γ1,I1,g1⟩:=Inv.freeze1 (A:=A) (C:=l++R) (γ:=γ) (by simpa using I)
    obtain⟨γ2,I2,g2⟩:=go (.fz t xs) (γ:=γ1) (by simpa using I1)
    exact⟨γ2,I2,g1.1.trans g2.1,λi hi=>⟨(g2.2 i hi).1.trans (g1.2 i hi).1,(g2.2 i hi).2.trans (g1.2 i hi).2⟩⟩
   |box l'=>exact go _ I
   |fz t xs=>exact go _ I
  |false=>exact go _ I
end
section
variable {i n:Nat} {c:qb} {v:AV} {γ γ':Gh} {a:Act} {u:Value} {o:Oper} {g:Option Bool} {σ:Operand -> Value}
abbrev qw:=List (Nat×qb×AV)
def zlb:qw->Nat->Option (qb×AV)
 |[],_=>none
 |(j,c,v)::e,i=>bif Nat.beq i j then some (c,v)else zlb e i
def zlc(γ:Gh)(σ:Nat->Value)(x:Nat×qb×AV):Prop:=(valid σ x.2.1->DenV γ x.2.2 (σ x.1))/\(¬valid σ x.2.1->σ x.1=undef)
structure SatA (n:Nat) (e:qw) (γ:Gh) (a:Act):Prop where
 defers:a.defers=[]
 size:a.tmps.size=n
 all:∀x∈e,zlc γ (zu a) x
def z90:qw->Nat->qw
 |[],_=>[]
 |(j,c,v)::e,i=>bif (bif Nat.beq i j then true else mentions c i)then z90 e i else(j,c,v)::z90 e i
def qc1(e:qw)(i:Nat)(c:qb)(v:AV):qw:=(i,c,v)::z90 e i
def z1f(e:qw):Option Nat->qb->AV->qw
 |none,_,_=>e
 |some d,c,v=>qc1 e d c v
def zeo:qw->qw
 |[]=>[]
 |(j,[],v)::e=>(j,[],v)::zeo e
 |(_,_::_,_)::e=>zeo e
def znv(c:Nat):qw->qw
 |[]=>[]
 |(j,ch,v)::e=>bif z0u c v then znv c e else(j,ch,v)::znv c e
def zr4:Option Nat->qw->qw
 |none,e=>e
 |some c,e=>znv c e
theorem Zv{e:qw}(h:zlb e i=some (c,v)):(i,c,v)∈e:=by
 induction e with
 |nil=>cases h
 |cons x e ih=>
  obtain⟨j,cj,vj⟩:=x
  simp only[zlb]at h
  by_cases hb:Nat.beq i j=true
  ·simp only[hb,cond_true,Aa,BA]at h
   obtain⟨rfl,rfl⟩:=h
   rw[Ag hb]
   exact Aq
  ·simp only[hb,cond_false]at h
   exact Af _ (ih h)
theorem z1g{e:qw}{x:Nat×qb×AV}(h:x∈z90 e i):x∈e/\x.1≠i/\mentions x.2.1 i=false:=by
 induction e with
 |nil=>cases h
 |cons y e ih=>
  obtain⟨j,cj,vj⟩:=y
  simp only[z90]at h
  by_cases hb:Nat.beq i j=true
  ·simp only[hb,cond_true]at h
   exact⟨Af _ (ih h).1,(ih h).2⟩
  ·have aa:Nat.beq i j=false:=Bool.eq_false_iff.2 hb
   simp only[aa,cond_false]at h
   by_cases hm:mentions cj i=true
   ·simp only[hm,cond_true]at h
    exact⟨Af _ (ih h).1,(ih h).2⟩
   ·have Z:mentions cj i=false:=by simpa using hm
    simp only[Z,cond_false]at h
    rcases Ad.1 h with rfl|h
    ·refine⟨Aq,λO=>?_,Z⟩
     simp only at O
     rw[O]at hb
     exact hb (by simp)
    ·exact⟨Af _ (ih h).1,(ih h).2⟩
theorem zuh{e:qw}{x:Nat×qb×AV}(h:x∈zeo e):x∈e/\x.2.1=[]:=by
 induction e with
 |nil=>cases h
 |cons y e ih=>
  obtain⟨j,cj,vj⟩:=y
  cases cj with
  |nil=>
   simp only[zeo]at h
   rcases Ad.1 h with rfl|h
   ·exact⟨Aq,rfl⟩
   ·exact⟨Af _ (ih h).1,(ih h).2⟩
  |cons c cs=>
   simp only[zeo]at h
   exact⟨Af _ (ih h).1,(ih h).2⟩
theorem zui{c:Option Nat}{e:qw}{x:Nat×qb×AV}(h:x∈zr4 c e):x∈e/\z0v z0u c x.2.2=false:=by
 cases c with
 |none=>exact⟨h,rfl⟩
 |some c=>
  have key:∀e:qw,x∈znv c e->x∈e/\z0u c x.2.2=false:=by
   intro e
   induction e with
   |nil=>intro h;cases h
   |cons y e ih=>
    obtain⟨j,cj,vj⟩:=y
    intro h
    simp only[znv]at h
    cases hm:z0u c vj with
    |true=>rw[hm]at h;exact⟨Af _ (ih h).1,(ih h).2⟩
    |false=>
     rw[hm]at h
     rcases Ad.1 h with rfl|h
     ·exact⟨Aq,hm⟩
     ·exact⟨Af _ (ih h).1,(ih h).2⟩
  exact key e h
theorem SatA.sub{e e':qw}(h:SatA n e γ a)(hs:∀x∈e',x∈e):SatA n e' γ a:=⟨h.defers,h.size,λx hx=>h.all x (hs x hx)⟩
theorem SatA.clean{e:qw}(h:SatA n e γ a):SatA n (zeo e) γ a:=h.sub λ_ hx=>(zuh hx).1
theorem SatA.gx{e:qw}{c:Option Nat}(h:SatA n e γ a)(g:Gx c γ γ'):SatA n (zr4 c e) γ' a:=
 ⟨h.defers,h.size,λx hx=>by
  obtain⟨h1,h2⟩:=zui hx
  exact⟨λhv=>((h.all x h1).1 hv).gx g h2,(h.all x h1).2⟩⟩
theorem SatA.gx0{e:qw}(h:SatA n e γ a)(g:Gx none γ γ'):SatA n e γ' a:=h.gx g
theorem SatA.put{e:qw}(h:SatA n e γ a)(hi:i<n)(hm:mentions c i=false)
  (hy:valid (zu a) c->DenV γ v u) (hn:¬valid (zu a) c->u=undef):SatA n (qc1 e i c v) γ (a.put (some i) u):=by
 refine⟨by rw[qc];exact h.defers,by rw[size_put];exact h.size,λx hx=>?_⟩
 have Z:i<a.tmps.size:=by rw[h.size];exact hi
 rcases Ad.1 hx with rfl|hx
 ·have hv:=Zk (σ:=zu (a.put (some i) u)) (τ:=zu a) hm (λj hj=>qm hj)
  refine⟨λhc=>?_,λhc=>?_⟩
  ·simp only;rw[qt Z];exact hy (hv.1 hc)
  ·exact(qt Z).trans (hn (λO=>hc (hv.2 O)))
 ·obtain⟨h1,h2,h3⟩:=z1g hx
  have hv:=Zk (σ:=zu (a.put (some i) u)) (τ:=zu a) h3 (λj hj=>qm hj)
  have hf:=h.all x h1
  refine⟨λhc=>?_,λhc=>?_⟩
  ·rw[qm h2];exact hf.1 (hv.1 hc)
  ·exact(qm h2).trans (hf.2 (λO=>hc (hv.2 O)))
theorem SatA.putO{e:qw}(h:SatA n e γ a){d:Option Nat}(hd:yc n c d=true)
  (hy:valid (zu a) c->DenV γ v u) (hn:¬valid (zu a) c->u=undef):SatA n (z1f e d c v) γ (a.put d u):=by
 cases d with
 |none=>exact h
 |some i=>
  simp only[yc]at hd
  by_cases hm:mentions c i=true
  ·simp[hm]at hd
  ·have O:mentions c i=false:=by simpa using hm
   simp only[O,cond_false]at hd
   exact h.put (by simpa[Cz]using hd) O hy hn
def qb3:Value->AG
 |.agg cs=>.agg (cs.toList.map .v)
 |v=>.a (.v v)
def zuj:Value->AV
 |.tuple vs=>.tup (vs.toList.map qb3)
 |v=>.g (qb3 v)
theorem zr5(γ:Gh)(v:Value):DenG γ (qb3 v) v:=by
 cases v with
 |agg cs=>
  refine⟨cs.toList,by simp,?_⟩
  generalize cs.toList=l
  induction l with
  |nil=>trivial
  |cons x l ih=>exact⟨rfl,ih⟩
 |_=>exact rfl
theorem Yz(γ:Gh)(v:Value):DenV γ (zuj v) v:=by
 cases v with
 |tuple vs=>
  refine⟨vs.toList,by simp,?_⟩
  generalize vs.toList=l
  induction l with
  |nil=>trivial
  |cons x l ih=>exact⟨zr5 γ x,ih⟩
 |agg cs=>exact zr5 γ (.agg cs)
 |_=>exact rfl
def exL:List AA->Option (List Value)
 |[]=>some []
 |.v x::l=>match exL l with
  |some vs=>some (x::vs)
  |none=>none
 |_::_=>none
def exV:AV->Option Value
 |.g (.a (.v x))=>some x
 |.g (.agg l)=>match exL l with
  |some vs=>some (.agg vs.toArray)
  |none=>none
 |_=>none
theorem zwu{γ:Gh}:∀{l:List AA} {vs us:List Value},exL l=some vs->All2 (DenA γ) l us->us=vs
 |[],vs,[],h,_=>by simp only[exL,Aa]at h;exact h
 |[],_,_::_,_,h=>h.elim
 |.v x::l,vs,u::us,h,hd=>by
  simp only[exL]at h
  split at h
  ·rename_i ws hw
   simp only[Aa]at h
   subst h
   rw[show u=x from hd.1,zwu hw hd.2]
  ·cases h
 |.v _::_,_,[],_,h=>h.elim
 |.d _ _::_,_,_,h,_=>by simp[exL]at h
 |.box _ _::_,_,_,h,_=>by simp[exL]at h
 |.own _::_,_,_,h,_=>by simp[exL]at h
 |.oelt _ _ _ _::_,_,_,h,_=>by simp[exL]at h
 |.elt _ _ _::_,_,_,h,_=>by simp[exL]at h
 |.dc _ _::_,_,_,h,_=>by simp[exL]at h
theorem zp1{x:AV}{v u:Value}(h:exV x=some v)(hd:DenV γ x u):u=v:=by
 unfold exV at h
 split at h
 ·simp only[Aa]at h;subst h;exact hd
 ·rename_i l
  split at h
  ·rename_i vs hv
   simp only[Aa]at h
   subst h
   obtain⟨us,rfl,h2⟩:=hd
   rw[zwu hv h2]
  ·cases h
 ·cases h
def zgi(e:qw)(c:qb):Operand->Option AV
 |.tmp t=>match zlb e t with
  |some (cs,v)=>bif suf cs c then some v else none
  |none=>none
 |.const v=>some (zuj v)
 |.global g=>some (.g (.a (.v (.pointer (some ⟨g,0,none⟩)))))
 |.func f=>some (.g (.a (.v (.func (.func f) #[] #[]))))
theorem qa{e:qw}(h:SatA n e γ a)(hc:valid (zu a) c){x:Operand}(hx:zgi e c x=some v):DenV γ v (a.eval x):=by
 cases x with
 |tmp t=>
  simp only[zgi]at hx
  split at hx
  ·rename_i cs u hl
   by_cases hs:suf cs c=true
   ·simp only[hs,cond_true,Aa]at hx
    subst hx
    exact(h.all _ (Zv hl)).1 (Yp hs hc)
   ·simp[hs]at hx
  ·cases hx
 |const u=>simp only[zgi,Aa]at hx;subst hx;exact Yz γ u
 |global g=>simp only[zgi,Aa]at hx;subst hx;exact rfl
 |func f=>simp only[zgi,Aa]at hx;subst hx;exact rfl
def zuk:AV->Option Bool
 |.g (.a (.v (.bool b)))=>some b
 |_=>none
theorem zgj{b:Bool}(h:zuk v=some b)(hd:DenV γ v u):u=.bool b:=by
 unfold zuk at h
 split at h
 ·simp only[Aa]at h;subst h;exact hd
 ·cases h
def Ye(ops:Array Oper)(e:qw):Option (Nat×Bool)->Option qb
 |none=>some []
 |some (j,p)=>match yw ops j with
  |some g=>match zlb e g with
   |some (cg,v)=>match zuk v with
    |some _=>some ((g,p)::cg)
    |none=>none
   |none=>none
  |none=>none
def znw(e:qw):qb->Option Bool
 |[]=>some true
 |(g,p)::c=>match zlb e g with
  |some (cg,v)=>match zuk v with
   |some b=>bif Zl cg c then(match znw e c with
    |some cb=>some (cb&&(bif p then b else !b))
    |none=>none)else none
   |none=>none
  |none=>none
theorem Wx{n:Nat}{e:qw}{γ:Gh}{a:Act}(h:SatA n e γ a):∀{c:qb} {b:Bool},znw e c=some b->(b=true↔valid (zu a) c)
 |[],b,hb=>by simp only[znw,Aa]at hb;simp[<-hb,valid]
 |(g,p)::c,b,hb=>by
  simp only[znw]at hb
  split at hb
  ·rename_i cg v hl
   split at hb
   ·rename_i bg O
    by_cases hq:Zl cg c=true
    ·simp only[hq,cond_true]at hb
     split at hb
     ·rename_i cb Z
      simp only[Aa]at hb
      have ih:=Wx h Z
      have hf:=h.all _ (Zv hl)
      rw[Yo hq]at hf
      by_cases hv:valid (zu a) c
      ·have h1:zu a g=.bool bg:=zgj O (hf.1 hv)
       have h2:=ih.2 hv
       subst hb
       simp only[valid,h1,hv,h2,B0,and_true,Value.bool.injEq]
       cases p <;> cases bg <;> simp
      ·have h1:cb=false:=by cases cb with|false=>rfl|true=>exact absurd (ih.1 rfl) hv
       subst hb
       simp[valid,hv,h1]
     ·cases hb
    ·simp[hq]at hb
   ·cases hb
  ·cases hb
theorem x9{ops:Array Oper}{e:qw}(h:SatA n e γ a)(hc:Ye ops e o.guard=some c):
  BN o (yielded ops a.tmps)=true↔valid (zu a) c:=by
 unfold BN
 cases hg:o.guard with
 |none=>rw[hg]at hc;simp only[Ye,Aa]at hc;simp[<-hc,valid]
 |some jp=>
  obtain⟨j,p⟩:=jp
  rw[hg]at hc
  simp only[Ye]at hc
  split at hc
  ·rename_i g hd
   split at hc
   ·rename_i cg v hl
    split at hc
    ·rename_i b hb
     simp only[Aa]at hc
     subst hc
     have Z:((ops[j]?).bind (·.dst))=some g:=by
      simp only[yw]at hd
      split at hd
      ·rename_i o' O;simp[O,hd]
      ·cases hd
     have hf:=h.all _ (Zv hl)
     have hy:yielded ops a.tmps j=some p↔zu a g=.bool p:=by
      unfold yielded zu
      rw[Z]
      simp only[Ck]
      cases ht:a.tmps[g]? with
      |none=>simp[Bi,ht,undef]
      |some v=>cases v <;> simp[Bi,ht]
     simp only[beq_iff_eq,hy,valid]
     constructor
     ·intro h1
      refine⟨h1,?_⟩
      by_cases hv:valid (zu a) cg
      ·exact hv
      ·have:=hf.2 hv
       simp only at this
       rw[h1]at this
       exact absurd this.symm zbu
     ·exact λh1=>h1.1
    ·cases hc
   ·cases hc
  ·cases hc
def Jr(e:qw):qb->Option (Option Bool)
 |[]=>some none
 |c=>match znw e c with
  |some b=>some (some b)
  |none=>none
theorem xt{e:qw}(hs:SatA n e γ a)(h:Jr e c=some g)(hv:valid (zu a) c):gok g:=by
 unfold Jr at h
 split at h
 ·simp only[Aa]at h;subst h;trivial
 ·split at h
  ·rename_i b hb
   simp only[Aa]at h
   subst h
   exact(Wx hs hb).2 hv
  ·cases h
theorem zaz{e:qw}(hs:SatA n e γ a)(h:Jr e c=some g)(hv:¬valid (zu a) c):g=some false:=by
 unfold Jr at h
 split at h
 ·exact absurd trivial hv
 ·split at h
  ·rename_i b hb
   simp only[Aa]at h
   subst h
   cases b with
   |false=>rfl
   |true=>exact absurd ((Wx hs hb).1 rfl) hv
  ·cases h
def qbl(ρ:Operand->Option AV)(x:Operand):Value:=match ρ x with
 |some av=>match exV av with
  |some v=>v
  |none=>undef
 |none=>undef
def zgk(ρ:Operand->Option AV):List Operand->Bool
 |[]=>true
 |x::l=>match ρ x with
  |some av=>match exV av with
   |some _=>zgk ρ l
   |none=>false
  |none=>false
theorem znx{ρ:Operand->Option AV}(hρ:∀x av,ρ x=some av->DenV γ av (σ x)){l:List Operand}(hk:zgk ρ l=true):∀x∈l,σ x=qbl ρ x:=by
 induction l with
 |nil=>intro x hx;cases hx
 |cons y l ih=>
  intro x hx
  simp only[zgk]at hk
  split at hk
  ·rename_i av hv
   split at hk
   ·rename_i v O
    rcases Ad.1 hx with rfl|hx
    ·rw[zp1 O (hρ _ _ hv)];simp[qbl,hv,O]
    ·exact ih hk x hx
   ·cases hk
  ·cases hk
theorem zny{ρ:Operand->Option AV}(hρ:∀x av,ρ x=some av->DenV γ av (σ x))(hs:wj o.op=true)(hk:zgk ρ o.op.operands.toList=true):
  execOp σ o=execOp (qbl ρ) o:=
 execOp_congr o (λcs b hb=>by rw[hb]at hs;cases hs) λx hx=>znx hρ hk x (by simpa using hx)
end
section
variable {o n f k:Nat} {h:zb} {u:Value} {us:List Value} {cs:CS} {γ:Gh} {t ty:TypeId} {P:Program}
variable {h0 : zb} {W : Nat -> Prop} {M0 : Fr}
def takeN(l:List AA)(o n:Nat):Option (List AA):=bif Nat.beq ((l.drop o).take n).length n then some ((l.drop o).take n)else none
theorem Xx{l r:List AA}(h:takeN l o n=some r):r=(l.drop o).take n/\r.length=n:=by
 unfold takeN at h
 cases hb:Nat.beq ((l.drop o).take n).length n with
 |false=>rw[hb]at h;cases h
 |true=>
  rw[hb]at h
  simp only[cond_true,Aa]at h
  subst h
  exact⟨rfl,Ag hb⟩
theorem znz{h:zb}{p:Addr}:∀{us:List Value} {i:Nat},(∀j v,us[j]?=some v->zj h (p.add (i+j))=some v)->zd h p i us
 |[],_,_=>trivial
 |v::us,i,H=>⟨by have:=H 0 v rfl;simpa using this,znz λj u hu=>by have:=H (j+1) u (by simpa using hu);rwa[show i+(j+1)=i+1+j by omega]at this⟩
def Behind(h:zb)(u:Value)(us:List Value):Prop:=∃b o,u=.pointer (some ⟨b,o,none⟩)/\∀j v,us[j]?=some v->zj h ⟨b,o+j,none⟩=some v
theorem Behind.ld(H:Behind h u us):∃p:Addr,u=.pointer (some p)/\zd h p 0 us/\∀v,us=[v]->zj h p=some v:=by
 obtain⟨b,o,e,hc⟩:=H
 refine⟨_,e,znz λj v hv=>?_,λv hv=>?_⟩
 ·rw[zh,AD];exact hc j v hv
 ·have:=hc 0 v (by rw[hv];rfl);simpa using this
theorem z5n{cs:Array Value}{f n j:Nat}{v:Value}(h:(cut cs f n)[j]?=some v):cs[f+j]?=some v:=by
 unfold cut at h
 rw[AC]at h
 split at h
 ·rw[AE]at h;simpa using h
 ·cases h
def z1h(cs:CS)(n:Nat):AA->Option (List AA)
 |.box c o=>match Yx cs c with
  |some (.box l)=>bif itB l then none else takeN l o n
  |_=>none
 |.elt t x o=>takeN (Yw t x) o n
 |_=>none
theorem zp2(I:Inv h0 W M0 cs γ h){aa:AA}{r:List AA}(hf:z1h cs n aa=some r)(hd:DenA γ aa u):
  ∃us,Behind h u us/\us.length=n/\All2 (DenA γ) r us:=by
 unfold z1h at hf
 split at hf
 ·rename_i c o
  split at hf
  ·rename_i l hl
   cases hit:itB l with
   |true=>rw[hit]at hf;cases hf
   |false=>
   rw[hit]at hf
   obtain⟨rfl,hn⟩:=Xx hf
   obtain⟨us,e,h2⟩:=I.den _ (qe hl)
   rcases e with⟨⟨T,e⟩,_⟩|⟨s,p,e,_⟩
   case inr=>exact absurd e (zr3 hit h2 s p)
   have h3:=(h2.drop o).take n
   refine⟨(us.drop o).take n,⟨_,_,hd,λj v hv=>?_⟩,by rw[<-h3.length];exact hn,h3⟩
   rw[AC]at hv
   split at hv
   ·rw[AE]at hv
    unfold zj;simp only[e];simp;exact hv
   ·cases hv
  ·cases hf
 ·rename_i t x o
  obtain⟨rfl,hn⟩:=Xx hf
  obtain⟨b,f,cc,e,hM,hr⟩:=hd
  have h3:=((xr (γ:=γ) hr).drop o).take n
  refine⟨_,⟨_,_,e,λj v hv=>?_⟩,by rw[<-h3.length];exact hn,h3⟩
  rw[AC]at hv
  split at hv
  ·rw[AE]at hv
   have:=z5n hv
   exact I.ag.cell hM (by rw[show f+o+j=f+(o+j)by omega];exact this)
  ·cases hv
 ·cases hf
theorem z5o(I:Inv h0 W M0 cs γ h){c:Nat}{e:TypeId}{t:Ty}{xs:List (El t)}(hc:Yx cs c=some (.row e t xs)){i:Nat}{y:El t}(hy:xs[i]?=some y){r:List AA}(hr:takeN (Yw t y) o n=some r)(hd:DenA γ (.oelt c (sz t) i o) u):∃us,Behind h u us/\us.length=n/\All2 (DenA γ) r us:=by
 obtain⟨rfl,hn⟩:=Xx hr
 obtain⟨g,hg,rfl⟩:=hd
 obtain⟨cells,Z,ac,_,hl⟩:=I.den _ (qe hc)
 simp only at hl Z
 rcases Z.2 with⟨hv,h1⟩|⟨g',cap,af,hv,_,ah,_,_,_,aa⟩
 ·simp only[AO]at hv;rw[hg]at hv;cases hv.1
 ·simp only[AO]at hv
  rw[hg]at hv
  have ai:g=g':=by have:=hv.1;simp only[Aa,Addr.mk.injEq]at this;exact this.1
  subst ai
  have hi:i<xs.length:=(Az.1 hy).1
  have ae:xs[i]=y:=(Az.1 hy).2
  have h4:=ac.2 i hi
  rw[ae]at h4
  have h3:=((xr (γ:=γ) h4).drop o).take n
  refine⟨_,⟨_,_,rfl,λj v O=>?_⟩,by rw[<-h3.length];exact hn,h3⟩
  rw[AC]at O
  split at O
  ·rw[AE,AC]at O
   split at O
   ·rw[AE,<-aa,AC]at O
    split at O
    ·have e2:h[g]?=some (.cells af e (0,0)):=ah
     unfold zj
     simp only[e2]
     simp
     rw[show i*sz t+o+j=i*sz t+(o+j)by omega]
     simpa using O
    ·cases O
   ·cases O
  ·cases O
def zld:Option Nat->List AA->Option AG
 |none,[x]=>some (.a x)
 |some _,l=>some (.agg l)
 |_,_=>none
def Wy(P:Program)(t:TypeId):Option (Option Nat):=match zv2 P t with
 |some (.one _)=>some none
 |some (.agg l)=>some (some l.length)
 |none=>none
def z0w:Option Nat->Nat
 |none=>1
 |some n=>n
theorem zdm{s:Option Nat}(hs:Wy P t=some s)(hb:Behind h u us)(hn:us.length=z0w s){r:List AA}(hr:All2 (DenA γ) r us){ag:AG}(hp:zld s r=some ag):
  ∃v,DenG γ ag v/\QExec P (D5 t u) h v:=by
 obtain⟨p,e,hl,h1⟩:=hb.ld
 subst e
 have O:∀v,QExec P (loadVar t p) h v->QExec P (D5 t (.pointer (some p))) h v:=λv hq B d=>by
  unfold D5 Ej
  simp only[Sem.run_bind,Sem.run_pure,Result.andThen_ok]
  exact hq B d
 unfold Wy at hs
 split at hs
 ·rename_i a hv
  simp only[Aa]at hs
  subst hs
  match us,hn,r,hr with
  |[v],_,[x],hr=>
   simp only[zld,Aa]at hp
   subst hp
   exact⟨v,hr.1,O v (zbw hv (h1 v rfl))⟩
  |[v],_,[],hr=>exact hr.elim
  |[v],_,_::_::_,hr=>exact hr.2.elim
 ·rename_i l hv
  simp only[Aa]at hs
  subst hs
  simp only[zld,Aa]at hp
  subst hp
  exact⟨.agg us.toArray,⟨us,rfl,hr⟩,O _ (zbx hv hn hl)⟩
 ·cases hs
def zul(P:Program)(cs:CS)(t:TypeId)(aa:AA)(g:Option Bool)(K:AV->Prop):Prop:=
 match Wy P t with
 |some s=>match aa with
  |.oelt c z i o=>match Yx cs c with
   |some (.row e ty xs)=>bif Nat.beq z (sz ty)then(∃y:El ty,req g (xs[i]?=some y)/\match takeN (Yw ty y) o (z0w s)with
    |some r=>match zld s r with
     |some ag=>K (.g ag)
     |none=>False
    |none=>False)else False
   |_=>False
  |aa=>match z1h cs (z0w s) aa with
   |some r=>match zld s r with
    |some ag=>K (.g ag)
    |none=>False
   |none=>False
 |none=>False
theorem zgl{aa:AA}{g:Option Bool}{K:AV->Prop}(H:zul P cs t aa g K):
  ∃av,K av/\(gok g->∀γ h u,Inv h0 W M0 cs γ h->DenA γ aa u->∃v,DenV γ av v/\QExec P (D5 t u) h v):=by
 unfold zul at H
 split at H
 ·rename_i s hs
  split at H
  ·rename_i c z i o
   split at H
   ·rename_i e ty xs hc
    cases hz:Nat.beq z (sz ty)with
    |false=>rw[hz]at H;exact H.elim
    |true=>
     rw[hz]at H
     obtain⟨y,hy,H⟩:=H
     split at H
     ·rename_i r hr
      split at H
      ·rename_i ag hp
       refine⟨_,H,λhg γ h u I hd=>?_⟩
       rw[Ag hz]at hd
       obtain⟨us,h1,h2,h3⟩:=z5o I hc (hy.out hg) hr hd
       exact zdm hs h1 h2 h3 hp
      ·exact H.elim
     ·exact H.elim
   ·exact H.elim
  ·split at H
   ·rename_i r hr
    split at H
    ·rename_i ag hp
     refine⟨_,H,λhg γ h u I hd=>?_⟩
     obtain⟨us,h1,h2,h3⟩:=zp2 I hr hd
     exact zdm hs h1 h2 h3 hp
    ·exact H.elim
   ·exact H.elim
 ·exact H.elim
def zwv(P:Program)(t:TypeId)(f:Nat):Option (Nat×TypeId):=match P.underlying t with
 |some (.struct fs)=>match fs[f]? with
  |some fl=>match P.info? fl.type with
   |some i=>bif Nat.beq i.size 0 then none else some (fl.offset,fl.type)
   |none=>none
  |none=>none
 |_=>none
def qbm(k:Nat):AA->Option AA
 |.box c o=>some (.box c (o+k))
 |.elt t x o=>some (.elt t x (o+k))
 |.oelt c z i o=>some (.oelt c z i (o+k))
 |_=>none
theorem zww(hf:zwv P t f=some (k,ty))(b o:Nat):QExec P (Instr.fieldAt t (.pointer (some ⟨b,o,none⟩)) f) h (.pointer (some ⟨b,o+k,none⟩)):=by
 unfold zwv at hf
 split at hf
 ·rename_i fs hu
  split at hf
  ·rename_i fl O
   split at hf
   ·rename_i i hi
    cases hz:Nat.beq i.size 0 with
    |true=>rw[hz]at hf;cases hf
    |false=>
     rw[hz]at hf
     simp only[cond_false,Aa,BA]at hf
     obtain⟨rfl,rfl⟩:=hf
     intro B d
     have hq:=QExec.underlying (h:=h) hu B d
     have hs:=QExec.sizeOf (h:=h) hi B d
     have Z:¬(yr P fl.type=0):=by
      unfold yr;rw[hi]
      intro e
      simp only at e
      rw[e]at hz;simp at hz
     unfold Instr.fieldAt Ej fieldPlace
     simp only[Sem.run_bind,hq,Result.andThen_ok,O,Sem.run_pure,hs,Z,if_false,zh]
   ·cases hf
  ·cases hf
 ·cases hf
theorem zr6{aa O:AA}(h:qbm k aa=some O)(hd:DenA γ aa u):∃b o,u=.pointer (some ⟨b,o,none⟩)/\DenA γ O (.pointer (some ⟨b,o+k,none⟩)):=by
 unfold qbm at h
 split at h
 ·simp only[Aa]at h;subst h;exact⟨_,_,hd,rfl⟩
 ·simp only[Aa]at h;subst h
  obtain⟨b,f,cs,e,h1,h2⟩:=hd
  exact⟨_,_,e,b,f,cs,by rw[Nat.add_assoc],h1,h2⟩
 ·simp only[Aa]at h;subst h
  obtain⟨g,e1,e2⟩:=hd
  exact⟨_,_,e2,g,e1,by rw[Nat.add_assoc]⟩
 ·cases h
def zwx(P:Program)(ty:TypeId)(l:List AA)(k:Nat):Option AG:=match Wy P ty with
 |some s=>match takeN l k (z0w s)with
  |some r=>zld s r
  |none=>none
 |none=>none
theorem zn0{s:Option Nat}(hs:Wy P t=some s)(h:zb):QExec P (isAgg t) h s.isSome:=by
 unfold Wy at hs
 split at hs
 ·rename_i a hv
  simp only[Aa]at hs;subst hs
  unfold zv2 at hv
  split at hv
  ·exact absurd hv (by split <;> (first|(intro h;cases h;done)|(cases Nat.beq _ _ <;> intro h <;> cases h)))
  ·exact absurd hv (by split <;> (first|(intro h;cases h;done)|(cases Nat.beq _ _ <;> intro h <;> cases h)))
  ·rename_i d Z O hu
   intro B e
   have hq:=QExec.underlying (h:=h) hu B e
   unfold isAgg
   rw[Sem.run_bind,hq]
   cases d <;> first|rfl|exact(Z _ rfl).elim|exact(O _ _ rfl).elim
  ·cases hv
 ·rename_i l hv
  simp only[Aa]at hs;subst hs
  unfold zv2 at hv
  have hu:(∃fs,P.underlying t=some (.struct fs))\/∃n e,P.underlying t=some (.array n e):=by
   split at hv
   ·exact .inl ⟨_,by assumption⟩
   ·exact .inr ⟨_,_,by assumption⟩
   ·simp at hv
   ·cases hv
  intro B e
  rcases hu with⟨fs,hu⟩|⟨m,e',hu⟩
  ·have hq:=QExec.underlying (h:=h) hu B e
   unfold isAgg
   rw[Sem.run_bind,hq];rfl
  ·have hq:=QExec.underlying (h:=h) hu B e
   unfold isAgg
   rw[Sem.run_bind,hq];rfl
 ·cases hs
theorem z1i(hs:Wy P t=some (some n)):yr P t=n/\∃i,P.info? t=some i:=by
 unfold Wy at hs
 split at hs
 ·cases hs
 ·rename_i l hv
  simp only[Aa]at hs
  subst hs
  unfold zv2 at hv
  have key:∀x:Option (List Atom),(match x with
    |some l=>bif Nat.beq l.length (yr P t)then some (VT.agg l)else none
    |none=>none)=some (.agg l)->yr P t=l.length:=by
   intro x hx
   split at hx
   ·rename_i l'
    cases hb:Nat.beq l'.length (yr P t)with
    |false=>rw[hb]at hx;cases hx
    |true=>
     rw[hb]at hx
     simp only[cond_true,Aa,VT.agg.injEq]at hx
     rw[<-hx];exact(Ag hb).symm
   ·cases hx
  split at hv
  ·exact⟨key _ hv,info_of_underlying (by assumption)⟩
  ·exact⟨key _ hv,info_of_underlying (by assumption)⟩
  ·simp at hv
  ·cases hv
 ·cases hs
theorem za0{l:List AA}{ag:AG}(hp:zwx P ty l k=some ag)(hd:All2 (DenA γ) l us)(h:zb):∃v,DenG γ ag v/\QExec P (part ty us.toArray k) h v:=by
 unfold zwx at hp
 split at hp
 ·rename_i s hs
  split at hp
  ·rename_i r hr
   obtain⟨rfl,hn⟩:=Xx hr
   have h3:=(hd.drop k).take (z0w s)
   have O:((us.drop k).take (z0w s)).length=z0w s:=by rw[<-h3.length];exact hn
   cases s with
   |none=>
    generalize hq:(us.drop k).take (z0w none)=q at *
    match q,O,hq with
    |[v],_,hq=>
     generalize Z:(l.drop k).take (z0w none)=r' at *
     match r',h3 with
     |[x],h3=>
      simp only[zld,Aa]at hp
      subst hp
      refine⟨v,h3.1,λB d=>?_⟩
      have ha:=zn0 hs h B d
      have hv:us[k]?=some v:=by
       have:((us.drop k).take 1)[0]?=some v:=by rw[show(us.drop k).take 1=[v]from hq];rfl
       rw[AC,if_pos (by omega),AE]at this
       simpa using this
      unfold part
      rw[Sem.run_bind,ha]
      simp[hv]
     |[],h3=>exact h3.elim
     |_::_::_,h3=>exact h3.2.elim
   |some n=>
    simp only[zld,Aa]at hp
    subst hp
    refine⟨.agg ((us.drop k).take n).toArray,⟨_,rfl,h3⟩,λB d=>?_⟩
    have ha:=zn0 hs h B d
    obtain⟨hz,i,hi⟩:=z1i hs
    have hS:=QExec.sizeOf (h:=h) hi B d
    unfold part
    rw[Sem.run_bind,ha]
    simp only[Option.isSome_some,Result.andThen_ok,if_true]
    rw[Sem.run_bind,hS,hz]
    simp
  ·cases hp
 ·cases hp
end
section
variable {cs:CS} {γ:Gh} {h:zb} {u:Value} {t el:TypeId} {a:Option Addr} {n:Int} {av:AV} {P:Program} {cap:Nat} {g:Option Bool} {σ:Operand -> Value} {b:Bool} {o:Oper}
variable {h0 : zb} {W : Nat -> Prop} {M0 : Fr}
def rowOf(cs:CS):AA->Option ((t:Ty)×List (El t))
 |.d (.row t) xs=>some ⟨t,xs⟩
 |.dc t xs=>some ⟨t,xs⟩
 |.own c=>match Yx cs c with
  |some (.fz t xs)=>some ⟨t,xs⟩
  |_=>none
 |_=>none
theorem zb8(I:Inv h0 W M0 cs γ h){aa:AA}{r:(t:Ty)×List (El t)}(hr:rowOf cs aa=some r)(hd:DenA γ aa u):Rd γ.M (.row r.1) r.2 [u]:=by
 unfold rowOf at hr
 split at hr
 ·simp only[Aa]at hr;subst hr;exact hd
 ·simp only[Aa]at hr;subst hr;obtain⟨s,_,_,h⟩:=hd;exact h
 ·split at hr
  ·rename_i t xs hc
   simp only[Aa]at hr;subst hr
   rw[show u=_ from hd]
   exact I.den _ (qe hc)
  ·cases hr
 ·cases hr
theorem Rd.sub{M:Fr}{t:Ty}{xs:List (El t)}{n c:Nat}(H:Rd M (.row t) xs [.slice a n c]){l r m:Nat}(h1:l<=r)(h2:r<=xs.length)(h3:r<=m)(h4:m<=c):
  Rd M (.row t) ((xs.take r).drop l) [.slice (Q4 a (sz t) l m) (r-l) (m-l)]:=by
 obtain⟨v,e,a',c',e2,hn,H⟩:=H
 cases e
 simp only[AO]at e2
 obtain⟨rfl,rfl,rfl⟩:=e2
 have O:((xs.take r).drop l).length=r-l:=by simp;omega
 refine⟨_,rfl,Q4 a (sz t) l m,m-l,by rw[O],⟨by rw[O];omega,by rw[O];omega⟩,?_⟩
 by_cases hr:r=l
 ·left
  apply Aw
  omega
 rcases H with aa|⟨b,o,cs,e1,hM,hi⟩
 ·left;subst aa;simp
 ·right
  have Z:¬(m=l):=by omega
  refine⟨b,o+l*sz t,cs,?_,hM,λi ac=>?_⟩
  ·unfold Q4;rw[if_neg Z,e1];simp[zh]
  ·have:=hi (l+i) (by omega)
   have e3:((xs.take r).drop l)[i]=xs[l+i]:=by simp
   rw[e3]
   have e4:o+l*sz t+i*sz t=o+(l+i)*sz t:=by rw[BB];omega
   rw[e4];exact this
def qbn:AV->Option Int
 |.g (.a (.v (.int _ n)))=>some n
 |_=>none
theorem zr7(h:qbn av=some n)(hd:DenV γ av u):∃k,u=.int k n:=by
 unfold qbn at h
 split at h
 ·simp only[Aa]at h;subst h;exact⟨_,hd⟩
 ·cases h
def z5p(P:Program)(t:TypeId):Option TypeId:=match P.underlying t with
 |some (.slice el)=>bif yu P el then some el else none
 |_=>none
theorem Y0(h:z5p P t=some el):P.underlying t=some (.slice el)/\yu P el=true:=by
 unfold z5p at h
 split at h
 ·rename_i e hu
  cases ho:yu P e with
  |false=>rw[ho]at h;cases h
  |true=>rw[ho]at h;simp only[cond_true,Aa]at h;subst h;exact⟨hu,ho⟩
 ·cases h
def zwy(P:Program)(cs:CS)(t:TypeId)(aa:AA)(n:Int)(g:Option Bool)(K:AV->Prop):Prop:=
 match z5p P t with
 |some el=>match rowOf cs aa with
  |some r=>bif Nat.beq (yr P el) (sz r.1)then ∃y:El r.1,req g (0<=n/\r.2[n.toNat]?=some y)/\K (.g (.a (.elt r.1 y 0)))else False
  |none=>match aa with
   |.own c=>match Yx cs c with
    |some (.row e ty xs)=>bif Nat.beq (yr P el) (sz ty)then req g (0<=n/\n.toNat<xs.length)/\K (.g (.a (.oelt c (sz ty) n.toNat 0)))else False
    |_=>False
   |_=>False
 |none=>False
theorem zn1(hu:P.underlying t=some (.slice el))(ho:yu P el=true){a:Addr}{len cap:Nat}{k:IntKind}(h1:0<=n)(h2:n<(len:Int))(h:zb):
  QExec P (EE t (.slice (some a) len cap) (.int k n)) h (.pointer (some (a.add (n.toNat*yr P el)))):=by
 have:=xm (P:=P) (t:=t) (x:=.slice (some a) len cap) (i:=.int k n) (g:=none) (K:=λv=>v=.pointer (some (a.add (n.toNat*yr P el))))
  (λZ O=>by
   rcases O with O|⟨m,O⟩
   ·rw[hu]at O;cases O;exact jj ho
   ·rw[hu]at O;cases O) (by unfold znj;rw[hu];exact⟨a,⟨rfl,h1,h2⟩,rfl⟩)
 obtain⟨v,rfl,hq⟩:=this
 exact hq trivial h
theorem zn2{aa:AA}{K:AV->Prop}(H:zwy P cs t aa n g K):
  ∃av,K av/\(gok g->∀γ h u k,Inv h0 W M0 cs γ h->DenA γ aa u->∃v,DenV γ av v/\QExec P (EE t u (.int k n)) h v):=by
 unfold zwy at H
 split at H
 ·rename_i el af
  obtain⟨hu,ho⟩:=Y0 af
  split at H
  ·rename_i r hr
   cases hz:Nat.beq (yr P el) (sz r.1)with
   |false=>rw[hz]at H;exact H.elim
   |true=>
    rw[hz]at H
    obtain⟨y,hy,hK⟩:=H
    refine⟨_,hK,λhg γ h u k I hd=>?_⟩
    obtain⟨Z,ae⟩:=hy.out hg
    have ac:=Ag hz
    obtain⟨v,e,a,c,e2,hn,H⟩:=zb8 I hr hd
    cases e
    subst e2
    have hi:n.toNat<r.2.length:=(Az.1 ae).1
    have hx:r.2[n.toNat]=y:=(Az.1 ae).2
    rcases H with ah|⟨b,o,cc,e1,hM,ak⟩
    ·rw[ah]at hi;simp at hi
    ·subst e1
     refine⟨_,?_,zn1 hu ho Z (by omega) h⟩
     have:=ak n.toNat hi
     rw[hx]at this
     rw[zh,ac]
     exact⟨b,o+n.toNat*sz r.1,cc,rfl,hM,this⟩
  ·split at H
   ·rename_i c _
    split at H
    ·rename_i e ty xs hc
     cases hz:Nat.beq (yr P el) (sz ty)with
     |false=>rw[hz]at H;exact H.elim
     |true=>
      rw[hz]at H
      obtain⟨hy,hK⟩:=H
      refine⟨_,hK,λhg γ h u k I hd=>?_⟩
      obtain⟨Z,hi⟩:=hy.out hg
      have ac:=Ag hz
      obtain⟨cells,O,al,_,hl⟩:=I.den _ (qe hc)
      simp only at hl O
      rcases O.2 with⟨hv,h1⟩|⟨g',cap,am,hv,_,an,_,_,_,ai⟩
      ·omega
      ·simp only[AO]at hv
       have aj:u=slV (γ.σ c):=hd
       subst aj
       unfold slV
       rw[hv.1]
       refine⟨_,?_,zn1 hu ho Z (by omega) h⟩
       rw[zh,ac,AD]
       exact⟨g',hv.1,rfl⟩
    ·exact H.elim
   ·exact H.elim
 ·exact H.elim
def zn3(ρ:Operand->Option AV)(d:Int):Option Operand->Option Int
 |none=>some d
 |some x=>match ρ x with
  |some av=>qbn av
  |none=>none
theorem Y1{ρ:Operand->Option AV}(hρ:∀x av,ρ x=some av->DenV γ av (σ x)){d n:Int}{x:Option Operand}(h:zn3 ρ d x=some n):jk (x.map σ) d=some n:=by
 unfold zn3 at h
 split at h
 ·exact h
 ·rename_i y
  split at h
  ·rename_i av O
   obtain⟨k,e⟩:=zr7 h (hρ _ _ O)
   simp[jk,e]
  ·cases h
def zwz(P:Program)(cs:CS)(ρ:Operand->Option AV)(t:TypeId)(aa:AA)(lo hi mx:Option Operand)(g:Option Bool)(K:AV->Prop):Prop:=
 match z5p P t with
 |some el=>match rowOf cs aa with
  |some r=>bif Nat.beq (yr P el) (sz r.1)then(match zn3 ρ 0 lo,zn3 ρ (r.2.length:Int) hi with
   |some l,some h=>match mx with
    |none=>req g (0<=l/\l<=h/\h<=(r.2.length:Int))/\K (.g (.a (.d (.row r.1) ((r.2.take h.toNat).drop l.toNat))))
    |some m=>match zn3 ρ 0 (some m),hi with
     |some m,some _=>req g (0<=l/\l<=h/\h<=(r.2.length:Int)/\m=h)/\K (.g (.a (.dc r.1 ((r.2.take h.toNat).drop l.toNat))))
     |_,_=>False
   |_,_=>False)else False
  |none=>False
 |none=>False
theorem zn4(hu:P.underlying t=some (.slice el))(ho:yu P el=true){len cap:Nat}{lo hi mx:Option Value}{l r m:Int}(hl:jk lo 0=some l)(hr:jk hi (len:Int)=some r)(hm:jk mx (cap:Int)=some m)
  (h0:mx=none\/∃v,hi=some v) (h1:0<=l) (h2:l<=r) (h3:r<=m) (h4:m<=(cap:Int)) (h:zb):
  QExec P (EF t (.slice a len cap) lo hi mx) h (.slice (Q4 a (yr P el) l.toNat m.toNat) (r.toNat-l.toNat) (m.toNat-l.toNat)):=by
 have:=Ya (P:=P) (t:=t) (x:=.slice a len cap) (lo:=lo) (hi:=hi) (mx:=mx) (g:=none) (K:=λv=>v=.slice (Q4 a (yr P el) l.toNat m.toNat) (r.toNat-l.toNat) (m.toNat-l.toNat))
  (λZ O=>by rw[hu]at O;cases O;exact jj ho) (by unfold zrr;rw[hu];simp only[hl,hr,hm];exact⟨h0,⟨h1,h2,h3,h4⟩,trivial⟩)
 obtain⟨v,rfl,hq⟩:=this
 exact hq trivial h
theorem zn5{ρ:Operand->Option AV}{aa:AA}{lo hi mx:Option Operand}{K:AV->Prop}(H:zwz P cs ρ t aa lo hi mx g K):
  ∃av,K av/\(gok g->∀γ h u σ,Inv h0 W M0 cs γ h->(∀x av,ρ x=some av->DenV γ av (σ x))->DenA γ aa u->∃v,DenV γ av v/\QExec P (EF t u (lo.map σ) (hi.map σ) (mx.map σ)) h v):=by
 unfold zwz at H
 split at H
 ·rename_i el ah
  obtain⟨hu,ho⟩:=Y0 ah
  split at H
  ·rename_i r hr
   cases hz:Nat.beq (yr P el) (sz r.1)with
   |false=>rw[hz]at H;exact H.elim
   |true=>
    rw[hz]at H
    have af:=Ag hz
    simp only[cond_true]at H
    split at H
    ·rename_i l hh hl ae
     split at H
     ·obtain⟨hy,hK⟩:=H
      refine⟨_,hK,λhg γ h u σ I hρ hd=>?_⟩
      obtain⟨h1,h2,h3⟩:=hy.out hg
      have O:=zb8 I hr hd
      have Z:=O
      obtain⟨v,e,a,c,e2,hn,_⟩:=Z
      cases e
      subst e2
      refine⟨_,?_,zn4 hu ho (Y1 hρ hl) (Y1 hρ ae) (m:=(c:Int)) rfl (.inl rfl) h1 h2 (by omega) (Int.le_refl _) h⟩
      rw[af]
      exact O.sub (by omega) (by omega) (by omega) (by omega)
     ·rename_i m
      split at H
      ·rename_i m' hx hm
       obtain⟨hy,hK⟩:=H
       refine⟨_,hK,λhg γ h u σ I hρ hd=>?_⟩
       obtain⟨h1,h2,h3,h4⟩:=hy.out hg
       subst h4
       have O:=zb8 I hr hd
       have Z:=O
       obtain⟨v,e,a,c,e2,hn,_⟩:=Z
       cases e
       subst e2
       have ac:=Y1 hρ hm
       have ai:jk ((some m).map σ) (c:Int)=some m':=by
        unfold jk at ac ⊢
        simp only[Option.map_some]at ac ⊢
        split at ac <;> simp_all
       refine⟨_,?_,zn4 hu ho (Y1 hρ hl) (Y1 hρ ae) ai (.inr ⟨_,rfl⟩) h1 h2 (Int.le_refl _) (by omega) h⟩
       rw[af]
       refine⟨⟨_,_,_⟩,rfl,rfl,O.sub (by omega) (by omega) (by omega) (by omega)⟩
      ·exact H.elim
    ·exact H.elim
  ·exact H.elim
 ·exact H.elim
def qb4(cs:CS):AA->Option Nat
 |.d (.row _) xs=>some xs.length
 |.dc _ xs=>some xs.length
 |.own c=>match Yx cs c with
  |some (.fz _ xs)=>some xs.length
  |some (.row _ _ xs)=>some xs.length
  |_=>none
 |_=>none
theorem z1j(I:Inv h0 W M0 cs γ h){aa:AA}{n:Nat}(hn:qb4 cs aa=some n)(hd:DenA γ aa u):∃a c,u=.slice a n c:=by
 have key:∀{t:Ty} {xs:List (El t)},Rd γ.M (.row t) xs [u]->∃a c,u=.slice a xs.length c:=by
  rintro t xs ⟨v,e,a,c,e2,_⟩
  cases e
  exact⟨a,c,e2⟩
 unfold qb4 at hn
 split at hn
 ·simp only[Aa]at hn;subst hn;exact key hd
 ·simp only[Aa]at hn;subst hn;obtain⟨s,_,_,hd⟩:=hd;exact key hd
 ·split at hn
  ·rename_i c t xs hc
   simp only[Aa]at hn;subst hn
   rw[show u=_ from hd]at key ⊢
   exact key (I.den _ (qe hc))
  ·rename_i c e t xs hc
   simp only[Aa]at hn;subst hn
   obtain⟨cells,_,_,_,hl⟩:=I.den _ (qe hc)
   simp only at hl
   rw[show u=_ from hd]
   exact⟨_,_,by unfold slV;rw[hl]⟩
  ·cases hn
 ·cases hn
def z92:AA->List AA
 |.v x=>x.cells.toList.map .v
 |x=>[x]
def zum:AV->Option (List AA)
 |.g (.a x)=>some (z92 x)
 |.g (.agg l)=>some l
 |_=>none
theorem z94(h:u.oneCell'=true):u.cells.toList=[u]:=by
 cases u <;> first|rfl|simp[Value.oneCell']at h
theorem Zw(γ:Gh):∀l:List Value,All2 (DenA γ) (l.map .v) l
 |[]=>trivial
 |_::l=>⟨rfl,Zw γ l⟩
theorem zw0{x:AA}(hd:DenA γ x u):All2 (DenA γ) (z92 x) u.cells.toList:=by
 have key:u.oneCell'=true->All2 (DenA γ) [x] u.cells.toList:=λh=>by rw[z94 h];exact⟨hd,trivial⟩
 cases x with
 |v y=>rw[show u=y from hd];exact Zw γ _
 |d t y=>exact key (Rd.one (show Rd γ.M t y [u]from hd) u (by simp))
 |box c o=>exact key (by rw[show u=_ from hd];rfl)
 |own c=>exact key (by rw[show u=_ from hd];rfl)
 |oelt c z i o=>obtain⟨g,_,e⟩:=hd;exact key (by rw[e];rfl)
 |elt t y o=>obtain⟨b,f,cs,e,_⟩:=hd;exact key (by rw[e];rfl)
 |dc t xs=>obtain⟨s,e,_⟩:=hd;exact key (by rw[e];rfl)
theorem zb9{l:List AA}(h:zum av=some l)(hd:DenV γ av u):All2 (DenA γ) l u.cells.toList:=by
 unfold zum at h
 split at h
 ·simp only[Aa]at h;subst h;exact zw0 hd
 ·simp only[Aa]at h;subst h
  obtain⟨us,rfl,h2⟩:=hd
  simpa[Value.cells]using h2
 ·cases h
def zp3(O:Nat->Option (Nat×Nat))(cells:List AA):List (Nat×AV)->Option (List AA)
 |[]=>some cells
 |(i,av)::rest=>match O i,zum av with
  |some (off,size),some l=>bif Nat.beq l.length size then(bif Nat.ble (off+l.length) cells.length then zp3 O (cells.take off++l++cells.drop (off+l.length)) rest else none)else none
  |_,_=>none
theorem z1k(vs:List Value):∀(k off:Nat) (cs:Array Value),off+k+vs.length<=cs.size ->
  ((vs.zipIdx k).foldl (λcs (x:Value×Nat)=>cs.setIfInBounds (off+x.2) x.1) cs).toList=cs.toList.take (off+k)++vs++cs.toList.drop (off+k+vs.length):=by
 induction vs with
 |nil=>intro k off cs h;simp
 |cons v vs ih=>
  intro k off cs h
  simp only[Av]at h
  rw[List.zipIdx_cons,List.foldl_cons]
  refine(ih (k+1) off (cs.setIfInBounds (off+k) v) (by rw[B4];omega)).trans ?_
  simp only[Array.toList_setIfInBounds,Av]
  have hi:off+k<cs.toList.length:=by simp;omega
  rw[<-Nat.add_assoc,List.drop_set_of_lt (by omega)]
  have e2:(cs.toList.set (off+k) v).take (off+k+1)=cs.toList.take (off+k)++[v]:=by
   rw[List.take_set,Am hi,List.set_append_right _ _ (by simp;omega)]
   have:off+k-(cs.toList.take (off+k)).length=0:=by simp;omega
   rw[this];rfl
  rw[e2,show off+k+(vs.length+1)=off+k+1+vs.length by omega]
  simp
theorem Js{O:Nat->Option (Nat×Nat)}{γ:Gh}:∀{parts:List (Nat×AV)} {cells r:List AA} {us:List Value} {ps:List (Nat×Value)},zp3 O cells parts=some r->All2 (DenA γ) cells us->All2 (λ(x:Nat×AV) (y:Nat×Value)=>x.1=y.1/\DenV γ x.2 y.2) parts ps ->
  ∃ws:List Value,E0 O us.toArray ps=some ws.toArray/\All2 (DenA γ) r ws
 |[],cells,r,us,[],h,hc,_=>by
  simp only[zp3,Aa]at h
  subst h
  exact⟨us,rfl,hc⟩
 |[],_,_,_,_::_,_,_,hp=>hp.elim
 |_::_,_,_,_,[],_,_,hp=>hp.elim
 |(i,av)::rest,cells,r,us,(j,v)::ps,h,hc,hp=>by
  obtain⟨⟨ac,hv⟩,hp⟩:=hp
  simp only at ac hv
  subst ac
  simp only[zp3]at h
  split at h
  ·rename_i off size l ah hl
   cases hb:Nat.beq l.length size with
   |false=>rw[hb]at h;cases h
   |true=>
    rw[hb]at h
    simp only[cond_true]at h
    cases hb2:Nat.ble (off+l.length) cells.length with
    |false=>rw[hb2]at h;cases h
    |true=>
     rw[hb2]at h
     simp only[cond_true]at h
     have aa:=zb9 hl hv
     have ae:=aa.length
     have aj:=hc.length
     have h1:=Ag hb
     have h2:=BM hb2
     have af:v.cells.size=size:=by rw[<-h1,ae];simp
     have Z:All2 (DenA γ) (cells.take off++l++cells.drop (off+l.length)) (us.take off++v.cells.toList++us.drop (off+l.length)):=((hc.take off).append aa).append (hc.drop _)
     obtain⟨ws,e1,e2⟩:=Js h Z hp
     refine⟨ws,?_,e2⟩
     simp only[E0,ah]
     have ai:¬((decide (v.cells.size≠size)||decide (off+v.cells.size>us.toArray.size))=true):=by
      rw[af];simp;omega
     rw[if_neg ai]
     rw[<-e1]
     congr 1
     apply ED
     have:=z1k v.cells.toList 0 off us.toArray (by simp;omega)
     rw[<-Array.foldl_toList,Array.toList_zipIdx]
     refine this.trans ?_
     simp[<-ae]
  ·cases h
def zca(P:Program):List Field->Bool
 |[]=>true
 |f::l=>bif yu P f.type then zca P l else false
theorem zjx{P:Program}{h:zb}:∀{l:List Field},zca P l=true->QExec P (l.mapM λf=>do pure (f.offset,<-Go.sizeOf f.type)) h (l.map λf=>(f.offset,yr P f.type))
 |[],_=>λ_ _=>rfl
 |f::l,H=>by
  simp only[zca]at H
  cases ho:yu P f.type with
  |false=>rw[ho]at H;cases H
  |true=>
   rw[ho]at H
   obtain⟨i,hi⟩:=jj ho
   rw[En]
   exact QExec.bind (QExec.bind (QExec.sizeOf hi) (QExec.pure _)) (QExec.bind (zjx H) (QExec.pure _))
def placeOf(P:Program)(fs:Array Field)(i:Nat):Option (Nat×Nat):=match fs[i]? with
 |some f=>some (f.offset,yr P f.type)
 |none=>none
def zcb(ρ:Operand->Option AV):List (Nat×Operand)->Option (List (Nat×AV))
 |[]=>some []
 |(i,x)::l=>match ρ x,zcb ρ l with
  |some av,some r=>some ((i,av)::r)
  |_,_=>none
theorem Xy{γ:Gh}{ρ:Operand->Option AV}{σ:Operand->Value}(hρ:∀x av,ρ x=some av->DenV γ av (σ x)):∀{l:List (Nat×Operand)} {r:List (Nat×AV)},zcb ρ l=some r ->
  All2 (λ(x:Nat×AV) (y:Nat×Value)=>x.1=y.1/\DenV γ x.2 y.2) r (l.map λx=>(x.1,σ x.2))
 |[],r,h=>by simp only[zcb,Aa]at h;subst h;trivial
 |(i,x)::l,r,h=>by
  simp only[zcb]at h
  split at h
  ·rename_i av r' h1 h2
   simp only[Aa]at h
   subst h
   exact⟨⟨rfl,hρ _ _ h1⟩,Xy hρ h2⟩
  ·cases h
def zeroOf(P:Program)(t:TypeId):Option Value:=match P.info? t with
 |some i=>i.zero
 |none=>none
theorem Y2{z:Value}(h:zeroOf P t=some z)(hp:zb):QExec P (zeroValue t) hp z:=by
 unfold zeroOf at h
 split at h
 ·rename_i i hi
  intro B d
  simp[zeroValue,typeInfo,program,hi,Sem.run,h]
 ·cases h
def zw1(P:Program)(t:TypeId)(parts:List (Nat×AV)):Option (List AA):=match P.underlying t,zeroOf P t with
 |some (.struct fs),some z=>bif zca P fs.toList then zp3 (placeOf P fs) (z.cells.toList.map .v) parts else none
 |_,_=>none
theorem zn6{parts:List (Nat×AV)}{r:List AA}(h:zw1 P t parts=some r){ps:List (Nat×Value)}(hp:All2 (λ(x:Nat×AV) (y:Nat×Value)=>x.1=y.1/\DenV γ x.2 y.2) parts ps)(hh:zb):
  ∃ws:List Value,QExec P (Instr.build t ps.toArray) hh (.agg ws.toArray)/\All2 (DenA γ) r ws:=by
 unfold zw1 at h
 split at h
 ·rename_i fs z hu hz
  cases hof:zca P fs.toList with
  |false=>rw[hof]at h;cases h
  |true=>
   rw[hof]at h
   simp only[cond_true]at h
   obtain⟨ws,e1,e2⟩:=Js h (Zw γ _) hp
   refine⟨ws,?_,e2⟩
   intro B d
   have hq:=QExec.underlying (h:=hh) hu B d
   have O:=Y2 hz hh B d
   have Z:=zjx (P:=P) (h:=hh) hof B d
   unfold Instr.build
   rw[Sem.run_bind,O]
   simp only[Result.andThen_ok]
   rw[Sem.run_bind,hq]
   simp only[Result.andThen_ok]
   rw[Sem.run_bind,Array.mapM_eq_mapM_toList,Sem.run_map,Z]
   simp only[Result.andThen_ok]
   have e3:(λi=>((fs.toList.map λf=>(f.offset,yr P f.type)).toArray)[i]?)=placeOf P fs:=by
    funext i
    unfold placeOf
    cases hi:fs[i]? <;> simp[hi]
   rw[e3]
   have e4:z.cells.toList.toArray=z.cells:=by simp
   rw[e4]at e1
   simp only[e1]
   rfl
 ·cases h
def zw2(P:Program)(t:TypeId)(a b:Value):Option Bool:=match P.underlying t,a,b with
 |some (.int _),.int k x,.int k' y=>if k=k' then some (x==y)else none
 |some .string,.string x,.string y=>some (x.toList==y.toList)
 |some .bool,.bool x,.bool y=>some (x==y)
 |_,_,_=>none
def z5q(P:Program)(xs ys:List AA):List Field->Option Bool
 |[]=>some true
 | f :: fs => if f.name = "_" then none else match zwx P f.type xs f.offset, zwx P f.type ys f.offset with
  |some (.a (.v a)),some (.a (.v b))=>match zw2 P f.type a b,z5q P xs ys fs with
   |some p,some q=>some (p&&q)
   |_,_=>none
  |_,_=>none
def eqA(P:Program)(o:Oper)(ρ:Operand->Option AV):Option Bool:=match o.op with
 |.binOp .eql t x y _=>match ρ x,ρ y with
  |some (.g (.agg xs)),some (.g (.agg ys))=>match P.underlying t with
   |some (.struct _)=>bif P.stoodInHeld t then none else bif P.eqGuardType P.depth t then none else z5q P xs ys (P.fieldsOf t).toList
   |_=>none
  |_,_=>none
 |.binOp .neq t x y _=>match ρ x,ρ y with
  |some (.g (.agg xs)),some (.g (.agg ys))=>match P.underlying t with
   |some (.struct _)=>bif P.stoodInHeld t then none else bif P.eqGuardType P.depth t then none else(match z5q P xs ys (P.fieldsOf t).toList with
    |some b=>some (!b)
    |none=>none)
   |_=>none
  |_,_=>none
 |_=>none
theorem zn7{a b:Value}{r:Bool}(h:zw2 P t a b=some r)(d:Nat)(w:World):(Op.equalIn (d+1) t a b).run P w=.ok r w:=by
 unfold zw2 at h
 split at h
 ·rename_i k0 k x k' y hu
  split at h
  ·rename_i hk
   simp only[Aa]at h
   subst hk;subst h
   exact run_equalIn_int w d t k k0 x y hu
  ·cases h
 ·rename_i x y hu
  simp only[Aa]at h
  subst h
  exact run_equalIn_string w d t x y hu
 ·rename_i x y hu
  simp only[Aa]at h
  subst h
  exact run_equalIn_bool' w d t x y hu
 ·cases h
theorem zjy{P:Program}{γ:Gh}{xs ys:List AA}{us vs:List Value}(hx:All2 (DenA γ) xs us)(hy:All2 (DenA γ) ys vs)(d:Nat)(h:zb):∀(fs:List Field) (b:Bool),z5q P xs ys fs=some b->QExec P (Op.eqFields (d+1) us.toArray vs.toArray fs) h b
 |[],b,hb=>by
  simp only[z5q,Aa]at hb
  subst hb
  exact QExec.pure _
 |f::fs,b,hb=>by
  unfold z5q at hb
  split at hb
  ·cases hb
  ·rename_i hn
   split at hb
   ·rename_i a b' O ac
    split at hb
    ·rename_i p q hp hq
     simp only[Aa]at hb
     subst hb
     obtain⟨v1,e1,r1⟩:=za0 O hx h
     obtain⟨v2,e2,r2⟩:=za0 ac hy h
     have Z:v1=a:=e1
     have aa:v2=b':=e2
     subst Z;subst aa
     intro B dd
     unfold Op.eqFields
     rw[if_pos (by exact hn)]
     rw[Sem.run_bind,r1 B dd]
     simp only[Result.andThen_ok]
     rw[Sem.run_bind,r2 B dd]
     simp only[Result.andThen_ok]
     rw[Sem.run_bind,zn7 hp d]
     simp only[Result.andThen_ok]
     cases p with
     |false=>rfl
     |true=>simpa using zjy hx hy d h fs q hq B dd
    ·cases hb
   ·cases hb
theorem zn8{ρ:Operand->Option AV}(H:eqA P o ρ=some b)(hρ:∀x av,ρ x=some av->DenV γ av (σ x))(h:zb):QExec P (execOp σ o) h (.value (.bool b)):=by
 have key:∀{t:TypeId} {xs ys:List AA} {us vs:List Value} {fs:Array Field} {b:Bool},P.underlying t=some (.struct fs)->P.stoodInHeld t=false->All2 (DenA γ) xs us->All2 (DenA γ) ys vs->z5q P xs ys (P.fieldsOf t).toList=some b->QExec P (Op.equalIn 10000 t (.agg us.toArray) (.agg vs.toArray)) h b:=by
  intro t xs ys us vs fs b hu hs hx hy hb B d
  have hf:P.underlying t=some (.struct (P.fieldsOf t)):=by rw[hu];simp[Program.fieldsOf,hu]
  rw[run_equalIn_struct _ 9999 t us.toArray vs.toArray hf hs]
  exact zjy hx hy 9998 h _ b hb B d
 unfold eqA at H
 split at H
 ·rename_i t x y yt ho
  split at H
  ·rename_i xs ys hx hy
   split at H
   ·rename_i fs hu
    cases hs:P.stoodInHeld t with
    |true=>rw[hs]at H;cases H
    |false=>
     cases hg:P.eqGuardType P.depth t with
     |true=>rw[hs,hg]at H;cases H
     |false=>
      rw[hs,hg]at H
      obtain⟨us,e1,d1⟩:=hρ _ _ hx
      obtain⟨vs,e2,d2⟩:=hρ _ _ hy
      have hk:=key hu hs d1 d2 H
      simp only[execOp,ho,e1,e2]
      refine QExec.val λB d=>?_
      rw[Sem.run_bind,run_eqGuard_agg _ _ _ _ _ _ _ hg]
      simp only[Result.andThen_ok]
      rw[run_eql_struct,hk B d]
      rfl
   ·cases H
  ·cases H
 ·rename_i t x y yt ho
  split at H
  ·rename_i xs ys hx hy
   split at H
   ·rename_i fs hu
    cases hs:P.stoodInHeld t with
    |true=>rw[hs]at H;cases H
    |false=>
     cases hg:P.eqGuardType P.depth t with
     |true=>rw[hs,hg]at H;cases H
     |false=>
      rw[hs,hg]at H
      simp only[cond_false]at H
      split at H
      ·rename_i b' O
       simp only[Aa]at H
       subst H
       obtain⟨us,e1,d1⟩:=hρ _ _ hx
       obtain⟨vs,e2,d2⟩:=hρ _ _ hy
       have hk:=key hu hs d1 d2 O
       simp only[execOp,ho,e1,e2]
       refine QExec.val λB d=>?_
       rw[Sem.run_bind,run_eqGuard_agg _ _ _ _ _ _ _ hg]
       simp only[Result.andThen_ok]
       rw[run_neq_struct,hk B d]
       rfl
      ·cases H
   ·cases H
  ·cases H
 ·cases H
def qA0(P:Program)(o:Oper)(ρ:Operand->Option AV)(g:Option Bool)(cs:CS)(K:AV->Prop):Prop:=
 bif (bif zey o then(bif isQ P o then(bif wj o.op then zgk ρ o.op.operands.toList else false)else false)else false)then Zh P o (qbl ρ) g #[] (λv=>K (zuj v))else
 match o.op with
 |.move x=>match ρ x with
  |some av=>K av
  |none=>False
 |.assign x=>match ρ x with
  |some av=>K av
  |none=>False
 |.extract x i=>match ρ x with
  |some (.tup l)=>match l[i]? with
   |some ag=>K (.g ag)
   |none=>False
  |some (.nx b p c)=>match i with
   |0=>K (.g (.a (.v (.bool b))))
   |1=>req g (b=true)/\K (.g (.a (.v (.int .i64 p))))
   |2=>req g (b=true)/\K (.g (.a (.v (.int .i32 c))))
   |_=>False
  |_=>False
 |.field t x f=>match ρ x,zwv P t f with
  |some (.g (.agg l)),some (k,ty)=>match zwx P ty l k with
   |some ag=>K (.g ag)
   |none=>False
  |_,_=>False
 |.fieldAddr t x f=>match ρ x,zwv P t f with
  |some (.g (.a aa)),some (k,_)=>match qbm k aa with
   |some O=>K (.g (.a O))
   |none=>False
  |_,_=>False
 |.load t x=>match ρ x with
  |some (.g (.a aa))=>zul P cs t aa g K
  |_=>False
 |.indexAddr t x i=>match ρ x,ρ i with
  |some (.g (.a aa)),some iv=>match qbn iv with
   |some n=>zwy P cs t aa n g K
   |none=>False
  |_,_=>False
 |.slice t x lo hi mx=>match ρ x with
  |some (.g (.a aa))=>zwz P cs ρ t aa lo hi mx g K
  |_=>False
 |.nilCheck x=>match ρ x with
  |some (.g (.a aa))=>match qbm 0 aa with
   |some _=>K (.g (.a aa))
   |none=>False
  |_=>False
 |.build t parts=>match zcb ρ parts.toList with
  |some ps=>match zw1 P t ps with
   |some r=>K (.g (.agg r))
   |none=>False
  |none=>False
 |.call c=>match c.callee with
  |.builtin .len=>match c.args.toList,c.argTypes.toList with
   |[x],[t]=>match ρ x,P.underlying t with
    |some (.g (.a (.v (.string s)))),some .string=>K (.g (.a (.v (.int .i64 (s.size:Int)))))
    |some (.g (.a (.v (.slice _ n _)))),some (.slice _)=>K (.g (.a (.v (.int .i64 (n:Int)))))
    |some (.g (.a aa)),some (.slice _)=>match qb4 cs aa with
     |some n=>K (.g (.a (.v (.int .i64 (n:Int)))))
     |none=>False
    |_,_=>False
   |_,_=>False
  |_=>False
 |_=>False
theorem zw3{ρ:Operand->Option AV}{K:AV->Prop}(H:qA0 P o ρ g cs K):
  ∃av,K av/\(gok g->∀γ h σ,Inv h0 W M0 cs γ h->(∀x av,ρ x=some av->DenV γ av (σ x))->∃v,DenV γ av v/\QExec P (execOp σ o) h (.value v)):=by
 unfold qA0 at H
 cases hb:(bif zey o then(bif isQ P o then(bif wj o.op then zgk ρ o.op.operands.toList else false)else false)else false)with
 |true=>
  rw[hb]at H
  cases hfam:zey o with
  |false=>rw[hfam]at hb;cases hb
  |true=>
   cases hq:isQ P o with
   |false=>rw[hfam,hq]at hb;cases hb
   |true=>
    cases hns:wj o.op with
    |false=>rw[hfam,hq,hns]at hb;cases hb
    |true=>
     rw[hfam,hq,hns]at hb
     simp only[cond_true]at hb H
     obtain⟨v,h1,h2⟩:=Xq hfam H
     refine⟨_,h1,λhg γ h σ I hρ=>⟨v,Yz γ v,?_⟩⟩
     rw[zny hρ hns hb]
     exact h2 hg h ⟨by simp,λi hi=>absurd hi (by simp)⟩
 |false=>
  rw[hb]at H
  simp only[cond_false]at H
  have val:∀{s:Sem Value} {h:zb} {v:Value},QExec P s h v->QExec P (s >>= λx=>(Dl (D2 x):Sem Next)) h (.value v):=λhq=>QExec.val hq
  split at H
  ·rename_i x ho
   split at H
   ·rename_i av O
    exact⟨av,H,λ_ γ h σ I hρ=>⟨_,hρ _ _ O,by simp only[execOp,ho];exact QExec.pure _⟩⟩
   ·exact H.elim
  ·rename_i x ho
   split at H
   ·rename_i av O
    exact⟨av,H,λ_ γ h σ I hρ=>⟨_,hρ _ _ O,by simp only[execOp,ho];exact QExec.pure _⟩⟩
   ·exact H.elim
  ·rename_i x i ho
   split at H
   ·rename_i l O
    split at H
    ·rename_i ag ae
     refine⟨_,H,λ_ γ h σ I hρ=>?_⟩
     obtain⟨us,e,h2⟩:=hρ _ _ O
     obtain⟨u,hu,hd⟩:=h2.get ae
     refine⟨u,hd,?_⟩
     simp only[execOp,ho,e]
     refine val λB d=>?_
     unfold Instr.extract
     simp[hu]
    ·exact H.elim
   ·rename_i b p c O
    split at H
    ·refine⟨_,H,λ_ γ h σ I hρ=>⟨_,rfl,?_⟩⟩
     obtain⟨e1,e2⟩:=hρ _ _ O
     simp only[execOp,ho]
     refine val λB d=>?_
     cases b with
     |true=>rw[e1 rfl];rfl
     |false=>rw[e2 rfl];rfl
    ·refine⟨_,H.2,λhg γ h σ I hρ=>⟨_,rfl,?_⟩⟩
     obtain⟨e1,_⟩:=hρ _ _ O
     simp only[execOp,ho,e1 (H.1.out hg)]
     exact val λB d=>rfl
    ·refine⟨_,H.2,λhg γ h σ I hρ=>⟨_,rfl,?_⟩⟩
     obtain⟨e1,_⟩:=hρ _ _ O
     simp only[execOp,ho,e1 (H.1.out hg)]
     exact val λB d=>rfl
    ·exact H.elim
   ·exact H.elim
  ·rename_i t x f ho
   split at H
   ·rename_i l k ty O hf
    split at H
    ·rename_i ag ae
     refine⟨_,H,λ_ γ h σ I hρ=>?_⟩
     obtain⟨us,e,h2⟩:=hρ _ _ O
     obtain⟨v,hd,hq⟩:=za0 ae h2 h
     refine⟨v,hd,?_⟩
     simp only[execOp,ho,e]
     refine val λB d=>?_
     unfold zwv at hf
     split at hf
     ·rename_i fs hu
      split at hf
      ·rename_i fl ak
       split at hf
       ·rename_i i hi
        cases hz:Nat.beq i.size 0 with
        |true=>rw[hz]at hf;cases hf
        |false=>
         rw[hz]at hf
         simp only[cond_false,Aa,BA]at hf
         obtain⟨rfl,rfl⟩:=hf
         have al:=QExec.underlying (h:=h) hu B d
         unfold Instr.field
         rw[Sem.run_bind,al]
         simp only[Result.andThen_ok,ak,asAgg,Sem.run_bind,Sem.run_pure]
         exact hq B d
       ·cases hf
      ·cases hf
     ·cases hf
    ·exact H.elim
   ·exact H.elim
  ·rename_i t x f ho
   split at H
   ·rename_i aa k ty O hf
    split at H
    ·rename_i an ah
     refine⟨_,H,λ_ γ h σ I hρ=>?_⟩
     obtain⟨b,o',e,hd⟩:=zr6 ah (hρ _ _ O)
     refine⟨_,hd,?_⟩
     simp only[execOp,ho]
     rw[e]
     exact val (zww hf b o')
    ·exact H.elim
   ·exact H.elim
  ·rename_i t x ho
   split at H
   ·rename_i aa O
    obtain⟨av,h1,h2⟩:=zgl (h0:=h0) (W:=W) (M0:=M0) H
    refine⟨av,h1,λhg γ h σ I hρ=>?_⟩
    obtain⟨v,hd,hq⟩:=h2 hg γ h _ I (hρ _ _ O)
    refine⟨v,hd,?_⟩
    simp only[execOp,ho]
    exact val hq
   ·exact H.elim
  ·rename_i t x i ho
   split at H
   ·rename_i aa iv O am
    split at H
    ·rename_i n hn
     obtain⟨av,h1,h2⟩:=zn2 (h0:=h0) (W:=W) (M0:=M0) H
     refine⟨av,h1,λhg γ h σ I hρ=>?_⟩
     obtain⟨k,e⟩:=zr7 hn (hρ _ _ am)
     obtain⟨v,hd,hq⟩:=h2 hg γ h _ k I (hρ _ _ O)
     refine⟨v,hd,?_⟩
     simp only[execOp,ho]
     rw[e]
     exact val hq
    ·exact H.elim
   ·exact H.elim
  ·rename_i t x lo hi mx ho
   split at H
   ·rename_i aa O
    obtain⟨av,h1,h2⟩:=zn5 (h0:=h0) (W:=W) (M0:=M0) H
    refine⟨av,h1,λhg γ h σ I hρ=>?_⟩
    obtain⟨v,hd,hq⟩:=h2 hg γ h _ σ I hρ (hρ _ _ O)
    refine⟨v,hd,?_⟩
    simp only[execOp,ho]
    exact val hq
   ·exact H.elim
  ·rename_i x ho
   split at H
   ·rename_i aa O
    split at H
    ·rename_i an ah
     refine⟨_,H,λ_ γ h σ I hρ=>?_⟩
     obtain⟨b,o',e,hd⟩:=zr6 ah (hρ _ _ O)
     have ap:=hρ _ _ O
     refine⟨σ x,ap,?_⟩
     simp only[execOp,ho]
     rw[e]
     exact QExec.pure _
    ·exact H.elim
   ·exact H.elim
  ·rename_i t parts ho
   split at H
   ·rename_i ps aj
    split at H
    ·rename_i r hr
     refine⟨_,H,λ_ γ h σ I hρ=>?_⟩
     obtain⟨ws,hq,hd⟩:=zn6 hr (Xy hρ aj) h
     refine⟨.agg ws.toArray,⟨ws,rfl,hd⟩,?_⟩
     simp only[execOp,ho]
     have e:(parts.map λx=>(x.1,σ x.2))=(parts.toList.map λx=>(x.1,σ x.2)).toArray:=by rw[<-C3]
     have:=val hq
     rw[<-e]at this
     exact this
    ·exact H.elim
   ·exact H.elim
  ·rename_i c ho
   split at H
   ·rename_i hc
    split at H
    ·rename_i x t ac ai
     have Z:c.args=#[x]:=by
      have:=congrArg List.toArray ac;simp at this;exact this
     have af:c.argTypes=#[t]:=by
      have:=congrArg List.toArray ai;simp at this;exact this
     have key:∀(σ:Operand->Value) (h:zb) (n:Int),(QExec P (CK #[t] o.type #[σ x]) h (.int .i64 n))->QExec P (execOp σ o) h (.value (.int .i64 n)):=by
      intro σ h n hq
      have e:execOp σ o=(CK c.argTypes o.type (c.args.map σ) >>= λx=>(Dl (D2 x):Sem Next)):=by
       simp only[execOp,ho,resolve,hc]
       rfl
      rw[e,Z,af]
      refine val ?_
      simpa using hq
     split at H
     ·rename_i s O hu
      refine⟨_,H,λ_ γ h σ I hρ=>⟨_,rfl,key σ h _ λB d=>?_⟩⟩
      have hq:=QExec.underlying (h:=h) hu B d
      have e:σ x=.string s:=hρ _ _ O
      unfold CK
      simp only[DK,Dn,e,Sem.run_bind,hq,Result.andThen_ok,Sem.run_pure]
      rfl
     ·rename_i a n cp el O hu
      refine⟨_,H,λ_ γ h σ I hρ=>⟨_,rfl,key σ h _ λB d=>?_⟩⟩
      have hq:=QExec.underlying (h:=h) hu B d
      have e:σ x=.slice a n cp:=hρ _ _ O
      unfold CK
      simp only[DK,Dn,e,Sem.run_bind,hq,Result.andThen_ok,Sem.run_pure]
      rfl
     ·rename_i aa el _ _ O hu
      split at H
      ·rename_i n hn
       refine⟨_,H,λ_ γ h σ I hρ=>⟨_,rfl,key σ h _ λB d=>?_⟩⟩
       have hq:=QExec.underlying (h:=h) hu B d
       obtain⟨a,cp,e⟩:=z1j I hn (hρ _ _ O)
       unfold CK
       simp only[DK,Dn,e,Sem.run_bind,hq,Result.andThen_ok,Sem.run_pure]
       rfl
      ·exact H.elim
     ·exact H.elim
    ·exact H.elim
   ·exact H.elim
  ·exact H.elim
def qb5(P:Program)(o:Oper)(ρ:Operand->Option AV):Option Bool:=match o.op with
 |.binOp op t x (.const .nilIface) _=>match ρ x,ρ (.const .nilIface),P.underlying t with
  |some (.g (.a (.d .err b))),some (.g (.a (.v .nilIface))),some (.interface _)=>match op with
   |.eql=>some b
   |.neq=>some (!b)
   |_=>none
  |_,_,_=>none
 |_=>none
theorem zjz{ρ:Operand->Option AV}(H:qb5 P o ρ=some b)(hρ:∀x av,ρ x=some av->DenV γ av (σ x))(h:zb):QExec P (execOp σ o) h (.value (.bool b)):=by
 have key:∀{t:TypeId} {ms:Array (String×TypeId)} {b:Bool} {u:Value},P.underlying t=some (.interface ms)->((b=true/\u=.nilIface)\/(b=false/\∃t u',u=.iface t u'))->QExec P (Op.equal t u .nilIface) h b:=by
  intro t ms b u hu hb B d
  have hq:=QExec.underlying (h:=h) hu B d
  unfold Op.equal Op.maxDepth
  rcases hb with⟨rfl,rfl⟩|⟨rfl,t',u',rfl⟩
  ·unfold Op.equalIn;rw[Sem.run_bind,hq];rfl
  ·unfold Op.equalIn;rw[Sem.run_bind,hq];rfl
 unfold qb5 at H
 split at H
 ·rename_i op t x yt ho
  split at H
  ·rename_i b0 ms hx hy hu
   have hσ:σ (.const .nilIface)=.nilIface:=hρ _ _ hy
   obtain⟨u,e,hb⟩:=(show Rd γ.M .err b0 [σ x]from hρ _ _ hx)
   have eu:u=σ x:=by simpa using e.symm
   subst eu
   have hk:=key hu hb
   have hg:∀op,QExec P (eqGuard op t x (.const .nilIface) (σ x) .nilIface) h ():=by
    intro op B d
    unfold eqGuard
    rcases hb with⟨_,e2⟩|⟨_,t',u',e2⟩
    ·rw[e2];cases op <;> simp
    ·rw[e2];cases op <;> simp
   have O:∀op,(binOp op t (σ x) .nilIface=match op with | .eql=>(do pure (.bool (<-Op.equal t (σ x) .nilIface))) | .neq=>(do pure (.bool (!(<-Op.equal t (σ x) .nilIface))))|_=>binOp op t (σ x) .nilIface):=by
    intro op
    rcases hb with⟨_,e2⟩|⟨_,t',u',e2⟩
    ·rw[e2];cases op <;> rfl
    ·rw[e2];cases op <;> rfl
   simp only[execOp,ho,hσ]
   refine QExec.val ((hg op).bind ?_)
   split at H
   ·simp only[Aa]at H;subst H
    rw[O]
    exact hk.bind (QExec.pure _)
   ·simp only[Aa]at H;subst H
    rw[O]
    exact hk.bind (QExec.pure _)
   ·cases H
  ·cases H
 ·cases H
def z5r(o:Oper)(ρ:Operand->Option AV):Option (TypeId×Nat×Nat):=match o.op with
 |.load t x=>match ρ x with
  |some (.g (.a (.v (.pointer (some ⟨b,off,none⟩)))))=>some (t,b,off)
  |_=>none
 |_=>none
def zgm(gl:Fr)(b off:Nat)(v:Value):Prop:=∃cs,gl b=some cs/\cs[off]?=some v
def zj0(gl:Fr)(b:Nat)(g:Option Bool):List Atom->Nat->(List AA->Prop)->Prop
 |[],_,K=>K []
 |.int k::l,o,K=>∃x:Int,req g (zgm gl b o (.int k x))/\zj0 gl b g l (o+1) λr=>K (.v (.int k x)::r)
 |.str::l,o,K=>∃x:Bt,req g (zgm gl b o (.string x))/\zj0 gl b g l (o+1) λr=>K (.v (.string x)::r)
 |.bool::l,o,K=>∃x:Bool,req g (zgm gl b o (.bool x))/\zj0 gl b g l (o+1) λr=>K (.v (.bool x)::r)
 |_::_,_,_=>False
theorem Zx{gl:Fr}{b:Nat}{g:Option Bool}:∀{l:List Atom} {o:Nat} {K:List AA->Prop},zj0 gl b g l o K->∃vs:List Value,vs.length=l.length/\K (vs.map .v)/\(gok g->∀(j:Nat) (v:Value),vs[j]?=some v->zgm gl b (o+j) v)
 |[],o,K,H=>⟨[],rfl,H,λ_ j v h=>by simp at h⟩
 |.int k::l,o,K,⟨x,h1,h2⟩=>by
  obtain⟨vs,e1,e2,e3⟩:=Zx h2
  refine⟨.int k x::vs,by simp[e1],e2,λhg j v hv=>?_⟩
  cases j with
  |zero=>simp at hv;subst hv;exact h1.out hg
  |succ j=>have:=e3 hg j v (by simpa using hv);rwa[show o+1+j=o+(j+1)by omega]at this
 |.str::l,o,K,⟨x,h1,h2⟩=>by
  obtain⟨vs,e1,e2,e3⟩:=Zx h2
  refine⟨.string x::vs,by simp[e1],e2,λhg j v hv=>?_⟩
  cases j with
  |zero=>simp at hv;subst hv;exact h1.out hg
  |succ j=>have:=e3 hg j v (by simpa using hv);rwa[show o+1+j=o+(j+1)by omega]at this
 |.bool::l,o,K,⟨x,h1,h2⟩=>by
  obtain⟨vs,e1,e2,e3⟩:=Zx h2
  refine⟨.bool x::vs,by simp[e1],e2,λhg j v hv=>?_⟩
  cases j with
  |zero=>simp at hv;subst hv;exact h1.out hg
  |succ j=>have:=e3 hg j v (by simpa using hv);rwa[show o+1+j=o+(j+1)by omega]at this
 |.sl::_,_,_,H=>H.elim
 |.mp::_,_,_,H=>H.elim
 |.ptr::_,_,_,H=>H.elim
 |.raw::_,_,_,H=>H.elim
def z95(P:Program)(gl:Fr)(t:TypeId)(b off:Nat)(g:Option Bool)(K:AV->Prop):Prop:=match zv2 P t with
 |some (.one a)=>zj0 gl b g [a] off λr=>match r with
  |[x]=>K (.g (.a x))
  |_=>False
 |some (.agg l)=>zj0 gl b g l off λr=>K (.g (.agg r))
 |none=>False
def z5s(P:Program)(o:Oper)(ρ:Operand->Option AV):Option (Nat×Nat×Int×Nat×Nat):=match o.op with
 |.indexAddr t x i=>match ρ x,ρ i,P.underlying t with
  |some (.g (.a (.v (.pointer (some ⟨b,off,none⟩))))),some (.g (.a (.v (.int _ n)))),some (.array len el)=>bif yu P el then some (b,off,n,len,yr P el)else none
  |_,_,_=>none
 |_=>none
def qA(P:Program)(gl:Fr)(o:Oper)(ρ:Operand->Option AV)(g:Option Bool)(cs:CS)(K:AV->Prop):Prop:=match eqA P o ρ with
 |some b=>K (.g (.a (.v (.bool b))))
 |none=>match qb5 P o ρ with
  |some b=>K (.g (.a (.v (.bool b))))
  |none=>match z5r o ρ with
   |some (t,b,off)=>z95 P gl t b off g K
   |none=>match z5s P o ρ with
    |some (b,off,n,len,z)=>req g (0<=n/\n<(len:Int))/\K (.g (.a (.v (.pointer (some ⟨b,off+n.toNat*z,none⟩)))))
    |none=>qA0 P o ρ g cs K
theorem zfl{gl:Fr}(aa:Fr.le gl M0){ρ:Operand->Option AV}{K:AV->Prop}(H:qA P gl o ρ g cs K):
  ∃av,K av/\(gok g->∀γ h σ,Inv h0 W M0 cs γ h->(∀x av,ρ x=some av->DenV γ av (σ x))->∃v,DenV γ av v/\QExec P (execOp σ o) h (.value v)):=by
 unfold qA at H
 split at H
 ·rename_i b hb
  exact⟨_,H,λ_ γ h σ _ hρ=>⟨_,rfl,zn8 hb hρ h⟩⟩
 ·split at H
  ·rename_i b hb
   exact⟨_,H,λ_ γ h σ _ hρ=>⟨_,rfl,zjz hb hρ h⟩⟩
  ·split at H
   ·rename_i t b off hg
    unfold z5r at hg
    split at hg
    ·rename_i t' x ho
     split at hg
     ·rename_i b' O hx
      simp only[Aa,BA]at hg
      obtain⟨rfl,rfl,rfl⟩:=hg
      have key:∀{s:Option Nat} {vs:List Value} {ag:AG},Wy P t'=some s->vs.length=z0w s->zld s (vs.map .v)=some ag->(gok g->∀(j:Nat) (v:Value),vs[j]?=some v->zgm gl b' (O+j) v)->gok g->∀γ h σ,Inv h0 W M0 cs γ h->(∀x av,ρ x=some av->DenV γ av (σ x))->∃u,DenV γ (.g ag) u/\QExec P (execOp σ o) h (.value u):=by
       intro s vs ag hs hn hp hc hg γ h σ I hρ
       have hu:σ x=.pointer (some ⟨b',O,none⟩):=hρ _ _ hx
       obtain⟨u,hd,hq⟩:=zdm (γ:=γ) hs (u:=σ x) (us:=vs) ⟨_,_,hu,λj w hw=>by
        obtain⟨cc,e1,e2⟩:=hc hg j w hw
        exact I.ag.cell (I.le _ _ (aa _ _ e1)) e2⟩ hn (Zw γ vs) hp
       exact⟨u,hd,by simp only[execOp,ho];exact QExec.val hq⟩
      unfold z95 at H
      split at H
      ·rename_i a hv
       obtain⟨vs,e1,e2,e3⟩:=Zx H
       match vs,e1,e2,e3 with
       |[v],e1,e2,e3=>exact⟨_,e2,key (s:=none) (by unfold Wy;rw[hv]) rfl rfl e3⟩
      ·rename_i l hv
       obtain⟨vs,e1,e2,e3⟩:=Zx H
       exact⟨_,e2,key (s:=some l.length) (by unfold Wy;rw[hv]) e1 rfl e3⟩
      ·exact H.elim
     ·cases hg
    ·cases hg
   ·split at H
    ·rename_i b off n len z hg
     unfold z5s at hg
     split at hg
     ·rename_i t x i ho
      split at hg
      ·rename_i b' O k n' ah el hx hi hu
       cases hok:yu P el with
       |false=>rw[hok]at hg;cases hg
       |true=>
        rw[hok]at hg
        simp only[cond_true,Aa,BA]at hg
        obtain⟨rfl,rfl,rfl,rfl,rfl⟩:=hg
        refine⟨_,H.2,λac γ h σ I hρ=>⟨_,rfl,?_⟩⟩
        have ae:σ x=.pointer (some ⟨b',O,none⟩):=hρ _ _ hx
        have af:σ i=.int k n':=hρ _ _ hi
        obtain⟨h1,h2⟩:=H.1.out ac
        obtain⟨v,rfl,hq⟩:=xm (P:=P) (t:=t) (x:=.pointer (some ⟨b',O,none⟩)) (i:=.int k n') (g:=none) (K:=λv=>v=.pointer (some (Aj ⟨b',O,none⟩ (n'.toNat*yr P el))))
         (λai Z=>by
          rcases Z with Z|⟨m,Z⟩
          ·rw[hu]at Z;cases Z
          ·rw[hu]at Z;cases Z;exact jj hok) (by unfold znj;rw[hu];exact⟨_,⟨rfl,h1,h2⟩,rfl⟩)
        have:=hq trivial h
        rw[zh]at this
        simp only[execOp,ho,ae,af]
        exact QExec.val this
      ·cases hg
     ·cases hg
    ·exact zw3 H
end
section
variable {M gl:Fr} {u:Value} {P:Program} {f:FuncId} {γ:Gh} {cs C R:CS} {o:Oper} {σ:Operand -> Value} {h:zb} {Post:Value -> zb -> Prop} {tr:TypeId}
variable {h0 : zb} {W : Nat -> Prop} {M0 : Fr}
def zdn:Ty->Bool
 |.tree=>true
 |.unit=>true
 |.pair _ _=>true
 |_=>false
def RdV(M:Fr)(t:Ty)(x:El t)(u:Value):Prop:=if zdn t=true then ∃cs:List Value,u=.agg cs.toArray/\Rd M t x cs else Rd M t x [u]
theorem RdV.mono{M M':Fr}(hM:Fr.le M M'){t:Ty}{x:El t}(h:RdV M t x u):RdV M' t x u:=by
 unfold RdV at *
 by_cases ha:zdn t=true
 ·rw[if_pos ha]at *
  obtain⟨cs,e,h⟩:=h;exact⟨cs,e,Rd.mono hM h⟩
 ·rw[if_neg ha]at *
  exact Rd.mono hM h
structure Arg where
 t:Ty
 x:El t
def Wz(M:Fr)(l:List Arg)(vs:List Value):Prop:=All2 (λ(a:Arg) u=>RdV M a.t a.x u) l vs
@[reducible] def Els:List Ty->Type
 |[]=>Unit
 |[t]=>El t
 |t::t'::l=>El t×Els (t'::l)
def z96:(l:List Ty)->Els l
 |[]=>()
 |[t]=>z9y t
 |t::t'::l=>(z9y t,z96 (t'::l))
def RdL(M:Fr):(l:List Ty)->Els l->List Value->Prop
 |[],_,us=>us=[]
 |[t],x,us=>∃u,us=[u]/\RdV M t x u
 |t::t'::l,x,us=>∃u O,us=u::O/\RdV M t x.1 u/\RdL M (t'::l) x.2 O
def zak(M:Fr)(l:List Ty)(x:Els l)(v:Value):Prop:=∃us,RdL M l x us/\v=zij us
theorem RdL.length{M:Fr}:∀{l:List Ty} {x:Els l} {us:List Value},RdL M l x us->us.length=l.length
 |[],_,_,h=>by rw[h];rfl
 |[_],_,_,⟨u,e,_⟩=>by rw[e];rfl
 |_::t'::l,x,_,⟨u,us,e,_,h⟩=>by rw[e,Av,RdL.length h];rfl
def PC(P:Program)(gl:Fr)(f:FuncId)(args:List Arg)(rt:List Ty)(R:Els rt->Prop):Prop:=
 ∀(h:zb) (M:Fr) (vs:List Value),Fr.le gl M->AgM M h->Wz M args vs->XC P f vs.toArray h λv h'=>
  Keep h.size h h'/\∃M' r,Fr.le M M'/\(∀b,b<h.size->M' b=M b)/\AgM M' h'/\zak M' rt r v/\R r
theorem PC.mono{args:List Arg}{rt:List Ty}{R R':Els rt->Prop}(H:PC P gl f args rt R)(hR:∀r,R r->R' r):PC P gl f args rt R':=
 λh M vs h1 h2 h3=>(H h M vs h1 h2 h3).mono λv h' ⟨k,M',r,e1,e2,e3,e4,e5⟩=>⟨k,M',r,e1,e2,e3,e4,hR r e5⟩
def BdL:(l:List Ty)->Els l->Prop
 |[],_=>True
 |[t],x=>Bd t x
 |t::t'::l,x=>Bd t x.1/\BdL (t'::l) x.2
theorem RdV.bd{t:Ty}{x:El t}(h:RdV M t x u):Bd t x:=by
 unfold RdV at h
 split at h
 ·obtain⟨cs,_,h⟩:=h;exact h.bd
 ·exact h.bd
theorem RdL.bd{M:Fr}:∀{l:List Ty} {x:Els l} {us:List Value},RdL M l x us->BdL l x
 |[],_,_,_=>trivial
 |[_],_,_,⟨u,_,h⟩=>h.bd
 |_::_::_,_,_,⟨_,_,_,h,h'⟩=>⟨h.bd,RdL.bd h'⟩
theorem PC.bd{args:List Arg}{rt:List Ty}{R:Els rt->Prop}(H:(∀a∈args,Bd a.t a.x)->PC P gl f args rt R):PC P gl f args rt R:=by
 intro h M vs h1 h2 h3
 refine H ?_ h M vs h1 h2 h3
 clear H h1 h2
 induction args generalizing vs with
 |nil=>intro a ha;cases ha
 |cons a args ih=>
  cases vs with
  |nil=>exact h3.elim
  |cons u us=>
   intro b hb
   rcases Ad.1 hb with rfl|hb
   ·exact RdV.bd h3.1
   ·exact ih us h3.2 b hb
def gOf(t:Ty)(x:El t):AG:=bif zdn t then .agg (Yw t x)else(match Yw t x with
 |[y]=>.a y
 |l=>.agg l)
theorem zp4{t:Ty}{x:El t}(h:RdV γ.M t x u):DenG γ (gOf t x) u:=by
 unfold RdV at h
 unfold gOf
 split at h
 ·rename_i ha
  rw[ha]
  obtain⟨cs,e,h⟩:=h
  exact⟨cs,e,xr h⟩
 ·rename_i ha
  have O:zdn t=false:=by simpa using ha
  rw[O]
  simp only[cond_false]
  have hd:=xr (γ:=γ) h
  match hx:Yw t x,hd with
  |[y],hd=>exact hd.1
  |[],hd=>exact hd.elim
  |_::_::_,hd=>exact hd.2.elim
def qbo:(l:List Ty)->Els l->List AG
 |[],_=>[]
 |[t],x=>[gOf t x]
 |t::t'::l,x=>gOf t x.1::qbo (t'::l) x.2
theorem zr8{γ:Gh}:∀{l:List Ty} {x:Els l} {us:List Value},RdL γ.M l x us->All2 (DenG γ) (qbo l x) us
 |[],_,_,h=>by rw[h];trivial
 |[_],_,_,⟨u,e,h⟩=>by rw[e];exact⟨zp4 h,trivial⟩
 |_::_::_,_,_,⟨u,us,e,h,h'⟩=>by rw[e];exact⟨zp4 h,zr8 h'⟩
def z9i(l:List Ty)(x:Els l):AV:=match qbo l x with
 |[g]=>.g g
 |gs=>.tup gs
theorem z1l{l:List Ty}{x:Els l}{v:Value}(h:zak γ.M l x v):DenV γ (z9i l x) v:=by
 obtain⟨us,h,rfl⟩:=h
 have hd:=zr8 (γ:=γ) h
 unfold z9i
 generalize qbo l x=gs at *
 match gs,us,hd with
 |[],[],_=>exact⟨[],rfl,trivial⟩
 |[g],[u],hd=>exact hd.1
 |g::g'::gs,u::u'::us,hd=>exact⟨_,rfl,hd⟩
 |[],_::_,hd=>exact hd.elim
 |_::_,[],hd=>exact hd.elim
 |[_],_::_::_,hd=>exact hd.2.elim
 |_::_::_,[_],hd=>exact hd.2.elim
def z9j(P:Program)(tr:TypeId):Nat->TypeId->Option Ty
 |0,_=>none
 |n+1,t=>bif Nat.beq t tr then some .tree else match P.underlying t with
  |some (.int k)=>some (.int k)
  |some .bool=>some .bool
  |some .string=>some .str
  |some (.slice e)=>match z9j P tr n e with
   |some x=>some (.row x)
   |none=>none
  |some (.struct fs)=>tysOf P (λt=>z9j P tr n t) fs.toList
  |some (.interface _)=>some .err
  |_=>none
where tysOf (P:Program) (f:TypeId->Option Ty):List Field->Option Ty
 |[]=>some .unit
 |[x]=>f x.type
 |x::y::l=>match f x.type,tysOf P f (y::l)with
  |some a,some b=>some (.pair a b)
  |_,_=>none
def tyL(P:Program)(tr:TypeId):List TypeId->Option (List Ty)
 |[]=>some []
 |t::l=>match z9j P tr 8 t,tyL P tr l with
  |some a,some b=>some (a::b)
  |_,_=>none
def z97:AA->List Nat
 |.own c=>[c]
 |_=>[]
def zun:List AA->List Nat
 |[]=>[]
 |x::l=>z97 x++zun l
def qb6:AV->List Nat
 |.g (.a x)=>z97 x
 |.g (.agg l)=>zun l
 |_=>[]
def W0:List AV->List Nat
 |[]=>[]
 |v::l=>qb6 v++W0 l
def frzL:List Nat->CS->CS
 |[],C=>C
 |c::l,C=>frzL l (z5m c C)
theorem Inv.frzL{C R:CS}{γ:Gh}{h:zb}:∀(l:List Nat) {C:CS} {γ:Gh},Inv h0 W M0 (C++R) γ h->∃γ',Inv h0 W M0 (frzL l C++R) γ' h/\Gx none γ γ'
 |[],C,γ,I=>⟨γ,I,Gx.refl _ _⟩
 |c::l,C,γ,I=>by
  obtain⟨γ1,I1,g1⟩:=Inv.freeze c C [] I
  obtain⟨γ2,I2,g2⟩:=Inv.frzL (C:=C) (γ:=γ) l I1
  exact⟨γ2,I2,g1.1.trans g2.1,λi hi=>⟨(g2.2 i hi).1.trans (g1.2 i hi).1,(g2.2 i hi).2.trans (g1.2 i hi).2⟩⟩
def zcc(cs:CS)(t:Ty):AV->Option (El t)
 |.g (.agg l)=>bif zdn t then(match collect cs t l with
  |some (y,[])=>some y
  |_=>none)else none
 |.g (.a x)=>bif zdn t then none else zik cs t x
 |_=>none
theorem za1(hf:z0t γ cs){t:Ty}{av:AV}{y:El t}(h:zcc cs t av=some y)(hd:DenV γ av u):RdV γ.M t y u:=by
 unfold zcc at h
 unfold RdV
 split at h
 ·rename_i l
  cases ha:zdn t with
  |false=>rw[ha]at h;cases h
  |true=>
   rw[ha]at h
   simp only[cond_true]at h
   split at h
   ·rename_i y' hc
    simp only[Aa]at h
    subst h
    obtain⟨us,e,h2⟩:=hd
    obtain⟨c1,c2,rfl,r1,r2⟩:=Yy hf hc h2
    cases c2 with
    |nil=>simp only[if_true];exact⟨c1,by rw[e,Ba],r1⟩
    |cons _ _=>exact r2.elim
   ·cases h
 ·rename_i x
  cases ha:zdn t with
  |true=>rw[ha]at h;cases h
  |false=>
   rw[ha]at h
   simp only[A0,if_false]
   exact j7 hf h hd
 ·cases h
def jq(cs:CS):List Ty->List AV->Option (List Arg)
 |[],[]=>some []
 |t::ts,v::vs=>match zcc cs t v,jq cs ts vs with
  |some x,some l=>some (⟨t,x⟩::l)
  |_,_=>none
 |_,_=>none
theorem ww{γ:Gh}{cs:CS}(hf:z0t γ cs):∀{ts:List Ty} {vs:List AV} {l:List Arg},jq cs ts vs=some l->∀{us:List Value},All2 (DenV γ) vs us->Wz γ.M l us
 |[],[],l,h,[],_=>by simp only[jq,Aa]at h;subst h;trivial
 |[],[],_,_,_::_,hd=>hd.elim
 |t::ts,v::vs,l,h,[],hd=>hd.elim
 |t::ts,v::vs,l,h,u::us,hd=>by
  simp only[jq]at h
  split at h
  ·rename_i x l' h1 h2
   simp only[Aa]at h
   subst h
   exact⟨za1 hf h1 hd.1,ww hf h2 hd.2⟩
  ·cases h
 |[],_::_,_,h,_,_=>by simp[jq]at h
 |_::_,[],_,h,_,_=>by simp[jq]at h
def zp5(ρ:Operand->Option AV):List Operand->Option (List AV)
 |[]=>some []
 |x::l=>match ρ x,zp5 ρ l with
  |some v,some vs=>some (v::vs)
  |_,_=>none
theorem W2{γ:Gh}{ρ:Operand->Option AV}{σ:Operand->Value}(hρ:∀x av,ρ x=some av->DenV γ av (σ x)):∀{l:List Operand} {vs:List AV},zp5 ρ l=some vs->All2 (DenV γ) vs (l.map σ)
 |[],vs,h=>by simp only[zp5,Aa]at h;subst h;trivial
 |x::l,vs,h=>by
  simp only[zp5]at h
  split at h
  ·rename_i v O h1 h2
   simp only[Aa]at h
   subst h
   exact⟨hρ _ _ h1,W2 hρ h2⟩
  ·cases h
def ExA(P:Program)(s:Sem Next)(h:zb)(Post:Value->zb->Prop):Prop:=∀B d,
 (∃v d' h',s.run P (mk B d h)=.ok (.value v) (mk B d' h')/\Post v h') \/
 (∃d' h',s.run P (mk B d h)=.ok .skip (mk B d' h')/\Post undef h') \/
 (∃f args,s.run P (mk B d h)=.ok (.enter f args) (mk B d h)/\XC P f args h Post)
theorem ExA.upon(H:ExA P (execOp σ o) h Post)(B:World)(d:Nat){a:Act}{next:Act->World->Prop}{Q:Exit->Act->World->Prop}
  (hn:∀v d' h',Post v h'->next (a.put o.dst v) (mk B d' h')):o.upon P a next Q ((execOp σ o).run P (mk B d h)):=by
 rcases H B d with⟨v,d',h',e,hp⟩|⟨d',h',e,hp⟩|⟨f,args,e,hx⟩
 ·exact upon_value e (hn _ _ _ hp)
 ·exact upon_skip e (hn _ _ _ hp)
 ·rw[e]
  refine(hx B d).mono ?_
  rintro e' w' ⟨v,d',O,rfl,rfl,h3⟩
  exact hn _ _ _ h3
theorem ExA.mono{s:Sem Next}{Post O:Value->zb->Prop}(H:ExA P s h Post)(hp:∀v h',Post v h'->O v h'):ExA P s h O:=λB d=>by
 rcases H B d with⟨v,d',h',e,q⟩|⟨d',h',e,q⟩|⟨f,args,e,hx⟩
 ·exact .inl ⟨v,d',h',e,hp _ _ q⟩
 ·exact .inr (.inl ⟨d',h',e,hp _ _ q⟩)
 ·exact .inr (.inr ⟨f,args,e,hx.mono hp⟩)
def zdo(h0:zb)(W:Nat->Prop)(M0:Fr)(R:CS)(γ:Gh)(K:AV->CS->Option Nat->Prop)(v:Value)(h':zb):Prop:=
 ∃av C' c γ',K av C' c/\DenV γ' av v/\Inv h0 W M0 (C'++R) γ' h'/\Gx c γ γ'
theorem z5t(O:Fr.le gl M0){ρ:Operand->Option AV}{K:AV->CS->Option Nat->Prop}(H:qA P gl o ρ none (C++R) λav=>K av C none)(I:Inv h0 W M0 (C++R) γ h)
  (hρ:∀x av,ρ x=some av->DenV γ av (σ x)):ExA P (execOp σ o) h (zdo h0 W M0 R γ K):=by
 obtain⟨av,h1,h2⟩:=zfl (h0:=h0) (W:=W) (M0:=M0) O H
 obtain⟨v,hd,hq⟩:=h2 trivial γ h σ I hρ
 exact λB d=>.inl ⟨v,d,h,hq B d,av,C,none,γ,h1,hd,I,Gx.refl _ _⟩
def z98:Operand->Option FuncId
 |.func f=>some f
 |_=>none
def z5u(P:Program)(tr:TypeId)(f:FuncId):Option (List Ty×List Ty):=match P.funcs[f]? with
 |some fn=>match tyL P tr fn.params.toList,tyL P tr fn.resultTypes.toList with
  |some a,some b=>some (a,b)
  |_,_=>none
 |none=>none
def z5v(P:Program)(gl:Fr)(tr:TypeId)(o:Oper)(ρ:Operand->Option AV)(C R:CS)(K:AV->CS->Prop):Prop:=
 match o.op with
 |.call c=>match c.callee with
  |.value x=>match z98 x with
   |some f=>bif qk P f then(match z5u P tr f,zp5 ρ c.args.toList with
    |some (ts,rt),some vs=>match jq (frzL (W0 vs) C++R) ts vs with
     |some args=>PC P gl f args rt λr=>K (z9i rt r) (frzL (W0 vs) C)
     |none=>False
    |_,_=>False)else False
   |none=>False
  |_=>False
 |_=>False
def zuo(P:Program)(gl:Fr)(tr:TypeId)(o:Oper)(ρ:Operand->Option AV)(b:Bool)(cs:CS)(K:AV->Prop):Prop:=
 match o.op with
 |.call c=>match c.callee with
  |.value x=>match z98 x with
   |some f=>bif qk P f then(match z5u P tr f,zp5 ρ c.args.toList with
    |some (ts,rt),some vs=>match jq cs ts vs with
     |some args=>∃J:Els rt->Prop,(b=true->PC P gl f args rt J)/\∀r,(b=true->J r)->K (z9i rt r)
     |none=>False
    |_,_=>False)else False
   |none=>False
  |_=>False
 |_=>False
theorem zle{x:Operand}(h:z98 x=some f):x=.func f:=by
 unfold z98 at h
 split at h
 ·simp only[Aa]at h;rw[h]
 ·cases h
theorem zcd{c:Call}(ho:o.op=.call c)(hc:c.callee=.value (.func f))(hf:qk P f=true)(hσ:σ (.func f)=.func (.func f) #[] #[])(w:World):
  (execOp σ o).run P w=.ok (.enter f (c.args.map σ)) w:=by
 simp only[execOp,ho,resolve,hc,hσ,D7,Sem.run_bind,Sem.run_pure,Result.andThen_ok,invoke]
 rw[Wr hf]
 simp
theorem zlf(O:Fr.le gl M0){args:List Arg}{rt:List Ty}{Rr:Els rt->Prop}(H:PC P gl f args rt Rr)(I:Inv h0 W M0 cs γ h){us:List Value}(ha:Wz γ.M args us):
  XC P f us.toArray h λv h'=>∃r γ',Rr r/\DenV γ' (z9i rt r) v/\Inv h0 W M0 cs γ' h'/\Gx none γ γ'/\Keep h.size h h':=
 (H h γ.M us (O.trans I.le) I.ag ha).mono λv h' ⟨k,M',r,e1,e2,e3,e4,e5⟩=>
  ⟨r,{ γ with M:=M' },e5,z1l (γ:={ γ with M:=M' }) e4,I.call k e1 e2 e3,⟨e1,λ_ _=>⟨rfl,rfl⟩⟩,k⟩
theorem z1m(Z:Fr.le gl M0){ρ:Operand->Option AV}{K:AV->CS->Option Nat->Prop}(H:z5v P gl tr o ρ C R λav C'=>K av C' none)(I:Inv h0 W M0 (C++R) γ h)
  (hσ:∀f,σ (.func f)=.func (.func f) #[] #[]) (hρ:∀x av,ρ x=some av->DenV γ av (σ x)):ExA P (execOp σ o) h (zdo h0 W M0 R γ K):=by
 unfold z5v at H
 split at H
 ·rename_i c ho
  split at H
  ·rename_i x hx
   split at H
   ·rename_i f hf
    cases hcal:qk P f with
    |false=>rw[hcal]at H;exact H.elim
    |true=>
     rw[hcal]at H
     simp only[cond_true]at H
     split at H
     ·rename_i ts rt vs hs aa
      split at H
      ·rename_i args O
       intro B d
       have e:=zle hf
       subst e
       obtain⟨γ1,I1,g1⟩:=Inv.frzL (C:=C) (γ:=γ) (W0 vs) I
       have ha:=ww I1.fz O ((W2 hρ aa).imp λv _ u hu=>hu.gx g1 rfl)
       refine .inr (.inr ⟨f,c.args.map σ,zcd ho hx hcal (hσ f) _,?_⟩)
       have e2:c.args.map σ=(c.args.toList.map σ).toArray:=by rw[<-C3]
       rw[e2]
       refine(zlf Z H I1 ha).mono ?_
       rintro v h' ⟨r,γ',h1,h2,h3,h4,_⟩
       exact⟨_,_,none,γ',h1,h2,h3,g1.1.trans h4.1,λi hi=>⟨(h4.2 i hi).1.trans (g1.2 i hi).1,(h4.2 i hi).2.trans (g1.2 i hi).2⟩⟩
      ·exact H.elim
     ·exact H.elim
   ·exact H.elim
  ·exact H.elim
 ·exact H.elim
theorem za2{ρ:Operand->Option AV}{b:Bool}{K:AV->Prop}(H:zuo P gl tr o ρ b cs K):(b=false->∃av,K av) /\
  (b=true->Fr.le gl M0->∀γ h σ,Inv h0 W M0 cs γ h->(∀f,σ (.func f)=.func (.func f) #[] #[])->(∀x av,ρ x=some av->DenV γ av (σ x))->∃f args,(∀w,(execOp σ o).run P w=.ok (.enter f args) w) /\
   XC P f args h λv h'=>∃av γ',K av/\DenV γ' av v/\Inv h0 W M0 cs γ' h'/\Gx none γ γ'/\Keep h.size h h'):=by
 unfold zuo at H
 split at H
 ·rename_i c ho
  split at H
  ·rename_i x hx
   split at H
   ·rename_i f hf
    cases hcal:qk P f with
    |false=>rw[hcal]at H;exact H.elim
    |true=>
     rw[hcal]at H
     simp only[cond_true]at H
     split at H
     ·rename_i ts rt vs hs aa
      split at H
      ·rename_i args O
       obtain⟨J,h1,h2⟩:=H
       refine⟨λhb=>⟨_,h2 (z96 rt) (λh=>by rw[hb]at h;cases h)⟩,λhb Z γ h σ I hσ hρ=>?_⟩
       have e:=zle hf
       subst e
       refine⟨f,c.args.map σ,λw=>zcd ho hx hcal (hσ f) w,?_⟩
       have e2:c.args.map σ=(c.args.toList.map σ).toArray:=by rw[<-C3]
       rw[e2]
       refine(zlf Z (h1 hb) I (ww I.fz O (W2 hρ aa))).mono ?_
       rintro v h' ⟨r,γ',g1,g2,g3,g4,g5⟩
       exact⟨_,γ',h2 r (λ_=>g1),g2,g3,g4,g5⟩
      ·exact H.elim
     ·exact H.elim
   ·exact H.elim
  ·exact H.elim
 ·exact H.elim
end
section
variable {P:Program} {t:TypeId} {o:Oper} {d:Nat} {C R:CS} {γ:Gh} {h:zb} {σ:Operand -> Value} {av:AV}
variable {h0 : zb} {W : Nat -> Prop} {M0 : Fr}
def zw4(P:Program)(t:TypeId)(d:Nat)(C R:CS)(K:AV->CS->Option Nat->Prop):Prop:=match zeroOf P t with
 |some z=>bif j3 d R then(bif itB (z.cells.toList.map .v)then False else K (.g (.a (.box d 0))) ((d,.box (z.cells.toList.map .v))::yv d C) (some d))else False
 |none=>False
theorem zdp(c:Nat):∀l:List Value,znf c (l.map .v)=false
 |[]=>rfl
 |_::l=>by simp only[CY,znf,zug,cond_false,zdp c l]
theorem Xz(t:TypeId)(v:Value)(B:World)(d:Nat)(h:zb):(newVar t v).run P (mk B d h)=.ok ⟨h.size,0,none⟩ (mk B d (h.push (.cells v.cells t))):=rfl
theorem zw5(ho:o.op=.alloc t){K:AV->CS->Option Nat->Prop}(H:zw4 P t d C R K)(I:Inv h0 W M0 (C++R) γ h):ExA P (execOp σ o) h (zdo h0 W M0 R γ K):=by
 unfold zw4 at H
 split at H
 ·rename_i z hz
  cases hR:j3 d R with
  |false=>rw[hR]at H;exact H.elim
  |true=>
   rw[hR]at H
   cases hit:itB (z.cells.toList.map .v)with
   |true=>rw[hit]at H;exact H.elim
   |false=>
   rw[hit]at H
   intro B e
   refine .inl ⟨.pointer (some ⟨h.size,0,none⟩),e,h.push (.cells z.cells t),?_,_,_,_,zv3 γ d h.size,H,?_,?_,Ww _ _ _⟩
   ·have O:=Y2 hz h B e
    simp only[execOp,ho]
    refine Yq ?_
    unfold Instr.alloc
    rw[Sem.run_bind,O]
    simp only[Result.andThen_ok]
    rw[Sem.run_bind,Xz]
    rfl
   ·simp only[DenV,DenG,DenA,Zu]
   ·have:=I.newBox (c:=d) hR (Zw γ z.cells.toList) (zdp d _) hit t
    simpa using this
 ·exact H.elim
def qb7(t:TypeId)(d:Nat)(l:List AA)(C R:CS)(K:AV->CS->Option Nat->Prop):Prop:=
 bif j3 d R then(bif znf d l then False else(bif itB l then False else K (.g (.a (.box d 0))) ((d,.box l)::yv d C) (some d)))else False
theorem z5w{x:Operand}(ho:o.op=.box t x){l:List AA}{K:AV->CS->Option Nat->Prop}(H:qb7 t d l C R K)(I:Inv h0 W M0 (C++R) γ h)
  (hl:All2 (DenA γ) l (σ x).cells.toList):ExA P (execOp σ o) h (zdo h0 W M0 R γ K):=by
 unfold qb7 at H
 cases hR:j3 d R with
 |false=>rw[hR]at H;exact H.elim
 |true=>
  rw[hR]at H
  cases hm:znf d l with
  |true=>rw[hm]at H;exact H.elim
  |false=>
   rw[hm]at H
   cases hit:itB l with
   |true=>rw[hit]at H;exact H.elim
   |false=>
   rw[hit]at H
   intro B e
   refine .inl ⟨.pointer (some ⟨h.size,0,none⟩),e,h.push (.cells (σ x).cells t),?_,_,_,_,zv3 γ d h.size,H,?_,?_,Ww _ _ _⟩
   ·simp only[execOp,ho]
    refine Yq ?_
    unfold Instr.box
    rw[Sem.run_bind,Xz]
    rfl
   ·simp only[DenV,DenG,DenA,Zu]
   ·have:=I.newBox (c:=d) hR hl hm hit t
    simpa using this
def zw6:AA->Bool
 |.v x=>x.oneCell'
 |_=>true
def zgn:List AA->Bool
 |[]=>true
 |x::l=>bif zw6 x then zgn l else false
theorem zup{x:AA}{u:Value}(h:zw6 x=true)(hd:DenA γ x u):u.oneCell'=true:=by
 cases x with
 |v y=>rw[show u=y from hd];exact h
 |d t y=>exact Rd.one (show Rd γ.M t y [u]from hd) u (by simp)
 |box c o=>rw[show u=_ from hd];rfl
 |own c=>rw[show u=_ from hd];rfl
 |oelt c z i o=>obtain⟨g,_,e⟩:=hd;rw[e];rfl
 |elt t y o=>obtain⟨b,f,cs,e,_⟩:=hd;rw[e];rfl
 |dc t xs=>obtain⟨s,e,_⟩:=hd;rw[e];rfl
theorem zgo{γ:Gh}:∀{l:List AA} {us:List Value},zgn l=true->All2 (DenA γ) l us->∀u∈us,u.oneCell'=true
 |[],[],_,_,u,hu=>by cases hu
 |[],_::_,_,h,_,_=>h.elim
 |_::_,[],_,h,_,_=>h.elim
 |x::l,v::us,h,hd,u,hu=>by
  simp only[zgn]at h
  cases hx:zw6 x with
  |false=>rw[hx]at h;cases h
  |true=>
   rw[hx]at h
   rcases Ad.1 hu with rfl|hu
   ·exact zup hx hd.1
   ·exact zgo h hd.2 u hu
def zw7(c:Nat):CS->Bool
 |[]=>true
 |(j,_)::l=>bif Nat.beq j c then false else zw7 c l
theorem X0{c:Nat}:∀{l:CS},zw7 c l=true->∀x∈l,x.1≠c
 |[],_,x,hx=>by cases hx
 |(j,k)::l,h,x,hx=>by
  simp only[zw7]at h
  cases hb:Nat.beq j c with
  |true=>rw[hb]at h;cases h
  |false=>
   rw[hb]at h
   rcases Ad.1 hx with rfl|hx
   ·intro e;simp only at e;subst e;simp at hb
   ·exact X0 h x hx
theorem za3{P:Program}{g o:Nat}:∀(vs:List Value) (i:Nat) (w:World),(storeCells ⟨g,o,none⟩ vs i).run P w=(storeCells ⟨g,0,none⟩ vs (o+i)).run P w
 |[],i,w=>rfl
 |v::vs,i,w=>by
  unfold storeCells
  rw[Sem.run_bind,Sem.run_bind,zh,zh,AD]
  congr 1
  funext a w'
  exact za3 vs (i+1) w'
theorem Jt{n:Nat}(hi:yu P t=true)(hs:yr P t=n){b o:Nat}{cs:Array Value}{T:TypeId}(e:h[b]?=some (.cells cs T (0,0))){v:Value}(hv:v.cells.size=n)(hl:o+n<=cs.size)(h1:∀u∈v.cells.toList,u.oneCell'=true)(B:World)(d:Nat):
  ∃h',(Al t (.pointer (some ⟨b,o,none⟩)) v).run P (mk B d h)=.ok () (mk B d h')/\h'[b]?=some (.cells (cs.toList.take o++v.cells.toList++cs.toList.drop (o+n)).toArray T (0,0))/\h'.size=h.size/\∀j,j≠b->h'[j]?=h[j]?:=by
 obtain⟨h',r1,r2,r3,r4⟩:=Zt (P:=P) B d v.cells.toList (o+0) h cs e (by simp;omega) h1
 refine⟨h',?_,by rw[r2];simp[hv],r3,r4⟩
 have hz:=QExec.sizeOf (P:=P) (h:=h) (jj hi).choose_spec B d
 unfold Al Ej
 simp only[Sem.run_bind,Sem.run_pure,Result.andThen_ok]
 unfold storeVar
 rw[Sem.run_bind,hz]
 simp only[Result.andThen_ok]
 rw[hs,hv]
 simp only[ne_eq,not_true_eq_false,if_false]
 rw[za3]
 exact r1
theorem Qk{α:Type}{L vs:List α}{p:Nat}(h:p+vs.length<=L.length)(q:Nat):(L.take p++vs++L.drop (p+vs.length))[q]?=if q<p then L[q]? else if q<p+vs.length then vs[q-p]? else L[q]?:=by
 have h1:(L.take p).length=p:=by simp;omega
 by_cases h2:q<p
 ·rw[if_pos h2,AQ,Bg (by omega),AC,if_pos h2]
 ·rw[if_neg h2]
  by_cases h3:q<p+vs.length
  ·rw[if_pos h3,Bg (by rw[Ar,h1];omega),Bb (by omega),h1]
  ·rw[if_neg h3,Bb (by rw[Ar,h1];omega),AE,Ar,h1]
   congr 1;omega
theorem RowC.set{M:Fr}{t:Ty}{xs:List (El t)}{cells:List Value}(H:RowC M t xs cells){i:Nat}(hi:i<xs.length){y:El t}{o:Nat}{vs:List Value}(hl:o+vs.length<=sz t)
  (hy:Rd M t y ((((cells.drop (i*sz t)).take (sz t)).take o)++vs++(((cells.drop (i*sz t)).take (sz t)).drop (o+vs.length)))):
  RowC M t (xs.set i y) (cells.take (i*sz t+o)++vs++cells.drop (i*sz t+o+vs.length)):=by
 have Z:(i+1)*sz t<=cells.length:=by rw[H.1];exact AM _ hi
 rw[BB,Dd]at Z
 have hE:((cells.drop (i*sz t)).take (sz t)).length=sz t:=by rw[AY,AX];omega
 refine⟨?_,λj hj=>?_⟩
 ·rw[List.length_set,<-H.1]
  simp only[Ar,AY,AX];omega
 ·rw[List.length_set]at hj
  by_cases O:i=j
  ·subst O
   rw[List.getElem_set_self]
   have e:(((cells.take (i*sz t+o)++vs++cells.drop (i*sz t+o+vs.length)).drop (i*sz t)).take (sz t))=(((cells.drop (i*sz t)).take (sz t)).take o)++vs++(((cells.drop (i*sz t)).take (sz t)).drop (o+vs.length)):=by
    apply AZ
    intro k
    rw[Qk (by rw[hE];exact hl),AC,AC,AE,AE,Qk (by omega)]
    by_cases hk:k<sz t
    ·simp only[hk,if_true]
     by_cases h1:k<o
     ·rw[if_pos (by omega),if_pos h1]
     ·rw[if_neg (by omega),if_neg h1]
      by_cases h2:k<o+vs.length
      ·rw[if_pos (by omega),if_pos h2];congr 1;omega
      ·rw[if_neg (by omega),if_neg h2]
    ·simp only[hk,if_false]
     rw[if_neg (by omega),if_neg (by omega)]
   rw[e];exact hy
  ·rw[List.getElem_set_ne O]
   have e:(((cells.take (i*sz t+o)++vs++cells.drop (i*sz t+o+vs.length)).drop (j*sz t)).take (sz t))=(cells.drop (j*sz t)).take (sz t):=by
    apply AZ
    intro k
    rw[AC,AC,AE,AE,Qk (by omega)]
    by_cases hk:k<sz t
    ·simp only[hk,if_true]
     rcases AR j i with h1|h1
     ·have:(j+1)*sz t<=i*sz t:=AM _ h1
      rw[BB,Dd]at this
      rw[if_pos (by omega)]
     ·have h2:i+1<=j:=by omega
      have:(i+1)*sz t<=j*sz t:=AM _ h2
      rw[BB,Dd]at this
      rw[if_neg (by omega),if_neg (by omega)]
    ·simp only[hk,if_false]
   rw[e];exact H.2 j hj
theorem Inv.setRow{h h':zb}(I:Inv h0 W M0 (C++R) γ h){c:Nat}{e:TypeId}{t:Ty}{xs Z:List (El t)}(hc:(c,Ch.row e t xs)∈C){g:Nat}(hg:(γ.σ c).a.map (·.block)=some g)
  (ho:∀i,i≠g->h'[i]?=h[i]?) (hs:h'.size=h.size) (hd:DenC h0.size γ h' c (.row e t Z)) (hR:∀x∈R,x.1≠c):Inv h0 W M0 ((c,.row e t Z)::zie c C++R) γ h':=by
 have O:=I.sep _ (Ao R hc) g hg
 have aa:∀x∈zie c C++R,blk γ x.1 x.2≠some g:=by
  intro x hx
  have ae:x≠(c,Ch.row e t xs):=by
   rintro rfl
   rcases An.1 hx with hx|hx
   ·exact(Yd hx).2 rfl
   ·exact hR _ hx rfl
  have ac:x∈C++R:=((x8 c C).append_right R).subset hx
  have hp:=@zb7 _ (λ(x y:Nat×Ch)=>∀b,blk γ x.1 x.2=some b->blk γ y.1 y.2≠some b) (λx y h b hb af=>h b af hb) _ I.apart
  intro hb
  exact hp (Ao R hc) ac (λe=>ae e.symm) _ hg hb
 have hI:Inv h0 W M0 (zie c C++R) γ h':=by
  refine I.rest ((x8 c C).append_right R) (c:=none) (Gx.refl _ _) (λx _=>⟨by simp,rfl⟩) (λx hx b hb=>?_) (λb cc eM=>?_) (λi hi hw=>?_) (by omega) (λb hb=>rfl)
  ·exact⟨ho b λe'=>aa x hx (e' ▸ hb),(I.sep x (((x8 c C).append_right R).subset hx) b hb).2⟩
  ·obtain⟨T',m,e'⟩:=I.ag b cc eM
   exact⟨T',m,by rw[ho b λe2=>by rw[e2,O.2]at eM;cases eM];exact e'⟩
  ·refine ho i λe'=>?_
   have h2:=O.1
   rcases h2 with h1|h1
   ·omega
   ·rw[e']at hw;exact hw h1
 refine hI.cons hd (λb hb=>?_) (λb hb x hx=>?_)
 ·simp only[blk,hg,Aa]at hb;subst hb;exact O
 ·simp only[blk,hg,Aa]at hb;subst hb;exact aa x hx
def zw8(P:Program)(t:TypeId)(aa:AA)(l2:List AA)(C R:CS)(K:AV->CS->Option Nat->Prop):Prop:=
 bif yu P t then(bif Nat.beq l2.length (yr P t)then(bif zgn l2 then(match aa with
 |.box c o=>match Yx C c with
  |some (.box l)=>bif zw7 c R then(bif (bif itB l then true else itB (l.take o++l2++l.drop (o+l2.length)))then False else(bif Nat.ble (o+l2.length) l.length then K (zuj undef) ((c,.box (l.take o++l2++l.drop (o+l2.length)))::zie c C) none else False))else False
  |_=>False
 |.oelt c z i o=>match Yx (frzL (zun l2) C) c with
  |some (.row e ty xs)=>bif zw7 c R then(bif Nat.beq z (sz ty)then(bif Nat.ble (o+l2.length) (sz ty)then ∃y:El ty,xs[i]?=some y/\(match collect (frzL (zun l2) C++R) ty ((Yw ty y).take o++l2++(Yw ty y).drop (o+l2.length))with
   |some (y',[])=>K (zuj undef) ((c,.row e ty (xs.set i y'))::zie c (frzL (zun l2) C)) none
   |_=>False)else False)else False)else False
  |_=>False
 |_=>False)else False)else False)else False
theorem zw9{a x:Operand}(ho:o.op=.store t a x){aa:AA}{l2:List AA}{K:AV->CS->Option Nat->Prop}(H:zw8 P t aa l2 C R K)(I:Inv h0 W M0 (C++R) γ h)
  (hl:All2 (DenA γ) l2 (σ x).cells.toList) (ha:DenA γ aa (σ a)):ExA P (execOp σ o) h (zdo h0 W M0 R γ K):=by
 unfold zw8 at H
 cases hi:yu P t with
 |false=>rw[hi]at H;exact H.elim
 |true=>
  rw[hi]at H
  cases hn:Nat.beq l2.length (yr P t)with
  |false=>rw[hn]at H;exact H.elim
  |true=>
   rw[hn]at H
   cases hok:zgn l2 with
   |false=>rw[hok]at H;exact H.elim
   |true=>
    rw[hok]at H
    have au:l2.length=yr P t:=Ag hn
    have af:(σ x).cells.size=yr P t:=by rw[<-au,hl.length];simp
    have h1:=zgo hok hl
    simp only[cond_true]at H
    split at H
    ·rename_i c off
     split at H
     ·rename_i l hc
      cases hR:zw7 c R with
      |false=>rw[hR]at H;exact H.elim
      |true=>
       rw[hR]at H
       cases hit:itB l with
       |true=>rw[hit]at H;exact H.elim
       |false=>
       rw[hit]at H
       cases hit2:itB (l.take off++l2++l.drop (off+l2.length))with
       |true=>rw[hit2]at H;exact H.elim
       |false=>
       rw[hit2]at H
       simp only[cond_true,cond_false]at H
       cases hble:Nat.ble (off+l2.length) l.length with
       |false=>rw[hble]at H;exact H.elim
       |true=>
        rw[hble]at H
        have ap:=BM hble
        obtain⟨us,e,h2⟩:=I.den _ (Ao R (qe hc))
        rcases e with⟨⟨T,e⟩,_⟩|⟨s,p,e,_⟩
        case inr=>exact absurd e (zr3 hit h2 s p)
        have aO:=h2.length
        intro B d
        obtain⟨h',r1,r2,r3,r4⟩:=Jt (P:=P) hi rfl e (o:=off) af (by simp;omega) h1 B d
        refine .inr (.inl ⟨d,h',?_,_,_,_,γ,H,Yz _ _,?_,Gx.refl _ _⟩)
        ·simp only[execOp,ho]
         rw[show σ a=_ from ha]
         exact zt6 r1
        ·refine I.setBox (qe hc) (us:=us.take off++(σ x).cells.toList++us.drop (off+l2.length)) (.inl ⟨⟨T,?_⟩,λs p=>zr3 hit2 (((h2.take off).append hl).append (h2.drop _)) s p⟩) r4 r3 ?_ (X0 hR)
         ·rw[r2,au]
         ·exact((h2.take off).append hl).append (h2.drop _)
     ·exact H.elim
    ·rename_i c z i off
     split at H
     ·rename_i e ty xs hc
      cases hR:zw7 c R with
      |false=>rw[hR]at H;exact H.elim
      |true=>
       rw[hR]at H
       cases hz:Nat.beq z (sz ty)with
       |false=>rw[hz]at H;exact H.elim
       |true=>
        rw[hz]at H
        cases hble:Nat.ble (off+l2.length) (sz ty)with
        |false=>rw[hble]at H;exact H.elim
        |true=>
         rw[hble]at H
         simp only[cond_true]at H
         obtain⟨y,hy,H⟩:=H
         split at H
         ·rename_i y' ax
          have ap:=BM hble
          obtain⟨γ1,I1,g1⟩:=Inv.frzL (C:=C) (γ:=γ) (zun l2) I
          have aD:=ha.gx g1 rfl
          have aJ:=DenL.gx (c:=none) g1 rfl hl
          rw[Ag hz]at aD
          obtain⟨g,hg,aI⟩:=aD
          have ah:=qe hc
          obtain⟨cells,aj,Z,ac,O⟩:=I1.den _ (Ao R ah)
          simp only at aj Z ac O
          have al:i<xs.length:=(Az.1 hy).1
          have aF:xs[i]=y:=(Az.1 hy).2
          rcases aj.2 with⟨hv,aP⟩|⟨g',cap,ar,hv,aH,aL,aN,aA,an,am⟩
          ·omega
          simp only[AO]at hv
          have aG:g'=g:=by
           have:=hv.1;rw[hg]at this;simp only[Aa,Addr.mk.injEq]at this;exact this.1.symm
          subst aG
          have ae:cells.length=xs.length*sz ty:=Z.1
          have ay:(i+1)*sz ty<=xs.length*sz ty:=AM _ al
          rw[BB,Dd]at ay
          have aE:xs.length*sz ty<=cap*sz ty:=AM _ (by omega)
          have ak:(σ x).cells.toList.length=l2.length:=hl.length.symm
          intro B d
          obtain⟨h',r1,r2,r3,r4⟩:=Jt (P:=P) hi rfl aL (o:=i*sz ty+off) af (by rw[an];omega) h1 B d
          refine .inr (.inl ⟨d,h',?_,_,_,_,γ1,H,Yz _ _,?_,g1⟩)
          ·simp only[execOp,ho]
           rw[aI]
           exact zt6 r1
          ·refine I1.setRow ah (g:=g') (by rw[hg];rfl) r4 r3 ?_ (X0 hR)
           have hE:=Z.2 i al
           rw[aF]at hE
           have az:=xr (γ:=γ1) hE
           have aB:=((az.take off).append aJ).append (az.drop (off+l2.length))
           obtain⟨c1,c2,e1,r5,r6⟩:=Yy I1.fz ax aB
           cases c2 with
           |cons _ _=>exact r6.elim
           |nil=>
            rw[Ba]at e1
            rw[<-e1]at r5
            have ai:=Z.set al (o:=off) (vs:=(σ x).cells.toList) (by rw[ak];exact ap) (by rw[ak];exact r5)
            refine⟨_,⟨?_,.inr ⟨g',cap,_,by simp[hv],aH,r2,aN,aA,?_,?_⟩⟩,ai,by simpa using ac,by simpa using O⟩
            ·rw[ai.1,O,List.length_set]
            ·simp only[DO,Ar,AY,AX,CR]
             have:(σ x).cells.toList.length=yr P t:=by simpa using af
             simp only[CR]at this
             rw[this,an];omega
            ·apply AZ
             intro k
             have aC:(σ x).cells.toList.length=yr P t:=by simpa using af
             rw[AC,<-aC]
             simp only
             rw[Qk (L:=cells) (by rw[ae];omega)]
             have aM:cells=ar.toList.take (xs.length*sz ty):=by rw[<-am,O]
             rw[Qk (L:=ar.toList) (by simp only[CR];rw[an];simp only[CR]at ak;omega),aM,O]
             by_cases hk:k<xs.length*sz ty
             ·rw[if_pos hk,AC,if_pos hk]
             ·rw[if_neg hk,AC,if_neg hk]
              rw[if_neg (by omega),if_neg (by omega)]
         ·exact H.elim
     ·exact H.elim
    ·exact H.elim
def nxB(s:Bt)(p:Nat):Bool:=Nat.blt p s.size
def nxP(s:Bt)(p:Nat):Nat:=bif Nat.blt p s.size then p+(Utf8.decode s p).2 else p
def nxR(s:Bt)(p:Nat):Int:=((Utf8.decode s p).1:Int)
def zxa(P:Program)(t:TypeId)(av:AV)(d:Nat)(C R:CS)(K:AV->CS->Option Nat->Prop):Prop:=match av,P.underlying t with
 |.g (.a (.v (.string s))),some .string=>bif j3 d R then K (.g (.a (.box d 0))) ((d,.box [.d .iter (s,0)])::yv d C) (some d)else False
 |_,_=>False
theorem zxb{x:Operand}(ho:o.op=.range t x){K:AV->CS->Option Nat->Prop}(H:zxa P t av d C R K)(I:Inv h0 W M0 (C++R) γ h)
  (hd:DenV γ av (σ x)):ExA P (execOp σ o) h (zdo h0 W M0 R γ K):=by
 unfold zxa at H
 split at H
 ·rename_i s hu
  cases hR:j3 d R with
  |false=>rw[hR]at H;exact H.elim
  |true=>
   rw[hR]at H
   intro B e
   refine .inl ⟨.pointer (some ⟨h.size,0,none⟩),e,h.push (.stringIter s 0),?_,_,_,_,zv3 γ d h.size,H,?_,?_,Ww _ _ _⟩
   ·simp only[execOp,ho,show σ x=.string s from hd]
    refine Yq ?_
    have hq:=QExec.underlying (h:=h) hu B e
    unfold EU
    rw[Sem.run_bind,hq]
    rfl
   ·simp only[DenV,DenG,DenA,Zu]
   ·exact Inv.newBoxO (c:=d) I hR (l:=[.d .iter (s,0)]) (us:=[Zp s 0]) ⟨rfl,trivial⟩ rfl (.inr ⟨s,0,rfl,rfl⟩)
 ·exact H.elim
def z5x(av:AV)(C R:CS)(K:AV->CS->Option Nat->Prop):Prop:=match av with
 |.g (.a (.box c 0))=>match Yx C c with
  |some (.box [.d .iter x])=>bif zw7 c R then K (.nx (nxB x.1 x.2) (x.2:Int) (nxR x.1 x.2)) ((c,.box [.d .iter (x.1,nxP x.1 x.2)])::zie c C) none else False
  |_=>False
 |_=>False
theorem z1n{x:Operand}(ho:o.op=.next x true){K:AV->CS->Option Nat->Prop}(H:z5x av C R K)(I:Inv h0 W M0 (C++R) γ h)
  (hd:DenV γ av (σ x)):ExA P (execOp σ o) h (zdo h0 W M0 R γ K):=by
 unfold z5x at H
 split at H
 ·rename_i c
  split at H
  ·rename_i y hc
   cases hR:zw7 c R with
   |false=>rw[hR]at H;exact H.elim
   |true=>
    rw[hR]at H
    simp only[cond_true]at H
    obtain⟨us,ob,h2⟩:=I.den _ (Ao R (qe hc))
    have aa:us=[Zp y.1 y.2]:=by
     match us,h2 with
     |[u],h2=>
      have h3:Rd γ.M .iter y [u]:=h2.1
      simpa[Rd]using h3
    subst aa
    have O:h[γ.β c]?=some (.stringIter y.1 y.2):=by
     rcases ob with⟨_,e⟩|⟨s,p,e1,e2⟩
     ·exact absurd rfl (e _ _)
     ·have e3:y.1=s/\y.2=p:=by
       simp only[Zp,Ci,Value.iface.injEq,Value.agg.injEq,Array.mk.injEq,Value.string.injEq,Value.int.injEq,and_true,true_and]at e1
       exact⟨e1.1,by omega⟩
      rw[e2,e3.1,e3.2]
    have Z:γ.β c<h.size:=(Ac.1 O).1
    intro B d
    have hg:∀(w:World),w.heap[γ.β c]?=some (.stringIter y.1 y.2)->(getObj (γ.β c)).run P w=.ok (.stringIter y.1 y.2) w:=λw e=>by simp[getObj,Sem.run,e]
    have hs:∀(w:World) (o':Obj),w.heap[γ.β c]?=some (.stringIter y.1 y.2)->(setObj (γ.β c) o').run P w=.ok () { w with heap:=w.heap.setIfInBounds (γ.β c) o' }:=λw o' e=>by simp[setObj,Sem.run,e]
    have hx:σ x=.pointer (some ⟨γ.β c,0,none⟩):=hd
    by_cases hb:y.2<y.1.size
    ·have eb:nxB y.1 y.2=true:=by simpa[nxB,Cz]using hb
     have ep:nxP y.1 y.2=y.2+(Utf8.decode y.1 y.2).2:=by unfold nxP;rw[show Nat.blt y.2 y.1.size=true from eb];rfl
     refine .inl ⟨.tuple #[.bool true,.int .i64 y.2,.int .i32 (nxR y.1 y.2)],d,h.setIfInBounds (γ.β c) (.stringIter y.1 (nxP y.1 y.2)),?_,_,_,_,γ,H,⟨λ_=>rfl,λhc=>by rw[eb]at hc;cases hc⟩,?_,Gx.refl _ _⟩
     ·simp only[execOp,ho,hx]
      refine Yq ?_
      unfold EZ
      simp only
      rw[Sem.run_bind,hg _ O]
      simp only[Result.andThen_ok,hb,if_true]
      rw[Sem.run_bind,hs _ _ O,ep]
      rfl
     ·refine I.setBox (qe hc) (us:=[Zp y.1 (nxP y.1 y.2)]) (.inr ⟨_,_,rfl,by simp[Z]⟩) (λi hi=>by simp[AH (Ne.symm hi)]) (by simp) ⟨rfl,trivial⟩ (X0 hR)
    ·have eb:nxB y.1 y.2=false:=by
      cases h:nxB y.1 y.2 with
      |false=>rfl
      |true=>exact absurd (by simpa[nxB,Cz]using h) hb
     have ep:nxP y.1 y.2=y.2:=by unfold nxP;rw[show Nat.blt y.2 y.1.size=false from eb];rfl
     refine .inl ⟨.tuple #[.bool false],d,h,?_,_,_,_,γ,H,⟨λhc=>(by rw[eb]at hc;cases hc),λ_=>rfl⟩,?_,Gx.refl _ _⟩
     ·simp only[execOp,ho,hx]
      refine Yq ?_
      unfold EZ
      simp only
      rw[Sem.run_bind,hg _ O]
      simp only[Result.andThen_ok,hb,if_false]
      rfl
     ·refine I.setBox (qe hc) (us:=[Zp y.1 (nxP y.1 y.2)]) (.inr ⟨_,_,rfl,by rw[ep];exact O⟩) (λi hi=>rfl) rfl ⟨rfl,trivial⟩ (X0 hR)
  ·exact H.elim
 ·exact H.elim
end
section
variable {P:Program} {tr t tx e ty:TypeId} {n d m b:Nat} {C R:CS} {γ:Gh} {h:zb} {z u:Value} {xs news:List Value}
variable {h0 : zb} {W : Nat -> Prop} {M0 : Fr}
def X1(cs:CS)(t:Ty):Nat->List AA->Option (List (El t)×List AA)
 |0,l=>some ([],l)
 |n+1,l=>match collect cs t l with
  |some (y,l')=>match X1 cs t n l' with
   |some (ys,l'')=>some (y::ys,l'')
   |none=>none
  |none=>none
theorem za4{γ:Gh}{cs:CS}(hf:z0t γ cs){t:Ty}:∀{n:Nat} {l l':List AA} {ys:List (El t)},X1 cs t n l=some (ys,l')->∀{us:List Value},All2 (DenA γ) l us->∃c1 c2,us=c1++c2/\RowC γ.M t ys c1/\ys.length=n/\All2 (DenA γ) l' c2
 |0,l,l',ys,h,us,hu=>by
  simp only[X1,Aa,BA]at h
  obtain⟨rfl,rfl⟩:=h
  exact⟨[],us,rfl,RowC.nil _ _,rfl,hu⟩
 |n+1,l,l',ys,h,us,hu=>by
  simp only[X1]at h
  split at h
  ·rename_i y l1 h1
   split at h
   ·rename_i O l2 h2
    simp only[Aa,BA]at h
    obtain⟨rfl,rfl⟩:=h
    obtain⟨c1,c2,rfl,r1,r2⟩:=Yy hf h1 hu
    obtain⟨c3,c4,rfl,r3,r4,r5⟩:=za4 hf h2 r2
    exact⟨c1++c3,c4,by simp,by simpa using (RowC.single r1).append r3,by simp[r4],r5⟩
   ·cases h
  ·cases h
def zgp(P:Program)(el:TypeId)(k:Nat):Option (List Value):=bif Nat.beq k 0 then some []else(match zeroOf P el with
 |some z=>some ((EV k).map (z.cells[· % z.cells.size]!)).toList
 |none=>none)
def qbp:List (Nat×AV)->List AV
 |[]=>[]
 |(_,v)::l=>v::qbp l
def za5(P:Program)(tr:TypeId)(t:TypeId)(n:Nat)(ps:List (Nat×AV))(d:Nat)(C R:CS)(K:AV->CS->Option Nat->Prop):Prop:=
 match z5p P t with
 |some el=>match z9j P tr 8 el,zgp P el (n*yr P el)with
  |some ty,some zs=>bif Nat.beq (yr P el) (sz ty)then(bif Nat.ble (n*yr P el) 16777216 then(bif Nat.blt 0 (yr P el)then(bif j3 d R then(match zp3 (λi=>some (i*yr P el,yr P el)) (zs.map .v) ps with
   |some r=>match X1 (frzL (W0 (qbp ps)) C++R) ty n r with
    |some (ys,[])=>K (.g (.a (.own d))) ((d,.row el ty ys)::yv d (frzL (W0 (qbp ps)) C)) (some d)
    |_=>False
   |none=>False)else False)else False)else False)else False
  |_,_=>False
 |none=>False
theorem zil{parts:Array (Nat×Operand)}{o:Oper}(ho:o.op=.buildSlice t n parts){ps:List (Nat×AV)}{ρ:Operand->Option AV}(ah:zcb ρ parts.toList=some ps){K:AV->CS->Option Nat->Prop}
  (H:za5 P tr t n ps d C R K) {σ:Operand->Value} (I:Inv h0 W M0 (C++R) γ h) (hρ:∀x av,ρ x=some av->DenV γ av (σ x)):ExA P (execOp σ o) h (zdo h0 W M0 R γ K):=by
 unfold za5 at H
 split at H
 ·rename_i el aj
  obtain⟨hu,ak⟩:=Y0 aj
  split at H
  ·rename_i ty zs ap O
   cases hz:Nat.beq (yr P el) (sz ty)with
   |false=>rw[hz]at H;exact H.elim
   |true=>
   rw[hz]at H
   cases hb1:Nat.ble (n*yr P el) 16777216 with
   |false=>rw[hb1]at H;exact H.elim
   |true=>
   rw[hb1]at H
   cases hb2:Nat.blt 0 (yr P el)with
   |false=>rw[hb2]at H;exact H.elim
   |true=>
   rw[hb2]at H
   cases hR:j3 d R with
   |false=>rw[hR]at H;exact H.elim
   |true=>
   rw[hR]at H
   simp only[cond_true]at H
   split at H
   ·rename_i r hr
    split at H
    ·rename_i ys ai
     obtain⟨γ1,I1,g1⟩:=Inv.frzL (C:=C) (γ:=γ) (W0 (qbp ps)) I
     have af:∀x av,ρ x=some av->DenV γ1 av (σ x):=λx av hx=>(hρ x av hx).gx g1 rfl
     obtain⟨ws,e1,e2⟩:=Js hr (Zw γ1 zs) (Xy af ah)
     obtain⟨c1,c2,rfl,r3,r4,r5⟩:=za4 I1.fz ai e2
     cases c2 with
     |cons _ _=>exact r5.elim
     |nil=>
     rw[Ba]at *
     have aa:=Ag hz
     have ae:0<yr P el:=by simpa[Cz]using hb2
     have an:n*yr P el<=16777216:=BM hb1
     have hn:n<=n*yr P el:=Do _ ae
     have ac:c1.length=n*yr P el:=by rw[r3.1,r4,aa]
     intro B e
     refine .inl ⟨.slice (some ⟨h.size,0,none⟩) n n,e,h.push (.cells c1.toArray el),?_,_,_,_,zp0 γ1 d ⟨some ⟨h.size,0,none⟩,n,n⟩,H,?_,?_,?_⟩
     ·have hq:=QExec.underlying (h:=h) hu B e
      have hs:=QExec.sizeOf (P:=P) (h:=h) (jj ak).choose_spec B e
      have e5:(parts.map λx=>(x.1,σ x.2)).toList=parts.toList.map λx=>(x.1,σ x.2):=by rw[C3]
      have e6:E0 (λi=>some (i*yr P el,yr P el)) zs.toArray (parts.map λx=>(x.1,σ x.2)).toList=some c1.toArray:=by rw[e5];exact e1
      simp only[execOp,ho]
      refine Yq ?_
      unfold Instr.buildSlice
      rw[Sem.run_bind,hq]
      simp only[Result.andThen_ok]
      rw[Sem.run_bind,hs]
      simp only[Result.andThen_ok]
      rw[if_neg (by omega)]
      unfold zgp at O
      by_cases Z:n*yr P el=0
      ·rw[if_pos Z]
       rw[Z]at O ⊢
       simp at O
       subst O
       simp only[Sem.run_bind,Sem.run_pure,Result.andThen_ok]
       have e7:Array.map (λx=>(#[]:Array Value)[x % (#[]:Array Value).size]!) (EV 0)=([]:List Value).toArray:=by simp
       rw[e7,e6]
       rfl
      ·rw[if_neg Z]
       have hb:Nat.beq (n*yr P el) 0=false:=by
        cases hh:Nat.beq (n*yr P el) 0 with
        |false=>rfl
        |true=>exact absurd (Ag hh) Z
       rw[hb]at O
       simp only[cond_false]at O
       split at O
       ·rename_i z am
        have al:=Y2 am h B e
        simp only[Aa]at O
        rw[Sem.run_bind,al]
        simp only[Result.andThen_ok,Sem.run_bind,Sem.run_pure]
        have e7:Array.map (λx=>z.cells[x % z.cells.size]!) (EV (n*yr P el))=zs.toArray:=by
         rw[<-O]
        rw[e7,e6]
        rfl
       ·cases O
     ·simp only[DenV,DenG,DenA,yg];rfl
     ·refine I1.newRow hR (by simp) (p:=none) (λi hi _=>by rw[BH,if_neg (by omega)]) (λb hb=>by cases hb) (cells:=c1) ⟨by rw[ac,<-aa],.inr ⟨h.size,n,c1.toArray,rfl,I.size,j6 _ _,Ae _,by unfold maxLen;omega,by rw[<-aa];simpa using ac,?_⟩⟩ (λq hq=>.inr (by cases hq;rfl)) r3 (by omega) r4.symm
      rw[Be]
      rw[<-aa];simp;omega
     ·exact⟨g1.1,λi hi=>⟨((Z6 γ1 d _).2 i hi).1.trans (g1.2 i (by simp)).1,((Z6 γ1 d _).2 i hi).2.trans (g1.2 i (by simp)).2⟩⟩
    ·exact H.elim
   ·exact H.elim
  ·exact H.elim
 ·exact H.elim
theorem Zy{n sz:Nat}{s:Sl}{cells:List Value}(ha:Arr n h s.a cells)(hl:cells.length=s.len*sz)(O:0<sz)(B:World)(d:Nat):
  (Cr sz s.len (.slice s.a s.len s.cap)).run P (mk B d h)=.ok cells.toArray (mk B d h):=by
 rcases ha with rfl|⟨b,o,e,_,hc⟩
 ·have h0:s.len=0:=by
   rcases Dt s.len with h0|h0
   ·exact h0
   ·have:=Nat.mul_pos h0 O;simp at hl;omega
  rw[h0]
  cases s.a with
  |none=>simp[Cr]
  |some p=>simp[Cr,loadCells,loadCellsFrom]
 ·rw[e]
  exact run_firstCells_some (mk B d h) sz s.len ⟨b,o,none⟩ s.len s.cap cells hl λj u hu=>by rw[zh];exact hc j u hu
theorem zgq{n sz:Nat}{s:Sl}{cells:List Value}(ha:Arr n h s.a cells)(hl:cells.length=s.len*sz)(O:0<sz)(h1:∀u∈cells,u.oneCell'=true){tx e':TypeId}(hk:P.underlying tx=some (.slice e'))(B:World)(d:Nat):
  Src P sz tx (slV s) s.len cells (mk B d h):=
 ⟨.inl ⟨e',hk⟩,λ_=>rfl,Zy ha hl O B d,Zy ha hl O B (d+1),hl,h1⟩
theorem zn9{g o:Nat}{O:Array Value}{T:TypeId}(hg:h[g]?=some (.cells O T (0,0))){vs:List Value}(hl:o+vs.length<=O.size)(h1:∀u∈vs,u.oneCell'=true)(B:World)(d:Nat):
  ∃h',(storeCells ⟨g,o,none⟩ vs 0).run P (mk B d h)=.ok () (mk B d h')/\h'[g]?=some (.cells (O.toList.take o++vs++O.toList.drop (o+vs.length)).toArray T (0,0))/\h'.size=h.size/\∀j,j≠g->h'[j]?=h[j]?:=by
 obtain⟨h',r1,r2,r3,r4⟩:=Zt (P:=P) B d vs (o+0) h O hg (by omega) h1
 exact⟨h',by rw[za3];exact r1,r2,r3,r4⟩
theorem Ju{sz bytes:Nat}(T:ElemT P t e z sz bytes){base:Nat}{s:Sl}(ac:xs.length=s.len*sz)(Z:∀B d,(Cr sz s.len (slV s)).run P (mk B d h)=.ok xs.toArray (mk B d h))
  {x:Value} (hs:∀B d,Src P sz tx x m news (mk B d h)) (O:(s.len+m)*bytes<=140737488355328) (ak:s.len+m<=140737488355328) (aj:base<=h.size) (hg:s.cap<s.len+m) (B:World) (d:Nat):
  ∃c blk,(Ax #[t,tx] ty #[slV s,x]).run P (mk B d h)=.ok (.slice (some ⟨h.size,0,none⟩) (s.len+m) c) (mk B (d+1) (h.push (.cells blk e)))/\s.len+m<=c/\c<=maxLen/\blk.size=c*sz/\blk.toList.take ((s.len+m)*sz)=xs++news:=by
 obtain⟨i,hi,hz,ae,af⟩:=T.info
 subst ae
 subst af
 have hS:=hs B d
 have aa:=hS.newsLen
 have hr:=run_append_grow_src (P:=P) (mk B d h) t tx ty e i z T.slice hi hz s.a s.len s.cap xs (Z B (d+1)) x m news hS hg (by omega) (growslice_fits (by omega) O)
 have ai:=grownCap_ge (mk B d h) (s.len+m) s.cap e
 have ah:=grownCap_le_maxLen (mk B d h) (s.len+m) s.cap e (by unfold maxLen;omega)
 generalize grownCap (mk B d h) (s.len+m) s.cap e=c at *
 refine⟨c,_,hr,ai,ah,?_,?_⟩
 ·simp only[Array.size_append,DO,size_zeroCells,Ar,T.zero,ac,aa,<-BB]
  congr 1
  omega
 ·simp only[Array.toList_append]
  have:(xs++news).length=(s.len+m)*i.size:=by rw[Ar,ac,aa,BB]
  rw[<-this]
  exact Em
theorem Zq{sz bytes:Nat}(T:ElemT P t e z sz bytes){h h':zb}{s:Sl}{x:Value}{B:World}(hS:Src P sz tx x m news (mk B d h))(O:s.len+m<=s.cap)
  (Z:∀p,s.a=some p->(storeCells (p.add (s.len*sz)) news 0).run P (mk B d h)=.ok () (mk B d h')) (aa:s.a=none->h'=h):(Ax #[t,tx] ty #[slV s,x]).run P (mk B d h)=.ok (.slice s.a (s.len+m) s.cap) (mk B d h'):=by
 obtain⟨i,hi,hz,ac,ae⟩:=T.info
 subst ac
 have ht:=T.slice
 unfold slV
 rcases hS.kind with⟨e',hk⟩|hk
 ·cases ha:s.a with
  |none=>rw[aa ha];simp[Ax,run_underlying ht,run_underlying hk,sizeOf,typeInfo,hi,hS.len,O,hS.cells]
  |some p=>simp[Ax,run_underlying ht,run_underlying hk,sizeOf,typeInfo,hi,hS.len,O,hS.cells,Z p ha]
 ·cases ha:s.a with
  |none=>rw[aa ha];simp[Ax,run_underlying ht,run_underlying hk,sizeOf,typeInfo,hi,hS.len,O,hS.cells]
  |some p=>simp[Ax,run_underlying ht,run_underlying hk,sizeOf,typeInfo,hi,hS.len,O,hS.cells,Z p ha]
theorem zdq{sz bytes:Nat}(T:ElemT P t e z sz bytes){base:Nat}{s:Sl}(H:Owns h base e sz s xs){x:Value}(hs:∀B d,Src P sz tx x m news (mk B d h))
  (af:(s.len+m)*bytes<=140737488355328) (ai:s.len+m<=140737488355328) (aa:base<=h.size) {K:Value->zb->Prop}
  (hK:∀(s':Sl) (h':zb),s'.len=s.len+m->Owns h' base e sz s' (xs++news)->(∀i,i<h.size->(∀p,s.a=some p->i≠p.block)->h'[i]?=h[i]?)->h.size<=h'.size->(∀p',s'.a=some p'->(∃p,s.a=some p/\p'.block=p.block)\/p'.block=h.size)->K (slV s') h'):
  XRun P (Ax #[t,tx] ty #[slV s,x]) h K:=by
 intro B d
 have hS:=hs B d
 have Z:=hS.newsLen
 have ae:=H.1
 have aj:=H.arr
 by_cases ac:s.len+m<=s.cap
 ·rcases H.2 with⟨hv,aC⟩|⟨g,cap,ar,hv,az,hg,aB,am,ak,ah⟩
  ·simp only[AO]at hv
   obtain⟨e1,e2,e3⟩:=hv
   have hm:m=0:=by omega
   subst hm
   have hn:news=[]:=Aw (by simpa using Z)
   subst hn
   have hr:=Zq (P:=P) (ty:=ty) T (s:=s) (h':=h) hS ac (λp hp=>by rw[e1]at hp;cases hp) (λ_=>rfl)
   refine⟨_,d,h,hr,hK ⟨s.a,s.len+0,s.cap⟩ h rfl ?_ (λ_ _ _=>rfl) (Ae _) (λp' O=>by rw[show s.a=none from e1]at O;cases O)⟩
   rw[Ba]
   exact H
  ·simp only[AO]at hv
   obtain⟨e1,_,e3⟩:=hv
   have au:h[g]?=some (.cells ar e (0,0)):=hg
   have an:(s.len+m)*sz<=cap*sz:=AM _ (by omega)
   rw[BB]at an
   obtain⟨h',r1,r2,r3,r4⟩:=zn9 (P:=P) au (o:=s.len*sz) (vs:=news) (by rw[ak];omega) hS.one B d
   have hr:=Zq (P:=P) (ty:=ty) T (s:=s) (h':=h') hS ac (λp hp=>by
    rw[e1]at hp;cases hp;rw[zh,AD];exact r1) (λhn=>by rw[e1]at hn;cases hn)
   refine⟨_,d,h',hr,hK ⟨s.a,s.len+m,s.cap⟩ h' rfl ⟨?_,.inr ⟨g,cap,_,?_,az,r2,(by show s.len+m<=cap;omega),am,?_,?_⟩⟩ (λi hi ap=>r4 i λe'=>ap _ e1 e') (by omega) (λp' O=>.inl ⟨p',O,rfl⟩)⟩
   ·rw[Ar,ae,Z,BB]
   ·simp[e1,e3]
   ·simp only[DO,Ar,AY,AX,CR]
    rw[Z,ak]at *;omega
   ·simp only
    rw[ah]
    have:(xs++news).length=(s.len+m)*sz:=by rw[Ar,ae,Z,BB]
    rw[<-this]
    exact Em
 ·obtain⟨c,blk,hr,al,aA,ax,ay⟩:=Ju (P:=P) (ty:=ty) (base:=base) T ae (λB d=>Zy aj ae T.pos B d) hs af ai aa (by omega) B d
  refine⟨_,d+1,_,hr,hK ⟨some ⟨h.size,0,none⟩,s.len+m,c⟩ _ rfl ⟨?_,.inr ⟨h.size,c,blk,rfl,aa,j6 _ _,al,aA,ax,ay⟩⟩ (λi hi _=>by rw[BH,if_neg (by omega)]) (by simp) (λp' O=>.inr (by cases O;rfl))⟩
  rw[Ar,ae,Z,BB]
def zce(s:Bt):List Int:=s.data.toList.map λb=>(b.toNat:Int)
def z4c:(ty:Ty)->Bt->Option (List (El ty))
 |.int .u8,s=>some (zce s)
 |_,_=>none
def qb8(P:Program)(cs:CS)(tx:TypeId)(ty:Ty):AV->Option (List (El ty))
 |.g (.a (.v (.string s)))=>match P.underlying tx with
  |some .string=>z4c ty s
  |_=>none
 |.g (.a (.v (.slice none 0 0)))=>match P.underlying tx with
  |some (.slice _)=>some []
  |_=>none
 |.g (.a aa)=>match P.underlying tx with
  |some (.slice _)=>match rowOf cs aa with
   |some r=>Q5 (.row r.1) (.row ty) r.2
   |none=>match aa with
    |.own c=>match Yx cs c with
     |some (.row _ t xs)=>Q5 (.row t) (.row ty) xs
     |_=>none
    |_=>none
  |_=>none
 |_=>none
theorem RowC.bytes(M:Fr)(s:Bt):RowC M (.int .u8) (zce s) (byteCells s):=by
 have hl:(byteCells s).length=(zce s).length:=by unfold byteCells zce;simp
 refine⟨by rw[hl];simp[sz],λi hi=>?_⟩
 have O:i<(byteCells s).length:=by rw[hl];exact hi
 have e:(byteCells s)[i]=.int .u8 (zce s)[i]:=by simp only[byteCells,zce,List.getElem_map]
 have e2:((byteCells s).drop (i*1)).take 1=[(byteCells s)[i]]:=by
  rw[B6,AL O];rfl
 show((byteCells s).drop (i*1)).take 1=[.int .u8 (zce s)[i]]
 rw[e2,e]
theorem Qs{t t':Ty}{xs:List (El t)}{ys:List (El t')}(h:Q5 (.row t) (.row t') xs=some ys):∃e:t=t',ys=e ▸ xs:=by
 unfold Q5 at h
 split at h
 ·rename_i e
  have e':t=t':=by injection e
  subst e'
  simp only[Aa]at h
  exact⟨rfl,h.symm⟩
 ·cases h
theorem zr9{cs:CS}(I:Inv h0 W M0 cs γ h){ty:Ty}{av:AV}{ys:List (El ty)}(hs:qb8 P cs tx ty av=some ys)(ae:0<sz ty)(hd:DenV γ av u):
  ∃news,RowC γ.M ty ys news/\∀B d,Src P (sz ty) tx u ys.length news (mk B d h):=by
 have row:∀{t:Ty} {xs:List (El t)} {n:Nat} {s:Sl} {cells:List Value} {e':TypeId},Q5 (.row t) (.row ty) xs=some ys->P.underlying tx=some (.slice e')->u=slV s->s.len=xs.length->RowC γ.M t xs cells->Arr n h s.a cells ->
   ∃news,RowC γ.M ty ys news/\∀B d,Src P (sz ty) tx u ys.length news (mk B d h):=by
  intro t xs n s cells e' hc hu e hl hr ha
  obtain⟨e1,e2⟩:=Qs hc
  subst e1
  simp only at e2
  subst e2
  refine⟨cells,hr,λB d=>?_⟩
  rw[e,<-hl]
  exact zgq ha (by rw[hl];exact hr.1) ae hr.one hu B d
 unfold qb8 at hs
 split at hs
 ·rename_i s
  split at hs
  ·rename_i hu
   unfold z4c at hs
   split at hs
   case h_2=>cases hs
   simp only[Aa]at hs
   subst hs
   refine⟨byteCells s,RowC.bytes _ s,λB d=>?_⟩
   rw[show u=.string s from hd]
   have:=Src.ofString (P:=P) (mk B d h) hu s
   have e:(zce s).length=s.size:=by unfold zce;rw[Bv,CR];rfl
   rw[e];exact this
  ·cases hs
 ·split at hs
  ·rename_i e' hu
   simp only[Aa]at hs
   subst hs
   refine⟨[],RowC.nil _ _,λB d=>?_⟩
   rw[show u=.slice none 0 0 from hd]
   exact Src.ofNil (mk B d h) hu 0
  ·cases hs
 ·rename_i aa _ _
  split at hs
  ·rename_i e' hu
   split at hs
   ·rename_i r hr
    obtain⟨s,e,hl,hn,cells,O,Z⟩:=(zb8 I hr hd).rowC I.ag
    exact row hs hu e hl O Z
   ·split at hs
    ·rename_i c _ _ _
     split at hs
     ·rename_i e t xs hc
      obtain⟨cells,ac,O,hn,hl⟩:=I.den _ (qe hc)
      exact row hs hu (show u=slV _ from hd) hl O ac.arr
     ·cases hs
    ·cases hs
  ·cases hs
 ·cases hs
def zlg(P:Program)(el:TypeId)(ty:Ty):Option Nat:=match P.info? el with
 |some i=>match i.zero with
  |some z=>bif (bif Nat.beq i.size (sz ty)then(bif Nat.beq z.cells.size i.size then(bif Nat.blt 0 i.size then Nat.blt 0 i.bytes else false)else false)else false)then some i.bytes else none
  |none=>none
 |none=>none
theorem zj1{t el:TypeId}{ty:Ty}(hu:P.underlying t=some (.slice el))(h:zlg P el ty=some b):(∃z,ElemT P t el z (sz ty) b)/\0<b:=by
 unfold zlg at h
 split at h
 ·rename_i i hi
  split at h
  ·rename_i z hz
   cases h1:Nat.beq i.size (sz ty)with
   |false=>rw[h1]at h;cases h
   |true=>
   cases h2:Nat.beq z.cells.size i.size with
   |false=>rw[h1,h2]at h;cases h
   |true=>
   cases h3:Nat.blt 0 i.size with
   |false=>rw[h1,h2,h3]at h;cases h
   |true=>
   cases h4:Nat.blt 0 i.bytes with
   |false=>rw[h1,h2,h3,h4]at h;cases h
   |true=>
   rw[h1,h2,h3,h4]at h
   simp only[cond_true,Aa]at h
   have e1:=Ag h1
   have e2:=Ag h2
   have e3:0<i.size:=by simpa[Cz]using h3
   have e4:0<i.bytes:=by simpa[Cz]using h4
   exact⟨⟨z,hu,⟨i,hi,hz,e1,h⟩,by rw[e2,e1],by rw[<-e1];exact e3⟩,by rw[<-h];exact e4⟩
  ·cases h
 ·cases h
def zdr(P:Program)(tr:TypeId)(t tx:TypeId)(bv sv:AV)(d:Nat)(C R:CS)(K:AV->CS->Option Nat->Prop):Prop:=
 match z5p P t with
 |some el=>match z9j P tr 8 el with
  |some ty=>match zlg P el ty,qb8 P (C++R) tx ty sv with
   |some b,some ys=>match bv with
    |.g (.a (.v (.slice none 0 0)))=>bif j3 d R then(ys.length*b<=140737488355328/\K (.g (.a (.own d))) ((d,.row el ty ys)::yv d C) (some d))else False
    |.g (.a (.own c))=>match Yx C c with
     |some (.row e t' xs)=>match Q5 (.row t') (.row ty) xs with
      |some xs=>bif Nat.beq e el then(bif j3 d R then((xs.length+ys.length)*b<=140737488355328/\K (.g (.a (.own d))) ((d,.row el ty (xs++ys))::yv d (zie c C)) (some d))else False)else False
      |none=>False
     |_=>False
    |.g (.a (.dc t' xs))=>match Q5 (.row t') (.row ty) xs with
     |some xs=>(xs.length+ys.length)*b<=140737488355328/\K (.g (.a (.d (.row ty) (xs++ys)))) C none
     |none=>False
    |_=>False
   |_,_=>False
  |none=>False
 |none=>False
theorem zcf{n b k:Nat}(hb:0<b)(h:n*b<=k):n<=k:=Nat.le_trans (Do _ hb) h
theorem zuq{tr t tx ty':TypeId}{bv sv:AV}{K:AV->CS->Option Nat->Prop}(H:zdr P tr t tx bv sv d C R K)(I:Inv h0 W M0 (C++R) γ h)
  {u v:Value} (ar:DenV γ bv u) (aE:DenV γ sv v):XRun P (Ax #[t,tx] ty' #[u,v]) h (zdo h0 W M0 R γ K):=by
 unfold zdr at H
 split at H
 ·rename_i el aF
  obtain⟨hu,aY⟩:=Y0 aF
  split at H
  ·rename_i ty aZ
   split at H
   ·rename_i b ys hb aM
    obtain⟨⟨z,T⟩,am⟩:=zj1 hu hb
    obtain⟨news,al,ak⟩:=zr9 I aM T.pos aE
    split at H
    ·cases hR:j3 d R with
     |false=>rw[hR]at H;exact H.elim
     |true=>
     rw[hR]at H
     obtain⟨ac,hK⟩:=H
     rw[show u=slV ⟨none,0,0⟩from ar]
     have ae:=zcf am ac
     refine zdq T (Owns.nil h h0.size el (sz ty)) ak (by simpa using ac) (by simpa using ae) I.size λs' h' hl aj hk hs hp=>?_
     rw[BJ]at aj
     simp only[AD]at hl
     refine⟨_,_,_,zp0 γ d s',hK,?_,I.newRow hR hs (p:=none) (λi hi _=>hk i hi (by simp)) (λb hb=>by cases hb) aj (λq hq=>?_) al ae hl,Z6 _ _ _⟩
     ·simp only[DenV,DenG,DenA,yg]
     ·rcases hp q hq with⟨p,hp,_⟩|hp
      ·simp at hp
      ·exact .inr hp
    ·rename_i c
     split at H
     ·rename_i e t' aI hc
      split at H
      ·rename_i xs ah
       cases hee:Nat.beq e el with
       |false=>rw[hee]at H;exact H.elim
       |true=>
       rw[hee]at H
       cases hR:j3 d R with
       |false=>rw[hR]at H;exact H.elim
       |true=>
       rw[hR]at H
       obtain⟨ac,hK⟩:=H
       have ae:=zcf am ac
       have ai:=qe hc
       obtain⟨e1,e2⟩:=Qs ah
       subst e1
       simp only at e2
       subst e2
       have e3:=Ag hee
       subst e3
       have ay:=I.den _ (Ao R ai)
       obtain⟨cells,af,Z,aD,O⟩:=ay
       simp only at af Z O
       rw[show u=slV (γ.σ c)from ar]
       refine zdq T af ak (by rw[O];exact ac) (by rw[O];exact ae) I.size λs' h' hl aj hk hs hp=>?_
       have aA:=I.sep _ (Ao R ai)
       have a6:=zb6 hR
       have aN:Inv h0 W M0 (zie c C++R) γ h:=I.sub ((x8 c C).append_right R)
       refine⟨_,_,_,zp0 γ d s',hK,?_,aN.newRow hR hs (p:=(γ.σ c).a.map (·.block)) (λi hi au=>hk i hi λp hp e=>au (by rw[hp,e];rfl)) (λb hb=>?_) aj (λq hq=>?_) (Z.append al) (by rw[Ar];exact ae) (by rw[hl,O,Ar]),Z6 _ _ _⟩
       ·simp only[DenV,DenG,DenA,yg]
       ·obtain⟨h1,h2⟩:=aA b hb
        refine⟨?_,h2,λx hx aO=>?_⟩
        ·simp only[CC]at hb
         obtain⟨p,hp,rfl⟩:=hb
         exact(af.base_le p hp).1
        ·have aG:x∈C++R:=((x8 c C).append_right R).subset hx
         have au:x≠(c,Ch.row e t' xs):=by
          rintro rfl
          rcases An.1 hx with hx|hx
          ·exact(Yd hx).2 rfl
          ·have az:=I.apart
           rw[Cu]at az
           exact az.2.2 _ ai _ hx b hb hb
         have hp:=@zb7 _ (λ(x y:Nat×Ch)=>∀b,blk γ x.1 x.2=some b->blk γ y.1 y.2≠some b) (λx y h b hb an=>h b an hb) _ I.apart
         exact hp aG (Ao R ai) au b aO hb
       ·rcases hp q hq with⟨p,hp,aP⟩|hp
        ·exact .inl (by rw[hp,aP];rfl)
        ·exact .inr hp
      ·exact H.elim
     ·exact H.elim
    ·rename_i t' aI
     split at H
     ·rename_i xs ah
      obtain⟨ac,hK⟩:=H
      have ae:=zcf am ac
      obtain⟨e1,e2⟩:=Qs ah
      subst e1
      simp only at e2
      subst e2
      obtain⟨s,e,aU,aC⟩:=(show ∃s:Sl,u=slV s/\s.cap=s.len/\Rd γ.M (.row t') xs [u]from ar)
      subst e
      obtain⟨s2,e,O,aD,cells,Z,aB⟩:=aC.rowC I.ag
      have e':s=s2:=by cases s;cases s2;simp only[slV,AO]at e;simp[e]
      subst e'
      have ap:cells.length=s.len*sz t':=by rw[O];exact Z.1
      intro B dr
      by_cases hm:ys.length=0
      ·have aT:ys=[]:=Aw hm
       subst aT
       have aJ:news=[]:=Aw (by rw[al.1];simp)
       subst aJ
       have hr:=Zq (P:=P) (ty:=ty') T (s:=s) (h':=h) (ak B dr) (by simp;omega) (λp hp=>by simp[storeCells]) (λ_=>rfl)
       refine⟨_,dr,h,hr,_,C,none,γ,hK,?_,I,Gx.refl _ _⟩
       rw[Ba]
       exact aC
      ·obtain⟨c,aa,hr,aL,a1,aV,aS⟩:=Ju (P:=P) (ty:=ty') (base:=0) T ap (λB d=>Zy aB ap T.pos B d) ak (by rw[O];exact ac) (by rw[O];exact ae) (CW _) (by omega) B dr
       have aH:γ.M h.size=none:=I.ag.none (Ae _)
       have hM:Fr.le γ.M (zen γ h.size aa).M:=by
        intro b cc eM
        have:Nat.beq b h.size=false:=by
         cases hb:Nat.beq b h.size with
         |false=>rfl
         |true=>rw[Ag hb,aH]at eM;cases eM
        simp[zen,this,eM]
       have aQ:AgM (zen γ h.size aa).M (h.push (.cells aa el)):=by
        intro b cc eM
        by_cases hb:b=h.size
        ·subst hb
         have:cc=aa:=by simp[zen]at eM;exact eM.symm
         subst this
         exact⟨_,_,j6 _ _⟩
        ·have:Nat.beq b h.size=false:=by
          cases an:Nat.beq b h.size with
          |false=>rfl
          |true=>exact absurd (Ag an) hb
         simp only[zen,this,cond_false]at eM
         obtain⟨T',m,e'⟩:=I.ag b cc eM
         exact⟨T',m,by rw[BH,if_neg hb];exact e'⟩
       refine⟨_,dr+1,_,hr,_,C,none,zen γ h.size aa,hK,?_,I.call (Keep.push h _ (Ae _)) hM (λb hb=>?_) aQ,⟨hM,λ_ _=>⟨rfl,rfl⟩⟩⟩
       ·have ax:=((Z.append al).mono hM).rd (b:=h.size) (o:=0) (c:=c) (cs:=aa) (by simp[zen]) (by rw[A2,Ar,<-O];exact aS) (by rw[Ar,<-O];exact⟨by rw[O];exact ae,aL⟩)
        rw[Ar,<-O]at ax
        exact ax
       ·have:Nat.beq b h.size=false:=by
         cases an:Nat.beq b h.size with
         |false=>rfl
         |true=>have:=Ag an;omega
        simp[this]
     ·exact H.elim
    ·exact H.elim
   ·exact H.elim
  ·exact H.elim
 ·exact H.elim
end
section
variable {cs C R:CS} {γ b:Gh} {h:zb} {u:Value} {P:Program} {o:Oper} {σ:Operand -> Value} {n:Nat} {gl:Fr} {tr:TypeId} {c:qb} {a:Act} {S:List Nat}
variable {h0 : zb} {W : Nat -> Prop} {M0 : Fr}
def qbq(ns:List Int):Bt:=ns.foldl (λr n=>r.push (UInt8.ofNat n.toNat)) ByteArray.empty
def qb9(t:Ty)(xs:List (El t)):Option (List Int):=Q5 (.row t) (.row (.int .u8)) xs
def zsa(cs:CS):AA->Option ((t:Ty)×List (El t))
 |.own c=>match Yx cs c with
  |some (.row _ t xs)=>some ⟨t,xs⟩
  |some (.fz t xs)=>some ⟨t,xs⟩
  |_=>none
 |aa=>rowOf cs aa
theorem zj2(I:Inv h0 W M0 cs γ h){aa:AA}{r:(t:Ty)×List (El t)}(hr:zsa cs aa=some r)(hd:DenA γ aa u):
  ∃s:Sl,u=slV s/\s.len=r.2.length/\∃cells,RowC γ.M r.1 r.2 cells/\Arr h.size h s.a cells:=by
 unfold zsa at hr
 split at hr
 ·split at hr
  ·rename_i c e t xs hc
   simp only[Aa]at hr
   subst hr
   obtain⟨cells,O,Z,hn,hl⟩:=I.den _ (qe hc)
   exact⟨_,hd,hl,cells,Z,O.arr⟩
  ·rename_i c t xs hc
   simp only[Aa]at hr
   subst hr
   have:Rd γ.M (.row t) xs [u]:=by rw[show u=_ from hd];exact I.den _ (qe hc)
   obtain⟨s,e,hl,hn,cells,h1,h2⟩:=this.rowC I.ag
   exact⟨s,e,hl,cells,h1,h2⟩
  ·cases hr
 ·obtain⟨s,e,hl,hn,cells,h1,h2⟩:=(zb8 I hr hd).rowC I.ag
  exact⟨s,e,hl,cells,h1,h2⟩
def zlh(P:Program)(s t:TypeId)(av:AV)(cs:CS)(K:AV->Prop):Prop:=
 match P.underlying s,P.underlying t with
 |some (.slice e),some .string=>match P.underlying e,av with
  |some (.int .u8),.g (.a aa)=>match zsa cs aa with
   |some r=>match qb9 r.1 r.2 with
    |some ns=>K (.g (.a (.v (.string (qbq ns)))))
    |none=>False
   |none=>False
  |_,_=>False
 |some (.int _),some .string=>match av with
  |.g (.a (.v (.int _ n)))=>K (.g (.a (.v (.string (EP n)))))
  |_=>False
 |_,_=>False
theorem zxc{M:Fr}{k:IntKind}:∀{ns:List Int} {cells:List Value},RowC M (.int k) ns cells->cells=ns.map (EX k)
 |ns,cells,H=>by
  apply AZ
  intro i
  have hl:cells.length=ns.length:=by rw[H.1];simp[sz]
  rw[Cc]
  by_cases hi:i<ns.length
  ·have:((cells.drop (i*1)).take 1)=[.int k ns[i]]:=H.2 i hi
   have e:cells[i]?=some (.int k ns[i]):=by
    have h2:((cells.drop (i*1)).take 1)[0]?=some (.int k ns[i]):=by rw[this];rfl
    rw[AC,if_pos (by omega),AE]at h2
    simpa using h2
   rw[e,Ai hi];rfl
  ·rw[Bj (by omega),Bj (by omega)];rfl
theorem zp6{s t:TypeId}{x:Operand}(ho:o.op=.convert s t x){av:AV}{K:AV->Prop}(H:zlh P s t av cs K)(I:Inv h0 W M0 cs γ h)(hd:DenV γ av (σ x)):
  ∃ac v,K ac/\DenV γ ac v/\QExec P (execOp σ o) h (.value v):=by
 have val:∀{v:Value},QExec P (convert s t (σ x)) h v->QExec P (execOp σ o) h (.value v):=λhq=>by
  simp only[execOp,ho];exact QExec.val hq
 unfold zlh at H
 split at H
 ·rename_i e hs ht
  split at H
  ·rename_i aa he
   split at H
   ·rename_i r hr
    split at H
    ·rename_i ns ai
     refine⟨_,.string (qbq ns),H,rfl,val λB d=>?_⟩
     obtain⟨sl,e1,hl,cells,Z,ae⟩:=zj2 I hr hd
     obtain⟨tt,xs⟩:=r
     obtain⟨e2,e3⟩:=Qs ai
     simp only at e2
     subst e2
     simp only at e3 hl Z
     subst e3
     have hc:=zxc Z
     subst hc
     have h1:=QExec.underlying (h:=h) hs B d
     have h2:=QExec.underlying (h:=h) ht B d
     have h3:=QExec.underlying (h:=h) he B d
     have O:(Conv.bytesToString (σ x)).run P (mk B d h)=.ok (.string (qbq ns)) (mk B d h):=by
      rw[e1]
      unfold slV
      rcases ae with ah|⟨b,o',e4,_,aj⟩
      ·have af:ns=[]:=by simpa using ah
       subst af
       simp only[Ef]at hl
       cases ha:sl.a with
       |none=>simp[Conv.bytesToString,qbq]
       |some p=>
        have:=run_bytesToString (P:=P) (mk B d h) p sl.len sl.cap [] (by rw[hl];simp[loadCells,loadCellsFrom])
        exact this
      ·rw[e4]
       refine run_bytesToString (mk B d h) ⟨b,o',none⟩ sl.len sl.cap ns ?_
       have:=Zy (P:=P) (h:=h) (n:=b+1) (sz:=1) (s:=sl) (cells:=ns.map (EX .u8)) (.inr ⟨b,o',e4,by omega,aj⟩) (by rw[hl];simp) (by omega) B d
       rw[e4]at this
       simpa[Cr]using this
     unfold convert
     rw[Sem.run_bind,h1]
     simp only[Result.andThen_ok]
     rw[Sem.run_bind,h2]
     simp only[Result.andThen_ok]
     rw[e1]at O ⊢
     unfold slV at O ⊢
     simp only[Sem.run_bind,h3,Result.andThen_ok]
     exact O
    ·exact H.elim
   ·exact H.elim
  ·exact H.elim
 ·rename_i k hs ht
  split at H
  ·rename_i k' n
   refine⟨_,.string (EP n),H,rfl,val λB d=>?_⟩
   have h1:=QExec.underlying (h:=h) hs B d
   have h2:=QExec.underlying (h:=h) ht B d
   have e:σ x=.int k' n:=hd
   unfold convert
   rw[Sem.run_bind,h1]
   simp only[Result.andThen_ok]
   rw[Sem.run_bind,h2,e]
   rfl
  ·exact H.elim
 ·exact H.elim
def z99:BinOp->Option Bool
 |.eql=>some true
 |.neq=>some false
 |_=>none
def qca(P:Program)(o:Oper)(ρ:Operand->Option AV)(cs:CS):Option (Bool×Nat):=match o.op with
 |.binOp op t x y _=>match z99 op,ρ x,ρ y with
  |some pol,some (.g (.a aa)),some (.g (.a (.v (.slice none 0 0))))=>match zsa cs aa,P.underlying t with
   |some ⟨ty,xs⟩,some (.slice _)=>bif Nat.blt 0 (sz ty)then some (pol,xs.length)else none
   |_,_=>none
  |_,_,_=>none
 |_=>none
theorem zli(op:BinOp)(t:TypeId)(x y:Operand)(a b:Option Addr)(l c l' c':Nat)(w:World):(eqGuard op t x y (.slice a l c) (.slice b l' c')).run P w=.ok () w:=by
 unfold eqGuard;cases op <;> rfl
theorem z5y{ρ:Operand->Option AV}{ae:Bool}(hn:qca P o ρ (C++R)=some (ae,n)){K:AV->CS->Option Nat->Prop}(H:∀b:Bool,(b=true->n=0)->K (.g (.a (.v (.bool (bif ae then b else !b))))) C none)
  (I:Inv h0 W M0 (C++R) γ h) (hρ:∀x av,ρ x=some av->DenV γ av (σ x)):ExA P (execOp σ o) h (zdo h0 W M0 R γ K):=by
 unfold qca at hn
 split at hn
 ·rename_i op t x y yt ho
  split at hn
  ·rename_i ah aa O hx hy
   split at hn
   ·rename_i ty xs e hr hu
    cases hz:Nat.blt 0 (sz ty)with
    |false=>rw[hz]at hn;cases hn
    |true=>
     rw[hz]at hn
     simp only[cond_true,Aa,BA]at hn
     obtain⟨rfl,rfl⟩:=hn
     have ai:0<sz ty:=by simpa[Cz]using hz
     obtain⟨s,e1,hl,cells,af,ac⟩:=zj2 I hr (hρ _ _ hx)
     have e2:σ y=.slice none 0 0:=hρ _ _ hy
     have Z:s.a.isNone=true->xs.length=0:=by
      intro hs
      have hc:cells=[]:=by
       rcases ac with hc|⟨b,o,ha,_⟩
       ·exact hc
       ·rw[ha]at hs;cases hs
      have:=af.1
      rw[hc]at this
      simp only[Ef]at this
      rcases Nat.mul_eq_zero.1 this.symm with h1|h1
      ·exact h1
      ·omega
     have hK:=H s.a.isNone Z
     intro B d
     refine .inl ⟨_,d,h,?_,_,C,none,γ,hK,rfl,I,Gx.refl _ _⟩
     simp only[execOp,ho]
     refine Yq ?_
     rw[e1,e2]
     simp only[slV]
     rw[Sem.run_bind,zli]
     simp only[Result.andThen_ok]
     cases op <;> simp only[z99,Aa]at O <;> (try (cases O;done)) <;> subst O
     ·simp only[binOp,Sem.run_bind,run_equal_slice_nil _ t _ _ _ _ hu];rfl
     ·simp only[binOp,Sem.run_bind,run_equal_slice_nil _ t _ _ _ _ hu];rfl
   ·cases hn
  ·cases hn
 ·cases hn
def hA0(P:Program)(gl:Fr)(tr:TypeId)(o:Oper)(ρ:Operand->Option AV)(C R:CS)(K:AV->CS->Option Nat->Prop):Prop:=
 match o.op with
 |.alloc t=>match o.dst with
  |some d=>zw4 P t d C R K
  |none=>False
 |.box t x=>match o.dst,ρ x with
  |some d,some av=>match zum av with
   |some l=>qb7 t d l C R K
   |none=>False
  |_,_=>False
 |.store t a x=>match ρ a,ρ x with
  |some (.g (.a aa)),some xv=>match zum xv with
   |some l2=>zw8 P t aa l2 C R K
   |none=>False
  |_,_=>False
 |.buildSlice t n parts=>match o.dst,zcb ρ parts.toList with
  |some d,some ps=>za5 P tr t n ps d C R K
  |_,_=>False
 |.convert s t x=>bif isQ P o then qA P gl o ρ none (C++R) (λav=>K av C none)else(match ρ x with
  |some av=>zlh P s t av (C++R) λO=>K O C none
  |none=>False)
 |.call c=>match c.callee with
  |.builtin .append=>match c.args.toList,c.argTypes.toList,o.dst with
   |[s,x],[t,tx],some d=>match ρ s,ρ x with
    |some bv,some sv=>zdr P tr t tx bv sv d C R K
    |_,_=>False
   |_,_,_=>False
  |.builtin _=>qA P gl o ρ none (C++R) λav=>K av C none
  |_=>z5v P gl tr o ρ C R λav C'=>K av C' none
 |.range t x=>match o.dst,ρ x with
  |some d,some av=>zxa P t av d C R K
  |_,_=>False
 |.next x true=>match ρ x with
  |some av=>z5x av C R K
  |none=>False
 |_=>qA P gl o ρ none (C++R) λav=>K av C none
theorem toList_eq{α:Type}{x:Array α}{l:List α}(h:x.toList=l):x=l.toArray:=by
 have:=congrArg List.toArray h;simpa using this
theorem qaa(Z:Fr.le gl M0){ρ:Operand->Option AV}{K:AV->CS->Option Nat->Prop}(H:hA0 P gl tr o ρ C R K)(I:Inv h0 W M0 (C++R) γ h)
  (hσ:∀f,σ (.func f)=.func (.func f) #[] #[]) (hρ:∀x av,ρ x=some av->DenV γ av (σ x)):ExA P (execOp σ o) h (zdo h0 W M0 R γ K):=by
 unfold hA0 at H
 split at H
 ·rename_i t ho
  split at H
  ·exact zw5 ho H I
  ·exact H.elim
 ·rename_i t x ho
  split at H
  ·rename_i d av hd O
   split at H
   ·rename_i l hl
    exact z5w ho H I (zb9 hl (hρ _ _ O))
   ·exact H.elim
  ·exact H.elim
 ·rename_i t a x ho
  split at H
  ·rename_i aa xv ha hx
   split at H
   ·rename_i l hl
    exact zw9 ho H I (zb9 hl (hρ _ _ hx)) (hρ _ _ ha)
   ·exact H.elim
  ·exact H.elim
 ·rename_i t n parts ho
  split at H
  ·rename_i d ps hd af
   exact zil ho af H I hρ
  ·exact H.elim
 ·rename_i s t x ho
  cases hq:isQ P o with
  |true=>rw[hq]at H;exact z5t Z H I hρ
  |false=>
   rw[hq]at H
   simp only[cond_false]at H
   split at H
   ·rename_i av O
    obtain⟨ai,v,h1,h2,h3⟩:=zp6 ho H I (hρ _ _ O)
    exact λB d=>.inl ⟨v,d,h,h3 B d,ai,C,none,γ,h1,h2,I,Gx.refl _ _⟩
   ·exact H.elim
 ·rename_i c ho
  split at H
  ·rename_i hc
   split at H
   ·rename_i s x t tx d ac ae hd
    split at H
    ·rename_i bv sv hs hx
     have ah:=zuq (ty':=o.type) H I (hρ _ _ hs) (hρ _ _ hx)
     intro B e
     obtain⟨v,d',h',r,hp⟩:=ah B e
     refine .inl ⟨v,d',h',?_,hp⟩
     have ee:execOp σ o=(Ax c.argTypes o.type (c.args.map σ) >>= λx=>(Dl (D2 x):Sem Next)):=by
      simp only[execOp,ho,resolve,hc]
      rfl
     rw[ee,toList_eq ac,toList_eq ae]
     refine Yq ?_
     simpa using r
    ·exact H.elim
   ·exact H.elim
  ·exact z5t Z H I hρ
  ·exact z1m Z H I hσ hρ
 ·rename_i t x ho
  split at H
  ·rename_i d av hd O
   exact zxb ho H I (hρ _ _ O)
  ·exact H.elim
 ·rename_i x ho
  split at H
  ·rename_i av O
   exact z1n ho H I (hρ _ _ O)
  ·exact H.elim
 ·exact z5t Z H I hρ
def hA(P:Program)(gl:Fr)(tr:TypeId)(o:Oper)(ρ:Operand->Option AV)(C R:CS)(K:AV->CS->Option Nat->Prop):Prop:=match qca P o ρ (C++R)with
 |some (pol,n)=>∀b:Bool,(b=true->n=0)->K (.g (.a (.v (.bool (bif pol then b else !b))))) C none
 |none=>hA0 P gl tr o ρ C R K
theorem qcb(O:Fr.le gl M0){ρ:Operand->Option AV}{K:AV->CS->Option Nat->Prop}(H:hA P gl tr o ρ C R K)(I:Inv h0 W M0 (C++R) γ h)
  (hσ:∀f,σ (.func f)=.func (.func f) #[] #[]) (hρ:∀x av,ρ x=some av->DenV γ av (σ x)):ExA P (execOp σ o) h (zdo h0 W M0 R γ K):=by
 unfold hA at H
 split at H
 ·rename_i Z n hn
  exact z5y hn H I hρ
 ·exact qaa O H I hσ hρ
def orA:Option AV->Option AV->Option AV
 |some v,_=>some v
 |none,w=>w
def qcc(b:Bool)(x y:AV):Option AV:=match exV x,exV y with
 |some u,some v=>some (zuj (zwc b u v))
 |_,_=>match x,y with
  |.g (.a (.d t xs)),.g (.a (.d t' ys))=>match Q5 t' t ys with
   |some ys=>some (.g (.a (.d t (bif b then xs else ys))))
   |none=>none
  |_,_=>none
theorem z1o{b:Bool}{x y z:AV}(h:qcc b x y=some z){u v:Value}(hx:b=true->DenV γ x u)(hy:b=false->DenV γ y v):DenV γ z (if b=true then u else v):=by
 unfold qcc at h
 split at h
 ·rename_i p q hp hq
  simp only[Aa]at h
  subst h
  have e:(if b=true then u else v)=zwc b p q:=by
   rw[zrv]
   cases b with
   |true=>simp only[if_true];exact zp1 hp (hx rfl)
   |false=>simp only[A0,if_false];exact zp1 hq (hy rfl)
  rw[e];exact Yz γ _
 ·split at h
  ·rename_i t xs t' ys _
   split at h
   ·rename_i O hc
    simp only[Aa]at h
    subst h
    cases b with
    |true=>exact hx rfl
    |false=>exact Jq hc (hy rfl)
   ·cases h
  ·cases h
def z1p(e:qw)(c:qb)(x a b:Operand)(K:AV->Prop):Prop:=
 match x with
 |.tmp s=>match zlb e s with
  |some (cs,v)=>match zuk v with
   |some t=>bif suf cs c then(match orA (zgi e c a) (zgi e ((s,true)::cs) a),orA (zgi e c b) (zgi e ((s,false)::cs) b)with
    |some va,some vb=>match qcc t va vb with
     |some z=>K z
     |none=>False
    |_,_=>False)else False
   |none=>False
  |none=>False
 |_=>False
theorem Jv{e:qw}{x a b:Operand}{K:AV->Prop}(H:z1p e c x a b K):
  ∃z,K z/\∀(n:Nat) (γ:Gh) (O:Act),SatA n e γ O->valid (zu O) c->∃t,O.eval x=.bool t/\DenV γ z (if t=true then O.eval a else O.eval b):=by
 unfold z1p at H
 split at H
 ·rename_i s
  split at H
  ·rename_i cs v hl
   split at H
   ·rename_i t ht
    cases hsf:suf cs c with
    |false=>rw[hsf]at H;exact H.elim
    |true=>
     rw[hsf]at H
     simp only[cond_true]at H
     split at H
     ·rename_i va vb ha hb
      split at H
      ·rename_i z hz
       refine⟨z,H,λn γ O hs hv=>?_⟩
       have Z:=Yp hsf hv
       have hx:zu O s=.bool t:=zgj ht ((hs.all _ (Zv hl)).1 Z)
       refine⟨t,hx,z1o hz (λaa=>?_) (λac=>?_)⟩
       ·unfold orA at ha
        split at ha
        ·rename_i w _ h1
         simp only[Aa]at ha;subst ha
         exact qa hs hv h1
        ·exact qa hs (c:=(s,true)::cs) ⟨by rw[hx,aa],Z⟩ ha
       ·unfold orA at hb
        split at hb
        ·rename_i w _ h1
         simp only[Aa]at hb;subst hb
         exact qa hs hv h1
        ·exact qa hs (c:=(s,false)::cs) ⟨by rw[hx,ac],Z⟩ hb
      ·exact H.elim
     ·exact H.elim
   ·exact H.elim
  ·exact H.elim
 ·exact H.elim
def opA(P:Program)(gl:Fr)(tr:TypeId)(o:Oper)(e:qw)(c:qb)(C R:CS)(K:AV->CS->Option Nat->Prop):Prop:=
 match o.op with
 |.pick x a b=>z1p e c x a b λav=>K av C none
 |_=>match Jr e c with
  |some none=>hA P gl tr o (zgi e c) C R K
  |some (some b)=>bif zf8 o then zuo P gl tr o (zgi e c) b (C++R) (λav=>K av C none)else qA P gl o (zgi e c) (some b) (C++R) (λav=>K av C none)
  |none=>False
theorem z5z(O:Fr.le gl M0){e:qw}{K:AV->CS->Option Nat->Prop}(H:opA P gl tr o e c C R K)(hs:SatA n e γ a)(I:Inv h0 W M0 (C++R) γ h)(hv:valid (zu a) c):
  ExA P (execOp a.eval o) h (zdo h0 W M0 R γ K):=by
 have hσ:∀f,a.eval (.func f)=.func (.func f) #[] #[]:=λ_=>rfl
 have hρ:∀x av,zgi e c x=some av->DenV γ av (a.eval x):=λx av hx=>qa hs hv hx
 unfold opA at H
 split at H
 ·rename_i x y z ho
  obtain⟨av,h1,h2⟩:=Jv H
  obtain⟨t,h3,h4⟩:=h2 n γ a hs hv
  refine λB d=>.inl ⟨_,d,h,?_,av,C,none,γ,h1,h4,I,Gx.refl _ _⟩
  simp only[execOp,ho,h3,asBool,Sem.run_bind,Sem.run_pure,Result.andThen_ok]
 ·split at H
  ·exact qcb O H I hσ hρ
  ·rename_i b hb
   have hg:=xt hs hb hv
   cases hic:zf8 o with
   |true=>
    rw[hic]at H
    simp only[cond_true]at H
    obtain⟨f,args,h1,h2⟩:=(za2 (h0:=h0) (W:=W) (M0:=M0) H).2 hg O γ h a.eval I hσ hρ
    refine λB d=>.inr (.inr ⟨f,args,h1 _,h2.mono ?_⟩)
    rintro v h' ⟨av,γ',g1,g2,g3,g4,_⟩
    exact⟨av,C,none,γ',g1,g2,g3,g4⟩
   |false=>
    rw[hic]at H
    simp only[cond_false]at H
    obtain⟨av,h1,h2⟩:=zfl (h0:=h0) (W:=W) (M0:=M0) O H
    obtain⟨v,hd,hq⟩:=h2 hg γ h a.eval I hρ
    exact λB d=>.inl ⟨v,d,h,hq B d,av,C,none,γ,h1,hd,I,Gx.refl _ _⟩
  ·exact H.elim
theorem qab{e:qw}{K:AV->CS->Option Nat->Prop}(H:opA P gl tr o e c C R K)(hs:SatA n e γ a)(hv:¬valid (zu a) c):∃av,K av C none:=by
 unfold opA at H
 split at H
 ·obtain⟨av,h1,_⟩:=Jv H
  exact⟨av,h1⟩
 ·split at H
  ·rename_i hg
   have:=zaz hs hg hv
   cases this
  ·rename_i b hb
   have O:=zaz hs hb hv
   simp only[Aa]at O
   cases hic:zf8 o with
   |true=>rw[hic]at H;simp only[cond_true]at H;exact(za2 (h0:=#[]) (W:=λ_=>False) (M0:=λ_=>none) H).1 O
   |false=>
    rw[hic]at H
    simp only[cond_false]at H
    obtain⟨av,h1,_⟩:=zfl (h0:=#[]) (W:=λ_=>False) (M0:=gl) (Fr.le.refl _) H
    exact⟨av,h1⟩
  ·exact H.elim
def GxS(S:List Nat)(γ γ':Gh):Prop:=Fr.le γ.M γ'.M/\∀i,i∉S->γ'.β i=γ.β i/\γ'.σ i=γ.σ i
theorem GxS.refl(S:List Nat)(γ:Gh):GxS S γ γ:=⟨Fr.le.refl _,λ_ _=>⟨rfl,rfl⟩⟩
theorem GxS.trans{a b c:Gh}(h:GxS S a b)(k:GxS S b c):GxS S a c:=⟨h.1.trans k.1,λi hi=>⟨(k.2 i hi).1.trans (h.2 i hi).1,(k.2 i hi).2.trans (h.2 i hi).2⟩⟩
theorem GxS.mono{S S':List Nat}{a b:Gh}(h:GxS S a b)(hs:∀x∈S,x∈S'):GxS S' a b:=⟨h.1,λi hi=>h.2 i λhm=>hi (hs i hm)⟩
def qbr(c:Option Nat)(d:Option Nat):Bool:=match c,d with
 |none,_=>true
 |some x,some y=>Nat.beq x y
 |some _,none=>false
theorem Gx.toS{c d:Option Nat}{γ γ':Gh}(g:Gx c γ γ')(h:qbr c d=true)(hS:∀i,d=some i->i∈S):GxS S γ γ':=by
 refine⟨g.1,λi hi=>g.2 i λe=>?_⟩
 subst e
 cases d with
 |none=>cases h
 |some y=>
  have:i=y:=Ag h
  subst this
  exact hi (hS _ rfl)
def wRA(P:Program)(gl:Fr)(tr:TypeId)(n:Nat)(ops:Array Oper)(R:CS)(K:qw->CS->Prop):List Oper->qw->CS->Prop
 |[],e,C=>K (zeo e) C
 |o::rest,e,C=>match Ye ops e o.guard with
  |some c=>bif yc n c o.dst then opA P gl tr o e c C R (λav C' i=>bif qbr i o.dst then wRA P gl tr n ops R K rest (z1f (zr4 i e) o.dst c av) C' else False)else False
  |none=>False
theorem zcg{P:Program}{gl:Fr}(ae:Fr.le gl M0){tr:TypeId}{n:Nat}{ops:Array Oper}{R:CS}{K:qw->CS->Prop}{Q:Exit->Act->World->Prop}(B:World):
  ∀(l:List Oper) (e:qw) (C:CS) (γ:Gh) (h:zb) (a:Act) (d:Nat),wRA P gl tr n ops R K l e C->SatA n e γ a->Inv h0 W M0 (C++R) γ h ->
   (∀e' C' γ' a' d' h',SatA n e' γ' a'->Inv h0 W M0 (C'++R) γ' h'->Same (yx l) a a'->GxS (yx l) γ γ'->K e' C'->Q .normal a' (mk B d' h'))->wpList P ops Q l a (mk B d h)
 |[],e,C,γ,h,a,d,H,hs,I,hQ=>hQ _ _ _ _ _ _ hs.clean I (Same.refl _ _) (GxS.refl _ _) H
 |o::rest,e,C,γ,h,a,d,H,hs,I,hQ=>by
  unfold wRA at H
  split at H
  ·rename_i c hc
   cases hd:yc n c o.dst with
   |false=>rw[hd]at H;exact H.elim
   |true=>
    rw[hd]at H
    simp only[cond_true]at H
    have hw:=x9 hs hc
    have aa:∀i,o.dst=some i->i∈yx (o::rest):=λi hi=>by simp[yx,hi]
    have O:∀x∈yx rest,x∈yx (o::rest):=λx hx=>by
     unfold yx
     split
     ·exact Af _ hx
     ·exact hx
    have Z:∀av u d' h' C' i γ',(valid (zu a) c->DenV γ' av u)->(¬valid (zu a) c->u=undef)->Inv h0 W M0 (C'++R) γ' h'->Gx i γ γ'->(bif qbr i o.dst then wRA P gl tr n ops R K rest (z1f (zr4 i e) o.dst c av) C' else False) ->
      wpList P ops Q rest (a.put o.dst u) (mk B d' h'):=λav u d' h' C' i γ' h1 h2 I' g h3=>by
     cases hid:qbr i o.dst with
     |false=>rw[hid]at h3;exact h3.elim
     |true=>
      rw[hid]at h3
      exact zcg ae B rest _ _ _ _ _ _ h3 ((hs.gx g).putO hd h1 h2) I' λe' aj af a' ah ai q1 q2 q3 q4 q5=>
       hQ e' aj af a' ah ai q1 q2 ((Same.put a o.dst u aa).trans (q3.mono O)) ((g.toS hid aa).trans (q4.mono O)) q5
    unfold wpList
    by_cases hv:valid (zu a) c
    ·rw[if_pos (hw.2 hv)]
     refine .inl ((z5z ae H hs I hv).upon B d ?_)
     rintro v d' h' ⟨av,C',i,γ',g1,g2,g3,g4⟩
     exact Z av v d' h' C' i γ' (λ_=>g2) (λac=>absurd hv ac) g3 g4 g1
    ·rw[if_neg (λhx=>hv (hw.1 hx))]
     obtain⟨av,hK⟩:=qab H hs hv
     exact Z av undef d h C none γ (λac=>absurd ac hv) (λ_=>rfl) I (Gx.refl _ _) hK
  ·exact H.elim
end
section
variable {cs C R:CS} {γ:Gh} {h:zb} {i:Nat} {e:TypeId} {t:Ty}
variable {h0 : zb} {W : Nat -> Prop} {M0 : Fr}
inductive Shp where
 |dat (t:Ty)
 |own (e:TypeId) (t:Ty)
 deriving DecidableEq
@[reducible] def DS:Shp->Type
 |.dat t=>El t
 |.own _ t=>List (El t)
inductive SG where
 |one (s:Shp)
 |agg (l:List Shp)
structure AnnA where
 slots:List (Nat×SG)
 boxes:List (Nat×List Shp)
 ro:List Nat
 ids:List Nat
abbrev Dy:=(s:Shp)×DS s
@[reducible] def zur:List Shp->Type->Type
 |[],X=>X
 |s::l,X=>DS s->zur l X
def z6a(s s':Shp)(x:DS s):Option (DS s'):=if h:s=s' then some (h ▸ x)else none
def zxd{X:Type}:(l:List Shp)->zur l X->(List Dy->X->Prop)->Prop
 |[],f,k=>k [] f
 |s::l,f,k=>∀x:DS s,zxd l (f x) λvs y=>k (⟨s,x⟩::vs) y
def zez{X:Type}:(l:List Shp)->List Dy->zur l X->Option X
 |[],[],f=>some f
 |s::l,d::ds,f=>match z6a d.1 s d.2 with
  |some x=>zez l ds (f x)
  |none=>none
 |_,_,_=>none
def qac{X:Type}:(l:List Shp)->(List Dy->X)->zur l X
 |[],f=>f []
 |s::l,f=>λx=>qac l λvs=>f (⟨s,x⟩::vs)
def zoa{X Y:Type}:(l:List Shp)->zur l X->zur l Y->zur l (X×Y)
 |[],f,g=>(f,g)
 |_::l,f,g=>λx=>zoa l (f x) (g x)
theorem zsb{s s':Shp}{x:DS s}{y:DS s'}(h:z6a s s' x=some y):(⟨s',y⟩:Dy)=⟨s,x⟩:=by
 unfold z6a at h
 split at h
 ·rename_i e
  subst e
  have h:=Au h
  rw[<-h]
 ·cases h
theorem zj3{X:Type}:∀{l:List Shp} {vs:List Dy} {f:zur l X} {x:X} {k:List Dy->X->Prop},zez l vs f=some x->zxd l f k->k vs x
 |[],[],f,x,k,h,g=>by have h:=Au h;subst h;exact g
 |[],_::_,f,x,k,h,g=>by simp[zez]at h
 |_::_,[],f,x,k,h,g=>by simp[zez]at h
 |s::l,d::ds,f,x,k,h,g=>by
  simp only[zez]at h
  split at h
  ·rename_i y hy
   have:=zj3 h (g y)
   rw[zsb hy]at this
   exact this
  ·cases h
theorem zob{X:Type}:∀{l:List Shp} {vs:List Dy} {f:List Dy->X} {x:X},zez l vs (qac l f)=some x->x=f vs
 |[],[],f,x,h=>(Au h).symm
 |[],_::_,f,x,h=>by simp[zez]at h
 |_::_,[],f,x,h=>by simp[zez]at h
 |s::l,d::ds,f,x,h=>by
  simp only[zez,qac]at h
  split at h
  ·rename_i y hy
   have:=zob h
   rw[zsb hy]at this
   exact this
  ·cases h
theorem zoc{X:Type}:∀{l:List Shp} {f:List Dy->X} {k:List Dy->X->Prop},(∀vs,k vs (f vs))->zxd l (qac l f) k
 |[],_,_,h=>h []
 |_::_,_,_,h=>λ_=>zoc λ_=>h _
structure Pl where
 id:Nat
 s:Shp
 a:AA
def plL(base:Nat):List Shp->List AA->Option (List Pl)
 |[],[]=>some []
 |s::ss,a::as=>match plL (base+1) ss as with
  |some l=>some (⟨base,s,a⟩::l)
  |none=>none
 |_,_=>none
def zgr(e:qw):List (Nat×SG)->Option (List Pl)
 |[]=>some []
 |(i,sg)::l=>match zlb e i,zgr e l with
  |some ([],.g x),some r=>match sg,x with
   |.one s,.a a=>some (⟨100000+64*i,s,a⟩::r)
   |.agg ss,.agg as=>match plL (100000+64*i) ss as with
    |some q=>some (q++r)
    |none=>none
   |_,_=>none
  |_,_=>none
def zgs(C:CS):List (Nat×List Shp)->Option (List Pl)
 |[]=>some []
 |(c,ss)::l=>match Yx C c,zgs C l with
  |some (.box as),some r=>match plL (1000000+64*c) ss as with
   |some q=>some (q++r)
   |none=>none
  |_,_=>none
def qad:SG->List Shp
 |.one s=>[s]
 |.agg l=>l
def zsc:List (Nat×SG)->List Shp
 |[]=>[]
 |(_,sg)::l=>qad sg++zsc l
def zxe:List (Nat×List Shp)->List Shp
 |[]=>[]
 |(_,ss)::l=>ss++zxe l
def za6(J:AnnA):List Shp:=zsc J.slots++zxe J.boxes
def zus:List Pl->List Nat
 |[]=>[]
 |⟨_,.dat _,.own c⟩::l=>c::zus l
 |_::l=>zus l
def qae(c:Nat):List Pl->Bool
 |[]=>false
 |p::l=>bif (bif Nat.beq p.id c then true else zug c p.a)then true else qae c l
def zlj(R:CS):List Pl->CS->Option CS
 |[],C=>some C
 |p::l,C=>match p.s with
  |.dat _=>zlj R l C
  |.own e t=>bif qae p.id l then none else(match p.a with
   |.own c=>match Yx C c with
    |some (.row e' t' xs)=>match Q5 (.row t') (.row t) xs with
     |some ys=>bif Nat.beq e e' then(bif Nat.beq c p.id then zlj R l C else(bif j3 p.id R then zlj R l ((p.id,.row e t ys)::yv p.id (zie c C))else none))else none
     |none=>none
    |_=>none
   |.v (.slice none 0 0)=>bif j3 p.id R then zlj R l ((p.id,.row e t [])::yv p.id C)else none
   |_=>none)
theorem zj4(I:Inv h0 W M0 cs γ h){x y:Nat×Ch}(hx:x∈cs)(hy:y∈cs)(Z:x≠y):∀b,blk γ x.1 x.2=some b->blk γ y.1 y.2≠some b:=
 @zb7 _ (λ(x y:Nat×Ch)=>∀b,blk γ x.1 x.2=some b->blk γ y.1 y.2≠some b) (λx y h b hb O=>h b O hb) _ I.apart _ _ hx hy Z
theorem Inv.rename(I:Inv h0 W M0 (C++R) γ h){c i:Nat}(hR:j3 i R=true){xs:List (El t)}(hc:(c,Ch.row e t xs)∈C):
  Inv h0 W M0 ((i,.row e t xs)::yv i (zie c C)++R) (zp0 γ i (γ.σ c)) h:=by
 have Z:(yv i (zie c C)++R).Sublist (C++R):=(((wl i _).trans (x8 c C))).append_right R
 have O:(c,Ch.row e t xs)∈C++R:=Ao R hc
 have af:∀x∈yv i (zie c C)++R,∀b,blk γ c (.row e t xs)=some b->blk γ x.1 x.2≠some b:=by
  intro x hx b hb ae
  have ac:x≠(c,Ch.row e t xs):=by
   rintro rfl
   rcases An.1 hx with hx|hx
   ·exact(Yd ((wl i _).subset hx)).2 rfl
   ·have aa:=I.apart
    rw[Cu]at aa
    exact aa.2.2 _ hc _ hx b hb hb
  exact zj4 I (Z.subset hx) O ac b ae hb
 have hI:Inv h0 W M0 (yv i (zie c C)++R) (zp0 γ i (γ.σ c)) h:=
  I.rest Z (Z6 γ i _) (zay hR) (λx hx b hb=>⟨rfl,(I.sep x (Z.subset hx) b hb).2⟩) I.ag (λ_ _ _=>rfl) (Ae _) (λ_ _=>rfl)
 obtain⟨cells,h1,h2,h3,h4⟩:=I.den _ O
 have eb:∀b,blk (zp0 γ i (γ.σ c)) i (.row e t xs)=some b->blk γ c (.row e t xs)=some b:=λb hb=>by simpa[blk,yg]using hb
 refine hI.cons ⟨cells,by rw[yg];exact h1,h2,h3,by rw[yg];exact h4⟩ (λb hb=>I.sep _ O b (eb b hb)) (λb hb x hx e'=>?_)
 rw[zjw (Z6 γ i _) _ (zay hR x hx).1]at e'
 exact af x hx b (eb b hb) e'
theorem Inv.nilRow(I:Inv h0 W M0 (C++R) γ h)(hR:j3 i R=true)(e:TypeId)(t:Ty):
  Inv h0 W M0 ((i,.row e t [])::yv i C++R) (zp0 γ i ⟨none,0,0⟩) h:=by
 have O:=(wl i C).append_right R
 have hI:Inv h0 W M0 (yv i C++R) (zp0 γ i ⟨none,0,0⟩) h:=
  I.rest O (Z6 γ i _) (zay hR) (λx hx b hb=>⟨rfl,(I.sep x (O.subset hx) b hb).2⟩) I.ag (λ_ _ _=>rfl) (Ae _) (λ_ _=>rfl)
 refine hI.cons ⟨[],by rw[yg];exact Owns.nil _ _ _ _,RowC.nil _ _,by simp,by rw[yg];rfl⟩ (λb hb=>by simp[blk,yg]at hb) (λb hb=>by simp[blk,yg]at hb)
theorem zsd{c:Nat}:∀{l:List Pl},qae c l=false->∀p∈l,p.id≠c/\zug c p.a=false
 |[],_,p,hp=>by cases hp
 |q::l,h,p,hp=>by
  simp only[qae]at h
  cases hq:(bif Nat.beq q.id c then true else zug c q.a)with
  |true=>rw[hq]at h;cases h
  |false=>
   rw[hq]at h
   rcases Ad.1 hp with rfl|hp
   ·cases hb:Nat.beq p.id c with
    |true=>rw[hb]at hq;cases hq
    |false=>rw[hb]at hq;exact⟨λe=>by rw[e]at hb;simp at hb,hq⟩
   ·exact zsd h p hp
def zut:List Pl->List Nat
 |[]=>[]
 |p::l=>p.id::zut l
theorem za7{R:CS}{h:zb}:∀{l:List Pl} {C C1:CS} {γ:Gh},zlj R l C=some C1->Inv h0 W M0 (C++R) γ h ->
  ∃γ1,Inv h0 W M0 (C1++R) γ1 h/\GxS (zut l) γ γ1/\(γ1.M=γ.M/\γ1.β=γ.β)/\∀p∈l,∀e t,p.s=.own e t->∀u,DenA γ p.a u->DenA γ1 (.own p.id) u
 |[],C,C1,γ,hn,I=>by
  simp only[zlj,Aa]at hn
  subst hn
  exact⟨γ,I,GxS.refl _ _,⟨rfl,rfl⟩,λp hp=>by cases hp⟩
 |p::l,C,C1,γ,hn,I=>by
  have tl:∀{S:List Nat} {a b:Gh},GxS (zut l) a b->GxS (zut (p::l)) a b:=λg=>g.mono λx hx=>Af _ hx
  have O:∀s,GxS (zut (p::l)) γ (zp0 γ p.id s):=λs=>⟨Fr.le.refl _,λi hi=>(Z6 γ p.id s).2 i (by
   simp only[zut,Ad,not_or]at hi;intro e;simp only[Aa]at e;exact hi.1 e.symm)⟩
  simp only[zlj]at hn
  split at hn
  ·rename_i t hs
   obtain⟨γ1,I1,g1,m1,h1⟩:=za7 hn I
   exact⟨γ1,I1,tl (S:=[]) g1,m1,λq hq e t' Z=>by
    rcases Ad.1 hq with rfl|hq
    ·rw[hs]at Z;cases Z
    ·exact h1 q hq e t' Z⟩
  ·rename_i e t hs
   cases hm:qae p.id l with
   |true=>rw[hm]at hn;cases hn
   |false=>
    rw[hm]at hn
    simp only[cond_false]at hn
    have af:=zsd hm
    have aa:∀{C2:CS} {γ2:Gh},zlj R l C2=some C1->Inv h0 W M0 (C2++R) γ2 h->GxS (zut (p::l)) γ γ2->(γ2.M=γ.M/\γ2.β=γ.β)->(∀i,i≠p.id->γ2.σ i=γ.σ i/\γ2.β i=γ.β i)->(∀u,DenA γ p.a u->DenA γ2 (.own p.id) u) ->
      ∃γ1,Inv h0 W M0 (C1++R) γ1 h/\GxS (zut (p::l)) γ γ1/\(γ1.M=γ.M/\γ1.β=γ.β)/\∀q∈p::l,∀e t,q.s=.own e t->∀u,DenA γ q.a u->DenA γ1 (.own q.id) u:=by
     intro C2 γ2 ah I2 g2 m2 ae ak
     obtain⟨γ1,I1,g1,m1,h1⟩:=za7 ah I2
     refine⟨γ1,I1,g2.trans (tl (S:=[]) g1),⟨m1.1.trans m2.1,m1.2.trans m2.2⟩,λq hq e' t' Z u hu=>?_⟩
     rcases Ad.1 hq with rfl|hq
     ·have h2:=ak u hu
      have ai:q.id∉zut l:=by
       intro hi
       have:∀{l:List Pl},q.id∈zut l->∃p∈l,p.id=q.id:=by
        intro l
        induction l with
        |nil=>intro h;cases h
        |cons x l ih=>
         intro h
         simp only[zut,Ad]at h
         rcases h with h|h
         ·exact⟨x,Aq,h.symm⟩
         ·obtain⟨y,hy,e⟩:=ih h;exact⟨y,Af _ hy,e⟩
       obtain⟨y,hy,e⟩:=this hi
       exact(af y hy).1 e
      rw[show u=_ from h2]
      simp only[DenA,(g1.2 _ ai).2]
     ·refine h1 q hq e' t' Z u ?_
      have gx:Gx (some p.id) γ γ2:=⟨by rw[m2.1];exact Fr.le.refl _,λi hi=>by
       have:=ae i (λe=>hi (by rw[e]))
       exact⟨this.2,this.1⟩⟩
      exact hu.gx gx (af q hq).2
    split at hn
    ·rename_i c ha
     split at hn
     ·rename_i e' t' xs hc
      split at hn
      ·rename_i ys ac
       obtain⟨e1,e2⟩:=Qs ac
       subst e1
       simp only at e2
       subst e2
       cases hee:Nat.beq e e' with
       |false=>rw[hee]at hn;cases hn
       |true=>
        rw[hee]at hn
        have:=Ag hee
        subst this
        simp only[cond_true]at hn
        cases hci:Nat.beq c p.id with
        |true=>
         rw[hci]at hn
         simp only[cond_true]at hn
         have aj:=Ag hci
         exact aa hn I (GxS.refl _ _) ⟨rfl,rfl⟩ (λ_ _=>⟨rfl,rfl⟩) (λu hu=>by rw[ha,aj]at hu;exact hu)
        |false=>
         rw[hci]at hn
         simp only[cond_false]at hn
         cases hR:j3 p.id R with
         |false=>rw[hR]at hn;cases hn
         |true=>
          rw[hR]at hn
          simp only[cond_true]at hn
          refine aa hn (I.rename hR (qe hc)) (O _) ⟨rfl,rfl⟩ (λi hi=>?_) (λu hu=>?_)
          ·have:=(Z6 γ p.id (γ.σ c)).2 i (by simp;exact λe=>hi e.symm)
           exact⟨this.2,this.1⟩
          ·rw[ha]at hu
           rw[show u=_ from hu]
           simp only[DenA,yg]
      ·cases hn
     ·cases hn
    ·rename_i ha
     cases hR:j3 p.id R with
     |false=>rw[hR]at hn;cases hn
     |true=>
      rw[hR]at hn
      simp only[cond_true]at hn
      refine aa hn (I.nilRow hR e t) (O _) ⟨rfl,rfl⟩ (λi hi=>?_) (λu hu=>?_)
      ·have:=(Z6 γ p.id ⟨none,0,0⟩).2 i (by simp;exact λe=>hi e.symm)
       exact⟨this.2,this.1⟩
      ·rw[ha]at hu
       rw[show u=_ from hu]
       simp only[DenA,yg]
       rfl
    ·cases hn
def qaf(cs0 cs:CS)(p:Pl):Option Dy:=match p.s with
 |.dat t=>match zik cs0 t p.a with
  |some x=>some ⟨.dat t,x⟩
  |none=>none
 |.own e t=>match Yx cs p.id with
  |some (.row e' t' xs)=>match Q5 (.row t') (.row t) xs with
   |some ys=>bif Nat.beq e e' then some ⟨.own e t,ys⟩else none
   |none=>none
  |_=>none
def zuu(cs0 cs:CS):List Pl->Option (List Dy)
 |[]=>some []
 |p::l=>match qaf cs0 cs p,zuu cs0 cs l with
  |some d,some v=>some (d::v)
  |_,_=>none
def qbs(i:Nat):Dy->AA
 |⟨.dat t,x⟩=>match Yw t x with
  |[a]=>a
  |_=>.v undef
 |⟨.own _ _,_⟩=>.own i
def qbt:Nat->List Dy->List AA
 |_,[]=>[]
 |i,d::l=>qbs i d::qbt (i+1) l
def z9k(i:Nat):Dy->CS
 |⟨.own e t,xs⟩=>[(i,.row e t xs)]
 |_=>[]
def zuv:Nat->List Dy->CS
 |_,[]=>[]
 |i,d::l=>z9k i d++zuv (i+1) l
theorem zse{x:El t}{u:Value}(h:Rd γ.M t x [u]):DenA γ (qbs i ⟨.dat t,x⟩) u:=by
 have hd:=xr (γ:=γ) h
 unfold qbs
 match hx:Yw t x,hd with
 |[a],hd=>simp only[hx];exact hd.1
 |[],hd=>exact hd.elim
 |_::_::_,hd=>exact hd.2.elim
theorem zuw{t':Ty}{xs:List (El t')}{ys:List (El t)}(h:Q5 (.row t') (.row t) xs=some ys):Ch.row e t' xs=Ch.row e t ys:=by
 obtain⟨e1,e2⟩:=Qs h
 subst e1
 simp only at e2
 rw[e2]
theorem zod{cs0 cs:CS}{p:Pl}{l:List Pl}{v:List Dy}(h:zuu cs0 cs (p::l)=some v):∃d w,v=d::w/\zuu cs0 cs l=some w /\
  ((∃t x,p.s=.dat t/\d=⟨.dat t,x⟩/\zik cs0 t p.a=some x)\/(∃e t xs,p.s=.own e t/\d=⟨.own e t,xs⟩/\(p.id,Ch.row e t xs)∈cs)):=by
 simp only[zuu]at h
 split at h
 ·rename_i d w h1 h2
  have h:=Au h
  refine⟨d,w,h.symm,h2,?_⟩
  unfold qaf at h1
  split at h1
  ·rename_i t hs
   split at h1
   ·rename_i y hy
    exact .inl ⟨t,y,hs,(Au h1).symm,hy⟩
   ·cases h1
  ·rename_i e t hs
   split at h1
   ·rename_i e' t' xs hf
    split at h1
    ·rename_i ys hc
     cases he:Nat.beq e e' with
     |false=>rw[he]at h1;cases h1
     |true=>
      rw[he]at h1
      refine .inr ⟨e,t,ys,hs,(Au (show some (⟨.own e t,ys⟩:Dy)=some d from h1)).symm,?_⟩
      have:=qe hf
      rw[zuw hc,<-Ag he]at this
      exact this
    ·cases h1
   ·cases h1
 ·cases h
theorem Jw{cs0 cs:CS}:∀{q r:List Pl} {v:List Dy},zuu cs0 cs (q++r)=some v->∃v1 v2,v=v1++v2/\v1.length=q.length/\zuu cs0 cs q=some v1/\zuu cs0 cs r=some v2
 |[],r,v,h=>⟨[],v,rfl,rfl,rfl,h⟩
 |p::q,r,v,h=>by
  simp only[A3,zuu]at h
  split at h
  ·rename_i d w h1 h2
   have h:=Au h
   obtain⟨v1,v2,rfl,e1,e2,e3⟩:=Jw h2
   exact⟨d::v1,v2,by rw[<-h];rfl,by simp[e1],by simp only[zuu,h1,e2],e3⟩
  ·cases h
theorem zoe{base:Nat}:∀{ss:List Shp} {as:List AA} {l:List Pl},plL base ss as=some l->l.length=ss.length/\∀{γ γ1:Gh} {cs0 O:CS} {v:List Dy} {us:List Value},z0t γ cs0->γ1.M=γ.M->zuu cs0 O l=some v ->
   (∀p∈l,∀e t,p.s=.own e t->∀u,DenA γ p.a u->DenA γ1 (.own p.id) u)->All2 (DenA γ) as us->All2 (DenA γ1) (qbt base v) us/\∀x∈zuv base v,x∈O:=by
 intro ss
 induction ss generalizing base with
 |nil=>
  intro as l h
  cases as with
  |nil=>
   simp only[plL,Aa]at h
   subst h
   refine⟨rfl,λhf hM hd ho hu=>?_⟩
   have hd:=Au hd
   subst hd
   refine⟨?_,λx hx=>by cases hx⟩
   rename_i us
   cases us with
   |nil=>trivial
   |cons _ _=>exact hu.elim
  |cons a as=>simp[plL]at h
 |cons s ss ih=>
  intro as l h
  cases as with
  |nil=>simp[plL]at h
  |cons a as=>
   simp only[plL]at h
   split at h
   ·rename_i l' hl
    simp only[Aa]at h
    subst h
    obtain⟨e1,ih⟩:=ih hl
    refine⟨by simp[e1],λ {γ γ1 cs0 O v us} hf hM hd ho hu=>?_⟩
    obtain⟨d,w,rfl,h2,h3⟩:=zod hd
    cases us with
    |nil=>exact hu.elim
    |cons u us=>
     obtain⟨i1,i2⟩:=ih hf hM h2 (λp hp=>ho p (Af _ hp)) hu.2
     rcases h3 with⟨t,x,hs,rfl,hc⟩|⟨e,t,xs,hs,rfl,hm⟩
     ·have:=j7 hf hc hu.1
      rw[<-hM]at this
      refine⟨⟨zse this,i1⟩,λy hy=>i2 y ?_⟩
      simpa[zuv,z9k]using hy
     ·refine⟨⟨ho _ Aq e t hs u hu.1,i1⟩,λy hy=>?_⟩
      simp only[zuv,z9k,A3,BJ,Ad]at hy
      rcases hy with rfl|hy
      ·exact hm
      ·exact i2 y hy
   ·cases h
def za8:List (Nat×SG)->List Dy->qw
 |[],_=>[]
 |(i,.one _)::l,d::ds=>(i,[],.g (.a (qbs (100000+64*i) d)))::za8 l ds
 |(_,.one _)::_,[]=>[]
 |(i,.agg ss)::l,ds=>(i,[],.g (.agg (qbt (100000+64*i) (ds.take ss.length))))::za8 l (ds.drop ss.length)
def Jx:List (Nat×SG)->List Dy->CS
 |[],_=>[]
 |(i,.one _)::l,d::ds=>z9k (100000+64*i) d++Jx l ds
 |(_,.one _)::_,[]=>[]
 |(i,.agg ss)::l,ds=>zuv (100000+64*i) (ds.take ss.length)++Jx l (ds.drop ss.length)
def zlk:List (Nat×List Shp)->List Dy->CS
 |[],_=>[]
 |(c,ss)::l,ds=>(c,.box (qbt (1000000+64*c) (ds.take ss.length)))::(zuv (1000000+64*c) (ds.take ss.length)++zlk l (ds.drop ss.length))
def zp7:List (Nat×SG)->Nat
 |[]=>0
 |(_,.one _)::l=>1+zp7 l
 |(_,.agg ss)::l=>ss.length+zp7 l
def z4d(J:AnnA)(ds:List Dy):qw:=za8 J.slots ds
def chJ(J:AnnA)(ds:List Dy):CS:=Jx J.slots ds++zlk J.boxes (ds.drop (zp7 J.slots))
theorem Jy{e:qw}{n:Nat}{a:Act}:∀{ss:List (Nat×SG)} {l:List Pl},zgr e ss=some l->l.length=zp7 ss/\∀{γ γ1:Gh} {cs0 Z:CS} {v w:List Dy},SatA n e γ a->z0t γ cs0->γ1.M=γ.M->zuu cs0 Z l=some v ->
   (∀p∈l,∀e t,p.s=.own e t->∀u,DenA γ p.a u->DenA γ1 (.own p.id) u)->(∀x∈za8 ss (v++w),zlc γ1 (zu a) x)/\∀x∈Jx ss (v++w),x∈Z
 |[],l,h=>by
  simp only[zgr,Aa]at h
  subst h
  refine⟨rfl,λ_ _ _ hd _=>?_⟩
  have hd:=Au hd
  subst hd
  exact⟨λx hx=>(by cases hx),λx hx=>(by cases hx)⟩
 |(i,sg)::ss,l,h=>by
  simp only[zgr]at h
  split at h
  ·rename_i x r hl hr
   split at h
   ·rename_i s aa
    simp only[Aa]at h
    subst h
    obtain⟨e1,ih⟩:=Jy (n:=n) (a:=a) hr
    refine⟨by simp[e1,zp7];omega,λ {γ γ1 cs0 Z v w} hs hf hM hd ho=>?_⟩
    obtain⟨d,v',rfl,h2,h3⟩:=zod hd
    obtain⟨i1,i2⟩:=ih (w:=w) hs hf hM h2 (λp hp=>ho p (Af _ hp))
    have O:DenA γ aa (zu a i):=(hs.all _ (Zv hl)).1 trivial
    rcases h3 with⟨t,x,ac,rfl,hc⟩|⟨e',t,xs,ac,rfl,hm⟩
    ·have:=j7 hf hc O
     rw[<-hM]at this
     refine⟨λy hy=>?_,λy hy=>?_⟩
     ·simp only[A3,za8,Ad]at hy
      rcases hy with rfl|hy
      ·exact⟨λ_=>zse this,λhn=>absurd trivial hn⟩
      ·exact i1 y hy
     ·simp only[A3,Jx,z9k,BJ]at hy
      exact i2 y hy
    ·refine⟨λy hy=>?_,λy hy=>?_⟩
     ·simp only[A3,za8,Ad]at hy
      rcases hy with rfl|hy
      ·exact⟨λ_=>ho _ Aq e' t ac _ O,λhn=>absurd trivial hn⟩
      ·exact i1 y hy
     ·simp only[A3,Jx,z9k,BJ,Ad]at hy
      rcases hy with rfl|hy
      ·exact hm
      ·exact i2 y hy
   ·rename_i ae as
    split at h
    ·rename_i q hq
     simp only[Aa]at h
     subst h
     obtain⟨e1,ih⟩:=Jy (n:=n) (a:=a) hr
     obtain⟨e2,hp⟩:=zoe hq
     refine⟨by simp[e1,e2,zp7],λ {γ γ1 cs0 Z v w} hs hf hM hd ho=>?_⟩
     obtain⟨v1,v2,rfl,l1,d1,d2⟩:=Jw hd
     obtain⟨i1,i2⟩:=ih (w:=w) hs hf hM d2 (λp hp=>ho p (AB _ hp))
     obtain⟨us,hu,O⟩:=(show ∃us,zu a i=.agg us.toArray/\All2 (DenA γ) as us from(hs.all _ (Zv hl)).1 trivial)
     obtain⟨p1,p2⟩:=hp hf hM d1 (λp hp=>ho p (Ao _ hp)) O
     have et:(v1++v2++w).take ae.length=v1:=by rw[<-e2,<-l1,AQ,Em]
     have ed:(v1++v2++w).drop ae.length=v2++w:=by rw[<-e2,<-l1,AQ,List.drop_left]
     refine⟨λy hy=>?_,λy hy=>?_⟩
     ·simp only[za8,et,ed,Ad]at hy
      rcases hy with rfl|hy
      ·exact⟨λ_=>⟨us,hu,p1⟩,λhn=>absurd trivial hn⟩
      ·exact i1 y hy
     ·simp only[Jx,et,ed,An]at hy
      rcases hy with hy|hy
      ·exact p2 y hy
      ·exact i2 y hy
    ·cases h
   ·cases h
  ·cases h
theorem zch{C0:CS}:∀{bs:List (Nat×List Shp)} {l:List Pl},zgs C0 bs=some l->∀{R:CS} {γ γ1:Gh} {cs0 O:CS} {v:List Dy} {h:zb},Inv h0 W M0 (C0++R) γ h->z0t γ cs0->γ1.M=γ.M->γ1.β=γ.β->zuu cs0 O l=some v ->
   (∀p∈l,∀e t,p.s=.own e t->∀u,DenA γ p.a u->DenA γ1 (.own p.id) u) ->
   ∀x∈zlk bs v,x∈O\/(DenC h0.size γ1 h x.1 x.2/\(∃as,(x.1,Ch.box as)∈C0)/\(∃as,x.2=Ch.box as)/\∃ss,(x.1,ss)∈bs)
 |[],l,hp,R,γ,γ1,cs0,O,v,h,I,hf,hM,hβ,hd,ho,x,hx=>by cases hx
 |(c,ss)::bs,l,hp,R,γ,γ1,cs0,O,v,h,I,hf,hM,hβ,hd,ho,x,hx=>by
  simp only[zgs]at hp
  split at hp
  ·rename_i as r hc hr
   split at hp
   ·rename_i q hq
    simp only[Aa]at hp
    subst hp
    obtain⟨e2,aa⟩:=zoe hq
    obtain⟨v1,v2,rfl,l1,d1,d2⟩:=Jw hd
    obtain⟨us,eb,Z⟩:=I.den _ (Ao R (qe hc))
    obtain⟨p1,p2⟩:=aa hf hM d1 (λp hp=>ho p (Ao _ hp)) Z
    have et:(v1++v2).take ss.length=v1:=by rw[<-e2,<-l1,Em]
    have ed:(v1++v2).drop ss.length=v2:=by rw[<-e2,<-l1,List.drop_left]
    simp only[zlk,et,ed,Ad,An]at hx
    rcases hx with rfl|hx|hx
    ·exact .inr ⟨⟨us,by rw[hβ];exact eb,p1⟩,⟨as,qe hc⟩,⟨_,rfl⟩,ss,Aq⟩
    ·exact .inl (p2 x hx)
    ·rcases zch hr I hf hM hβ d2 (λp hp=>ho p (AB _ hp)) x hx with h1|⟨h1,h2,h3,s',h4⟩
     ·exact .inl h1
     ·exact .inr ⟨h1,h2,h3,s',Af _ h4⟩
   ·cases hp
  ·cases hp
def zgt(C:CS):List (Nat×List Shp)->Bool
 |[]=>true
 |(c,_)::l=>match Yx C c with
  |some (.box _)=>zgt C l
  |_=>false
theorem zgu{C:CS}:∀{l:List (Nat×List Shp)},zgt C l=true->∀c ss,(c,ss)∈l->∃as,(c,Ch.box as)∈C
 |[],_,c,ss,h=>by cases h
 |(c',ss')::l,hb,c,ss,h=>by
  simp only[zgt]at hb
  split at hb
  ·rename_i as hf
   rcases Ad.1 h with h|h
   ·cases h;exact⟨as,qe hf⟩
   ·exact zgu hb c ss h
  ·cases hb
def zux:CS->Bool
 |[]=>true
 |(c,_)::l=>bif zw7 c l then zux l else false
theorem zj5:∀{l:CS},zux l=true->l.Pairwise λx y=>x.1≠y.1
 |[],_=>.nil
 |(c,k)::l,h=>by
  simp only[zux]at h
  cases hn:zw7 c l with
  |false=>rw[hn]at h;cases h
  |true=>
   rw[hn]at h
   exact BL.2 ⟨λy hy e=>X0 hn y hy e.symm,zj5 h⟩
def allIn(S:List Nat):List Nat->Bool
 |[]=>true
 |i::l=>bif memN S i then allIn S l else false
theorem zof{l:List Nat}(h:memN l i=true):i∈l:=by
 induction l with
 |nil=>cases h
 |cons j l ih=>
  simp only[memN]at h
  cases hb:Nat.beq i j with
  |true=>rw[Ag hb];exact Aq
  |false=>rw[hb]at h;exact Af _ (ih h)
theorem zog{S:List Nat}:∀{l:List Nat},allIn S l=true->∀i∈l,i∈S
 |[],_,i,h=>by cases h
 |j::l,hl,i,h=>by
  simp only[allIn]at hl
  cases hm:memN S j with
  |false=>rw[hm]at hl;cases hl
  |true=>
   rw[hm]at hl
   rcases Ad.1 h with rfl|h
   ·exact zof hm
   ·exact zog hl i h
theorem Inv.pick{C F R:CS}(I:Inv h0 W M0 (C++R) γ h)(hnd:zux F=true)(hsrc:∀x∈F,DenC h0.size γ h x.1 x.2/\∃k,(x.1,k)∈C/\blk γ x.1 k=blk γ x.1 x.2):Inv h0 W M0 (F++R) γ h where
 ag:=I.ag
 frame:=I.frame
 size:=I.size
 old:=I.old
 le:=I.le
 den:=λx hx=>by
  rcases An.1 hx with hx|hx
  ·exact(hsrc x hx).1
  ·exact I.den x (AB _ hx)
 sep:=λx hx b hb=>by
  rcases An.1 hx with hx|hx
  ·obtain⟨_,k,hk,e⟩:=hsrc x hx
   exact I.sep _ (Ao _ hk) b (by rw[e];exact hb)
  ·exact I.sep x (AB _ hx) b hb
 apart:=by
  have hI:=I.apart
  rw[Cu]at hI ⊢
  refine⟨(zj5 hnd).imp_of_mem λ {x y} hx hy hne b hb hb'=>?_,hI.2.1,λx hx y hy b hb=>?_⟩
  ·obtain⟨_,k,hk,e⟩:=hsrc x hx
   obtain⟨_,k',hk',e'⟩:=hsrc y hy
   exact zj4 I (Ao R hk) (Ao R hk') (λe2=>hne (Prod.mk.inj e2).1) b (by rw[e];exact hb) (by rw[e'];exact hb')
  ·obtain⟨_,k,hk,e⟩:=hsrc x hx
   exact hI.2.2 _ hk y hy b (by rw[e];exact hb)
def xtr(J:AnnA)(R:CS)(e:qw)(C:CS):Option (List Dy):=
 match zgr e J.slots,zgs C J.boxes with
 |some ps,some pb=>match zgs (frzL (zus (ps++pb)) C) J.boxes with
  |some O=>match zlj R (ps++O) (frzL (zus (ps++pb)) C)with
   |some C1=>bif zgt C1 J.boxes then(bif allIn J.ids (zut (ps++O))then(match zuu (frzL (zus (ps++pb)) C++R) C1 (ps++O)with
    |some ds=>bif zux (chJ J ds)then some ds else none
    |none=>none)else none)else none
   |none=>none
  |none=>none
 |_,_=>none
theorem zgv{J:AnnA}{e:qw}{ds:List Dy}(hx:xtr J R e C=some ds){n:Nat}{a:Act}(hs:SatA n e γ a)(I:Inv h0 W M0 (C++R) γ h):
  ∃γ1,Inv h0 W M0 (chJ J ds++R) γ1 h/\GxS J.ids γ γ1/\∀x∈z4d J ds,zlc γ1 (zu a) x:=by
 unfold xtr at hx
 split at hx
 ·rename_i ps pb ae al
  split at hx
  ·rename_i aj O
   split at hx
   ·rename_i C1 af
    cases hbi:zgt C1 J.boxes with
    |false=>rw[hbi]at hx;cases hx
    |true=>
    rw[hbi]at hx
    cases hai:allIn J.ids (zut (ps++aj))with
    |false=>rw[hai]at hx;cases hx
    |true=>
    rw[hai]at hx
    simp only[cond_true]at hx
    split at hx
    ·rename_i Z ai
     cases hnd:zux (chJ J Z)with
     |false=>rw[hnd]at hx;cases hx
     |true=>
     rw[hnd]at hx
     have hx:=Au (show some Z=some ds from hx)
     subst hx
     obtain⟨γ0,I0,g0⟩:=Inv.frzL (C:=C) (γ:=γ) (zus (ps++pb)) I
     have aa:=hs.gx0 g0
     obtain⟨γ1,I1,g1,⟨hM,hβ⟩,ho⟩:=za7 af I0
     obtain⟨v1,v2,rfl,l1,d1,d2⟩:=Jw ai
     obtain⟨e1,ac⟩:=Jy (n:=n) (a:=a) ae
     obtain⟨f1,f2⟩:=ac (w:=v2) aa I0.fz hM d1 (λp hp=>ho p (Ao _ hp))
     have ah:=zch O I0 I0.fz hM hβ d2 (λp hp=>ho p (AB _ hp))
     have ed:(v1++v2).drop (zp7 J.slots)=v2:=by rw[<-e1,<-l1,List.drop_left]
     have gS:GxS J.ids γ γ1:=⟨g0.1.trans g1.1,λi hi=>by
      have h2:=g1.2 i (λhm=>hi (zog hai i hm))
      have h1:=g0.2 i (by simp)
      exact⟨h2.1.trans h1.1,h2.2.trans h1.2⟩⟩
     refine⟨γ1,I1.pick hnd λx hx=>?_,gS,f1⟩
     unfold chJ at hx
     rw[ed]at hx
     rcases An.1 hx with hx|hx
     ·have:=f2 x hx
      exact⟨I1.den x (Ao _ this),x.2,this,rfl⟩
     ·rcases ah x hx with h1|⟨h1,_,⟨as,h2⟩,ss,h3⟩
      ·exact⟨I1.den x (Ao _ h1),x.2,h1,rfl⟩
      ·obtain⟨ak,h4⟩:=zgu hbi _ _ h3
       exact⟨h1,_,h4,by rw[h2];rfl⟩
    ·cases hx
   ·cases hx
  ·cases hx
 ·cases hx
theorem zxf{α:Type}{R:α->α->Prop}(hs:∀x y,R x y->R y x){l l':List α}(p:l.Perm l'):l.Pairwise R->l'.Pairwise R:=by
 induction p with
 |nil=>exact id
 |cons x p ih=>intro h;rw[BL]at h ⊢;exact⟨λy hy=>h.1 y (p.symm.subset hy),ih h.2⟩
 |swap x y l=>
  intro h
  simp only[BL,Ad]at h ⊢
  obtain⟨h1,h2,h3⟩:=h
  exact⟨λz hz=>by rcases hz with rfl|hz;exact hs _ _ (h1 _ (.inl rfl));exact h2 z hz,λz hz=>h1 z (.inr hz),h3⟩
 |trans _ _ O Z=>exact λh=>Z (O h)
theorem Inv.perm{cs cs':CS}(I:Inv h0 W M0 cs γ h)(p:cs.Perm cs'):Inv h0 W M0 cs' γ h where
 ag:=I.ag
 frame:=I.frame
 size:=I.size
 old:=I.old
 le:=I.le
 den:=λx hx=>I.den x (p.symm.subset hx)
 sep:=λx hx=>I.sep x (p.symm.subset hx)
 apart:=zxf (λx y h b hb hb'=>h b hb' hb) p I.apart
end
section
variable {P:Program} {gl:Fr}
variable {h0 : zb} {W : Nat -> Prop} {M0 : Fr}
def z1q(P:Program)(gl:Fr)(o:Oper)(e:qw)(c:qb)(cs:CS)(K:AV->Prop):Prop:=
 match o.op with
 |.pick x a b=>z1p e c x a b K
 |_=>match Jr e c with
  |some g=>qA P gl o (zgi e c) g cs K
  |none=>False
def wQA(P:Program)(gl:Fr)(n:Nat)(ops:Array Oper)(cs:CS)(K:qw->Prop):List Oper->qw->Prop
 |[],e=>K e
 |o::rest,e=>match Ye ops e o.guard with
  |some c=>bif yc n c o.dst then z1q P gl o e c cs λv=>wQA P gl n ops cs K rest (z1f e o.dst c v)else False
  |none=>False
theorem zj6(O:Fr.le gl M0){o:Oper}{e:qw}{c:qb}{cs:CS}{K:AV->Prop}(H:z1q P gl o e c cs K):∃av,K av/\∀(n:Nat) (γ:Gh) (a:Act) (h:zb),SatA n e γ a->Inv h0 W M0 cs γ h->valid (zu a) c->∃v,DenV γ av v/\QExec P (execOp a.eval o) h (.value v):=by
 unfold z1q at H
 split at H
 ·rename_i x y z ho
  obtain⟨av,h1,h2⟩:=Jv H
  refine⟨av,h1,λn γ a h hs I hv=>?_⟩
  obtain⟨t,h3,h4⟩:=h2 n γ a hs hv
  refine⟨_,h4,λB d=>?_⟩
  simp only[execOp,ho,h3,asBool,Sem.run_bind,Sem.run_pure,Result.andThen_ok]
 ·split at H
  ·rename_i g hg
   obtain⟨av,h1,h2⟩:=zfl (h0:=h0) (W:=W) (M0:=M0) O H
   exact⟨av,h1,λn γ a h hs I hv=>h2 (xt hs hg hv) γ h a.eval I λx av hx=>qa hs hv hx⟩
  ·exact H.elim
theorem zgw{P:Program}{gl:Fr}(ac:Fr.le gl M0){n:Nat}{ops:Array Oper}{cs:CS}{K:qw->Prop}{Q:Act->Prop}{γ:Gh}{h:zb}(I:Inv h0 W M0 cs γ h)(B:World)(d:Nat):
  ∀(l:List Oper) (e:qw) (a:Act),wQA P gl n ops cs K l e->SatA n e γ a->(∀e' a',SatA n e' γ a'->Same (yx l) a a'->K e'->Q a')->wpStill P ops (mk B d h) Q l a
 |[],e,a,H,hs,hQ=>hQ _ _ hs (Same.refl _ _) H
 |o::rest,e,a,H,hs,hQ=>by
  unfold wQA at H
  split at H
  ·rename_i c hc
   cases hd:yc n c o.dst with
   |false=>rw[hd]at H;exact H.elim
   |true=>
    rw[hd]at H
    simp only[cond_true]at H
    have hw:=x9 hs hc
    have ae:∀i,o.dst=some i->i∈yx (o::rest):=λi hi=>by simp[yx,hi]
    have aa:∀x∈yx rest,x∈yx (o::rest):=λx hx=>by
     unfold yx
     split
     ·exact Af _ hx
     ·exact hx
    obtain⟨av,hK,hy⟩:=zj6 (h0:=h0) (W:=W) (M0:=M0) ac H
    have O:∀u,(valid (zu a) c->DenV γ av u)->(¬valid (zu a) c->u=undef)->wpStill P ops (mk B d h) Q rest (a.put o.dst u):=λu h1 h2=>
     zgw ac I B d rest _ _ hK (hs.putO hd h1 h2) λe' a' q1 q2 q3=>hQ e' a' q1 ((Same.put a o.dst u ae).trans (q2.mono aa)) q3
    unfold wpStill
    by_cases hv:valid (zu a) c
    ·rw[if_pos (hw.2 hv)]
     unfold Oper.still
     obtain⟨v,h1,h2⟩:=hy n γ a h hs I hv
     rw[h2 B d,Oper.stillUpon_value]
     exact O v (λ_=>h1) (λZ=>absurd hv Z)
    ·rw[if_neg (λhx=>hv (hw.1 hx))]
     exact O undef (λZ=>absurd Z hv) (λ_=>rfl)
  ·exact H.elim
abbrev zxg:=List (Nat×Nat)
def zp8(P:Program)(gl:Fr)(tr:TypeId)(n:Nat)(tl:zxg)(id:Nat)(ops:Array Oper)(O:Bool)(R:CS)(K:qw->CS->Prop)(e:qw)(C:CS):Prop:=
 bif O then(match zwl tl id with
  |none=>bif Region.lexB .any ops then wQA P gl n ops (C++R) (λe'=>K (zeo e') C) ops.toList e else False
  |some m=>bif Region.lexTailB .any ops m then wQA P gl n ops (C++R) (λe'=>wRA P gl tr n ops R K (ops.toList.drop m) e' C) (ops.toList.take m) e else False)
 else wRA P gl tr n ops R K ops.toList e C
theorem zll(hm:P.follows .mixedOrders=true)(aa:Fr.le gl M0){tr:TypeId}{n:Nat}{tl:zxg}{id:Nat}{ops:Array Oper}{Z:Bool}{R C:CS}{K:qw->CS->Prop}{e:qw}
  (H:zp8 P gl tr n tl id ops Z R K e C) {γ:Gh} {h:zb} (B:World) (d:Nat) {a:Act} (hs:SatA n e γ a) (I:Inv h0 W M0 (C++R) γ h) {Q:Exit->Act->World->Prop}
  (hQ:∀e' C' γ' a' d' h',SatA n e' γ' a'->Inv h0 W M0 (C'++R) γ' h'->Same (yx ops.toList) a a'->GxS (yx ops.toList) γ γ'->K e' C'->Q .normal a' (mk B d' h')):(CX id ops Z).wp P Q a (mk B d h):=by
 unfold zp8 at H
 cases Z with
 |false=>exact wp_region_list (zcg aa B _ _ _ _ _ _ _ H hs I hQ)
 |true=>
  simp only[cond_true]at H
  split at H
  ·cases hB:Region.lexB .any ops with
   |false=>rw[hB]at H;exact H.elim
   |true=>
    rw[hB]at H
    refine wp_region_still hm hB ?_
    exact zgw aa I B (d+1) _ _ _ H hs λe' a' q1 q2 q3=>hQ _ _ _ _ _ _ q1.clean I q2 (GxS.refl _ _) q3
  ·rename_i m _
   cases hB:Region.lexTailB .any ops m with
   |false=>rw[hB]at H;exact H.elim
   |true=>
    rw[hB]at H
    have O:yx ops.toList=yx (ops.toList.take m)++yx (ops.toList.drop m):=by rw[<-Zn,BD]
    have:=wp_region_still_tail (id:=id) (Q:=Q) (a:=a) (w:=mk B d h) (l:=ops.toList) m hm (by simpa using hB) (by
     simp only[Array.toArray_toList]
     refine zgw aa I B (d+1) _ _ _ H hs λe' a' q1 q2 q3=>?_
     refine zcg aa B _ _ _ _ _ _ (d+1) q3 q1 I λae aj ac af ah ai q4 q5 q6 q7 q8=>hQ ae aj ac af ah ai q4 q5 ?_ ?_ q8
     ·rw[O]
      exact(q2.mono λx hx=>Ao _ hx).trans (q6.mono λx hx=>AB _ hx)
     ·rw[O]
      exact q7.mono λx hx=>AB _ hx)
    simpa using this
end
end Go.X
end
