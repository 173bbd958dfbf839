/- A part of the proof: nothing is stated here for its own sake. -/
import Derived.Test.YtbploiccompocaaGreatDoorPlA
import Derived.Laws.StructEq
import Derived.Deep.AppendSrc
import Derived.Laws.BytesString
open _root_.Go.Addr renaming add->Af
open _root_.Array renaming ext'->Dr,getD_eq_getD_getElem?->Bo,getElem?_eq_some_iff->Ac,getElem?_push->BG,getElem?_setIfInBounds_ne->AW,length_toList->CW,range->Ev,size_setIfInBounds->BX,toList_map->C7
open _root_.Bool renaming eq_false_iff->DF,false_eq_true->A9,true_and->Bf
open _root_.Go.Builtin renaming append_->Au,firstCells->Cm,len_->CE
open _root_.ByteArray renaming empty->D3
open _root_.Go.Code renaming region->C4
open _root_.Go.Deferred renaming ofValue->DW
open _root_.Go.Instr renaming fill->Ez,indexAt->Ek,loadAt->DV,next->Ey,range->Eu,sliceAt->Em,storeAt->Al,sureAddr->D8
open _root_.List renaming append_assoc->AY,append_nil->Bc,cons_append->Be,drop_drop->BS,drop_eq_getElem_cons->AC,drop_eq_nil_of_le->A6,drop_take->Ed,drop_zero->AQ,eq_nil_of_length_eq_zero->Az,ext_getElem?->Bb,getElem?_append_left->BA,getElem?_append_right->Bl,getElem?_cons_zero->Di,getElem?_drop->AH,getElem?_eq_getElem->Aj,getElem?_eq_none->Bu,getElem?_eq_some_iff->Ax,getElem?_map->B5,getElem?_take->AF,getElem?_toArray->DC,getElem_append_left->CG,getElem_append_right->Cd,getElem_of_mem->A7,length_append->Av,length_cons->AR,length_drop->Bg,length_map->Dw,length_nil->CR,length_set->Dv,length_take->AL,mapM_cons->Ec,map_cons->Dx,mem_append->Am,mem_append_left->Ap,mem_append_right->Ay,mem_cons->Ag,mem_cons_of_mem->Ah,mem_cons_self->Aq,nil_append->BL,pairwise_append->Co,pairwise_cons->BD,size_toArray->DI,take_append_drop->Bp,take_left->Eb,take_length->AE,take_of_length_le->AM,take_succ_eq_append_getElem->An,take_take->Ee
open _root_.List.cons renaming injEq->Br
open _root_.Nat renaming add_mul->Bz,blt_eq->Cq,eq_of_beq_eq_true->Ak,eq_zero_or_pos->Do,le_mul_of_pos_right->Dj,le_of_ble_eq_true->BE,le_refl->Ae,le_trans->D6,lt_of_lt_of_le->Dm,lt_or_ge->AX,min_eq_left->CU,mul_comm->CY,mul_le_mul_right->AO,mul_one->Cf,one_mul->Dk,succ_mul->Dp,zero_add->AD,zero_le->BP,zero_mul->Da
open _root_.Go.Next renaming value->DL
open _root_.Option renaming bind_some->BW,map_eq_some_iff->Dq
open _root_.Option.some renaming inj->Aw,injEq->Ab
open _root_.Prod.mk renaming injEq->Bv
open _root_.Pure renaming pure->Dg
open _root_.Go.Region renaming wanted->BF
open _root_.UInt8 renaming ofNat->Dl
open _root_.Go.Utf8 renaming encode->En
open _root_.Go.Value renaming int->Ew
open _root_.Go.Value.slice renaming injEq->AJ
set_option linter.unusedVariables false
set_option maxRecDepth 100000
namespace Go.X
end Go.X
namespace Go.Proofs
end Go.Proofs
open Go Go.X Go.Proofs
section
namespace Go.X
section
variable {M M':Fr} {h h':zb} {b c o j n0:Nat} {γ γ':Gh} {us:List Value} {u:Value} {t:Ty} {cs C R:CS} {e:TypeId}
def AgM(M:Fr)(h:zb):Prop:=∀b c,M b=some c->∃T m,h[b]?=some (.cells c T m)
theorem AgM.lt(H:AgM M h){c:Array Value}(e:M b=some c):b<h.size:=by
 obtain⟨T,m,e'⟩:=H b c e;exact(Ac.1 e').1
theorem AgM.none{M:Fr}{h:zb}(H:AgM M h){b:Nat}(hb:h.size<=b):M b=none:=by
 cases e:M b with
 |none=>rfl
 |some c=>have:=H.lt e;omega
theorem AgM.cell(H:AgM M h){c:Array Value}{v:Value}(e:M b=some c)(hv:c[o]?=some v):zm h ⟨b,o,Option.none⟩=some v:=by
 obtain⟨T,m,e'⟩:=H b c e
 unfold zm;simp[e',hv]
def Gx(c:Option Nat)(γ γ':Gh):Prop:=Fr.le γ.M γ'.M/\∀i,c≠some i->γ'.β i=γ.β i/\γ'.σ i=γ.σ i
theorem Gx.refl(c:Option Nat)(γ:Gh):Gx c γ γ:=⟨Fr.le.refl _,λ_ _=>⟨rfl,rfl⟩⟩
def zuk(c:Nat):AA->Bool
 |.box j _=>Nat.beq j c
 |.own j=>Nat.beq j c
 |.oelt j _ _ _=>Nat.beq j c
 |_=>false
def zn2(c:Nat):List AA->Bool
 |[]=>false
 |x::l=>bif zuk c x then true else zn2 c l
def zhn(c:Nat):Ch->Bool
 |.box l=>zn2 c l
 |_=>false
def z9a(c:Nat):AG->Bool
 |.a x=>zuk c x
 |.agg l=>zn2 c l
def z04(c:Nat):List AG->Bool
 |[]=>false
 |x::l=>bif z9a c x then true else z04 c l
def z0n(c:Nat):AV->Bool
 |.g x=>z9a c x
 |.tup l=>z04 c l
 |.nx _ _ _=>false
def z0o{α:Type}(f:Nat->α->Bool):Option Nat->α->Bool
 |none,_=>false
 |some c,x=>f c x
theorem zof(h:Nat.beq j c=false):some c≠some j:=by
 intro e;simp only[Ab]at e;subst e;simp at h
theorem DenA.gx{c:Option Nat}(g:Gx c γ γ'):∀{x:AA} {u:Value},z0o zuk c x=false->DenA γ x u->DenA γ' x u
 |.v _,_,_,h=>h
 |.d _ _,_,_,h=>Rd.mono g.1 h
 |.box j o,u,hm,h=>by
  have:c≠some j:=by cases c with|none=>simp|some c=>exact zof hm
  rw[show u=_ from h];simp only[DenA,(g.2 j this).1]
 |.own j,u,hm,h=>by
  have:c≠some j:=by cases c with|none=>simp|some c=>exact zof hm
  rw[show u=_ from h];simp only[DenA,(g.2 j this).2]
 |.oelt j z i o,u,hm,h=>by
  have:c≠some j:=by cases c with|none=>simp|some c=>exact zof hm
  obtain⟨b,e1,e2⟩:=h
  exact⟨b,by rw[(g.2 j this).2];exact e1,e2⟩
 |.elt _ _ _,_,_,⟨b,f,cs,e,h1,h2⟩=>⟨b,f,cs,e,g.1 _ _ h1,Rd.mono g.1 h2⟩
 |.dc _ _,_,_,⟨s,e1,e2,h⟩=>⟨s,e1,e2,Rd.mono g.1 h⟩
theorem z05{l:List AA}(h:zn2 c l=false):∀x∈l,zuk c x=false:=by
 induction l with
 |nil=>intro x hx;cases hx
 |cons y l ih=>
  intro x hx
  simp only[zn2]at h
  cases hy:zuk c y with
  |true=>simp[hy]at h
  |false=>
   simp only[hy,cond_false]at h
   rcases Ag.1 hx with rfl|hx
   ·exact hy
   ·exact ih h x hx
theorem DenL.gx{c:Option Nat}(g:Gx c γ γ'){l:List AA}(hm:z0o zn2 c l=false)(h:All2 (DenA γ) l us):All2 (DenA γ') l us:=
 h.imp λx hx u hu=>DenA.gx g (by cases c with|none=>rfl|some c=>exact z05 hm x hx) hu
theorem DenG.gx{c:Option Nat}(g:Gx c γ γ'){x:AG}(hm:z0o z9a c x=false)(h:DenG γ x u):DenG γ' x u:=by
 cases x with
 |a x=>exact DenA.gx g (by cases c <;> exact hm) h
 |agg l=>obtain⟨us,e,h⟩:=h;exact⟨us,e,DenL.gx g (by cases c <;> exact hm) h⟩
theorem zwt{l:List AG}(h:z04 c l=false):∀x∈l,z9a c x=false:=by
 induction l with
 |nil=>intro x hx;cases hx
 |cons y l ih=>
  intro x hx
  simp only[z04]at h
  cases hy:z9a c y with
  |true=>simp[hy]at h
  |false=>
   simp only[hy,cond_false]at h
   rcases Ag.1 hx with rfl|hx
   ·exact hy
   ·exact ih h x hx
theorem DenV.gx{c:Option Nat}(g:Gx c γ γ'){x:AV}(hm:z0o z0n c x=false)(h:DenV γ x u):DenV γ' x u:=by
 cases x with
 |g x=>exact DenG.gx g (by cases c <;> exact hm) h
 |tup l=>
  obtain⟨us,e,h⟩:=h
  exact⟨us,e,h.imp λx hx u hu=>DenG.gx g (by cases c with|none=>rfl|some c=>exact zwt hm x hx) hu⟩
 |nx b p c=>exact h
def RowC(M:Fr)(t:Ty)(xs:List (El t))(cells:List Value):Prop:=
 cells.length=xs.length*sz t/\∀i (h:i<xs.length),Rd M t xs[i] ((cells.drop (i*sz t)).take (sz t))
theorem RowC.mono(hM:Fr.le M M'){xs:List (El t)}{cells:List Value}(H:RowC M t xs cells):RowC M' t xs cells:=⟨H.1,λi h=>Rd.mono hM (H.2 i h)⟩
theorem RowC.nil(M:Fr)(t:Ty):RowC M t [] []:=⟨by simp,λi h=>absurd h (by simp)⟩
theorem RowC.single{x:El t}{cs:List Value}(h:Rd M t x cs):RowC M t [x] cs:=by
 have hl:=h.len
 refine⟨by simp[hl],λi hi=>?_⟩
 have:i=0:=by simpa using hi
 subst this
 simp only[Da,AQ,List.getElem_cons_zero,<-hl,AE]
 exact h
theorem RowC.append{xs ys:List (El t)}{c1 c2:List Value}(h1:RowC M t xs c1)(h2:RowC M t ys c2):RowC M t (xs++ys) (c1++c2):=by
 refine⟨by rw[Av,Av,h1.1,h2.1,Bz],λi hi=>?_⟩
 by_cases O:i<xs.length
 ·rw[CG O]
  have aa:(i+1)*sz t<=c1.length:=by rw[h1.1];exact AO _ O
  rw[Bz,Dk]at aa
  rw[List.drop_append_of_le_length (by omega),List.take_append_of_le_length (by rw[Bg];omega)]
  exact h1.2 i O
 ·have Z:xs.length<=i:=by omega
  rw[Cd Z]
  have ac:i-xs.length<ys.length:=by rw[Av]at hi;omega
  have:=h2.2 (i-xs.length) ac
  have e:(c1++c2).drop (i*sz t)=c2.drop ((i-xs.length)*sz t):=by
   rw[List.drop_append]
   have:c1.length<=i*sz t:=by rw[h1.1];exact AO _ Z
   rw[A6 this,BL,h1.1,<-Nat.sub_mul]
  rw[e];exact this
theorem RowC.one{xs:List (El t)}{cells:List Value}(H:RowC M t xs cells):∀v∈cells,v.oneCell'=true:=by
 intro v hv
 obtain⟨j,hj,rfl⟩:=A7 hv
 have hz:0<sz t:=by
  rcases Do (sz t)with h|h
  ·rw[H.1,h,Nat.mul_zero]at hj;omega
  ·exact h
 have hi:j / sz t<xs.length:=by rw[H.1]at hj;exact Nat.div_lt_of_lt_mul (by rw[CY];exact hj)
 refine Rd.one (H.2 _ hi) _ ?_
 rw[List.mem_iff_getElem?]
 refine⟨j % sz t,?_⟩
 rw[AF,if_pos (Nat.mod_lt _ hz),AH,CY,Nat.div_add_mod,Aj hj]
theorem RowC.rd{xs:List (El t)}{cells:List Value}(H:RowC M t xs cells){cs:Array Value}(hM:M b=some cs)(hc:(cs.toList.drop o).take (xs.length*sz t)=cells)(hn:xs.length<=140737488355328/\xs.length<=c):
  Rd M (.row t) xs [.slice (some ⟨b,o,none⟩) xs.length c]:=by
 refine⟨_,rfl,_,_,rfl,hn,.inr ⟨b,o,cs,rfl,hM,λi hi=>?_⟩⟩
 have:=H.2 i hi
 rw[<-hc]at this
 have O:(i+1)*sz t<=xs.length*sz t:=AO _ hi
 rw[Bz,Dk]at O
 have e:(((cs.toList.drop o).take (xs.length*sz t)).drop (i*sz t)).take (sz t)=cut cs (o+i*sz t) (sz t):=by
  unfold cut
  rw[Ed,Ee,BS,CU (by omega)]
 rw[e]at this
 exact this
theorem Rd.rowC(ag:AgM M h){xs:List (El t)}(H:Rd M (.row t) xs [u]):∃s:Sl,u=slV s/\s.len=xs.length/\(xs.length<=140737488355328/\xs.length<=s.cap)/\∃cells,RowC M t xs cells/\Arr h.size h s.a cells:=by
 obtain⟨v,e,a,c,rfl,hn,H⟩:=H
 cases e
 refine⟨⟨a,xs.length,c⟩,rfl,rfl,hn,?_⟩
 rcases H with rfl|⟨b,o,cs,rfl,hM,hi⟩
 ·exact⟨[],RowC.nil _ _,.inl rfl⟩
 ·have O:xs=[]\/xs.length*sz t<=(cs.toList.drop o).length:=by
   rcases Do xs.length with h0|h0
   ·exact .inl (Az h0)
   ·right
    have:=(hi (xs.length-1) (by omega)).len
    unfold cut at this
    rw[AL,Bg]at this
    rw[Bg]
    rcases Do (sz t)with hz|hz
    ·rw[hz];simp
    ·have e:xs.length*sz t=(xs.length-1)*sz t+sz t:=by
      rw[<-Dp];congr 1;omega
     rw[e];omega
  rcases O with rfl|O
  ·exact⟨[],RowC.nil _ _,.inl rfl⟩
  refine⟨(cs.toList.drop o).take (xs.length*sz t),⟨by rw[AL];omega,λi Z=>?_⟩,.inr ⟨b,o,rfl,ag.lt hM,λi v hv=>?_⟩⟩
  ·have:=hi i Z
   have aa:(i+1)*sz t<=xs.length*sz t:=AO _ Z
   rw[Bz,Dk]at aa
   unfold cut at this
   rw[Ed,Ee,BS,CU (by omega)]
   exact this
  ·refine ag.cell hM ?_
   rw[AF]at hv
   split at hv
   ·rw[AH]at hv;simpa using hv
   ·cases hv
def z4v(o:Option Obj)(us:List Value):Prop:=((∃T,o=some (.cells us.toArray T (0,0)))/\∀s p,us≠[Z4 s p])\/(∃s p,us=[Z4 s p]/\o=some (.stringIter s p))
def DenC(n0:Nat)(γ:Gh)(h:zb)(c:Nat):Ch->Prop
 |.box l=>∃us,z4v h[γ.β c]? us/\All2 (DenA γ) l us
 |.row e t xs=>∃cells,Owns h n0 e (sz t) (γ.σ c) cells/\RowC γ.M t xs cells/\xs.length<=140737488355328/\(γ.σ c).len=xs.length
 |.fz t xs=>Rd γ.M (.row t) xs [slV (γ.σ c)]
def blk(γ:Gh)(c:Nat):Ch->Option Nat
 |.box _=>some (γ.β c)
 |.row _ _ _=>(γ.σ c).a.map (·.block)
 |.fz _ _=>none
structure Inv (h0:zb) (W:Nat->Prop) (M0:Fr) (cs:CS) (γ:Gh) (h:zb):Prop where
 ag:AgM γ.M h
 frame:∀i,i<h0.size->¬W i->h[i]?=h0[i]?
 size:h0.size<=h.size
 old:∀b,b<h0.size->γ.M b=M0 b
 le:Fr.le M0 γ.M
 den:∀x∈cs,DenC h0.size γ h x.1 x.2
 sep:∀x∈cs,∀b,blk γ x.1 x.2=some b->(h0.size<=b\/W b)/\γ.M b=none
 apart:cs.Pairwise λx y=>∀b,blk γ x.1 x.2=some b->blk γ y.1 y.2≠some b
variable {h0 : zb} {W : Nat -> Prop} {M0 : Fr}
theorem DenC.lt{k:Ch}(H:DenC n0 γ h c k):∀b,blk γ c k=some b->b<h.size:=by
 intro b hb
 cases k with
 |box l=>
  obtain⟨us,e,_⟩:=H
  simp only[blk,Ab]at hb
  subst hb
  rcases e with⟨⟨T,e⟩,_⟩|⟨s,p,_,e⟩
  ·exact(Ac.1 e).1
  ·exact(Ac.1 e).1
 |row e t xs=>
  obtain⟨cells,h1,_⟩:=H
  simp only[blk,Dq]at hb
  obtain⟨p,hp,rfl⟩:=hb
  exact(h1.base_le p hp).2
 |fz t xs=>cases hb
theorem DenC.gx{c:Option Nat}(g:Gx c γ γ'){k:Ch}(hj:c≠some j)(hm:z0o zhn c k=false)(H:DenC n0 γ h j k)(hb:∀b,blk γ j k=some b->h'[b]?=h[b]?):DenC n0 γ' h' j k:=by
 obtain⟨e1,e2⟩:=g.2 j hj
 cases k with
 |box l=>
  obtain⟨us,e,h1⟩:=H
  exact⟨us,by rw[e1,hb _ rfl];exact e,DenL.gx g (by cases c <;> exact hm) h1⟩
 |row e t xs=>
  obtain⟨cells,h1,h2,h3,h4⟩:=H
  refine⟨cells,?_,h2.mono g.1,h3,by rw[e2];exact h4⟩
  rw[e2]
  exact h1.keep λp hp=>hb _ (by simp[blk,hp])
 |fz t xs=>simp only[DenC,e2];exact Rd.mono g.1 H
theorem zkq{c:Option Nat}(g:Gx c γ γ')(k:Ch)(hj:c≠some j):blk γ' j k=blk γ j k:=by
 obtain⟨e1,e2⟩:=g.2 j hj
 cases k <;> simp[blk,e1,e2]
theorem Inv.rest{cs rest:CS}{γ γ':Gh}{h h':zb}(I:Inv h0 W M0 cs γ h)(hsub:rest.Sublist cs){c:Option Nat}(g:Gx c γ γ')
  (hmen:∀x∈rest,c≠some x.1/\z0o zhn c x.2=false) (hk:∀x∈rest,∀b,blk γ x.1 x.2=some b->h'[b]?=h[b]?/\γ'.M b=none)
  (ag:AgM γ'.M h') (hframe:∀i,i<h0.size->¬W i->h'[i]?=h[i]?) (hsize:h.size<=h'.size) (hold:∀b,b<h0.size->γ'.M b=γ.M b):Inv h0 W M0 rest γ' h' where
 ag:=ag
 frame:=λi hi hw=>(hframe i hi hw).trans (I.frame i hi hw)
 size:=D6 I.size hsize
 old:=λb hb=>(hold b hb).trans (I.old b hb)
 le:=I.le.trans g.1
 den:=λx hx=>(I.den x (hsub.subset hx)).gx g (hmen x hx).1 (hmen x hx).2 λb hb=>(hk x hx b hb).1
 sep:=λx hx b hb=>by
  rw[zkq g _ (hmen x hx).1]at hb
  exact⟨(I.sep x (hsub.subset hx) b hb).1,(hk x hx b hb).2⟩
 apart:=by
  refine(I.apart.sublist hsub).imp_of_mem λ {x y} hx hy h=>?_
  intro b hb
  rw[zkq g _ (hmen x hx).1]at hb
  rw[zkq g _ (hmen y hy).1]
  exact h b hb
theorem Inv.cons{rest:CS}(I:Inv h0 W M0 rest γ h){k:Ch}(hd:DenC h0.size γ h c k)(hs:∀b,blk γ c k=some b->(h0.size<=b\/W b)/\γ.M b=none)
  (ha:∀b,blk γ c k=some b->∀x∈rest,blk γ x.1 x.2≠some b):Inv h0 W M0 ((c,k)::rest) γ h where
 ag:=I.ag
 frame:=I.frame
 size:=I.size
 old:=I.old
 le:=I.le
 den:=λx hx=>by rcases Ag.1 hx with rfl|hx;exact hd;exact I.den x hx
 sep:=λx hx=>by rcases Ag.1 hx with rfl|hx;exact hs;exact I.sep x hx
 apart:=BD.2 ⟨λy hy b hb=>ha b hb y hy,I.apart⟩
theorem Inv.sub{cs rest:CS}(I:Inv h0 W M0 cs γ h)(hsub:rest.Sublist cs):Inv h0 W M0 rest γ h where
 ag:=I.ag
 frame:=I.frame
 size:=I.size
 old:=I.old
 le:=I.le
 den:=λx hx=>I.den x (hsub.subset hx)
 sep:=λx hx=>I.sep x (hsub.subset hx)
 apart:=I.apart.sublist hsub
theorem Inv.fz(I:Inv h0 W M0 cs γ h):z0m γ cs:=λc t xs hm=>I.den _ hm
theorem Inv.call(I:Inv h0 W M0 cs γ h)(k:Keep h.size h h')(hM:Fr.le γ.M M')(O:∀b,b<h.size->M' b=γ.M b)(ag:AgM M' h'):Inv h0 W M0 cs { γ with M:=M' } h':=
 I.rest (List.Sublist.refl _) (c:=none) ⟨hM,λ_ _=>⟨rfl,rfl⟩⟩ (λx _=>⟨by simp,rfl⟩)
  (λx hx b hb=>by
   have Z:=(I.den x hx).lt b hb
   exact⟨k.get b Z,(O b Z).trans (I.sep x hx b hb).2⟩) ag (λi hi _=>k.get i (Dm hi I.size)) k.size (λb hb=>O b (Dm hb I.size))
def jc(c:Nat):CS->CS
 |[]=>[]
 |(j,k)::l=>bif (bif Nat.beq j c then true else zhn c k)then jc c l else(j,k)::jc c l
def wo(c:Nat):CS->Bool
 |[]=>true
 |(j,k)::l=>bif (bif Nat.beq j c then true else zhn c k)then false else wo c l
def zji(c:Nat):CS->CS
 |[]=>[]
 |(j,k)::l=>bif Nat.beq j c then zji c l else(j,k)::zji c l
theorem xg(c:Nat):∀l:CS,(jc c l).Sublist l
 |[]=>.slnil
 |(j,k)::l=>by
  simp only[jc]
  cases(bif Nat.beq j c then true else zhn c k)with
  |true=>exact(xg c l).cons _
  |false=>exact(xg c l).cons_cons _
theorem Zp(c:Nat):∀l:CS,(zji c l).Sublist l
 |[]=>.slnil
 |(j,k)::l=>by
  simp only[zji]
  cases Nat.beq j c with
  |true=>exact(Zp c l).cons _
  |false=>exact(Zp c l).cons_cons _
theorem zeo{c:Nat}:∀{l:CS} {x:Nat×Ch},x∈jc c l->some c≠some x.1/\zhn c x.2=false
 |(j,k)::l,x,h=>by
  simp only[jc]at h
  cases hb:(bif Nat.beq j c then true else zhn c k)with
  |true=>rw[hb]at h;exact zeo h
  |false=>
   rw[hb]at h
   rcases Ag.1 h with rfl|h
   ·cases hj:Nat.beq j c with
    |true=>simp[hj]at hb
    |false=>simp only[hj,cond_false]at hb;exact⟨zof hj,hb⟩
   ·exact zeo h
theorem zcx{c:Nat}:∀{l:CS},wo c l=true->∀x∈l,some c≠some x.1/\zhn c x.2=false
 |[],_,x,h=>by cases h
 |(j,k)::l,hn,x,h=>by
  simp only[wo]at hn
  cases hb:(bif Nat.beq j c then true else zhn c k)with
  |true=>rw[hb]at hn;cases hn
  |false=>
   rw[hb]at hn
   rcases Ag.1 h with rfl|h
   ·cases hj:Nat.beq j c with
    |true=>simp[hj]at hb
    |false=>simp only[hj,cond_false]at hb;exact⟨zof hj,hb⟩
   ·exact zcx hn x h
theorem Y0{c:Nat}:∀{l:CS} {x:Nat×Ch},x∈zji c l->x∈l/\x.1≠c
 |(j,k)::l,x,h=>by
  simp only[zji]at h
  cases hb:Nat.beq j c with
  |true=>rw[hb]at h;exact⟨Ah _ (Y0 h).1,(Y0 h).2⟩
  |false=>
   rw[hb]at h
   rcases Ag.1 h with rfl|h
   ·refine⟨Aq,λe=>?_⟩
    simp only at e
    subst e
    simp at hb
   ·exact⟨Ah _ (Y0 h).1,(Y0 h).2⟩
def zv1(γ:Gh)(c b:Nat):Gh:={ γ with β:=λi=>bif Nat.beq i c then b else γ.β i }
def zqq(γ:Gh)(c:Nat)(s:Sl):Gh:={ γ with σ:=λi=>bif Nat.beq i c then s else γ.σ i }
theorem Xb(γ:Gh)(c b:Nat):Gx (some c) γ (zv1 γ c b):=⟨Fr.le.refl _,λi hi=>by
 have:Nat.beq i c=false:=by
  cases h:Nat.beq i c with
  |false=>rfl
  |true=>exact absurd (congrArg some (Ak h).symm) hi
 simp[zv1,this]⟩
theorem Qq(γ:Gh)(c:Nat)(s:Sl):Gx (some c) γ (zqq γ c s):=⟨Fr.le.refl _,λi hi=>by
 have:Nat.beq i c=false:=by
  cases h:Nat.beq i c with
  |false=>rfl
  |true=>exact absurd (congrArg some (Ak h).symm) hi
 simp[zqq,this]⟩
theorem Qa(γ:Gh)(c b:Nat):(zv1 γ c b).β c=b:=by simp[zv1]
theorem yw(γ:Gh)(c:Nat)(s:Sl):(zqq γ c s).σ c=s:=by simp[zqq]
theorem zbc(hR:wo c R=true):∀x∈jc c C++R,some c≠some x.1/\z0o zhn (some c) x.2=false:=by
 intro x hx
 rcases Am.1 hx with hx|hx
 ·exact zeo hx
 ·exact zcx hR x hx
theorem Inv.newBoxO(I:Inv h0 W M0 (C++R) γ h)(hR:wo c R=true){l:List AA}(hd:All2 (DenA γ) l us)(hl:zn2 c l=false){ob:Obj}(Z:z4v (some ob) us):
  Inv h0 W M0 ((c,.box l)::jc c C++R) (zv1 γ c h.size) (h.push ob):=by
 have O:∀x∈jc c C++R,∀b,blk γ x.1 x.2=some b->b<h.size:=λx hx b hb=>(I.den x (((xg c C).append_right R).subset hx)).lt b hb
 have hI:Inv h0 W M0 (jc c C++R) (zv1 γ c h.size) (h.push ob):=by
  refine I.rest ((xg c C).append_right R) (Xb γ c h.size) (zbc hR) (λx hx b hb=>?_) (λb cc e=>?_) (λi hi _=>?_) (by simp) (λb hb=>rfl)
  ·have:=O x hx b hb
   exact⟨by rw[BG,if_neg (by omega)],(I.sep x (((xg c C).append_right R).subset hx) b hb).2⟩
  ·have:=I.ag.lt e
   obtain⟨T',m,e'⟩:=I.ag b cc e
   exact⟨T',m,by rw[BG,if_neg (by omega)];exact e'⟩
  ·have:=I.size
   rw[BG,if_neg (by omega)]
 refine hI.cons ⟨us,by rw[Qa,wu];exact Z,DenL.gx (Xb γ c h.size) hl hd⟩ (λb hb=>?_) (λb hb x hx e=>?_)
 ·simp only[blk,Qa,Ab]at hb
  subst hb
  exact⟨.inl I.size,I.ag.none (Ae _)⟩
 ·simp only[blk,Qa,Ab]at hb
  subst hb
  rw[zkq (Xb γ c h.size) _ (zbc hR x hx).1]at e
  have:=O x hx _ e
  omega
theorem Inv.newBox(I:Inv h0 W M0 (C++R) γ h)(hR:wo c R=true){l:List AA}(hd:All2 (DenA γ) l us)(hl:zn2 c l=false)(O:itB l=false)(T:TypeId):
  Inv h0 W M0 ((c,.box l)::jc c C++R) (zv1 γ c h.size) (h.push (.cells us.toArray T)):=
 Inv.newBoxO I hR hd hl (.inl ⟨⟨T,rfl⟩,λs p=>zsl O hd s p⟩)
theorem zcy{α:Type}{R:α->α->Prop}(hs:∀x y,R x y->R y x):∀{l:List α},l.Pairwise R->∀{x y:α},x∈l->y∈l->x≠y->R x y
 |[],_,_,_,hx,_,_=>by cases hx
 |z::l,h,x,y,hx,hy,hne=>by
  rw[BD]at h
  rcases Ag.1 hx with e1|h1
  ·rcases Ag.1 hy with e2|h2
   ·exact absurd (e1.trans e2.symm) hne
   ·rw[e1];exact h.1 _ h2
  ·rcases Ag.1 hy with e2|h2
   ·rw[e2];exact hs _ _ (h.1 _ h1)
   ·exact zcy hs h.2 h1 h2 hne
theorem Inv.setBox(I:Inv h0 W M0 (C++R) γ h){l l':List AA}(hc:(c,Ch.box l)∈C)(e:z4v h'[γ.β c]? us)
  (ho:∀i,i≠γ.β c->h'[i]?=h[i]?) (hs:h'.size=h.size) (hd:All2 (DenA γ) l' us) (hR:∀x∈R,x.1≠c):Inv h0 W M0 ((c,.box l')::zji c C++R) γ h':=by
 have O:=I.sep _ (Ap R hc) _ rfl
 have Z:∀x∈zji c C++R,blk γ x.1 x.2≠some (γ.β c):=by
  intro x hx
  have ac:x≠(c,Ch.box l):=by
   rintro rfl
   rcases Am.1 hx with hx|hx
   ·exact(Y0 hx).2 rfl
   ·exact hR _ hx rfl
  have ae:x∈C++R:=((Zp c C).append_right R).subset hx
  have hp:=@zcy _ (λ(x y:Nat×Ch)=>∀b,blk γ x.1 x.2=some b->blk γ y.1 y.2≠some b) (λx y h b hb aa=>h b aa hb) _ I.apart
  intro hb
  exact hp (Ap R hc) ae (λe=>ac e.symm) _ rfl hb
 have hI:Inv h0 W M0 (zji c C++R) γ h':=by
  refine I.rest ((Zp c C).append_right R) (c:=none) (Gx.refl _ _) (λx _=>⟨by simp,rfl⟩) (λx hx b hb=>?_) (λb cc eM=>?_) (λi hi hw=>?_) (by omega) (λb hb=>rfl)
  ·exact⟨ho b λe'=>Z x hx (e' ▸ hb),(I.sep x (((Zp c C).append_right R).subset hx) b hb).2⟩
  ·obtain⟨T',m,e'⟩:=I.ag b cc eM
   exact⟨T',m,by rw[ho b λe2=>by rw[e2,O.2]at eM;cases eM];exact e'⟩
  ·refine ho i λe'=>?_
   have h2:=O.1
   simp only at h2
   rcases h2 with h1|h1
   ·omega
   ·rw[e']at hw;exact hw h1
 refine hI.cons ⟨us,e,hd⟩ (λb hb=>?_) (λb hb x hx=>?_)
 ·simp only[blk,Ab]at hb;subst hb;exact O
 ·simp only[blk,Ab]at hb;subst hb;exact Z x hx
theorem Inv.newRow(I:Inv h0 W M0 (C++R) γ h)(hR:wo c R=true)(hs:h.size<=h'.size){p:Option Nat}(ho:∀i,i<h.size->p≠some i->h'[i]?=h[i]?)
  (hp:∀b,p=some b->h0.size<=b/\γ.M b=none/\∀x∈C++R,blk γ x.1 x.2≠some b) {s:Sl} {xs:List (El t)} {cells:List Value} (aa:Owns h' h0.size e (sz t) s cells)
  (hb:∀q,s.a=some q->p=some q.block\/q.block=h.size) (ae:RowC γ.M t xs cells) (hn:xs.length<=140737488355328) (hl:s.len=xs.length):
  Inv h0 W M0 ((c,.row e t xs)::jc c C++R) (zqq γ c s) h':=by
 have O:=(xg c C).append_right R
 have ac:∀x∈jc c C++R,∀b,blk γ x.1 x.2=some b->b<h.size:=λx hx b hb=>(I.den x (O.subset hx)).lt b hb
 have hI:Inv h0 W M0 (jc c C++R) (zqq γ c s) h':=by
  refine I.rest O (Qq γ c s) (zbc hR) (λx hx b hb=>?_) (λb cc eM=>?_) (λi hi hw=>?_) hs (λb hb=>rfl)
  ·exact⟨ho b (ac x hx b hb) λe'=>(hp b e').2.2 x (O.subset hx) hb,(I.sep x (O.subset hx) b hb).2⟩
  ·obtain⟨T',m,e'⟩:=I.ag b cc eM
   exact⟨T',m,by rw[ho b (I.ag.lt eM) λe2=>by have:=(hp b e2).2.1;rw[show γ.M b=some cc from eM]at this;cases this];exact e'⟩
  ·have:=I.size
   refine ho i (by omega) λe'=>?_
   have:=(hp i e').1
   omega
 refine hI.cons ⟨cells,by rw[yw];exact aa,ae,hn,by rw[yw];exact hl⟩ (λb Z=>?_) (λb Z x hx e'=>?_)
 ·simp only[blk,yw,Dq]at Z
  obtain⟨q,hq,rfl⟩:=Z
  rcases hb q hq with h1|h1
  ·exact⟨.inl (hp _ h1).1,(hp _ h1).2.1⟩
  ·rw[h1];exact⟨.inl I.size,I.ag.none (Ae _)⟩
 ·simp only[blk,yw,Dq]at Z
  obtain⟨q,hq,rfl⟩:=Z
  rw[zkq (Qq γ c s) _ (zbc hR x hx).1]at e'
  rcases hb q hq with h1|h1
  ·exact(hp _ h1).2.2 x (O.subset hx) e'
  ·rw[h1]at e';have:=ac x hx _ e';omega
def z4w(c:Nat):CS->CS
 |[]=>[]
 |(j,k)::l=>bif Nat.beq j c then(match k with
  |.row _ t xs=>(j,.fz t xs)::z4w c l
  |k=>(j,k)::z4w c l)else(j,k)::z4w c l
def zfq(γ:Gh)(b:Nat)(cs:Array Value):Gh:={ γ with M:=λi=>bif Nat.beq i b then some cs else γ.M i }
theorem Inv.freeze1{A C:CS}{xs:List (El t)}(I:Inv h0 W M0 (A++(c,.row e t xs)::C) γ h):∃γ',Inv h0 W M0 (A++(c,.fz t xs)::C) γ' h/\Gx none γ γ':=by
 obtain⟨cells,ah,ac,hn,hl⟩:=I.den (c,.row e t xs) (by simp)
 have an:=ac.1
 rcases ah.2 with⟨hv,h1⟩|⟨g,cap,O,hv,aa,hg,au,ap,ar,ae⟩
 ·refine⟨γ,?_,Gx.refl _ _⟩
  have aj:xs=[]:=Az (by omega)
  have hd:DenC h0.size γ h c (.fz t xs):=by
   subst aj
   simp only[AJ]at hv
   exact⟨_,rfl,none,0,by simp[slV,hv],⟨by simp,by simp⟩,.inl rfl⟩
  have Z:∀x,x∈A++(c,Ch.fz t xs)::C->x∈A++(c,Ch.row e t xs)::C\/x=(c,Ch.fz t xs):=by
   intro x hx
   simp only[Am,Ag]at hx ⊢
   rcases hx with h|h|h
   ·exact .inl (.inl h)
   ·exact .inr h
   ·exact .inl (.inr (.inr h))
  refine⟨I.ag,I.frame,I.size,I.old,I.le,λx hx=>?_,λx hx b hb=>?_,?_⟩
  ·rcases Z x hx with h|rfl
   ·exact I.den x h
   ·exact hd
  ·rcases Z x hx with h|rfl
   ·exact I.sep x h b hb
   ·cases hb
  ·have:=I.apart
   simp only[Co,BD]at this ⊢
   obtain⟨a1,⟨a2,a3⟩,a4⟩:=this
   refine⟨a1,⟨λy hy b hb=>(by simp[blk]at hb),a3⟩,λx hx y hy b hb=>?_⟩
   rcases Ag.1 hy with rfl|hy
   ·simp[blk]
   ·exact a4 x hx y (Ah _ hy) b hb
 ·simp only[AJ]at hv
  have al:γ.M g=none:=(I.sep (c,.row e t xs) (by simp) g (by simp[blk,hv.1])).2
  have ai:Fr.le γ.M (zfq γ g O).M:=by
   intro b cc eM
   have:Nat.beq b g=false:=by
    cases hb:Nat.beq b g with
    |false=>rfl
    |true=>rw[Ak hb,al]at eM;cases eM
   simp[zfq,this,eM]
  have gx:Gx none γ (zfq γ g O):=⟨ai,λ_ _=>⟨rfl,rfl⟩⟩
  have am:g<h.size:=(Ac.1 hg).1
  have ak:∀x,x∈A++C->blk γ x.1 x.2≠some g:=by
   intro x hx
   have:=I.apart
   simp only[Co,BD]at this
   obtain⟨a1,⟨a2,a3⟩,a4⟩:=this
   rcases Am.1 hx with hx|hx
   ·intro hb
    exact a4 x hx (c,.row e t xs) Aq g hb (by simp[blk,hv.1])
   ·exact a2 x hx g (by simp[blk,hv.1])
  have af:∀b,b≠g->(zfq γ g O).M b=γ.M b:=by
   intro b hb
   have:Nat.beq b g=false:=by
    cases h:Nat.beq b g with
    |false=>rfl
    |true=>exact absurd (Ak h) hb
   simp[zfq,this]
  have hI:Inv h0 W M0 (A++C) (zfq γ g O) h:=by
   refine I.rest (by simp) gx (λx _=>⟨by simp,rfl⟩) (λx hx b hb=>?_) (λb cc eM=>?_) (λ_ _ _=>rfl) (Ae _) (λb hb=>af b (by omega))
   ·have aa:b≠g:=λe'=>ak x hx (e' ▸ hb)
    refine⟨rfl,(af b aa).trans (I.sep x ?_ b hb).2⟩
    simp only[Am,Ag]at hx ⊢
    rcases hx with h|h
    ·exact .inl h
    ·exact .inr (.inr h)
   ·by_cases aa:b=g
    ·subst aa
     have:cc=O:=by simp[zfq]at eM;exact eM.symm
     subst this
     exact⟨_,_,hg⟩
    ·rw[af b aa]at eM;exact I.ag b cc eM
  refine⟨zfq γ g O,?_,gx⟩
  have hd:DenC h0.size (zfq γ g O) h c (.fz t xs):=by
   have:=(ac.mono ai).rd (b:=g) (o:=0) (c:=cap) (cs:=O) (by simp[zfq]) (by rw[AQ,<-hl];exact ae) ⟨hn,by omega⟩
   show Rd _ _ _ [slV (γ.σ c)]
   have e3:slV (γ.σ c)=.slice (some ⟨g,0,none⟩) xs.length cap:=by
    unfold slV;rw[hv.1,hl,hv.2.2]
   rw[e3];exact this
  have Z:∀x,x∈A++(c,Ch.fz t xs)::C->x∈A++C\/x=(c,Ch.fz t xs):=by
   intro x hx
   simp only[Am,Ag]at hx ⊢
   rcases hx with h|h|h
   ·exact .inl (.inl h)
   ·exact .inr h
   ·exact .inl (.inr h)
  refine⟨hI.ag,hI.frame,hI.size,hI.old,hI.le,λx hx=>?_,λx hx b hb=>?_,?_⟩
  ·rcases Z x hx with h|rfl
   ·exact hI.den x h
   ·exact hd
  ·rcases Z x hx with h|rfl
   ·exact hI.sep x h b hb
   ·cases hb
  ·have:=hI.apart
   simp only[Co,BD]at this ⊢
   obtain⟨a1,a3,a4⟩:=this
   refine⟨a1,⟨λy hy b hb=>(by simp[blk]at hb),a3⟩,λx hx y hy b hb=>?_⟩
   rcases Ag.1 hy with rfl|hy
   ·simp[blk]
   ·exact a4 x hx y hy b hb
theorem Inv.freeze{R:CS}{h:zb}(c:Nat):∀(C A:CS) {γ:Gh},Inv h0 W M0 (A++C++R) γ h->∃γ',Inv h0 W M0 (A++z4w c C++R) γ' h/\Gx none γ γ'
 |[],A,γ,I=>⟨γ,I,Gx.refl _ _⟩
 |(j,k)::l,A,γ,I=>by
  have go:∀(k:Ch) {γ:Gh},Inv h0 W M0 (A++(j,k)::l++R) γ h->∃γ',Inv h0 W M0 (A++(j,k)::z4w c l++R) γ' h/\Gx none γ γ':=by
   intro k γ I
   have:=Inv.freeze c l (A++[(j,k)]) (R:=R) (γ:=γ) (by simpa using I)
   simpa using this
  simp only[z4w]
  cases Nat.beq j c with
  |true=>
   cases k with
   |row e t xs=>
    obtain⟨γ1,I1,g1⟩:=Inv.freeze1 (A:=A) (C:=l++R) (γ:=γ) (by simpa using I)
    obtain⟨γ2,I2,g2⟩:=go (.fz t xs) (γ:=γ1) (by simpa using I1)
    exact⟨γ2,I2,g1.1.trans g2.1,λi hi=>⟨(g2.2 i hi).1.trans (g1.2 i hi).1,(g2.2 i hi).2.trans (g1.2 i hi).2⟩⟩
   |box l'=>exact go _ I
   |fz t xs=>exact go _ I
  |false=>exact go _ I
end
section
variable {i n:Nat} {c:qf} {v:AV} {γ γ':Gh} {a:Act} {u:Value} {o:Oper} {g:Option Bool} {σ:Operand -> Value}
abbrev yl:=List (Nat×qf×AV)
def zl6:yl->Nat->Option (qf×AV)
 |[],_=>none
 |(j,c,v)::e,i=>bif Nat.beq i j then some (c,v)else zl6 e i
def zl7(γ:Gh)(σ:Nat->Value)(x:Nat×qf×AV):Prop:=(valid σ x.2.1->DenV γ x.2.2 (σ x.1))/\(¬valid σ x.2.1->σ x.1=undef)
structure SatA (n:Nat) (e:yl) (γ:Gh) (a:Act):Prop where
 defers:a.defers=[]
 size:a.tmps.size=n
 all:∀x∈e,zl7 γ (zx a) x
def z9b:yl->Nat->yl
 |[],_=>[]
 |(j,c,v)::e,i=>bif (bif Nat.beq i j then true else mentions c i)then z9b e i else(j,c,v)::z9b e i
def qca(e:yl)(i:Nat)(c:qf)(v:AV):yl:=(i,c,v)::z9b e i
def z06(e:yl):Option Nat->qf->AV->yl
 |none,_,_=>e
 |some d,c,v=>qca e d c v
def zfr:yl->yl
 |[]=>[]
 |(j,[],v)::e=>(j,[],v)::zfr e
 |(_,_::_,_)::e=>zfr e
def zog(c:Nat):yl->yl
 |[]=>[]
 |(j,ch,v)::e=>bif z0n c v then zog c e else(j,ch,v)::zog c e
def zsm:Option Nat->yl->yl
 |none,e=>e
 |some c,e=>zog c e
theorem Qb{e:yl}(h:zl6 e i=some (c,v)):(i,c,v)∈e:=by
 induction e with
 |nil=>cases h
 |cons x e ih=>
  obtain⟨j,cj,vj⟩:=x
  simp only[zl6]at h
  by_cases hb:Nat.beq i j=true
  ·simp only[hb,cond_true,Ab,Bv]at h
   obtain⟨rfl,rfl⟩:=h
   rw[Ak hb]
   exact Aq
  ·simp only[hb,cond_false]at h
   exact Ah _ (ih h)
theorem z07{e:yl}{x:Nat×qf×AV}(h:x∈z9b e i):x∈e/\x.1≠i/\mentions x.2.1 i=false:=by
 induction e with
 |nil=>cases h
 |cons y e ih=>
  obtain⟨j,cj,vj⟩:=y
  simp only[z9b]at h
  by_cases hb:Nat.beq i j=true
  ·simp only[hb,cond_true]at h
   exact⟨Ah _ (ih h).1,(ih h).2⟩
  ·have aa:Nat.beq i j=false:=DF.2 hb
   simp only[aa,cond_false]at h
   by_cases hm:mentions cj i=true
   ·simp only[hm,cond_true]at h
    exact⟨Ah _ (ih h).1,(ih h).2⟩
   ·have O:mentions cj i=false:=by simpa using hm
    simp only[O,cond_false]at h
    rcases Ag.1 h with rfl|h
    ·refine⟨Aq,λZ=>?_,O⟩
     simp only at Z
     rw[Z]at hb
     exact hb (by simp)
    ·exact⟨Ah _ (ih h).1,(ih h).2⟩
theorem zul{e:yl}{x:Nat×qf×AV}(h:x∈zfr e):x∈e/\x.2.1=[]:=by
 induction e with
 |nil=>cases h
 |cons y e ih=>
  obtain⟨j,cj,vj⟩:=y
  cases cj with
  |nil=>
   simp only[zfr]at h
   rcases Ag.1 h with rfl|h
   ·exact⟨Aq,rfl⟩
   ·exact⟨Ah _ (ih h).1,(ih h).2⟩
  |cons c cs=>
   simp only[zfr]at h
   exact⟨Ah _ (ih h).1,(ih h).2⟩
theorem zum{c:Option Nat}{e:yl}{x:Nat×qf×AV}(h:x∈zsm c e):x∈e/\z0o z0n c x.2.2=false:=by
 cases c with
 |none=>exact⟨h,rfl⟩
 |some c=>
  have key:∀e:yl,x∈zog c e->x∈e/\z0n c x.2.2=false:=by
   intro e
   induction e with
   |nil=>intro h;cases h
   |cons y e ih=>
    obtain⟨j,cj,vj⟩:=y
    intro h
    simp only[zog]at h
    cases hm:z0n c vj with
    |true=>rw[hm]at h;exact⟨Ah _ (ih h).1,(ih h).2⟩
    |false=>
     rw[hm]at h
     rcases Ag.1 h with rfl|h
     ·exact⟨Aq,hm⟩
     ·exact⟨Ah _ (ih h).1,(ih h).2⟩
  exact key e h
theorem SatA.sub{e e':yl}(h:SatA n e γ a)(hs:∀x∈e',x∈e):SatA n e' γ a:=⟨h.defers,h.size,λx hx=>h.all x (hs x hx)⟩
theorem SatA.clean{e:yl}(h:SatA n e γ a):SatA n (zfr e) γ a:=h.sub λ_ hx=>(zul hx).1
theorem SatA.gx{e:yl}{c:Option Nat}(h:SatA n e γ a)(g:Gx c γ γ'):SatA n (zsm c e) γ' a:=
 ⟨h.defers,h.size,λx hx=>by
  obtain⟨h1,h2⟩:=zum hx
  exact⟨λhv=>((h.all x h1).1 hv).gx g h2,(h.all x h1).2⟩⟩
theorem SatA.gx0{e:yl}(h:SatA n e γ a)(g:Gx none γ γ'):SatA n e γ' a:=h.gx g
theorem SatA.put{e:yl}(h:SatA n e γ a)(hi:i<n)(hm:mentions c i=false)
  (hy:valid (zx a) c->DenV γ v u) (hn:¬valid (zx a) c->u=undef):SatA n (qca e i c v) γ (a.put (some i) u):=by
 refine⟨by rw[qh];exact h.defers,by rw[size_put];exact h.size,λx hx=>?_⟩
 have Z:i<a.tmps.size:=by rw[h.size];exact hi
 rcases Ag.1 hx with rfl|hx
 ·have hv:=Zz (σ:=zx (a.put (some i) u)) (τ:=zx a) hm (λj hj=>qt hj)
  refine⟨λhc=>?_,λhc=>?_⟩
  ·simp only;rw[yg Z];exact hy (hv.1 hc)
  ·exact(yg Z).trans (hn (λO=>hc (hv.2 O)))
 ·obtain⟨h1,h2,h3⟩:=z07 hx
  have hv:=Zz (σ:=zx (a.put (some i) u)) (τ:=zx a) h3 (λj hj=>qt hj)
  have hf:=h.all x h1
  refine⟨λhc=>?_,λhc=>?_⟩
  ·rw[qt h2];exact hf.1 (hv.1 hc)
  ·exact(qt h2).trans (hf.2 (λO=>hc (hv.2 O)))
theorem SatA.putO{e:yl}(h:SatA n e γ a){d:Option Nat}(hd:yu n c d=true)
  (hy:valid (zx a) c->DenV γ v u) (hn:¬valid (zx a) c->u=undef):SatA n (z06 e d c v) γ (a.put d u):=by
 cases d with
 |none=>exact h
 |some i=>
  simp only[yu]at hd
  by_cases hm:mentions c i=true
  ·simp[hm]at hd
  ·have O:mentions c i=false:=by simpa using hm
   simp only[O,cond_false]at hd
   exact h.put (by simpa[Cq]using hd) O hy hn
def qbd:Value->AG
 |.agg cs=>.agg (cs.toList.map .v)
 |v=>.a (.v v)
def zun:Value->AV
 |.tuple vs=>.tup (vs.toList.map qbd)
 |v=>.g (qbd v)
theorem zsn(γ:Gh)(v:Value):DenG γ (qbd v) v:=by
 cases v with
 |agg cs=>
  refine⟨cs.toList,by simp,?_⟩
  generalize cs.toList=l
  induction l with
  |nil=>trivial
  |cons x l ih=>exact⟨rfl,ih⟩
 |_=>exact rfl
theorem Jm(γ:Gh)(v:Value):DenV γ (zun v) v:=by
 cases v with
 |tuple vs=>
  refine⟨vs.toList,by simp,?_⟩
  generalize vs.toList=l
  induction l with
  |nil=>trivial
  |cons x l ih=>exact⟨zsn γ x,ih⟩
 |agg cs=>exact zsn γ (.agg cs)
 |_=>exact rfl
def exL:List AA->Option (List Value)
 |[]=>some []
 |.v x::l=>match exL l with
  |some vs=>some (x::vs)
  |none=>none
 |_::_=>none
def exV:AV->Option Value
 |.g (.a (.v x))=>some x
 |.g (.agg l)=>match exL l with
  |some vs=>some (.agg vs.toArray)
  |none=>none
 |_=>none
theorem zwu{γ:Gh}:∀{l:List AA} {vs us:List Value},exL l=some vs->All2 (DenA γ) l us->us=vs
 |[],vs,[],h,_=>by simp only[exL,Ab]at h;exact h
 |[],_,_::_,_,h=>h.elim
 |.v x::l,vs,u::us,h,hd=>by
  simp only[exL]at h
  split at h
  ·rename_i ws hw
   simp only[Ab]at h
   subst h
   rw[show u=x from hd.1,zwu hw hd.2]
  ·cases h
 |.v _::_,_,[],_,h=>h.elim
 |.d _ _::_,_,_,h,_=>by simp[exL]at h
 |.box _ _::_,_,_,h,_=>by simp[exL]at h
 |.own _::_,_,_,h,_=>by simp[exL]at h
 |.oelt _ _ _ _::_,_,_,h,_=>by simp[exL]at h
 |.elt _ _ _::_,_,_,h,_=>by simp[exL]at h
 |.dc _ _::_,_,_,h,_=>by simp[exL]at h
theorem zqr{x:AV}{v u:Value}(h:exV x=some v)(hd:DenV γ x u):u=v:=by
 unfold exV at h
 split at h
 ·simp only[Ab]at h;subst h;exact hd
 ·rename_i l
  split at h
  ·rename_i vs hv
   simp only[Ab]at h
   subst h
   obtain⟨us,rfl,h2⟩:=hd
   rw[zwu hv h2]
  ·cases h
 ·cases h
def zho(e:yl)(c:qf):Operand->Option AV
 |.tmp t=>match zl6 e t with
  |some (cs,v)=>bif suf cs c then some v else none
  |none=>none
 |.const v=>some (zun v)
 |.global g=>some (.g (.a (.v (.pointer (some ⟨g,0,none⟩)))))
 |.func f=>some (.g (.a (.v (.func (.func f) #[] #[]))))
theorem qe{e:yl}(h:SatA n e γ a)(hc:valid (zx a) c){x:Operand}(hx:zho e c x=some v):DenV γ v (a.eval x):=by
 cases x with
 |tmp t=>
  simp only[zho]at hx
  split at hx
  ·rename_i cs u hl
   by_cases hs:suf cs c=true
   ·simp only[hs,cond_true,Ab]at hx
    subst hx
    exact(h.all _ (Qb hl)).1 (Jc hs hc)
   ·simp[hs]at hx
  ·cases hx
 |const u=>simp only[zho,Ab]at hx;subst hx;exact Jm γ u
 |global g=>simp only[zho,Ab]at hx;subst hx;exact rfl
 |func f=>simp only[zho,Ab]at hx;subst hx;exact rfl
def zuo:AV->Option Bool
 |.g (.a (.v (.bool b)))=>some b
 |_=>none
theorem zhp{b:Bool}(h:zuo v=some b)(hd:DenV γ v u):u=.bool b:=by
 unfold zuo at h
 split at h
 ·simp only[Ab]at h;subst h;exact hd
 ·cases h
def Y1(ops:Array Oper)(e:yl):Option (Nat×Bool)->Option qf
 |none=>some []
 |some (j,p)=>match jd ops j with
  |some g=>match zl6 e g with
   |some (cg,v)=>match zuo v with
    |some _=>some ((g,p)::cg)
    |none=>none
   |none=>none
  |none=>none
def zoh(e:yl):qf->Option Bool
 |[]=>some true
 |(g,p)::c=>match zl6 e g with
  |some (cg,v)=>match zuo v with
   |some b=>bif Z0 cg c then(match zoh e c with
    |some cb=>some (cb&&(bif p then b else !b))
    |none=>none)else none
   |none=>none
  |none=>none
theorem Xc{n:Nat}{e:yl}{γ:Gh}{a:Act}(h:SatA n e γ a):∀{c:qf} {b:Bool},zoh e c=some b->(b=true↔valid (zx a) c)
 |[],b,hb=>by simp only[zoh,Ab]at hb;simp[<-hb,valid]
 |(g,p)::c,b,hb=>by
  simp only[zoh]at hb
  split at hb
  ·rename_i cg v hl
   split at hb
   ·rename_i bg O
    by_cases hq:Z0 cg c=true
    ·simp only[hq,cond_true]at hb
     split at hb
     ·rename_i cb Z
      simp only[Ab]at hb
      have ih:=Xc h Z
      have hf:=h.all _ (Qb hl)
      rw[Jb hq]at hf
      by_cases hv:valid (zx a) c
      ·have h1:zx a g=.bool bg:=zhp O (hf.1 hv)
       have h2:=ih.2 hv
       subst hb
       simp only[valid,h1,hv,h2,Bf,and_true,Value.bool.injEq]
       cases p <;> cases bg <;> simp
      ·have h1:cb=false:=by cases cb with|false=>rfl|true=>exact absurd (ih.1 rfl) hv
       subst hb
       simp[valid,hv,h1]
     ·cases hb
    ·simp[hq]at hb
   ·cases hb
  ·cases hb
theorem Zq{ops:Array Oper}{e:yl}(h:SatA n e γ a)(hc:Y1 ops e o.guard=some c):
  BF o (yielded ops a.tmps)=true↔valid (zx a) c:=by
 unfold BF
 cases hg:o.guard with
 |none=>rw[hg]at hc;simp only[Y1,Ab]at hc;simp[<-hc,valid]
 |some jp=>
  obtain⟨j,p⟩:=jp
  rw[hg]at hc
  simp only[Y1]at hc
  split at hc
  ·rename_i g hd
   split at hc
   ·rename_i cg v hl
    split at hc
    ·rename_i b hb
     simp only[Ab]at hc
     subst hc
     have Z:((ops[j]?).bind (·.dst))=some g:=by
      simp only[jd]at hd
      split at hd
      ·rename_i o' O;simp[O,hd]
      ·cases hd
     have hf:=h.all _ (Qb hl)
     have hy:yielded ops a.tmps j=some p↔zx a g=.bool p:=by
      unfold yielded zx
      rw[Z]
      simp only[BW]
      cases ht:a.tmps[g]? with
      |none=>simp[Bo,ht,undef]
      |some v=>cases v <;> simp[Bo,ht]
     simp only[beq_iff_eq,hy,valid]
     constructor
     ·intro h1
      refine⟨h1,?_⟩
      by_cases hv:valid (zx a) cg
      ·exact hv
      ·have:=hf.2 hv
       simp only at this
       rw[h1]at this
       exact absurd this.symm zcm
     ·exact λh1=>h1.1
    ·cases hc
   ·cases hc
  ·cases hc
def Wb(e:yl):qf->Option (Option Bool)
 |[]=>some none
 |c=>match zoh e c with
  |some b=>some (some b)
  |none=>none
theorem Zh{e:yl}(hs:SatA n e γ a)(h:Wb e c=some g)(hv:valid (zx a) c):gok g:=by
 unfold Wb at h
 split at h
 ·simp only[Ab]at h;subst h;trivial
 ·split at h
  ·rename_i b hb
   simp only[Ab]at h
   subst h
   exact(Xc hs hb).2 hv
  ·cases h
theorem zbd{e:yl}(hs:SatA n e γ a)(h:Wb e c=some g)(hv:¬valid (zx a) c):g=some false:=by
 unfold Wb at h
 split at h
 ·exact absurd trivial hv
 ·split at h
  ·rename_i b hb
   simp only[Ab]at h
   subst h
   cases b with
   |false=>rfl
   |true=>exact absurd ((Xc hs hb).1 rfl) hv
  ·cases h
def qau(ρ:Operand->Option AV)(x:Operand):Value:=match ρ x with
 |some av=>match exV av with
  |some v=>v
  |none=>undef
 |none=>undef
def zhq(ρ:Operand->Option AV):List Operand->Bool
 |[]=>true
 |x::l=>match ρ x with
  |some av=>match exV av with
   |some _=>zhq ρ l
   |none=>false
  |none=>false
theorem zoi{ρ:Operand->Option AV}(hρ:∀x av,ρ x=some av->DenV γ av (σ x)){l:List Operand}(hk:zhq ρ l=true):∀x∈l,σ x=qau ρ x:=by
 induction l with
 |nil=>intro x hx;cases hx
 |cons y l ih=>
  intro x hx
  simp only[zhq]at hk
  split at hk
  ·rename_i av hv
   split at hk
   ·rename_i v O
    rcases Ag.1 hx with rfl|hx
    ·rw[zqr O (hρ _ _ hv)];simp[qau,hv,O]
    ·exact ih hk x hx
   ·cases hk
  ·cases hk
theorem zoj{ρ:Operand->Option AV}(hρ:∀x av,ρ x=some av->DenV γ av (σ x))(hs:xf o.op=true)(hk:zhq ρ o.op.operands.toList=true):
  execOp σ o=execOp (qau ρ) o:=
 execOp_congr o (λcs b hb=>by rw[hb]at hs;cases hs) λx hx=>zoi hρ hk x (by simpa using hx)
end
section
variable {o n f k:Nat} {h:zb} {u:Value} {us:List Value} {cs:CS} {γ:Gh} {t ty:TypeId} {P:Program}
variable {h0 : zb} {W : Nat -> Prop} {M0 : Fr}
def takeN(l:List AA)(o n:Nat):Option (List AA):=bif Nat.beq ((l.drop o).take n).length n then some ((l.drop o).take n)else none
theorem X5{l r:List AA}(h:takeN l o n=some r):r=(l.drop o).take n/\r.length=n:=by
 unfold takeN at h
 cases hb:Nat.beq ((l.drop o).take n).length n with
 |false=>rw[hb]at h;cases h
 |true=>
  rw[hb]at h
  simp only[cond_true,Ab]at h
  subst h
  exact⟨rfl,Ak hb⟩
theorem zok{h:zb}{p:Addr}:∀{us:List Value} {i:Nat},(∀j v,us[j]?=some v->zm h (p.add (i+j))=some v)->ze h p i us
 |[],_,_=>trivial
 |v::us,i,H=>⟨by have:=H 0 v rfl;simpa using this,zok λj u hu=>by have:=H (j+1) u (by simpa using hu);rwa[show i+(j+1)=i+1+j by omega]at this⟩
def Behind(h:zb)(u:Value)(us:List Value):Prop:=∃b o,u=.pointer (some ⟨b,o,none⟩)/\∀j v,us[j]?=some v->zm h ⟨b,o+j,none⟩=some v
theorem Behind.ld(H:Behind h u us):∃p:Addr,u=.pointer (some p)/\ze h p 0 us/\∀v,us=[v]->zm h p=some v:=by
 obtain⟨b,o,e,hc⟩:=H
 refine⟨_,e,zok λj v hv=>?_,λv hv=>?_⟩
 ·rw[zo,AD];exact hc j v hv
 ·have:=hc 0 v (by rw[hv];rfl);simpa using this
theorem z4x{cs:Array Value}{f n j:Nat}{v:Value}(h:(cut cs f n)[j]?=some v):cs[f+j]?=some v:=by
 unfold cut at h
 rw[AF]at h
 split at h
 ·rw[AH]at h;simpa using h
 ·cases h
def z08(cs:CS)(n:Nat):AA->Option (List AA)
 |.box c o=>match Jk cs c with
  |some (.box l)=>bif itB l then none else takeN l o n
  |_=>none
 |.elt t x o=>takeN (Jj t x) o n
 |_=>none
theorem zqs(I:Inv h0 W M0 cs γ h){aa:AA}{r:List AA}(hf:z08 cs n aa=some r)(hd:DenA γ aa u):
  ∃us,Behind h u us/\us.length=n/\All2 (DenA γ) r us:=by
 unfold z08 at hf
 split at hf
 ·rename_i c o
  split at hf
  ·rename_i l hl
   cases hit:itB l with
   |true=>rw[hit]at hf;cases hf
   |false=>
   rw[hit]at hf
   obtain⟨rfl,hn⟩:=X5 hf
   obtain⟨us,e,h2⟩:=I.den _ (ql hl)
   rcases e with⟨⟨T,e⟩,_⟩|⟨s,p,e,_⟩
   case inr=>exact absurd e (zsl hit h2 s p)
   have h3:=(h2.drop o).take n
   refine⟨(us.drop o).take n,⟨_,_,hd,λj v hv=>?_⟩,by rw[<-h3.length];exact hn,h3⟩
   rw[AF]at hv
   split at hv
   ·rw[AH]at hv
    unfold zm;simp only[e];simp;exact hv
   ·cases hv
  ·cases hf
 ·rename_i t x o
  obtain⟨rfl,hn⟩:=X5 hf
  obtain⟨b,f,cc,e,hM,hr⟩:=hd
  have h3:=((Zg (γ:=γ) hr).drop o).take n
  refine⟨_,⟨_,_,e,λj v hv=>?_⟩,by rw[<-h3.length];exact hn,h3⟩
  rw[AF]at hv
  split at hv
  ·rw[AH]at hv
   have:=z4x hv
   exact I.ag.cell hM (by rw[show f+o+j=f+(o+j)by omega];exact this)
  ·cases hv
 ·cases hf
theorem z4y(I:Inv h0 W M0 cs γ h){c:Nat}{e:TypeId}{t:Ty}{xs:List (El t)}(hc:Jk cs c=some (.row e t xs)){i:Nat}{y:El t}(hy:xs[i]?=some y){r:List AA}(hr:takeN (Jj t y) o n=some r)(hd:DenA γ (.oelt c (sz t) i o) u):∃us,Behind h u us/\us.length=n/\All2 (DenA γ) r us:=by
 obtain⟨rfl,hn⟩:=X5 hr
 obtain⟨g,hg,rfl⟩:=hd
 obtain⟨cells,Z,ac,_,hl⟩:=I.den _ (ql hc)
 simp only at hl Z
 rcases Z.2 with⟨hv,h1⟩|⟨g',cap,ah,hv,_,ae,_,_,_,aa⟩
 ·simp only[AJ]at hv;rw[hg]at hv;cases hv.1
 ·simp only[AJ]at hv
  rw[hg]at hv
  have ai:g=g':=by have:=hv.1;simp only[Ab,Addr.mk.injEq]at this;exact this.1
  subst ai
  have hi:i<xs.length:=(Ax.1 hy).1
  have af:xs[i]=y:=(Ax.1 hy).2
  have h4:=ac.2 i hi
  rw[af]at h4
  have h3:=((Zg (γ:=γ) h4).drop o).take n
  refine⟨_,⟨_,_,rfl,λj v O=>?_⟩,by rw[<-h3.length];exact hn,h3⟩
  rw[AF]at O
  split at O
  ·rw[AH,AF]at O
   split at O
   ·rw[AH,<-aa,AF]at O
    split at O
    ·have e2:h[g]?=some (.cells ah e (0,0)):=ae
     unfold zm
     simp only[e2]
     simp
     rw[show i*sz t+o+j=i*sz t+(o+j)by omega]
     simpa using O
    ·cases O
   ·cases O
  ·cases O
def zl8:Option Nat->List AA->Option AG
 |none,[x]=>some (.a x)
 |some _,l=>some (.agg l)
 |_,_=>none
def Xd(P:Program)(t:TypeId):Option (Option Nat):=match zv0 P t with
 |some (.one _)=>some none
 |some (.agg l)=>some (some l.length)
 |none=>none
def z0p:Option Nat->Nat
 |none=>1
 |some n=>n
theorem zep{s:Option Nat}(hs:Xd P t=some s)(hb:Behind h u us)(hn:us.length=z0p s){r:List AA}(hr:All2 (DenA γ) r us){ag:AG}(hp:zl8 s r=some ag):
  ∃v,DenG γ ag v/\QExec P (DV t u) h v:=by
 obtain⟨p,e,hl,h1⟩:=hb.ld
 subst e
 have O:∀v,QExec P (loadVar t p) h v->QExec P (DV t (.pointer (some p))) h v:=λv hq B d=>by
  unfold DV D8
  simp only[Sem.run_bind,Sem.run_pure,Result.andThen_ok]
  exact hq B d
 unfold Xd at hs
 split at hs
 ·rename_i a hv
  simp only[Ab]at hs
  subst hs
  match us,hn,r,hr with
  |[v],_,[x],hr=>
   simp only[zl8,Ab]at hp
   subst hp
   exact⟨v,hr.1,O v (zco hv (h1 v rfl))⟩
  |[v],_,[],hr=>exact hr.elim
  |[v],_,_::_::_,hr=>exact hr.2.elim
 ·rename_i l hv
  simp only[Ab]at hs
  subst hs
  simp only[zl8,Ab]at hp
  subst hp
  exact⟨.agg us.toArray,⟨us,rfl,hr⟩,O _ (zcp hv hn hl)⟩
 ·cases hs
def zup(P:Program)(cs:CS)(t:TypeId)(aa:AA)(g:Option Bool)(K:AV->Prop):Prop:=
 match Xd P t with
 |some s=>match aa with
  |.oelt c z i o=>match Jk cs c with
   |some (.row e ty xs)=>bif Nat.beq z (sz ty)then(∃y:El ty,req g (xs[i]?=some y)/\match takeN (Jj ty y) o (z0p s)with
    |some r=>match zl8 s r with
     |some ag=>K (.g ag)
     |none=>False
    |none=>False)else False
   |_=>False
  |aa=>match z08 cs (z0p s) aa with
   |some r=>match zl8 s r with
    |some ag=>K (.g ag)
    |none=>False
   |none=>False
 |none=>False
theorem zhr{aa:AA}{g:Option Bool}{K:AV->Prop}(H:zup P cs t aa g K):
  ∃av,K av/\(gok g->∀γ h u,Inv h0 W M0 cs γ h->DenA γ aa u->∃v,DenV γ av v/\QExec P (DV t u) h v):=by
 unfold zup at H
 split at H
 ·rename_i s hs
  split at H
  ·rename_i c z i o
   split at H
   ·rename_i e ty xs hc
    cases hz:Nat.beq z (sz ty)with
    |false=>rw[hz]at H;exact H.elim
    |true=>
     rw[hz]at H
     obtain⟨y,hy,H⟩:=H
     split at H
     ·rename_i r hr
      split at H
      ·rename_i ag hp
       refine⟨_,H,λhg γ h u I hd=>?_⟩
       rw[Ak hz]at hd
       obtain⟨us,h1,h2,h3⟩:=z4y I hc (hy.out hg) hr hd
       exact zep hs h1 h2 h3 hp
      ·exact H.elim
     ·exact H.elim
   ·exact H.elim
  ·split at H
   ·rename_i r hr
    split at H
    ·rename_i ag hp
     refine⟨_,H,λhg γ h u I hd=>?_⟩
     obtain⟨us,h1,h2,h3⟩:=zqs I hr hd
     exact zep hs h1 h2 h3 hp
    ·exact H.elim
   ·exact H.elim
 ·exact H.elim
def zwv(P:Program)(t:TypeId)(f:Nat):Option (Nat×TypeId):=match P.underlying t with
 |some (.struct fs)=>match fs[f]? with
  |some fl=>match P.info? fl.type with
   |some i=>bif Nat.beq i.size 0 then none else some (fl.offset,fl.type)
   |none=>none
  |none=>none
 |_=>none
def qav(k:Nat):AA->Option AA
 |.box c o=>some (.box c (o+k))
 |.elt t x o=>some (.elt t x (o+k))
 |.oelt c z i o=>some (.oelt c z i (o+k))
 |_=>none
theorem zww(hf:zwv P t f=some (k,ty))(b o:Nat):QExec P (Instr.fieldAt t (.pointer (some ⟨b,o,none⟩)) f) h (.pointer (some ⟨b,o+k,none⟩)):=by
 unfold zwv at hf
 split at hf
 ·rename_i fs hu
  split at hf
  ·rename_i fl O
   split at hf
   ·rename_i i hi
    cases hz:Nat.beq i.size 0 with
    |true=>rw[hz]at hf;cases hf
    |false=>
     rw[hz]at hf
     simp only[cond_false,Ab,Bv]at hf
     obtain⟨rfl,rfl⟩:=hf
     intro B d
     have hq:=QExec.underlying (h:=h) hu B d
     have hs:=QExec.sizeOf (h:=h) hi B d
     have Z:¬(je P fl.type=0):=by
      unfold je;rw[hi]
      intro e
      simp only at e
      rw[e]at hz;simp at hz
     unfold Instr.fieldAt D8 fieldPlace
     simp only[Sem.run_bind,hq,Result.andThen_ok,O,Sem.run_pure,hs,Z,if_false,zo]
   ·cases hf
  ·cases hf
 ·cases hf
theorem zso{aa O:AA}(h:qav k aa=some O)(hd:DenA γ aa u):∃b o,u=.pointer (some ⟨b,o,none⟩)/\DenA γ O (.pointer (some ⟨b,o+k,none⟩)):=by
 unfold qav at h
 split at h
 ·simp only[Ab]at h;subst h;exact⟨_,_,hd,rfl⟩
 ·simp only[Ab]at h;subst h
  obtain⟨b,f,cs,e,h1,h2⟩:=hd
  exact⟨_,_,e,b,f,cs,by rw[Nat.add_assoc],h1,h2⟩
 ·simp only[Ab]at h;subst h
  obtain⟨g,e1,e2⟩:=hd
  exact⟨_,_,e2,g,e1,by rw[Nat.add_assoc]⟩
 ·cases h
def zwx(P:Program)(ty:TypeId)(l:List AA)(k:Nat):Option AG:=match Xd P ty with
 |some s=>match takeN l k (z0p s)with
  |some r=>zl8 s r
  |none=>none
 |none=>none
theorem zol{s:Option Nat}(hs:Xd P t=some s)(h:zb):QExec P (isAgg t) h s.isSome:=by
 unfold Xd at hs
 split at hs
 ·rename_i a hv
  simp only[Ab]at hs;subst hs
  unfold zv0 at hv
  split at hv
  ·exact absurd hv (by split <;> (first|(intro h;cases h;done)|(cases Nat.beq _ _ <;> intro h <;> cases h)))
  ·exact absurd hv (by split <;> (first|(intro h;cases h;done)|(cases Nat.beq _ _ <;> intro h <;> cases h)))
  ·rename_i d O Z hu
   intro B e
   have hq:=QExec.underlying (h:=h) hu B e
   unfold isAgg
   rw[Sem.run_bind,hq]
   cases d <;> first|rfl|exact(O _ rfl).elim|exact(Z _ _ rfl).elim
  ·cases hv
 ·rename_i l hv
  simp only[Ab]at hs;subst hs
  unfold zv0 at hv
  have hu:(∃fs,P.underlying t=some (.struct fs))\/∃n e,P.underlying t=some (.array n e):=by
   split at hv
   ·exact .inl ⟨_,by assumption⟩
   ·exact .inr ⟨_,_,by assumption⟩
   ·simp at hv
   ·cases hv
  intro B e
  rcases hu with⟨fs,hu⟩|⟨m,e',hu⟩
  ·have hq:=QExec.underlying (h:=h) hu B e
   unfold isAgg
   rw[Sem.run_bind,hq];rfl
  ·have hq:=QExec.underlying (h:=h) hu B e
   unfold isAgg
   rw[Sem.run_bind,hq];rfl
 ·cases hs
theorem z09(hs:Xd P t=some (some n)):je P t=n/\∃i,P.info? t=some i:=by
 unfold Xd at hs
 split at hs
 ·cases hs
 ·rename_i l hv
  simp only[Ab]at hs
  subst hs
  unfold zv0 at hv
  have key:∀x:Option (List Atom),(match x with
    |some l=>bif Nat.beq l.length (je P t)then some (VT.agg l)else none
    |none=>none)=some (.agg l)->je P t=l.length:=by
   intro x hx
   split at hx
   ·rename_i l'
    cases hb:Nat.beq l'.length (je P t)with
    |false=>rw[hb]at hx;cases hx
    |true=>
     rw[hb]at hx
     simp only[cond_true,Ab,VT.agg.injEq]at hx
     rw[<-hx];exact(Ak hb).symm
   ·cases hx
  split at hv
  ·exact⟨key _ hv,info_of_underlying (by assumption)⟩
  ·exact⟨key _ hv,info_of_underlying (by assumption)⟩
  ·simp at hv
  ·cases hv
 ·cases hs
theorem zbe{l:List AA}{ag:AG}(hp:zwx P ty l k=some ag)(hd:All2 (DenA γ) l us)(h:zb):∃v,DenG γ ag v/\QExec P (part ty us.toArray k) h v:=by
 unfold zwx at hp
 split at hp
 ·rename_i s hs
  split at hp
  ·rename_i r hr
   obtain⟨rfl,hn⟩:=X5 hr
   have h3:=(hd.drop k).take (z0p s)
   have O:((us.drop k).take (z0p s)).length=z0p s:=by rw[<-h3.length];exact hn
   cases s with
   |none=>
    generalize hq:(us.drop k).take (z0p none)=q at *
    match q,O,hq with
    |[v],_,hq=>
     generalize Z:(l.drop k).take (z0p none)=r' at *
     match r',h3 with
     |[x],h3=>
      simp only[zl8,Ab]at hp
      subst hp
      refine⟨v,h3.1,λB d=>?_⟩
      have ha:=zol hs h B d
      have hv:us[k]?=some v:=by
       have:((us.drop k).take 1)[0]?=some v:=by rw[show(us.drop k).take 1=[v]from hq];rfl
       rw[AF,if_pos (by omega),AH]at this
       simpa using this
      unfold part
      rw[Sem.run_bind,ha]
      simp[hv]
     |[],h3=>exact h3.elim
     |_::_::_,h3=>exact h3.2.elim
   |some n=>
    simp only[zl8,Ab]at hp
    subst hp
    refine⟨.agg ((us.drop k).take n).toArray,⟨_,rfl,h3⟩,λB d=>?_⟩
    have ha:=zol hs h B d
    obtain⟨hz,i,hi⟩:=z09 hs
    have hS:=QExec.sizeOf (h:=h) hi B d
    unfold part
    rw[Sem.run_bind,ha]
    simp only[Option.isSome_some,Result.andThen_ok,if_true]
    rw[Sem.run_bind,hS,hz]
    simp
  ·cases hp
 ·cases hp
end
section
variable {cs:CS} {γ:Gh} {h:zb} {u:Value} {t el:TypeId} {a:Option Addr} {n:Int} {av:AV} {P:Program} {cap:Nat} {g:Option Bool} {σ:Operand -> Value} {b:Bool} {o:Oper}
variable {h0 : zb} {W : Nat -> Prop} {M0 : Fr}
def rowOf(cs:CS):AA->Option ((t:Ty)×List (El t))
 |.d (.row t) xs=>some ⟨t,xs⟩
 |.dc t xs=>some ⟨t,xs⟩
 |.own c=>match Jk cs c with
  |some (.fz t xs)=>some ⟨t,xs⟩
  |_=>none
 |_=>none
theorem zcz(I:Inv h0 W M0 cs γ h){aa:AA}{r:(t:Ty)×List (El t)}(hr:rowOf cs aa=some r)(hd:DenA γ aa u):Rd γ.M (.row r.1) r.2 [u]:=by
 unfold rowOf at hr
 split at hr
 ·simp only[Ab]at hr;subst hr;exact hd
 ·simp only[Ab]at hr;subst hr;obtain⟨s,_,_,h⟩:=hd;exact h
 ·split at hr
  ·rename_i t xs hc
   simp only[Ab]at hr;subst hr
   rw[show u=_ from hd]
   exact I.den _ (ql hc)
  ·cases hr
 ·cases hr
theorem Rd.sub{M:Fr}{t:Ty}{xs:List (El t)}{n c:Nat}(H:Rd M (.row t) xs [.slice a n c]){l r m:Nat}(h1:l<=r)(h2:r<=xs.length)(h3:r<=m)(h4:m<=c):
  Rd M (.row t) ((xs.take r).drop l) [.slice (Qv a (sz t) l m) (r-l) (m-l)]:=by
 obtain⟨v,e,a',c',e2,hn,H⟩:=H
 cases e
 simp only[AJ]at e2
 obtain⟨rfl,rfl,rfl⟩:=e2
 have O:((xs.take r).drop l).length=r-l:=by simp;omega
 refine⟨_,rfl,Qv a (sz t) l m,m-l,by rw[O],⟨by rw[O];omega,by rw[O];omega⟩,?_⟩
 by_cases hr:r=l
 ·left
  apply Az
  omega
 rcases H with Z|⟨b,o,cs,e1,hM,hi⟩
 ·left;subst Z;simp
 ·right
  have aa:¬(m=l):=by omega
  refine⟨b,o+l*sz t,cs,?_,hM,λi ac=>?_⟩
  ·unfold Qv;rw[if_neg aa,e1];simp[zo]
  ·have:=hi (l+i) (by omega)
   have e3:((xs.take r).drop l)[i]=xs[l+i]:=by simp
   rw[e3]
   have e4:o+l*sz t+i*sz t=o+(l+i)*sz t:=by rw[Bz];omega
   rw[e4];exact this
def qaw:AV->Option Int
 |.g (.a (.v (.int _ n)))=>some n
 |_=>none
theorem zsp(h:qaw av=some n)(hd:DenV γ av u):∃k,u=.int k n:=by
 unfold qaw at h
 split at h
 ·simp only[Ab]at h;subst h;exact⟨_,hd⟩
 ·cases h
def z4z(P:Program)(t:TypeId):Option TypeId:=match P.underlying t with
 |some (.slice el)=>bif ji P el then some el else none
 |_=>none
theorem Jn(h:z4z P t=some el):P.underlying t=some (.slice el)/\ji P el=true:=by
 unfold z4z at h
 split at h
 ·rename_i e hu
  cases ho:ji P e with
  |false=>rw[ho]at h;cases h
  |true=>rw[ho]at h;simp only[cond_true,Ab]at h;subst h;exact⟨hu,ho⟩
 ·cases h
def zwy(P:Program)(cs:CS)(t:TypeId)(aa:AA)(n:Int)(g:Option Bool)(K:AV->Prop):Prop:=
 match z4z P t with
 |some el=>match rowOf cs aa with
  |some r=>bif Nat.beq (je P el) (sz r.1)then ∃y:El r.1,req g (0<=n/\r.2[n.toNat]?=some y)/\K (.g (.a (.elt r.1 y 0)))else False
  |none=>match aa with
   |.own c=>match Jk cs c with
    |some (.row e ty xs)=>bif Nat.beq (je P el) (sz ty)then req g (0<=n/\n.toNat<xs.length)/\K (.g (.a (.oelt c (sz ty) n.toNat 0)))else False
    |_=>False
   |_=>False
 |none=>False
theorem zom(hu:P.underlying t=some (.slice el))(ho:ji P el=true){a:Addr}{len cap:Nat}{k:IntKind}(h1:0<=n)(h2:n<(len:Int))(h:zb):
  QExec P (Ek t (.slice (some a) len cap) (.int k n)) h (.pointer (some (a.add (n.toNat*je P el)))):=by
 have:=Zb (P:=P) (t:=t) (x:=.slice (some a) len cap) (i:=.int k n) (g:=none) (K:=λv=>v=.pointer (some (a.add (n.toNat*je P el))))
  (λZ O=>by
   rcases O with O|⟨m,O⟩
   ·rw[hu]at O;cases O;exact j5 ho
   ·rw[hu]at O;cases O) (by unfold zn4;rw[hu];exact⟨a,⟨rfl,h1,h2⟩,rfl⟩)
 obtain⟨v,rfl,hq⟩:=this
 exact hq trivial h
theorem zon{aa:AA}{K:AV->Prop}(H:zwy P cs t aa n g K):
  ∃av,K av/\(gok g->∀γ h u k,Inv h0 W M0 cs γ h->DenA γ aa u->∃v,DenV γ av v/\QExec P (Ek t u (.int k n)) h v):=by
 unfold zwy at H
 split at H
 ·rename_i el ak
  obtain⟨hu,ho⟩:=Jn ak
  split at H
  ·rename_i r hr
   cases hz:Nat.beq (je P el) (sz r.1)with
   |false=>rw[hz]at H;exact H.elim
   |true=>
    rw[hz]at H
    obtain⟨y,hy,hK⟩:=H
    refine⟨_,hK,λhg γ h u k I hd=>?_⟩
    obtain⟨ac,ae⟩:=hy.out hg
    have Z:=Ak hz
    obtain⟨v,e,a,c,e2,hn,H⟩:=zcz I hr hd
    cases e
    subst e2
    have hi:n.toNat<r.2.length:=(Ax.1 ae).1
    have hx:r.2[n.toNat]=y:=(Ax.1 ae).2
    rcases H with aj|⟨b,o,cc,e1,hM,ah⟩
    ·rw[aj]at hi;simp at hi
    ·subst e1
     refine⟨_,?_,zom hu ho ac (by omega) h⟩
     have:=ah n.toNat hi
     rw[hx]at this
     rw[zo,Z]
     exact⟨b,o+n.toNat*sz r.1,cc,rfl,hM,this⟩
  ·split at H
   ·rename_i c _
    split at H
    ·rename_i e ty xs hc
     cases hz:Nat.beq (je P el) (sz ty)with
     |false=>rw[hz]at H;exact H.elim
     |true=>
      rw[hz]at H
      obtain⟨hy,hK⟩:=H
      refine⟨_,hK,λhg γ h u k I hd=>?_⟩
      obtain⟨ac,hi⟩:=hy.out hg
      have Z:=Ak hz
      obtain⟨cells,O,al,_,hl⟩:=I.den _ (ql hc)
      simp only at hl O
      rcases O.2 with⟨hv,h1⟩|⟨g',cap,an,hv,_,am,_,_,_,af⟩
      ·omega
      ·simp only[AJ]at hv
       have ai:u=slV (γ.σ c):=hd
       subst ai
       unfold slV
       rw[hv.1]
       refine⟨_,?_,zom hu ho ac (by omega) h⟩
       rw[zo,Z,AD]
       exact⟨g',hv.1,rfl⟩
    ·exact H.elim
   ·exact H.elim
 ·exact H.elim
def zoo(ρ:Operand->Option AV)(d:Int):Option Operand->Option Int
 |none=>some d
 |some x=>match ρ x with
  |some av=>qaw av
  |none=>none
theorem Jo{ρ:Operand->Option AV}(hρ:∀x av,ρ x=some av->DenV γ av (σ x)){d n:Int}{x:Option Operand}(h:zoo ρ d x=some n):j6 (x.map σ) d=some n:=by
 unfold zoo at h
 split at h
 ·exact h
 ·rename_i y
  split at h
  ·rename_i av O
   obtain⟨k,e⟩:=zsp h (hρ _ _ O)
   simp[j6,e]
  ·cases h
def zwz(P:Program)(cs:CS)(ρ:Operand->Option AV)(t:TypeId)(aa:AA)(lo hi mx:Option Operand)(g:Option Bool)(K:AV->Prop):Prop:=
 match z4z P t with
 |some el=>match rowOf cs aa with
  |some r=>bif Nat.beq (je P el) (sz r.1)then(match zoo ρ 0 lo,zoo ρ (r.2.length:Int) hi with
   |some l,some h=>match mx with
    |none=>req g (0<=l/\l<=h/\h<=(r.2.length:Int))/\K (.g (.a (.d (.row r.1) ((r.2.take h.toNat).drop l.toNat))))
    |some m=>match zoo ρ 0 (some m),hi with
     |some m,some _=>req g (0<=l/\l<=h/\h<=(r.2.length:Int)/\m=h)/\K (.g (.a (.dc r.1 ((r.2.take h.toNat).drop l.toNat))))
     |_,_=>False
   |_,_=>False)else False
  |none=>False
 |none=>False
theorem zop(hu:P.underlying t=some (.slice el))(ho:ji P el=true){len cap:Nat}{lo hi mx:Option Value}{l r m:Int}(hl:j6 lo 0=some l)(hr:j6 hi (len:Int)=some r)(hm:j6 mx (cap:Int)=some m)
  (h0:mx=none\/∃v,hi=some v) (h1:0<=l) (h2:l<=r) (h3:r<=m) (h4:m<=(cap:Int)) (h:zb):
  QExec P (Em t (.slice a len cap) lo hi mx) h (.slice (Qv a (je P el) l.toNat m.toNat) (r.toNat-l.toNat) (m.toNat-l.toNat)):=by
 have:=Yx (P:=P) (t:=t) (x:=.slice a len cap) (lo:=lo) (hi:=hi) (mx:=mx) (g:=none) (K:=λv=>v=.slice (Qv a (je P el) l.toNat m.toNat) (r.toNat-l.toNat) (m.toNat-l.toNat))
  (λZ O=>by rw[hu]at O;cases O;exact j5 ho) (by unfold zr9;rw[hu];simp only[hl,hr,hm];exact⟨h0,⟨h1,h2,h3,h4⟩,trivial⟩)
 obtain⟨v,rfl,hq⟩:=this
 exact hq trivial h
theorem zoq{ρ:Operand->Option AV}{aa:AA}{lo hi mx:Option Operand}{K:AV->Prop}(H:zwz P cs ρ t aa lo hi mx g K):
  ∃av,K av/\(gok g->∀γ h u σ,Inv h0 W M0 cs γ h->(∀x av,ρ x=some av->DenV γ av (σ x))->DenA γ aa u->∃v,DenV γ av v/\QExec P (Em t u (lo.map σ) (hi.map σ) (mx.map σ)) h v):=by
 unfold zwz at H
 split at H
 ·rename_i el ai
  obtain⟨hu,ho⟩:=Jn ai
  split at H
  ·rename_i r hr
   cases hz:Nat.beq (je P el) (sz r.1)with
   |false=>rw[hz]at H;exact H.elim
   |true=>
    rw[hz]at H
    have af:=Ak hz
    simp only[cond_true]at H
    split at H
    ·rename_i l hh hl ae
     split at H
     ·obtain⟨hy,hK⟩:=H
      refine⟨_,hK,λhg γ h u σ I hρ hd=>?_⟩
      obtain⟨h1,h2,h3⟩:=hy.out hg
      have O:=zcz I hr hd
      have Z:=O
      obtain⟨v,e,a,c,e2,hn,_⟩:=Z
      cases e
      subst e2
      refine⟨_,?_,zop hu ho (Jo hρ hl) (Jo hρ ae) (m:=(c:Int)) rfl (.inl rfl) h1 h2 (by omega) (Int.le_refl _) h⟩
      rw[af]
      exact O.sub (by omega) (by omega) (by omega) (by omega)
     ·rename_i m
      split at H
      ·rename_i m' hx hm
       obtain⟨hy,hK⟩:=H
       refine⟨_,hK,λhg γ h u σ I hρ hd=>?_⟩
       obtain⟨h1,h2,h3,h4⟩:=hy.out hg
       subst h4
       have O:=zcz I hr hd
       have Z:=O
       obtain⟨v,e,a,c,e2,hn,_⟩:=Z
       cases e
       subst e2
       have ac:=Jo hρ hm
       have ah:j6 ((some m).map σ) (c:Int)=some m':=by
        unfold j6 at ac ⊢
        simp only[Option.map_some]at ac ⊢
        split at ac <;> simp_all
       refine⟨_,?_,zop hu ho (Jo hρ hl) (Jo hρ ae) ah (.inr ⟨_,rfl⟩) h1 h2 (Int.le_refl _) (by omega) h⟩
       rw[af]
       refine⟨⟨_,_,_⟩,rfl,rfl,O.sub (by omega) (by omega) (by omega) (by omega)⟩
      ·exact H.elim
    ·exact H.elim
  ·exact H.elim
 ·exact H.elim
def qbe(cs:CS):AA->Option Nat
 |.d (.row _) xs=>some xs.length
 |.dc _ xs=>some xs.length
 |.own c=>match Jk cs c with
  |some (.fz _ xs)=>some xs.length
  |some (.row _ _ xs)=>some xs.length
  |_=>none
 |_=>none
theorem z1a(I:Inv h0 W M0 cs γ h){aa:AA}{n:Nat}(hn:qbe cs aa=some n)(hd:DenA γ aa u):∃a c,u=.slice a n c:=by
 have key:∀{t:Ty} {xs:List (El t)},Rd γ.M (.row t) xs [u]->∃a c,u=.slice a xs.length c:=by
  rintro t xs ⟨v,e,a,c,e2,_⟩
  cases e
  exact⟨a,c,e2⟩
 unfold qbe at hn
 split at hn
 ·simp only[Ab]at hn;subst hn;exact key hd
 ·simp only[Ab]at hn;subst hn;obtain⟨s,_,_,hd⟩:=hd;exact key hd
 ·split at hn
  ·rename_i c t xs hc
   simp only[Ab]at hn;subst hn
   rw[show u=_ from hd]at key ⊢
   exact key (I.den _ (ql hc))
  ·rename_i c e t xs hc
   simp only[Ab]at hn;subst hn
   obtain⟨cells,_,_,_,hl⟩:=I.den _ (ql hc)
   simp only at hl
   rw[show u=_ from hd]
   exact⟨_,_,by unfold slV;rw[hl]⟩
  ·cases hn
 ·cases hn
def z9c:AA->List AA
 |.v x=>x.cells.toList.map .v
 |x=>[x]
def zuq:AV->Option (List AA)
 |.g (.a x)=>some (z9c x)
 |.g (.agg l)=>some l
 |_=>none
theorem z9d(h:u.oneCell'=true):u.cells.toList=[u]:=by
 cases u <;> first|rfl|simp[Value.oneCell']at h
theorem Qc(γ:Gh):∀l:List Value,All2 (DenA γ) (l.map .v) l
 |[]=>trivial
 |_::l=>⟨rfl,Qc γ l⟩
theorem zw0{x:AA}(hd:DenA γ x u):All2 (DenA γ) (z9c x) u.cells.toList:=by
 have key:u.oneCell'=true->All2 (DenA γ) [x] u.cells.toList:=λh=>by rw[z9d h];exact⟨hd,trivial⟩
 cases x with
 |v y=>rw[show u=y from hd];exact Qc γ _
 |d t y=>exact key (Rd.one (show Rd γ.M t y [u]from hd) u (by simp))
 |box c o=>exact key (by rw[show u=_ from hd];rfl)
 |own c=>exact key (by rw[show u=_ from hd];rfl)
 |oelt c z i o=>obtain⟨g,_,e⟩:=hd;exact key (by rw[e];rfl)
 |elt t y o=>obtain⟨b,f,cs,e,_⟩:=hd;exact key (by rw[e];rfl)
 |dc t xs=>obtain⟨s,e,_⟩:=hd;exact key (by rw[e];rfl)
theorem zc0{l:List AA}(h:zuq av=some l)(hd:DenV γ av u):All2 (DenA γ) l u.cells.toList:=by
 unfold zuq at h
 split at h
 ·simp only[Ab]at h;subst h;exact zw0 hd
 ·simp only[Ab]at h;subst h
  obtain⟨us,rfl,h2⟩:=hd
  simpa[Value.cells]using h2
 ·cases h
def zqt(O:Nat->Option (Nat×Nat))(cells:List AA):List (Nat×AV)->Option (List AA)
 |[]=>some cells
 |(i,av)::rest=>match O i,zuq av with
  |some (off,size),some l=>bif Nat.beq l.length size then(bif Nat.ble (off+l.length) cells.length then zqt O (cells.take off++l++cells.drop (off+l.length)) rest else none)else none
  |_,_=>none
theorem z1b(vs:List Value):∀(k off:Nat) (cs:Array Value),off+k+vs.length<=cs.size ->
  ((vs.zipIdx k).foldl (λcs (x:Value×Nat)=>cs.setIfInBounds (off+x.2) x.1) cs).toList=cs.toList.take (off+k)++vs++cs.toList.drop (off+k+vs.length):=by
 induction vs with
 |nil=>intro k off cs h;simp
 |cons v vs ih=>
  intro k off cs h
  simp only[AR]at h
  rw[List.zipIdx_cons,List.foldl_cons]
  refine(ih (k+1) off (cs.setIfInBounds (off+k) v) (by rw[BX];omega)).trans ?_
  simp only[Array.toList_setIfInBounds,AR]
  have hi:off+k<cs.toList.length:=by simp;omega
  rw[<-Nat.add_assoc,List.drop_set_of_lt (by omega)]
  have e2:(cs.toList.set (off+k) v).take (off+k+1)=cs.toList.take (off+k)++[v]:=by
   rw[List.take_set,An hi,List.set_append_right _ _ (by simp;omega)]
   have:off+k-(cs.toList.take (off+k)).length=0:=by simp;omega
   rw[this];rfl
  rw[e2,show off+k+(vs.length+1)=off+k+1+vs.length by omega]
  simp
theorem Wc{O:Nat->Option (Nat×Nat)}{γ:Gh}:∀{parts:List (Nat×AV)} {cells r:List AA} {us:List Value} {ps:List (Nat×Value)},zqt O cells parts=some r->All2 (DenA γ) cells us->All2 (λ(x:Nat×AV) (y:Nat×Value)=>x.1=y.1/\DenV γ x.2 y.2) parts ps ->
  ∃ws:List Value,Ez O us.toArray ps=some ws.toArray/\All2 (DenA γ) r ws
 |[],cells,r,us,[],h,hc,_=>by
  simp only[zqt,Ab]at h
  subst h
  exact⟨us,rfl,hc⟩
 |[],_,_,_,_::_,_,_,hp=>hp.elim
 |_::_,_,_,_,[],_,_,hp=>hp.elim
 |(i,av)::rest,cells,r,us,(j,v)::ps,h,hc,hp=>by
  obtain⟨⟨Z,hv⟩,hp⟩:=hp
  simp only at Z hv
  subst Z
  simp only[zqt]at h
  split at h
  ·rename_i off size l ai hl
   cases hb:Nat.beq l.length size with
   |false=>rw[hb]at h;cases h
   |true=>
    rw[hb]at h
    simp only[cond_true]at h
    cases hb2:Nat.ble (off+l.length) cells.length with
    |false=>rw[hb2]at h;cases h
    |true=>
     rw[hb2]at h
     simp only[cond_true]at h
     have aa:=zc0 hl hv
     have ac:=aa.length
     have aj:=hc.length
     have h1:=Ak hb
     have h2:=BE hb2
     have ah:v.cells.size=size:=by rw[<-h1,ac];simp
     have ae:All2 (DenA γ) (cells.take off++l++cells.drop (off+l.length)) (us.take off++v.cells.toList++us.drop (off+l.length)):=((hc.take off).append aa).append (hc.drop _)
     obtain⟨ws,e1,e2⟩:=Wc h ae hp
     refine⟨ws,?_,e2⟩
     simp only[Ez,ai]
     have af:¬((decide (v.cells.size≠size)||decide (off+v.cells.size>us.toArray.size))=true):=by
      rw[ah];simp;omega
     rw[if_neg af]
     rw[<-e1]
     congr 1
     apply Dr
     have:=z1b v.cells.toList 0 off us.toArray (by simp;omega)
     rw[<-Array.foldl_toList,Array.toList_zipIdx]
     refine this.trans ?_
     simp[<-ac]
  ·cases h
def zc1(P:Program):List Field->Bool
 |[]=>true
 |f::l=>bif ji P f.type then zc1 P l else false
theorem zkr{P:Program}{h:zb}:∀{l:List Field},zc1 P l=true->QExec P (l.mapM λf=>do pure (f.offset,<-Go.sizeOf f.type)) h (l.map λf=>(f.offset,je P f.type))
 |[],_=>λ_ _=>rfl
 |f::l,H=>by
  simp only[zc1]at H
  cases ho:ji P f.type with
  |false=>rw[ho]at H;cases H
  |true=>
   rw[ho]at H
   obtain⟨i,hi⟩:=j5 ho
   rw[Ec]
   exact QExec.bind (QExec.bind (QExec.sizeOf hi) (QExec.pure _)) (QExec.bind (zkr H) (QExec.pure _))
def placeOf(P:Program)(fs:Array Field)(i:Nat):Option (Nat×Nat):=match fs[i]? with
 |some f=>some (f.offset,je P f.type)
 |none=>none
def zc2(ρ:Operand->Option AV):List (Nat×Operand)->Option (List (Nat×AV))
 |[]=>some []
 |(i,x)::l=>match ρ x,zc2 ρ l with
  |some av,some r=>some ((i,av)::r)
  |_,_=>none
theorem X6{γ:Gh}{ρ:Operand->Option AV}{σ:Operand->Value}(hρ:∀x av,ρ x=some av->DenV γ av (σ x)):∀{l:List (Nat×Operand)} {r:List (Nat×AV)},zc2 ρ l=some r ->
  All2 (λ(x:Nat×AV) (y:Nat×Value)=>x.1=y.1/\DenV γ x.2 y.2) r (l.map λx=>(x.1,σ x.2))
 |[],r,h=>by simp only[zc2,Ab]at h;subst h;trivial
 |(i,x)::l,r,h=>by
  simp only[zc2]at h
  split at h
  ·rename_i av r' h1 h2
   simp only[Ab]at h
   subst h
   exact⟨⟨rfl,hρ _ _ h1⟩,X6 hρ h2⟩
  ·cases h
def zeroOf(P:Program)(t:TypeId):Option Value:=match P.info? t with
 |some i=>i.zero
 |none=>none
theorem Jp{z:Value}(h:zeroOf P t=some z)(hp:zb):QExec P (zeroValue t) hp z:=by
 unfold zeroOf at h
 split at h
 ·rename_i i hi
  intro B d
  simp[zeroValue,typeInfo,program,hi,Sem.run,h]
 ·cases h
def zw1(P:Program)(t:TypeId)(parts:List (Nat×AV)):Option (List AA):=match P.underlying t,zeroOf P t with
 |some (.struct fs),some z=>bif zc1 P fs.toList then zqt (placeOf P fs) (z.cells.toList.map .v) parts else none
 |_,_=>none
theorem zor{parts:List (Nat×AV)}{r:List AA}(h:zw1 P t parts=some r){ps:List (Nat×Value)}(hp:All2 (λ(x:Nat×AV) (y:Nat×Value)=>x.1=y.1/\DenV γ x.2 y.2) parts ps)(hh:zb):
  ∃ws:List Value,QExec P (Instr.build t ps.toArray) hh (.agg ws.toArray)/\All2 (DenA γ) r ws:=by
 unfold zw1 at h
 split at h
 ·rename_i fs z hu hz
  cases hof:zc1 P fs.toList with
  |false=>rw[hof]at h;cases h
  |true=>
   rw[hof]at h
   simp only[cond_true]at h
   obtain⟨ws,e1,e2⟩:=Wc h (Qc γ _) hp
   refine⟨ws,?_,e2⟩
   intro B d
   have hq:=QExec.underlying (h:=hh) hu B d
   have O:=Jp hz hh B d
   have Z:=zkr (P:=P) (h:=hh) hof B d
   unfold Instr.build
   rw[Sem.run_bind,O]
   simp only[Result.andThen_ok]
   rw[Sem.run_bind,hq]
   simp only[Result.andThen_ok]
   rw[Sem.run_bind,Array.mapM_eq_mapM_toList,Sem.run_map,Z]
   simp only[Result.andThen_ok]
   have e3:(λi=>((fs.toList.map λf=>(f.offset,je P f.type)).toArray)[i]?)=placeOf P fs:=by
    funext i
    unfold placeOf
    cases hi:fs[i]? <;> simp[hi]
   rw[e3]
   have e4:z.cells.toList.toArray=z.cells:=by simp
   rw[e4]at e1
   simp only[e1]
   rfl
 ·cases h
def zw2(P:Program)(t:TypeId)(a b:Value):Option Bool:=match P.underlying t,a,b with
 |some (.int _),.int k x,.int k' y=>if k=k' then some (x==y)else none
 |some .string,.string x,.string y=>some (x.toList==y.toList)
 |some .bool,.bool x,.bool y=>some (x==y)
 |_,_,_=>none
def z5a(P:Program)(xs ys:List AA):List Field->Option Bool
 |[]=>some true
 | f :: fs => if f.name = "_" then none else match zwx P f.type xs f.offset, zwx P f.type ys f.offset with
  |some (.a (.v a)),some (.a (.v b))=>match zw2 P f.type a b,z5a P xs ys fs with
   |some p,some q=>some (p&&q)
   |_,_=>none
  |_,_=>none
def eqA(P:Program)(o:Oper)(ρ:Operand->Option AV):Option Bool:=match o.op with
 |.binOp .eql t x y _=>match ρ x,ρ y with
  |some (.g (.agg xs)),some (.g (.agg ys))=>match P.underlying t with
   |some (.struct _)=>bif P.stoodInHeld t then none else bif P.eqGuardType P.depth t then none else z5a P xs ys (P.fieldsOf t).toList
   |_=>none
  |_,_=>none
 |.binOp .neq t x y _=>match ρ x,ρ y with
  |some (.g (.agg xs)),some (.g (.agg ys))=>match P.underlying t with
   |some (.struct _)=>bif P.stoodInHeld t then none else bif P.eqGuardType P.depth t then none else(match z5a P xs ys (P.fieldsOf t).toList with
    |some b=>some (!b)
    |none=>none)
   |_=>none
  |_,_=>none
 |_=>none
theorem zos{a b:Value}{r:Bool}(h:zw2 P t a b=some r)(d:Nat)(w:World):(Op.equalIn (d+1) t a b).run P w=.ok r w:=by
 unfold zw2 at h
 split at h
 ·rename_i k0 k x k' y hu
  split at h
  ·rename_i hk
   simp only[Ab]at h
   subst hk;subst h
   exact run_equalIn_int w d t k k0 x y hu
  ·cases h
 ·rename_i x y hu
  simp only[Ab]at h
  subst h
  exact run_equalIn_string w d t x y hu
 ·rename_i x y hu
  simp only[Ab]at h
  subst h
  exact run_equalIn_bool' w d t x y hu
 ·cases h
theorem zks{P:Program}{γ:Gh}{xs ys:List AA}{us vs:List Value}(hx:All2 (DenA γ) xs us)(hy:All2 (DenA γ) ys vs)(d:Nat)(h:zb):∀(fs:List Field) (b:Bool),z5a P xs ys fs=some b->QExec P (Op.eqFields (d+1) us.toArray vs.toArray fs) h b
 |[],b,hb=>by
  simp only[z5a,Ab]at hb
  subst hb
  exact QExec.pure _
 |f::fs,b,hb=>by
  unfold z5a at hb
  split at hb
  ·cases hb
  ·rename_i hn
   split at hb
   ·rename_i a b' ac aa
    split at hb
    ·rename_i p q hp hq
     simp only[Ab]at hb
     subst hb
     obtain⟨v1,e1,r1⟩:=zbe ac hx h
     obtain⟨v2,e2,r2⟩:=zbe aa hy h
     have O:v1=a:=e1
     have Z:v2=b':=e2
     subst O;subst Z
     intro B dd
     unfold Op.eqFields
     rw[if_pos (by exact hn)]
     rw[Sem.run_bind,r1 B dd]
     simp only[Result.andThen_ok]
     rw[Sem.run_bind,r2 B dd]
     simp only[Result.andThen_ok]
     rw[Sem.run_bind,zos hp d]
     simp only[Result.andThen_ok]
     cases p with
     |false=>rfl
     |true=>simpa using zks hx hy d h fs q hq B dd
    ·cases hb
   ·cases hb
theorem zot{ρ:Operand->Option AV}(H:eqA P o ρ=some b)(hρ:∀x av,ρ x=some av->DenV γ av (σ x))(h:zb):QExec P (execOp σ o) h (.value (.bool b)):=by
 have key:∀{t:TypeId} {xs ys:List AA} {us vs:List Value} {fs:Array Field} {b:Bool},P.underlying t=some (.struct fs)->P.stoodInHeld t=false->All2 (DenA γ) xs us->All2 (DenA γ) ys vs->z5a P xs ys (P.fieldsOf t).toList=some b->QExec P (Op.equalIn 10000 t (.agg us.toArray) (.agg vs.toArray)) h b:=by
  intro t xs ys us vs fs b hu hs hx hy hb B d
  have hf:P.underlying t=some (.struct (P.fieldsOf t)):=by rw[hu];simp[Program.fieldsOf,hu]
  rw[run_equalIn_struct _ 9999 t us.toArray vs.toArray hf hs]
  exact zks hx hy 9998 h _ b hb B d
 unfold eqA at H
 split at H
 ·rename_i t x y yt ho
  split at H
  ·rename_i xs ys hx hy
   split at H
   ·rename_i fs hu
    cases hs:P.stoodInHeld t with
    |true=>rw[hs]at H;cases H
    |false=>
     cases hg:P.eqGuardType P.depth t with
     |true=>rw[hs,hg]at H;cases H
     |false=>
      rw[hs,hg]at H
      obtain⟨us,e1,d1⟩:=hρ _ _ hx
      obtain⟨vs,e2,d2⟩:=hρ _ _ hy
      have hk:=key hu hs d1 d2 H
      simp only[execOp,ho,e1,e2]
      refine QExec.val λB d=>?_
      rw[Sem.run_bind,run_eqGuard_agg _ _ _ _ _ _ _ hg]
      simp only[Result.andThen_ok]
      rw[run_eql_struct,hk B d]
      rfl
   ·cases H
  ·cases H
 ·rename_i t x y yt ho
  split at H
  ·rename_i xs ys hx hy
   split at H
   ·rename_i fs hu
    cases hs:P.stoodInHeld t with
    |true=>rw[hs]at H;cases H
    |false=>
     cases hg:P.eqGuardType P.depth t with
     |true=>rw[hs,hg]at H;cases H
     |false=>
      rw[hs,hg]at H
      simp only[cond_false]at H
      split at H
      ·rename_i b' O
       simp only[Ab]at H
       subst H
       obtain⟨us,e1,d1⟩:=hρ _ _ hx
       obtain⟨vs,e2,d2⟩:=hρ _ _ hy
       have hk:=key hu hs d1 d2 O
       simp only[execOp,ho,e1,e2]
       refine QExec.val λB d=>?_
       rw[Sem.run_bind,run_eqGuard_agg _ _ _ _ _ _ _ hg]
       simp only[Result.andThen_ok]
       rw[run_neq_struct,hk B d]
       rfl
      ·cases H
   ·cases H
  ·cases H
 ·cases H
def qA0(P:Program)(o:Oper)(ρ:Operand->Option AV)(g:Option Bool)(cs:CS)(K:AV->Prop):Prop:=
 bif (bif zf3 o then(bif isQ P o then(bif xf o.op then zhq ρ o.op.operands.toList else false)else false)else false)then Zw P o (qau ρ) g #[] (λv=>K (zun v))else
 match o.op with
 |.move x=>match ρ x with
  |some av=>K av
  |none=>False
 |.assign x=>match ρ x with
  |some av=>K av
  |none=>False
 |.extract x i=>match ρ x with
  |some (.tup l)=>match l[i]? with
   |some ag=>K (.g ag)
   |none=>False
  |some (.nx b p c)=>match i with
   |0=>K (.g (.a (.v (.bool b))))
   |1=>req g (b=true)/\K (.g (.a (.v (.int .i64 p))))
   |2=>req g (b=true)/\K (.g (.a (.v (.int .i32 c))))
   |_=>False
  |_=>False
 |.field t x f=>match ρ x,zwv P t f with
  |some (.g (.agg l)),some (k,ty)=>match zwx P ty l k with
   |some ag=>K (.g ag)
   |none=>False
  |_,_=>False
 |.fieldAddr t x f=>match ρ x,zwv P t f with
  |some (.g (.a aa)),some (k,_)=>match qav k aa with
   |some O=>K (.g (.a O))
   |none=>False
  |_,_=>False
 |.load t x=>match ρ x with
  |some (.g (.a aa))=>zup P cs t aa g K
  |_=>False
 |.indexAddr t x i=>match ρ x,ρ i with
  |some (.g (.a aa)),some iv=>match qaw iv with
   |some n=>zwy P cs t aa n g K
   |none=>False
  |_,_=>False
 |.slice t x lo hi mx=>match ρ x with
  |some (.g (.a aa))=>zwz P cs ρ t aa lo hi mx g K
  |_=>False
 |.nilCheck x=>match ρ x with
  |some (.g (.a aa))=>match qav 0 aa with
   |some _=>K (.g (.a aa))
   |none=>False
  |_=>False
 |.build t parts=>match zc2 ρ parts.toList with
  |some ps=>match zw1 P t ps with
   |some r=>K (.g (.agg r))
   |none=>False
  |none=>False
 |.call c=>match c.callee with
  |.builtin .len=>match c.args.toList,c.argTypes.toList with
   |[x],[t]=>match ρ x,P.underlying t with
    |some (.g (.a (.v (.string s)))),some .string=>K (.g (.a (.v (.int .i64 (s.size:Int)))))
    |some (.g (.a (.v (.slice _ n _)))),some (.slice _)=>K (.g (.a (.v (.int .i64 (n:Int)))))
    |some (.g (.a aa)),some (.slice _)=>match qbe cs aa with
     |some n=>K (.g (.a (.v (.int .i64 (n:Int)))))
     |none=>False
    |_,_=>False
   |_,_=>False
  |_=>False
 |_=>False
theorem zw3{ρ:Operand->Option AV}{K:AV->Prop}(H:qA0 P o ρ g cs K):
  ∃av,K av/\(gok g->∀γ h σ,Inv h0 W M0 cs γ h->(∀x av,ρ x=some av->DenV γ av (σ x))->∃v,DenV γ av v/\QExec P (execOp σ o) h (.value v)):=by
 unfold qA0 at H
 cases hb:(bif zf3 o then(bif isQ P o then(bif xf o.op then zhq ρ o.op.operands.toList else false)else false)else false)with
 |true=>
  rw[hb]at H
  cases hfam:zf3 o with
  |false=>rw[hfam]at hb;cases hb
  |true=>
   cases hq:isQ P o with
   |false=>rw[hfam,hq]at hb;cases hb
   |true=>
    cases hns:xf o.op with
    |false=>rw[hfam,hq,hns]at hb;cases hb
    |true=>
     rw[hfam,hq,hns]at hb
     simp only[cond_true]at hb H
     obtain⟨v,h1,h2⟩:=Xy hfam H
     refine⟨_,h1,λhg γ h σ I hρ=>⟨v,Jm γ v,?_⟩⟩
     rw[zoj hρ hns hb]
     exact h2 hg h ⟨by simp,λi hi=>absurd hi (by simp)⟩
 |false=>
  rw[hb]at H
  simp only[cond_false]at H
  have val:∀{s:Sem Value} {h:zb} {v:Value},QExec P s h v->QExec P (s >>= λx=>(Dg (DL x):Sem Next)) h (.value v):=λhq=>QExec.val hq
  split at H
  ·rename_i x ho
   split at H
   ·rename_i av O
    exact⟨av,H,λ_ γ h σ I hρ=>⟨_,hρ _ _ O,by simp only[execOp,ho];exact QExec.pure _⟩⟩
   ·exact H.elim
  ·rename_i x ho
   split at H
   ·rename_i av O
    exact⟨av,H,λ_ γ h σ I hρ=>⟨_,hρ _ _ O,by simp only[execOp,ho];exact QExec.pure _⟩⟩
   ·exact H.elim
  ·rename_i x i ho
   split at H
   ·rename_i l O
    split at H
    ·rename_i ag ah
     refine⟨_,H,λ_ γ h σ I hρ=>?_⟩
     obtain⟨us,e,h2⟩:=hρ _ _ O
     obtain⟨u,hu,hd⟩:=h2.get ah
     refine⟨u,hd,?_⟩
     simp only[execOp,ho,e]
     refine val λB d=>?_
     unfold Instr.extract
     simp[hu]
    ·exact H.elim
   ·rename_i b p c O
    split at H
    ·refine⟨_,H,λ_ γ h σ I hρ=>⟨_,rfl,?_⟩⟩
     obtain⟨e1,e2⟩:=hρ _ _ O
     simp only[execOp,ho]
     refine val λB d=>?_
     cases b with
     |true=>rw[e1 rfl];rfl
     |false=>rw[e2 rfl];rfl
    ·refine⟨_,H.2,λhg γ h σ I hρ=>⟨_,rfl,?_⟩⟩
     obtain⟨e1,_⟩:=hρ _ _ O
     simp only[execOp,ho,e1 (H.1.out hg)]
     exact val λB d=>rfl
    ·refine⟨_,H.2,λhg γ h σ I hρ=>⟨_,rfl,?_⟩⟩
     obtain⟨e1,_⟩:=hρ _ _ O
     simp only[execOp,ho,e1 (H.1.out hg)]
     exact val λB d=>rfl
    ·exact H.elim
   ·exact H.elim
  ·rename_i t x f ho
   split at H
   ·rename_i l k ty O hf
    split at H
    ·rename_i ag ah
     refine⟨_,H,λ_ γ h σ I hρ=>?_⟩
     obtain⟨us,e,h2⟩:=hρ _ _ O
     obtain⟨v,hd,hq⟩:=zbe ah h2 h
     refine⟨v,hd,?_⟩
     simp only[execOp,ho,e]
     refine val λB d=>?_
     unfold zwv at hf
     split at hf
     ·rename_i fs hu
      split at hf
      ·rename_i fl ak
       split at hf
       ·rename_i i hi
        cases hz:Nat.beq i.size 0 with
        |true=>rw[hz]at hf;cases hf
        |false=>
         rw[hz]at hf
         simp only[cond_false,Ab,Bv]at hf
         obtain⟨rfl,rfl⟩:=hf
         have am:=QExec.underlying (h:=h) hu B d
         unfold Instr.field
         rw[Sem.run_bind,am]
         simp only[Result.andThen_ok,ak,asAgg,Sem.run_bind,Sem.run_pure]
         exact hq B d
       ·cases hf
      ·cases hf
     ·cases hf
    ·exact H.elim
   ·exact H.elim
  ·rename_i t x f ho
   split at H
   ·rename_i aa k ty O hf
    split at H
    ·rename_i aj ac
     refine⟨_,H,λ_ γ h σ I hρ=>?_⟩
     obtain⟨b,o',e,hd⟩:=zso ac (hρ _ _ O)
     refine⟨_,hd,?_⟩
     simp only[execOp,ho]
     rw[e]
     exact val (zww hf b o')
    ·exact H.elim
   ·exact H.elim
  ·rename_i t x ho
   split at H
   ·rename_i aa O
    obtain⟨av,h1,h2⟩:=zhr (h0:=h0) (W:=W) (M0:=M0) H
    refine⟨av,h1,λhg γ h σ I hρ=>?_⟩
    obtain⟨v,hd,hq⟩:=h2 hg γ h _ I (hρ _ _ O)
    refine⟨v,hd,?_⟩
    simp only[execOp,ho]
    exact val hq
   ·exact H.elim
  ·rename_i t x i ho
   split at H
   ·rename_i aa iv O al
    split at H
    ·rename_i n hn
     obtain⟨av,h1,h2⟩:=zon (h0:=h0) (W:=W) (M0:=M0) H
     refine⟨av,h1,λhg γ h σ I hρ=>?_⟩
     obtain⟨k,e⟩:=zsp hn (hρ _ _ al)
     obtain⟨v,hd,hq⟩:=h2 hg γ h _ k I (hρ _ _ O)
     refine⟨v,hd,?_⟩
     simp only[execOp,ho]
     rw[e]
     exact val hq
    ·exact H.elim
   ·exact H.elim
  ·rename_i t x lo hi mx ho
   split at H
   ·rename_i aa O
    obtain⟨av,h1,h2⟩:=zoq (h0:=h0) (W:=W) (M0:=M0) H
    refine⟨av,h1,λhg γ h σ I hρ=>?_⟩
    obtain⟨v,hd,hq⟩:=h2 hg γ h _ σ I hρ (hρ _ _ O)
    refine⟨v,hd,?_⟩
    simp only[execOp,ho]
    exact val hq
   ·exact H.elim
  ·rename_i x ho
   split at H
   ·rename_i aa O
    split at H
    ·rename_i aj ac
     refine⟨_,H,λ_ γ h σ I hρ=>?_⟩
     obtain⟨b,o',e,hd⟩:=zso ac (hρ _ _ O)
     have an:=hρ _ _ O
     refine⟨σ x,an,?_⟩
     simp only[execOp,ho]
     rw[e]
     exact QExec.pure _
    ·exact H.elim
   ·exact H.elim
  ·rename_i t parts ho
   split at H
   ·rename_i ps ap
    split at H
    ·rename_i r hr
     refine⟨_,H,λ_ γ h σ I hρ=>?_⟩
     obtain⟨ws,hq,hd⟩:=zor hr (X6 hρ ap) h
     refine⟨.agg ws.toArray,⟨ws,rfl,hd⟩,?_⟩
     simp only[execOp,ho]
     have e:(parts.map λx=>(x.1,σ x.2))=(parts.toList.map λx=>(x.1,σ x.2)).toArray:=by rw[<-C7]
     have:=val hq
     rw[<-e]at this
     exact this
    ·exact H.elim
   ·exact H.elim
  ·rename_i c ho
   split at H
   ·rename_i hc
    split at H
    ·rename_i x t ae ai
     have Z:c.args=#[x]:=by
      have:=congrArg List.toArray ae;simp at this;exact this
     have af:c.argTypes=#[t]:=by
      have:=congrArg List.toArray ai;simp at this;exact this
     have key:∀(σ:Operand->Value) (h:zb) (n:Int),(QExec P (CE #[t] o.type #[σ x]) h (.int .i64 n))->QExec P (execOp σ o) h (.value (.int .i64 n)):=by
      intro σ h n hq
      have e:execOp σ o=(CE c.argTypes o.type (c.args.map σ) >>= λx=>(Dg (DL x):Sem Next)):=by
       simp only[execOp,ho,resolve,hc]
       rfl
      rw[e,Z,af]
      refine val ?_
      simpa using hq
     split at H
     ·rename_i s O hu
      refine⟨_,H,λ_ γ h σ I hρ=>⟨_,rfl,key σ h _ λB d=>?_⟩⟩
      have hq:=QExec.underlying (h:=h) hu B d
      have e:σ x=.string s:=hρ _ _ O
      unfold CE
      simp only[DC,Di,e,Sem.run_bind,hq,Result.andThen_ok,Sem.run_pure]
      rfl
     ·rename_i a n cp el O hu
      refine⟨_,H,λ_ γ h σ I hρ=>⟨_,rfl,key σ h _ λB d=>?_⟩⟩
      have hq:=QExec.underlying (h:=h) hu B d
      have e:σ x=.slice a n cp:=hρ _ _ O
      unfold CE
      simp only[DC,Di,e,Sem.run_bind,hq,Result.andThen_ok,Sem.run_pure]
      rfl
     ·rename_i aa el _ _ O hu
      split at H
      ·rename_i n hn
       refine⟨_,H,λ_ γ h σ I hρ=>⟨_,rfl,key σ h _ λB d=>?_⟩⟩
       have hq:=QExec.underlying (h:=h) hu B d
       obtain⟨a,cp,e⟩:=z1a I hn (hρ _ _ O)
       unfold CE
       simp only[DC,Di,e,Sem.run_bind,hq,Result.andThen_ok,Sem.run_pure]
       rfl
      ·exact H.elim
     ·exact H.elim
    ·exact H.elim
   ·exact H.elim
  ·exact H.elim
def qbf(P:Program)(o:Oper)(ρ:Operand->Option AV):Option Bool:=match o.op with
 |.binOp op t x (.const .nilIface) _=>match ρ x,ρ (.const .nilIface),P.underlying t with
  |some (.g (.a (.d .err b))),some (.g (.a (.v .nilIface))),some (.interface _)=>match op with
   |.eql=>some b
   |.neq=>some (!b)
   |_=>none
  |_,_,_=>none
 |_=>none
theorem zkt{ρ:Operand->Option AV}(H:qbf P o ρ=some b)(hρ:∀x av,ρ x=some av->DenV γ av (σ x))(h:zb):QExec P (execOp σ o) h (.value (.bool b)):=by
 have key:∀{t:TypeId} {ms:Array (String×TypeId)} {b:Bool} {u:Value},P.underlying t=some (.interface ms)->((b=true/\u=.nilIface)\/(b=false/\∃t u',u=.iface t u'))->QExec P (Op.equal t u .nilIface) h b:=by
  intro t ms b u hu hb B d
  have hq:=QExec.underlying (h:=h) hu B d
  unfold Op.equal Op.maxDepth
  rcases hb with⟨rfl,rfl⟩|⟨rfl,t',u',rfl⟩
  ·unfold Op.equalIn;rw[Sem.run_bind,hq];rfl
  ·unfold Op.equalIn;rw[Sem.run_bind,hq];rfl
 unfold qbf at H
 split at H
 ·rename_i op t x yt ho
  split at H
  ·rename_i b0 ms hx hy hu
   have hσ:σ (.const .nilIface)=.nilIface:=hρ _ _ hy
   obtain⟨u,e,hb⟩:=(show Rd γ.M .err b0 [σ x]from hρ _ _ hx)
   have eu:u=σ x:=by simpa using e.symm
   subst eu
   have hk:=key hu hb
   have hg:∀op,QExec P (eqGuard op t x (.const .nilIface) (σ x) .nilIface) h ():=by
    intro op B d
    unfold eqGuard
    rcases hb with⟨_,e2⟩|⟨_,t',u',e2⟩
    ·rw[e2];cases op <;> simp
    ·rw[e2];cases op <;> simp
   have O:∀op,(binOp op t (σ x) .nilIface=match op with | .eql=>(do pure (.bool (<-Op.equal t (σ x) .nilIface))) | .neq=>(do pure (.bool (!(<-Op.equal t (σ x) .nilIface))))|_=>binOp op t (σ x) .nilIface):=by
    intro op
    rcases hb with⟨_,e2⟩|⟨_,t',u',e2⟩
    ·rw[e2];cases op <;> rfl
    ·rw[e2];cases op <;> rfl
   simp only[execOp,ho,hσ]
   refine QExec.val ((hg op).bind ?_)
   split at H
   ·simp only[Ab]at H;subst H
    rw[O]
    exact hk.bind (QExec.pure _)
   ·simp only[Ab]at H;subst H
    rw[O]
    exact hk.bind (QExec.pure _)
   ·cases H
  ·cases H
 ·cases H
def z5b(o:Oper)(ρ:Operand->Option AV):Option (TypeId×Nat×Nat):=match o.op with
 |.load t x=>match ρ x with
  |some (.g (.a (.v (.pointer (some ⟨b,off,none⟩)))))=>some (t,b,off)
  |_=>none
 |_=>none
def zhs(gl:Fr)(b off:Nat)(v:Value):Prop:=∃cs,gl b=some cs/\cs[off]?=some v
def zku(gl:Fr)(b:Nat)(g:Option Bool):List Atom->Nat->(List AA->Prop)->Prop
 |[],_,K=>K []
 |.int k::l,o,K=>∃x:Int,req g (zhs gl b o (.int k x))/\zku gl b g l (o+1) λr=>K (.v (.int k x)::r)
 |.str::l,o,K=>∃x:Bt,req g (zhs gl b o (.string x))/\zku gl b g l (o+1) λr=>K (.v (.string x)::r)
 |.bool::l,o,K=>∃x:Bool,req g (zhs gl b o (.bool x))/\zku gl b g l (o+1) λr=>K (.v (.bool x)::r)
 |_::_,_,_=>False
theorem Qd{gl:Fr}{b:Nat}{g:Option Bool}:∀{l:List Atom} {o:Nat} {K:List AA->Prop},zku gl b g l o K->∃vs:List Value,vs.length=l.length/\K (vs.map .v)/\(gok g->∀(j:Nat) (v:Value),vs[j]?=some v->zhs gl b (o+j) v)
 |[],o,K,H=>⟨[],rfl,H,λ_ j v h=>by simp at h⟩
 |.int k::l,o,K,⟨x,h1,h2⟩=>by
  obtain⟨vs,e1,e2,e3⟩:=Qd h2
  refine⟨.int k x::vs,by simp[e1],e2,λhg j v hv=>?_⟩
  cases j with
  |zero=>simp at hv;subst hv;exact h1.out hg
  |succ j=>have:=e3 hg j v (by simpa using hv);rwa[show o+1+j=o+(j+1)by omega]at this
 |.str::l,o,K,⟨x,h1,h2⟩=>by
  obtain⟨vs,e1,e2,e3⟩:=Qd h2
  refine⟨.string x::vs,by simp[e1],e2,λhg j v hv=>?_⟩
  cases j with
  |zero=>simp at hv;subst hv;exact h1.out hg
  |succ j=>have:=e3 hg j v (by simpa using hv);rwa[show o+1+j=o+(j+1)by omega]at this
 |.bool::l,o,K,⟨x,h1,h2⟩=>by
  obtain⟨vs,e1,e2,e3⟩:=Qd h2
  refine⟨.bool x::vs,by simp[e1],e2,λhg j v hv=>?_⟩
  cases j with
  |zero=>simp at hv;subst hv;exact h1.out hg
  |succ j=>have:=e3 hg j v (by simpa using hv);rwa[show o+1+j=o+(j+1)by omega]at this
 |.sl::_,_,_,H=>H.elim
 |.mp::_,_,_,H=>H.elim
 |.ptr::_,_,_,H=>H.elim
 |.raw::_,_,_,H=>H.elim
def z9e(P:Program)(gl:Fr)(t:TypeId)(b off:Nat)(g:Option Bool)(K:AV->Prop):Prop:=match zv0 P t with
 |some (.one a)=>zku gl b g [a] off λr=>match r with
  |[x]=>K (.g (.a x))
  |_=>False
 |some (.agg l)=>zku gl b g l off λr=>K (.g (.agg r))
 |none=>False
def z5c(P:Program)(o:Oper)(ρ:Operand->Option AV):Option (Nat×Nat×Int×Nat×Nat):=match o.op with
 |.indexAddr t x i=>match ρ x,ρ i,P.underlying t with
  |some (.g (.a (.v (.pointer (some ⟨b,off,none⟩))))),some (.g (.a (.v (.int _ n)))),some (.array len el)=>bif ji P el then some (b,off,n,len,je P el)else none
  |_,_,_=>none
 |_=>none
def qA(P:Program)(gl:Fr)(o:Oper)(ρ:Operand->Option AV)(g:Option Bool)(cs:CS)(K:AV->Prop):Prop:=match eqA P o ρ with
 |some b=>K (.g (.a (.v (.bool b))))
 |none=>match qbf P o ρ with
  |some b=>K (.g (.a (.v (.bool b))))
  |none=>match z5b o ρ with
   |some (t,b,off)=>z9e P gl t b off g K
   |none=>match z5c P o ρ with
    |some (b,off,n,len,z)=>req g (0<=n/\n<(len:Int))/\K (.g (.a (.v (.pointer (some ⟨b,off+n.toNat*z,none⟩)))))
    |none=>qA0 P o ρ g cs K
theorem zgq{gl:Fr}(af:Fr.le gl M0){ρ:Operand->Option AV}{K:AV->Prop}(H:qA P gl o ρ g cs K):
  ∃av,K av/\(gok g->∀γ h σ,Inv h0 W M0 cs γ h->(∀x av,ρ x=some av->DenV γ av (σ x))->∃v,DenV γ av v/\QExec P (execOp σ o) h (.value v)):=by
 unfold qA at H
 split at H
 ·rename_i b hb
  exact⟨_,H,λ_ γ h σ _ hρ=>⟨_,rfl,zot hb hρ h⟩⟩
 ·split at H
  ·rename_i b hb
   exact⟨_,H,λ_ γ h σ _ hρ=>⟨_,rfl,zkt hb hρ h⟩⟩
  ·split at H
   ·rename_i t b off hg
    unfold z5b at hg
    split at hg
    ·rename_i t' x ho
     split at hg
     ·rename_i b' O hx
      simp only[Ab,Bv]at hg
      obtain⟨rfl,rfl,rfl⟩:=hg
      have key:∀{s:Option Nat} {vs:List Value} {ag:AG},Xd P t'=some s->vs.length=z0p s->zl8 s (vs.map .v)=some ag->(gok g->∀(j:Nat) (v:Value),vs[j]?=some v->zhs gl b' (O+j) v)->gok g->∀γ h σ,Inv h0 W M0 cs γ h->(∀x av,ρ x=some av->DenV γ av (σ x))->∃u,DenV γ (.g ag) u/\QExec P (execOp σ o) h (.value u):=by
       intro s vs ag hs hn hp hc hg γ h σ I hρ
       have hu:σ x=.pointer (some ⟨b',O,none⟩):=hρ _ _ hx
       obtain⟨u,hd,hq⟩:=zep (γ:=γ) hs (u:=σ x) (us:=vs) ⟨_,_,hu,λj w hw=>by
        obtain⟨cc,e1,e2⟩:=hc hg j w hw
        exact I.ag.cell (I.le _ _ (af _ _ e1)) e2⟩ hn (Qc γ vs) hp
       exact⟨u,hd,by simp only[execOp,ho];exact QExec.val hq⟩
      unfold z9e at H
      split at H
      ·rename_i a hv
       obtain⟨vs,e1,e2,e3⟩:=Qd H
       match vs,e1,e2,e3 with
       |[v],e1,e2,e3=>exact⟨_,e2,key (s:=none) (by unfold Xd;rw[hv]) rfl rfl e3⟩
      ·rename_i l hv
       obtain⟨vs,e1,e2,e3⟩:=Qd H
       exact⟨_,e2,key (s:=some l.length) (by unfold Xd;rw[hv]) e1 rfl e3⟩
      ·exact H.elim
     ·cases hg
    ·cases hg
   ·split at H
    ·rename_i b off n len z hg
     unfold z5c at hg
     split at hg
     ·rename_i t x i ho
      split at hg
      ·rename_i b' O k n' ah el hx hi hu
       cases hok:ji P el with
       |false=>rw[hok]at hg;cases hg
       |true=>
        rw[hok]at hg
        simp only[cond_true,Ab,Bv]at hg
        obtain⟨rfl,rfl,rfl,rfl,rfl⟩:=hg
        refine⟨_,H.2,λac γ h σ I hρ=>⟨_,rfl,?_⟩⟩
        have aa:σ x=.pointer (some ⟨b',O,none⟩):=hρ _ _ hx
        have ae:σ i=.int k n':=hρ _ _ hi
        obtain⟨h1,h2⟩:=H.1.out ac
        obtain⟨v,rfl,hq⟩:=Zb (P:=P) (t:=t) (x:=.pointer (some ⟨b',O,none⟩)) (i:=.int k n') (g:=none) (K:=λv=>v=.pointer (some (Af ⟨b',O,none⟩ (n'.toNat*je P el))))
         (λai Z=>by
          rcases Z with Z|⟨m,Z⟩
          ·rw[hu]at Z;cases Z
          ·rw[hu]at Z;cases Z;exact j5 hok) (by unfold zn4;rw[hu];exact⟨_,⟨rfl,h1,h2⟩,rfl⟩)
        have:=hq trivial h
        rw[zo]at this
        simp only[execOp,ho,aa,ae]
        exact QExec.val this
      ·cases hg
     ·cases hg
    ·exact zw3 H
end
section
variable {M gl:Fr} {u:Value} {P:Program} {f:FuncId} {γ:Gh} {cs C R:CS} {o:Oper} {σ:Operand -> Value} {h:zb} {Post:Value -> zb -> Prop} {tr:TypeId}
variable {h0 : zb} {W : Nat -> Prop} {M0 : Fr}
def zcl:Ty->Bool
 |.tree=>true
 |.unit=>true
 |.pair _ _=>true
 |_=>false
def RdV(M:Fr)(t:Ty)(x:El t)(u:Value):Prop:=if zcl t=true then ∃cs:List Value,u=.agg cs.toArray/\Rd M t x cs else Rd M t x [u]
theorem RdV.mono{M M':Fr}(hM:Fr.le M M'){t:Ty}{x:El t}(h:RdV M t x u):RdV M' t x u:=by
 unfold RdV at *
 by_cases ha:zcl t=true
 ·rw[if_pos ha]at *
  obtain⟨cs,e,h⟩:=h;exact⟨cs,e,Rd.mono hM h⟩
 ·rw[if_neg ha]at *
  exact Rd.mono hM h
structure Arg where
 t:Ty
 x:El t
def Xe(M:Fr)(l:List Arg)(vs:List Value):Prop:=All2 (λ(a:Arg) u=>RdV M a.t a.x u) l vs
@[reducible] def Els:List Ty->Type
 |[]=>Unit
 |[t]=>El t
 |t::t'::l=>El t×Els (t'::l)
def z9f:(l:List Ty)->Els l
 |[]=>()
 |[t]=>z88 t
 |t::t'::l=>(z88 t,z9f (t'::l))
def RdL(M:Fr):(l:List Ty)->Els l->List Value->Prop
 |[],_,us=>us=[]
 |[t],x,us=>∃u,us=[u]/\RdV M t x u
 |t::t'::l,x,us=>∃u O,us=u::O/\RdV M t x.1 u/\RdL M (t'::l) x.2 O
def zht(M:Fr)(l:List Ty)(x:Els l)(v:Value):Prop:=∃us,RdL M l x us/\v=zjo us
theorem RdL.length{M:Fr}:∀{l:List Ty} {x:Els l} {us:List Value},RdL M l x us->us.length=l.length
 |[],_,_,h=>by rw[h];rfl
 |[_],_,_,⟨u,e,_⟩=>by rw[e];rfl
 |_::t'::l,x,_,⟨u,us,e,_,h⟩=>by rw[e,AR,RdL.length h];rfl
def PC(P:Program)(gl:Fr)(f:FuncId)(args:List Arg)(rt:List Ty)(R:Els rt->Prop):Prop:=
 ∀(h:zb) (M:Fr) (vs:List Value),Fr.le gl M->AgM M h->Xe M args vs->XC P f vs.toArray h λv h'=>
  Keep h.size h h'/\∃M' r,Fr.le M M'/\(∀b,b<h.size->M' b=M b)/\AgM M' h'/\zht M' rt r v/\R r
theorem PC.mono{args:List Arg}{rt:List Ty}{R R':Els rt->Prop}(H:PC P gl f args rt R)(hR:∀r,R r->R' r):PC P gl f args rt R':=
 λh M vs h1 h2 h3=>(H h M vs h1 h2 h3).mono λv h' ⟨k,M',r,e1,e2,e3,e4,e5⟩=>⟨k,M',r,e1,e2,e3,e4,hR r e5⟩
def BdL:(l:List Ty)->Els l->Prop
 |[],_=>True
 |[t],x=>Bd t x
 |t::t'::l,x=>Bd t x.1/\BdL (t'::l) x.2
theorem RdV.bd{t:Ty}{x:El t}(h:RdV M t x u):Bd t x:=by
 unfold RdV at h
 split at h
 ·obtain⟨cs,_,h⟩:=h;exact h.bd
 ·exact h.bd
theorem RdL.bd{M:Fr}:∀{l:List Ty} {x:Els l} {us:List Value},RdL M l x us->BdL l x
 |[],_,_,_=>trivial
 |[_],_,_,⟨u,_,h⟩=>h.bd
 |_::_::_,_,_,⟨_,_,_,h,h'⟩=>⟨h.bd,RdL.bd h'⟩
theorem PC.bd{args:List Arg}{rt:List Ty}{R:Els rt->Prop}(H:(∀a∈args,Bd a.t a.x)->PC P gl f args rt R):PC P gl f args rt R:=by
 intro h M vs h1 h2 h3
 refine H ?_ h M vs h1 h2 h3
 clear H h1 h2
 induction args generalizing vs with
 |nil=>intro a ha;cases ha
 |cons a args ih=>
  cases vs with
  |nil=>exact h3.elim
  |cons u us=>
   intro b hb
   rcases Ag.1 hb with rfl|hb
   ·exact RdV.bd h3.1
   ·exact ih us h3.2 b hb
def gOf(t:Ty)(x:El t):AG:=bif zcl t then .agg (Jj t x)else(match Jj t x with
 |[y]=>.a y
 |l=>.agg l)
theorem zqu{t:Ty}{x:El t}(h:RdV γ.M t x u):DenG γ (gOf t x) u:=by
 unfold RdV at h
 unfold gOf
 split at h
 ·rename_i ha
  rw[ha]
  obtain⟨cs,e,h⟩:=h
  exact⟨cs,e,Zg h⟩
 ·rename_i ha
  have O:zcl t=false:=by simpa using ha
  rw[O]
  simp only[cond_false]
  have hd:=Zg (γ:=γ) h
  match hx:Jj t x,hd with
  |[y],hd=>exact hd.1
  |[],hd=>exact hd.elim
  |_::_::_,hd=>exact hd.2.elim
def qax:(l:List Ty)->Els l->List AG
 |[],_=>[]
 |[t],x=>[gOf t x]
 |t::t'::l,x=>gOf t x.1::qax (t'::l) x.2
theorem zsq{γ:Gh}:∀{l:List Ty} {x:Els l} {us:List Value},RdL γ.M l x us->All2 (DenG γ) (qax l x) us
 |[],_,_,h=>by rw[h];trivial
 |[_],_,_,⟨u,e,h⟩=>by rw[e];exact⟨zqu h,trivial⟩
 |_::_::_,_,_,⟨u,us,e,h,h'⟩=>by rw[e];exact⟨zqu h,zsq h'⟩
def z8l(l:List Ty)(x:Els l):AV:=match qax l x with
 |[g]=>.g g
 |gs=>.tup gs
theorem z1c{l:List Ty}{x:Els l}{v:Value}(h:zht γ.M l x v):DenV γ (z8l l x) v:=by
 obtain⟨us,h,rfl⟩:=h
 have hd:=zsq (γ:=γ) h
 unfold z8l
 generalize qax l x=gs at *
 match gs,us,hd with
 |[],[],_=>exact⟨[],rfl,trivial⟩
 |[g],[u],hd=>exact hd.1
 |g::g'::gs,u::u'::us,hd=>exact⟨_,rfl,hd⟩
 |[],_::_,hd=>exact hd.elim
 |_::_,[],hd=>exact hd.elim
 |[_],_::_::_,hd=>exact hd.2.elim
 |_::_::_,[_],hd=>exact hd.2.elim
def z8m(P:Program)(tr:TypeId):Nat->TypeId->Option Ty
 |0,_=>none
 |n+1,t=>bif Nat.beq t tr then some .tree else match P.underlying t with
  |some (.int k)=>some (.int k)
  |some .bool=>some .bool
  |some .string=>some .str
  |some (.slice e)=>match z8m P tr n e with
   |some x=>some (.row x)
   |none=>none
  |some (.struct fs)=>tysOf P (λt=>z8m P tr n t) fs.toList
  |some (.interface _)=>some .err
  |_=>none
where tysOf (P:Program) (f:TypeId->Option Ty):List Field->Option Ty
 |[]=>some .unit
 |[x]=>f x.type
 |x::y::l=>match f x.type,tysOf P f (y::l)with
  |some a,some b=>some (.pair a b)
  |_,_=>none
def tyL(P:Program)(tr:TypeId):List TypeId->Option (List Ty)
 |[]=>some []
 |t::l=>match z8m P tr 8 t,tyL P tr l with
  |some a,some b=>some (a::b)
  |_,_=>none
def z9g:AA->List Nat
 |.own c=>[c]
 |_=>[]
def zur:List AA->List Nat
 |[]=>[]
 |x::l=>z9g x++zur l
def qbg:AV->List Nat
 |.g (.a x)=>z9g x
 |.g (.agg l)=>zur l
 |_=>[]
def Xf:List AV->List Nat
 |[]=>[]
 |v::l=>qbg v++Xf l
def frzL:List Nat->CS->CS
 |[],C=>C
 |c::l,C=>frzL l (z4w c C)
theorem Inv.frzL{C R:CS}{γ:Gh}{h:zb}:∀(l:List Nat) {C:CS} {γ:Gh},Inv h0 W M0 (C++R) γ h->∃γ',Inv h0 W M0 (frzL l C++R) γ' h/\Gx none γ γ'
 |[],C,γ,I=>⟨γ,I,Gx.refl _ _⟩
 |c::l,C,γ,I=>by
  obtain⟨γ1,I1,g1⟩:=Inv.freeze c C [] I
  obtain⟨γ2,I2,g2⟩:=Inv.frzL (C:=C) (γ:=γ) l I1
  exact⟨γ2,I2,g1.1.trans g2.1,λi hi=>⟨(g2.2 i hi).1.trans (g1.2 i hi).1,(g2.2 i hi).2.trans (g1.2 i hi).2⟩⟩
def zc3(cs:CS)(t:Ty):AV->Option (El t)
 |.g (.agg l)=>bif zcl t then(match collect cs t l with
  |some (y,[])=>some y
  |_=>none)else none
 |.g (.a x)=>bif zcl t then none else zjp cs t x
 |_=>none
theorem zbf(hf:z0m γ cs){t:Ty}{av:AV}{y:El t}(h:zc3 cs t av=some y)(hd:DenV γ av u):RdV γ.M t y u:=by
 unfold zc3 at h
 unfold RdV
 split at h
 ·rename_i l
  cases ha:zcl t with
  |false=>rw[ha]at h;cases h
  |true=>
   rw[ha]at h
   simp only[cond_true]at h
   split at h
   ·rename_i y' hc
    simp only[Ab]at h
    subst h
    obtain⟨us,e,h2⟩:=hd
    obtain⟨c1,c2,rfl,r1,r2⟩:=Jl hf hc h2
    cases c2 with
    |nil=>simp only[if_true];exact⟨c1,by rw[e,Bc],r1⟩
    |cons _ _=>exact r2.elim
   ·cases h
 ·rename_i x
  cases ha:zcl t with
  |true=>rw[ha]at h;cases h
  |false=>
   rw[ha]at h
   simp only[A9,if_false]
   exact wv hf h hd
 ·cases h
def wa(cs:CS):List Ty->List AV->Option (List Arg)
 |[],[]=>some []
 |t::ts,v::vs=>match zc3 cs t v,wa cs ts vs with
  |some x,some l=>some (⟨t,x⟩::l)
  |_,_=>none
 |_,_=>none
theorem xn{γ:Gh}{cs:CS}(hf:z0m γ cs):∀{ts:List Ty} {vs:List AV} {l:List Arg},wa cs ts vs=some l->∀{us:List Value},All2 (DenV γ) vs us->Xe γ.M l us
 |[],[],l,h,[],_=>by simp only[wa,Ab]at h;subst h;trivial
 |[],[],_,_,_::_,hd=>hd.elim
 |t::ts,v::vs,l,h,[],hd=>hd.elim
 |t::ts,v::vs,l,h,u::us,hd=>by
  simp only[wa]at h
  split at h
  ·rename_i x l' h1 h2
   simp only[Ab]at h
   subst h
   exact⟨zbf hf h1 hd.1,xn hf h2 hd.2⟩
  ·cases h
 |[],_::_,_,h,_,_=>by simp[wa]at h
 |_::_,[],_,h,_,_=>by simp[wa]at h
def zqv(ρ:Operand->Option AV):List Operand->Option (List AV)
 |[]=>some []
 |x::l=>match ρ x,zqv ρ l with
  |some v,some vs=>some (v::vs)
  |_,_=>none
theorem Xg{γ:Gh}{ρ:Operand->Option AV}{σ:Operand->Value}(hρ:∀x av,ρ x=some av->DenV γ av (σ x)):∀{l:List Operand} {vs:List AV},zqv ρ l=some vs->All2 (DenV γ) vs (l.map σ)
 |[],vs,h=>by simp only[zqv,Ab]at h;subst h;trivial
 |x::l,vs,h=>by
  simp only[zqv]at h
  split at h
  ·rename_i v O h1 h2
   simp only[Ab]at h
   subst h
   exact⟨hρ _ _ h1,Xg hρ h2⟩
  ·cases h
def ExA(P:Program)(s:Sem Next)(h:zb)(Post:Value->zb->Prop):Prop:=∀B d,
 (∃v d' h',s.run P (mk B d h)=.ok (.value v) (mk B d' h')/\Post v h') \/
 (∃d' h',s.run P (mk B d h)=.ok .skip (mk B d' h')/\Post undef h') \/
 (∃f args,s.run P (mk B d h)=.ok (.enter f args) (mk B d h)/\XC P f args h Post)
theorem ExA.upon(H:ExA P (execOp σ o) h Post)(B:World)(d:Nat){a:Act}{next:Act->World->Prop}{Q:Exit->Act->World->Prop}
  (hn:∀v d' h',Post v h'->next (a.put o.dst v) (mk B d' h')):o.upon P a next Q ((execOp σ o).run P (mk B d h)):=by
 rcases H B d with⟨v,d',h',e,hp⟩|⟨d',h',e,hp⟩|⟨f,args,e,hx⟩
 ·exact upon_value e (hn _ _ _ hp)
 ·exact upon_skip e (hn _ _ _ hp)
 ·rw[e]
  refine(hx B d).mono ?_
  rintro e' w' ⟨v,d',O,rfl,rfl,h3⟩
  exact hn _ _ _ h3
theorem ExA.mono{s:Sem Next}{Post O:Value->zb->Prop}(H:ExA P s h Post)(hp:∀v h',Post v h'->O v h'):ExA P s h O:=λB d=>by
 rcases H B d with⟨v,d',h',e,q⟩|⟨d',h',e,q⟩|⟨f,args,e,hx⟩
 ·exact .inl ⟨v,d',h',e,hp _ _ q⟩
 ·exact .inr (.inl ⟨d',h',e,hp _ _ q⟩)
 ·exact .inr (.inr ⟨f,args,e,hx.mono hp⟩)
def zeq(h0:zb)(W:Nat->Prop)(M0:Fr)(R:CS)(γ:Gh)(K:AV->CS->Option Nat->Prop)(v:Value)(h':zb):Prop:=
 ∃av C' c γ',K av C' c/\DenV γ' av v/\Inv h0 W M0 (C'++R) γ' h'/\Gx c γ γ'
theorem z5d(O:Fr.le gl M0){ρ:Operand->Option AV}{K:AV->CS->Option Nat->Prop}(H:qA P gl o ρ none (C++R) λav=>K av C none)(I:Inv h0 W M0 (C++R) γ h)
  (hρ:∀x av,ρ x=some av->DenV γ av (σ x)):ExA P (execOp σ o) h (zeq h0 W M0 R γ K):=by
 obtain⟨av,h1,h2⟩:=zgq (h0:=h0) (W:=W) (M0:=M0) O H
 obtain⟨v,hd,hq⟩:=h2 trivial γ h σ I hρ
 exact λB d=>.inl ⟨v,d,h,hq B d,av,C,none,γ,h1,hd,I,Gx.refl _ _⟩
def z9h:Operand->Option FuncId
 |.func f=>some f
 |_=>none
def z5e(P:Program)(tr:TypeId)(f:FuncId):Option (List Ty×List Ty):=match P.funcs[f]? with
 |some fn=>match tyL P tr fn.params.toList,tyL P tr fn.resultTypes.toList with
  |some a,some b=>some (a,b)
  |_,_=>none
 |none=>none
def z5f(P:Program)(gl:Fr)(tr:TypeId)(o:Oper)(ρ:Operand->Option AV)(C R:CS)(K:AV->CS->Prop):Prop:=
 match o.op with
 |.call c=>match c.callee with
  |.value x=>match z9h x with
   |some f=>bif ya P f then(match z5e P tr f,zqv ρ c.args.toList with
    |some (ts,rt),some vs=>match wa (frzL (Xf vs) C++R) ts vs with
     |some args=>PC P gl f args rt λr=>K (z8l rt r) (frzL (Xf vs) C)
     |none=>False
    |_,_=>False)else False
   |none=>False
  |_=>False
 |_=>False
def zus(P:Program)(gl:Fr)(tr:TypeId)(o:Oper)(ρ:Operand->Option AV)(b:Bool)(cs:CS)(K:AV->Prop):Prop:=
 match o.op with
 |.call c=>match c.callee with
  |.value x=>match z9h x with
   |some f=>bif ya P f then(match z5e P tr f,zqv ρ c.args.toList with
    |some (ts,rt),some vs=>match wa cs ts vs with
     |some args=>∃J:Els rt->Prop,(b=true->PC P gl f args rt J)/\∀r,(b=true->J r)->K (z8l rt r)
     |none=>False
    |_,_=>False)else False
   |none=>False
  |_=>False
 |_=>False
theorem zl9{x:Operand}(h:z9h x=some f):x=.func f:=by
 unfold z9h at h
 split at h
 ·simp only[Ab]at h;rw[h]
 ·cases h
theorem zc4{c:Call}(ho:o.op=.call c)(hc:c.callee=.value (.func f))(hf:ya P f=true)(hσ:σ (.func f)=.func (.func f) #[] #[])(w:World):
  (execOp σ o).run P w=.ok (.enter f (c.args.map σ)) w:=by
 simp only[execOp,ho,resolve,hc,hσ,DW,Sem.run_bind,Sem.run_pure,Result.andThen_ok,invoke]
 rw[W6 hf]
 simp
theorem zma(O:Fr.le gl M0){args:List Arg}{rt:List Ty}{Rr:Els rt->Prop}(H:PC P gl f args rt Rr)(I:Inv h0 W M0 cs γ h){us:List Value}(ha:Xe γ.M args us):
  XC P f us.toArray h λv h'=>∃r γ',Rr r/\DenV γ' (z8l rt r) v/\Inv h0 W M0 cs γ' h'/\Gx none γ γ'/\Keep h.size h h':=
 (H h γ.M us (O.trans I.le) I.ag ha).mono λv h' ⟨k,M',r,e1,e2,e3,e4,e5⟩=>
  ⟨r,{ γ with M:=M' },e5,z1c (γ:={ γ with M:=M' }) e4,I.call k e1 e2 e3,⟨e1,λ_ _=>⟨rfl,rfl⟩⟩,k⟩
theorem z1d(Z:Fr.le gl M0){ρ:Operand->Option AV}{K:AV->CS->Option Nat->Prop}(H:z5f P gl tr o ρ C R λav C'=>K av C' none)(I:Inv h0 W M0 (C++R) γ h)
  (hσ:∀f,σ (.func f)=.func (.func f) #[] #[]) (hρ:∀x av,ρ x=some av->DenV γ av (σ x)):ExA P (execOp σ o) h (zeq h0 W M0 R γ K):=by
 unfold z5f at H
 split at H
 ·rename_i c ho
  split at H
  ·rename_i x hx
   split at H
   ·rename_i f hf
    cases hcal:ya P f with
    |false=>rw[hcal]at H;exact H.elim
    |true=>
     rw[hcal]at H
     simp only[cond_true]at H
     split at H
     ·rename_i ts rt vs hs aa
      split at H
      ·rename_i args O
       intro B d
       have e:=zl9 hf
       subst e
       obtain⟨γ1,I1,g1⟩:=Inv.frzL (C:=C) (γ:=γ) (Xf vs) I
       have ha:=xn I1.fz O ((Xg hρ aa).imp λv _ u hu=>hu.gx g1 rfl)
       refine .inr (.inr ⟨f,c.args.map σ,zc4 ho hx hcal (hσ f) _,?_⟩)
       have e2:c.args.map σ=(c.args.toList.map σ).toArray:=by rw[<-C7]
       rw[e2]
       refine(zma Z H I1 ha).mono ?_
       rintro v h' ⟨r,γ',h1,h2,h3,h4,_⟩
       exact⟨_,_,none,γ',h1,h2,h3,g1.1.trans h4.1,λi hi=>⟨(h4.2 i hi).1.trans (g1.2 i hi).1,(h4.2 i hi).2.trans (g1.2 i hi).2⟩⟩
      ·exact H.elim
     ·exact H.elim
   ·exact H.elim
  ·exact H.elim
 ·exact H.elim
theorem zbg{ρ:Operand->Option AV}{b:Bool}{K:AV->Prop}(H:zus P gl tr o ρ b cs K):(b=false->∃av,K av) /\
  (b=true->Fr.le gl M0->∀γ h σ,Inv h0 W M0 cs γ h->(∀f,σ (.func f)=.func (.func f) #[] #[])->(∀x av,ρ x=some av->DenV γ av (σ x))->∃f args,(∀w,(execOp σ o).run P w=.ok (.enter f args) w) /\
   XC P f args h λv h'=>∃av γ',K av/\DenV γ' av v/\Inv h0 W M0 cs γ' h'/\Gx none γ γ'/\Keep h.size h h'):=by
 unfold zus at H
 split at H
 ·rename_i c ho
  split at H
  ·rename_i x hx
   split at H
   ·rename_i f hf
    cases hcal:ya P f with
    |false=>rw[hcal]at H;exact H.elim
    |true=>
     rw[hcal]at H
     simp only[cond_true]at H
     split at H
     ·rename_i ts rt vs hs Z
      split at H
      ·rename_i args O
       obtain⟨J,h1,h2⟩:=H
       refine⟨λhb=>⟨_,h2 (z9f rt) (λh=>by rw[hb]at h;cases h)⟩,λhb aa γ h σ I hσ hρ=>?_⟩
       have e:=zl9 hf
       subst e
       refine⟨f,c.args.map σ,λw=>zc4 ho hx hcal (hσ f) w,?_⟩
       have e2:c.args.map σ=(c.args.toList.map σ).toArray:=by rw[<-C7]
       rw[e2]
       refine(zma aa (h1 hb) I (xn I.fz O (Xg hρ Z))).mono ?_
       rintro v h' ⟨r,γ',g1,g2,g3,g4,g5⟩
       exact⟨_,γ',h2 r (λ_=>g1),g2,g3,g4,g5⟩
      ·exact H.elim
     ·exact H.elim
   ·exact H.elim
  ·exact H.elim
 ·exact H.elim
end
section
variable {P:Program} {t:TypeId} {o:Oper} {d:Nat} {C R:CS} {γ:Gh} {h:zb} {σ:Operand -> Value} {av:AV}
variable {h0 : zb} {W : Nat -> Prop} {M0 : Fr}
def zw4(P:Program)(t:TypeId)(d:Nat)(C R:CS)(K:AV->CS->Option Nat->Prop):Prop:=match zeroOf P t with
 |some z=>bif wo d R then(bif itB (z.cells.toList.map .v)then False else K (.g (.a (.box d 0))) ((d,.box (z.cells.toList.map .v))::jc d C) (some d))else False
 |none=>False
theorem zer(c:Nat):∀l:List Value,zn2 c (l.map .v)=false
 |[]=>rfl
 |_::l=>by simp only[Dx,zn2,zuk,cond_false,zer c l]
theorem X7(t:TypeId)(v:Value)(B:World)(d:Nat)(h:zb):(newVar t v).run P (mk B d h)=.ok ⟨h.size,0,none⟩ (mk B d (h.push (.cells v.cells t))):=rfl
theorem zw5(ho:o.op=.alloc t){K:AV->CS->Option Nat->Prop}(H:zw4 P t d C R K)(I:Inv h0 W M0 (C++R) γ h):ExA P (execOp σ o) h (zeq h0 W M0 R γ K):=by
 unfold zw4 at H
 split at H
 ·rename_i z hz
  cases hR:wo d R with
  |false=>rw[hR]at H;exact H.elim
  |true=>
   rw[hR]at H
   cases hit:itB (z.cells.toList.map .v)with
   |true=>rw[hit]at H;exact H.elim
   |false=>
   rw[hit]at H
   intro B e
   refine .inl ⟨.pointer (some ⟨h.size,0,none⟩),e,h.push (.cells z.cells t),?_,_,_,_,zv1 γ d h.size,H,?_,?_,Xb _ _ _⟩
   ·have O:=Jp hz h B e
    simp only[execOp,ho]
    refine Jd ?_
    unfold Instr.alloc
    rw[Sem.run_bind,O]
    simp only[Result.andThen_ok]
    rw[Sem.run_bind,X7]
    rfl
   ·simp only[DenV,DenG,DenA,Qa]
   ·have:=I.newBox (c:=d) hR (Qc γ z.cells.toList) (zer d _) hit t
    simpa using this
 ·exact H.elim
def qbh(t:TypeId)(d:Nat)(l:List AA)(C R:CS)(K:AV->CS->Option Nat->Prop):Prop:=
 bif wo d R then(bif zn2 d l then False else(bif itB l then False else K (.g (.a (.box d 0))) ((d,.box l)::jc d C) (some d)))else False
theorem z5g{x:Operand}(ho:o.op=.box t x){l:List AA}{K:AV->CS->Option Nat->Prop}(H:qbh t d l C R K)(I:Inv h0 W M0 (C++R) γ h)
  (hl:All2 (DenA γ) l (σ x).cells.toList):ExA P (execOp σ o) h (zeq h0 W M0 R γ K):=by
 unfold qbh at H
 cases hR:wo d R with
 |false=>rw[hR]at H;exact H.elim
 |true=>
  rw[hR]at H
  cases hm:zn2 d l with
  |true=>rw[hm]at H;exact H.elim
  |false=>
   rw[hm]at H
   cases hit:itB l with
   |true=>rw[hit]at H;exact H.elim
   |false=>
   rw[hit]at H
   intro B e
   refine .inl ⟨.pointer (some ⟨h.size,0,none⟩),e,h.push (.cells (σ x).cells t),?_,_,_,_,zv1 γ d h.size,H,?_,?_,Xb _ _ _⟩
   ·simp only[execOp,ho]
    refine Jd ?_
    unfold Instr.box
    rw[Sem.run_bind,X7]
    rfl
   ·simp only[DenV,DenG,DenA,Qa]
   ·have:=I.newBox (c:=d) hR hl hm hit t
    simpa using this
def zw6:AA->Bool
 |.v x=>x.oneCell'
 |_=>true
def zhu:List AA->Bool
 |[]=>true
 |x::l=>bif zw6 x then zhu l else false
theorem zut{x:AA}{u:Value}(h:zw6 x=true)(hd:DenA γ x u):u.oneCell'=true:=by
 cases x with
 |v y=>rw[show u=y from hd];exact h
 |d t y=>exact Rd.one (show Rd γ.M t y [u]from hd) u (by simp)
 |box c o=>rw[show u=_ from hd];rfl
 |own c=>rw[show u=_ from hd];rfl
 |oelt c z i o=>obtain⟨g,_,e⟩:=hd;rw[e];rfl
 |elt t y o=>obtain⟨b,f,cs,e,_⟩:=hd;rw[e];rfl
 |dc t xs=>obtain⟨s,e,_⟩:=hd;rw[e];rfl
theorem zhv{γ:Gh}:∀{l:List AA} {us:List Value},zhu l=true->All2 (DenA γ) l us->∀u∈us,u.oneCell'=true
 |[],[],_,_,u,hu=>by cases hu
 |[],_::_,_,h,_,_=>h.elim
 |_::_,[],_,h,_,_=>h.elim
 |x::l,v::us,h,hd,u,hu=>by
  simp only[zhu]at h
  cases hx:zw6 x with
  |false=>rw[hx]at h;cases h
  |true=>
   rw[hx]at h
   rcases Ag.1 hu with rfl|hu
   ·exact zut hx hd.1
   ·exact zhv h hd.2 u hu
def zw7(c:Nat):CS->Bool
 |[]=>true
 |(j,_)::l=>bif Nat.beq j c then false else zw7 c l
theorem X8{c:Nat}:∀{l:CS},zw7 c l=true->∀x∈l,x.1≠c
 |[],_,x,hx=>by cases hx
 |(j,k)::l,h,x,hx=>by
  simp only[zw7]at h
  cases hb:Nat.beq j c with
  |true=>rw[hb]at h;cases h
  |false=>
   rw[hb]at h
   rcases Ag.1 hx with rfl|hx
   ·intro e;simp only at e;subst e;simp at hb
   ·exact X8 h x hx
theorem zbh{P:Program}{g o:Nat}:∀(vs:List Value) (i:Nat) (w:World),(storeCells ⟨g,o,none⟩ vs i).run P w=(storeCells ⟨g,0,none⟩ vs (o+i)).run P w
 |[],i,w=>rfl
 |v::vs,i,w=>by
  unfold storeCells
  rw[Sem.run_bind,Sem.run_bind,zo,zo,AD]
  congr 1
  funext a w'
  exact zbh vs (i+1) w'
theorem zbi{n:Nat}(hi:ji P t=true)(hs:je P t=n){b o:Nat}{cs:Array Value}{T:TypeId}(e:h[b]?=some (.cells cs T (0,0))){v:Value}(hv:v.cells.size=n)(hl:o+n<=cs.size)(h1:∀u∈v.cells.toList,u.oneCell'=true)(B:World)(d:Nat):
  ∃h',(Al t (.pointer (some ⟨b,o,none⟩)) v).run P (mk B d h)=.ok () (mk B d h')/\h'[b]?=some (.cells (cs.toList.take o++v.cells.toList++cs.toList.drop (o+n)).toArray T (0,0))/\h'.size=h.size/\∀j,j≠b->h'[j]?=h[j]?:=by
 obtain⟨h',r1,r2,r3,r4⟩:=Z7 (P:=P) B d v.cells.toList (o+0) h cs e (by simp;omega) h1
 refine⟨h',?_,by rw[r2];simp[hv],r3,r4⟩
 have hz:=QExec.sizeOf (P:=P) (h:=h) (j5 hi).choose_spec B d
 unfold Al D8
 simp only[Sem.run_bind,Sem.run_pure,Result.andThen_ok]
 unfold storeVar
 rw[Sem.run_bind,hz]
 simp only[Result.andThen_ok]
 rw[hs,hv]
 simp only[ne_eq,not_true_eq_false,if_false]
 rw[zbh]
 exact r1
theorem Q7{α:Type}{L vs:List α}{p:Nat}(h:p+vs.length<=L.length)(q:Nat):(L.take p++vs++L.drop (p+vs.length))[q]?=if q<p then L[q]? else if q<p+vs.length then vs[q-p]? else L[q]?:=by
 have h1:(L.take p).length=p:=by simp;omega
 by_cases h2:q<p
 ·rw[if_pos h2,AY,BA (by omega),AF,if_pos h2]
 ·rw[if_neg h2]
  by_cases h3:q<p+vs.length
  ·rw[if_pos h3,BA (by rw[Av,h1];omega),Bl (by omega),h1]
  ·rw[if_neg h3,Bl (by rw[Av,h1];omega),AH,Av,h1]
   congr 1;omega
theorem RowC.set{M:Fr}{t:Ty}{xs:List (El t)}{cells:List Value}(H:RowC M t xs cells){i:Nat}(hi:i<xs.length){y:El t}{o:Nat}{vs:List Value}(hl:o+vs.length<=sz t)
  (hy:Rd M t y ((((cells.drop (i*sz t)).take (sz t)).take o)++vs++(((cells.drop (i*sz t)).take (sz t)).drop (o+vs.length)))):
  RowC M t (xs.set i y) (cells.take (i*sz t+o)++vs++cells.drop (i*sz t+o+vs.length)):=by
 have Z:(i+1)*sz t<=cells.length:=by rw[H.1];exact AO _ hi
 rw[Bz,Dk]at Z
 have hE:((cells.drop (i*sz t)).take (sz t)).length=sz t:=by rw[AL,Bg];omega
 refine⟨?_,λj hj=>?_⟩
 ·rw[Dv,<-H.1]
  simp only[Av,AL,Bg];omega
 ·rw[Dv]at hj
  by_cases O:i=j
  ·subst O
   rw[List.getElem_set_self]
   have e:(((cells.take (i*sz t+o)++vs++cells.drop (i*sz t+o+vs.length)).drop (i*sz t)).take (sz t))=(((cells.drop (i*sz t)).take (sz t)).take o)++vs++(((cells.drop (i*sz t)).take (sz t)).drop (o+vs.length)):=by
    apply Bb
    intro k
    rw[Q7 (by rw[hE];exact hl),AF,AF,AH,AH,Q7 (by omega)]
    by_cases hk:k<sz t
    ·simp only[hk,if_true]
     by_cases h1:k<o
     ·rw[if_pos (by omega),if_pos h1]
     ·rw[if_neg (by omega),if_neg h1]
      by_cases h2:k<o+vs.length
      ·rw[if_pos (by omega),if_pos h2];congr 1;omega
      ·rw[if_neg (by omega),if_neg h2]
    ·simp only[hk,if_false]
     rw[if_neg (by omega),if_neg (by omega)]
   rw[e];exact hy
  ·rw[List.getElem_set_ne O]
   have e:(((cells.take (i*sz t+o)++vs++cells.drop (i*sz t+o+vs.length)).drop (j*sz t)).take (sz t))=(cells.drop (j*sz t)).take (sz t):=by
    apply Bb
    intro k
    rw[AF,AF,AH,AH,Q7 (by omega)]
    by_cases hk:k<sz t
    ·simp only[hk,if_true]
     rcases AX j i with h1|h1
     ·have:(j+1)*sz t<=i*sz t:=AO _ h1
      rw[Bz,Dk]at this
      rw[if_pos (by omega)]
     ·have h2:i+1<=j:=by omega
      have:(i+1)*sz t<=j*sz t:=AO _ h2
      rw[Bz,Dk]at this
      rw[if_neg (by omega),if_neg (by omega)]
    ·simp only[hk,if_false]
   rw[e];exact H.2 j hj
theorem Inv.setRow{h h':zb}(I:Inv h0 W M0 (C++R) γ h){c:Nat}{e:TypeId}{t:Ty}{xs aa:List (El t)}(hc:(c,Ch.row e t xs)∈C){g:Nat}(hg:(γ.σ c).a.map (·.block)=some g)
  (ho:∀i,i≠g->h'[i]?=h[i]?) (hs:h'.size=h.size) (hd:DenC h0.size γ h' c (.row e t aa)) (hR:∀x∈R,x.1≠c):Inv h0 W M0 ((c,.row e t aa)::zji c C++R) γ h':=by
 have O:=I.sep _ (Ap R hc) g hg
 have Z:∀x∈zji c C++R,blk γ x.1 x.2≠some g:=by
  intro x hx
  have ac:x≠(c,Ch.row e t xs):=by
   rintro rfl
   rcases Am.1 hx with hx|hx
   ·exact(Y0 hx).2 rfl
   ·exact hR _ hx rfl
  have af:x∈C++R:=((Zp c C).append_right R).subset hx
  have hp:=@zcy _ (λ(x y:Nat×Ch)=>∀b,blk γ x.1 x.2=some b->blk γ y.1 y.2≠some b) (λx y h b hb ae=>h b ae hb) _ I.apart
  intro hb
  exact hp (Ap R hc) af (λe=>ac e.symm) _ hg hb
 have hI:Inv h0 W M0 (zji c C++R) γ h':=by
  refine I.rest ((Zp c C).append_right R) (c:=none) (Gx.refl _ _) (λx _=>⟨by simp,rfl⟩) (λx hx b hb=>?_) (λb cc eM=>?_) (λi hi hw=>?_) (by omega) (λb hb=>rfl)
  ·exact⟨ho b λe'=>Z x hx (e' ▸ hb),(I.sep x (((Zp c C).append_right R).subset hx) b hb).2⟩
  ·obtain⟨T',m,e'⟩:=I.ag b cc eM
   exact⟨T',m,by rw[ho b λe2=>by rw[e2,O.2]at eM;cases eM];exact e'⟩
  ·refine ho i λe'=>?_
   have h2:=O.1
   rcases h2 with h1|h1
   ·omega
   ·rw[e']at hw;exact hw h1
 refine hI.cons hd (λb hb=>?_) (λb hb x hx=>?_)
 ·simp only[blk,hg,Ab]at hb;subst hb;exact O
 ·simp only[blk,hg,Ab]at hb;subst hb;exact Z x hx
def zw8(P:Program)(t:TypeId)(aa:AA)(l2:List AA)(C R:CS)(K:AV->CS->Option Nat->Prop):Prop:=
 bif ji P t then(bif Nat.beq l2.length (je P t)then(bif zhu l2 then(match aa with
 |.box c o=>match Jk C c with
  |some (.box l)=>bif zw7 c R then(bif (bif itB l then true else itB (l.take o++l2++l.drop (o+l2.length)))then False else(bif Nat.ble (o+l2.length) l.length then K (zun undef) ((c,.box (l.take o++l2++l.drop (o+l2.length)))::zji c C) none else False))else False
  |_=>False
 |.oelt c z i o=>match Jk (frzL (zur l2) C) c with
  |some (.row e ty xs)=>bif zw7 c R then(bif Nat.beq z (sz ty)then(bif Nat.ble (o+l2.length) (sz ty)then ∃y:El ty,xs[i]?=some y/\(match collect (frzL (zur l2) C++R) ty ((Jj ty y).take o++l2++(Jj ty y).drop (o+l2.length))with
   |some (y',[])=>K (zun undef) ((c,.row e ty (xs.set i y'))::zji c (frzL (zur l2) C)) none
   |_=>False)else False)else False)else False
  |_=>False
 |_=>False)else False)else False)else False
theorem zw9{a x:Operand}(ho:o.op=.store t a x){aa:AA}{l2:List AA}{K:AV->CS->Option Nat->Prop}(H:zw8 P t aa l2 C R K)(I:Inv h0 W M0 (C++R) γ h)
  (hl:All2 (DenA γ) l2 (σ x).cells.toList) (ha:DenA γ aa (σ a)):ExA P (execOp σ o) h (zeq h0 W M0 R γ K):=by
 unfold zw8 at H
 cases hi:ji P t with
 |false=>rw[hi]at H;exact H.elim
 |true=>
  rw[hi]at H
  cases hn:Nat.beq l2.length (je P t)with
  |false=>rw[hn]at H;exact H.elim
  |true=>
   rw[hn]at H
   cases hok:zhu l2 with
   |false=>rw[hok]at H;exact H.elim
   |true=>
    rw[hok]at H
    have ax:l2.length=je P t:=Ak hn
    have af:(σ x).cells.size=je P t:=by rw[<-ax,hl.length];simp
    have h1:=zhv hok hl
    simp only[cond_true]at H
    split at H
    ·rename_i c off
     split at H
     ·rename_i l hc
      cases hR:zw7 c R with
      |false=>rw[hR]at H;exact H.elim
      |true=>
       rw[hR]at H
       cases hit:itB l with
       |true=>rw[hit]at H;exact H.elim
       |false=>
       rw[hit]at H
       cases hit2:itB (l.take off++l2++l.drop (off+l2.length))with
       |true=>rw[hit2]at H;exact H.elim
       |false=>
       rw[hit2]at H
       simp only[cond_true,cond_false]at H
       cases hble:Nat.ble (off+l2.length) l.length with
       |false=>rw[hble]at H;exact H.elim
       |true=>
        rw[hble]at H
        have ap:=BE hble
        obtain⟨us,e,h2⟩:=I.den _ (Ap R (ql hc))
        rcases e with⟨⟨T,e⟩,_⟩|⟨s,p,e,_⟩
        case inr=>exact absurd e (zsl hit h2 s p)
        have aP:=h2.length
        intro B d
        obtain⟨h',r1,r2,r3,r4⟩:=zbi (P:=P) hi rfl e (o:=off) af (by simp;omega) h1 B d
        refine .inr (.inl ⟨d,h',?_,_,_,_,γ,H,Jm _ _,?_,Gx.refl _ _⟩)
        ·simp only[execOp,ho]
         rw[show σ a=_ from ha]
         exact zua r1
        ·refine I.setBox (ql hc) (us:=us.take off++(σ x).cells.toList++us.drop (off+l2.length)) (.inl ⟨⟨T,?_⟩,λs p=>zsl hit2 (((h2.take off).append hl).append (h2.drop _)) s p⟩) r4 r3 ?_ (X8 hR)
         ·rw[r2,ax]
         ·exact((h2.take off).append hl).append (h2.drop _)
     ·exact H.elim
    ·rename_i c z i off
     split at H
     ·rename_i e ty xs hc
      cases hR:zw7 c R with
      |false=>rw[hR]at H;exact H.elim
      |true=>
       rw[hR]at H
       cases hz:Nat.beq z (sz ty)with
       |false=>rw[hz]at H;exact H.elim
       |true=>
        rw[hz]at H
        cases hble:Nat.ble (off+l2.length) (sz ty)with
        |false=>rw[hble]at H;exact H.elim
        |true=>
         rw[hble]at H
         simp only[cond_true]at H
         obtain⟨y,hy,H⟩:=H
         split at H
         ·rename_i y' aA
          have ap:=BE hble
          obtain⟨γ1,I1,g1⟩:=Inv.frzL (C:=C) (γ:=γ) (zur l2) I
          have aC:=ha.gx g1 rfl
          have aJ:=DenL.gx (c:=none) g1 rfl hl
          rw[Ak hz]at aC
          obtain⟨g,hg,aL⟩:=aC
          have ah:=ql hc
          obtain⟨cells,ai,Z,ac,O⟩:=I1.den _ (Ap R ah)
          simp only at ai Z ac O
          have an:i<xs.length:=(Ax.1 hy).1
          have aF:xs[i]=y:=(Ax.1 hy).2
          rcases ai.2 with⟨hv,aO⟩|⟨g',cap,az,hv,aG,aM,aN,aB,ak,am⟩
          ·omega
          simp only[AJ]at hv
          have aH:g'=g:=by
           have:=hv.1;rw[hg]at this;simp only[Ab,Addr.mk.injEq]at this;exact this.1.symm
          subst aH
          have ae:cells.length=xs.length*sz ty:=Z.1
          have ay:(i+1)*sz ty<=xs.length*sz ty:=AO _ an
          rw[Bz,Dk]at ay
          have aE:xs.length*sz ty<=cap*sz ty:=AO _ (by omega)
          have al:(σ x).cells.toList.length=l2.length:=hl.length.symm
          intro B d
          obtain⟨h',r1,r2,r3,r4⟩:=zbi (P:=P) hi rfl aM (o:=i*sz ty+off) af (by rw[ak];omega) h1 B d
          refine .inr (.inl ⟨d,h',?_,_,_,_,γ1,H,Jm _ _,?_,g1⟩)
          ·simp only[execOp,ho]
           rw[aL]
           exact zua r1
          ·refine I1.setRow ah (g:=g') (by rw[hg];rfl) r4 r3 ?_ (X8 hR)
           have hE:=Z.2 i an
           rw[aF]at hE
           have aD:=Zg (γ:=γ1) hE
           have ar:=((aD.take off).append aJ).append (aD.drop (off+l2.length))
           obtain⟨c1,c2,e1,r5,r6⟩:=Jl I1.fz aA ar
           cases c2 with
           |cons _ _=>exact r6.elim
           |nil=>
            rw[Bc]at e1
            rw[<-e1]at r5
            have aj:=Z.set an (o:=off) (vs:=(σ x).cells.toList) (by rw[al];exact ap) (by rw[al];exact r5)
            refine⟨_,⟨?_,.inr ⟨g',cap,_,by simp[hv],aG,r2,aN,aB,?_,?_⟩⟩,aj,by simpa using ac,by simpa using O⟩
            ·rw[aj.1,O,Dv]
            ·simp only[DI,Av,AL,Bg,CW]
             have:(σ x).cells.toList.length=je P t:=by simpa using af
             simp only[CW]at this
             rw[this,ak];omega
            ·apply Bb
             intro k
             have au:(σ x).cells.toList.length=je P t:=by simpa using af
             rw[AF,<-au]
             simp only
             rw[Q7 (L:=cells) (by rw[ae];omega)]
             have aI:cells=az.toList.take (xs.length*sz ty):=by rw[<-am,O]
             rw[Q7 (L:=az.toList) (by simp only[CW];rw[ak];simp only[CW]at al;omega),aI,O]
             by_cases hk:k<xs.length*sz ty
             ·rw[if_pos hk,AF,if_pos hk]
             ·rw[if_neg hk,AF,if_neg hk]
              rw[if_neg (by omega),if_neg (by omega)]
         ·exact H.elim
     ·exact H.elim
    ·exact H.elim
def nxB(s:Bt)(p:Nat):Bool:=Nat.blt p s.size
def nxP(s:Bt)(p:Nat):Nat:=bif Nat.blt p s.size then p+(Utf8.decode s p).2 else p
def nxR(s:Bt)(p:Nat):Int:=((Utf8.decode s p).1:Int)
def zxa(P:Program)(t:TypeId)(av:AV)(d:Nat)(C R:CS)(K:AV->CS->Option Nat->Prop):Prop:=match av,P.underlying t with
 |.g (.a (.v (.string s))),some .string=>bif wo d R then K (.g (.a (.box d 0))) ((d,.box [.d .iter (s,0)])::jc d C) (some d)else False
 |_,_=>False
theorem zxb{x:Operand}(ho:o.op=.range t x){K:AV->CS->Option Nat->Prop}(H:zxa P t av d C R K)(I:Inv h0 W M0 (C++R) γ h)
  (hd:DenV γ av (σ x)):ExA P (execOp σ o) h (zeq h0 W M0 R γ K):=by
 unfold zxa at H
 split at H
 ·rename_i s hu
  cases hR:wo d R with
  |false=>rw[hR]at H;exact H.elim
  |true=>
   rw[hR]at H
   intro B e
   refine .inl ⟨.pointer (some ⟨h.size,0,none⟩),e,h.push (.stringIter s 0),?_,_,_,_,zv1 γ d h.size,H,?_,?_,Xb _ _ _⟩
   ·simp only[execOp,ho,show σ x=.string s from hd]
    refine Jd ?_
    have hq:=QExec.underlying (h:=h) hu B e
    unfold Eu
    rw[Sem.run_bind,hq]
    rfl
   ·simp only[DenV,DenG,DenA,Qa]
   ·exact Inv.newBoxO (c:=d) I hR (l:=[.d .iter (s,0)]) (us:=[Z4 s 0]) ⟨rfl,trivial⟩ rfl (.inr ⟨s,0,rfl,rfl⟩)
 ·exact H.elim
def z5h(av:AV)(C R:CS)(K:AV->CS->Option Nat->Prop):Prop:=match av with
 |.g (.a (.box c 0))=>match Jk C c with
  |some (.box [.d .iter x])=>bif zw7 c R then K (.nx (nxB x.1 x.2) (x.2:Int) (nxR x.1 x.2)) ((c,.box [.d .iter (x.1,nxP x.1 x.2)])::zji c C) none else False
  |_=>False
 |_=>False
theorem z1e{x:Operand}(ho:o.op=.next x true){K:AV->CS->Option Nat->Prop}(H:z5h av C R K)(I:Inv h0 W M0 (C++R) γ h)
  (hd:DenV γ av (σ x)):ExA P (execOp σ o) h (zeq h0 W M0 R γ K):=by
 unfold z5h at H
 split at H
 ·rename_i c
  split at H
  ·rename_i y hc
   cases hR:zw7 c R with
   |false=>rw[hR]at H;exact H.elim
   |true=>
    rw[hR]at H
    simp only[cond_true]at H
    obtain⟨us,ob,h2⟩:=I.den _ (Ap R (ql hc))
    have aa:us=[Z4 y.1 y.2]:=by
     match us,h2 with
     |[u],h2=>
      have h3:Rd γ.M .iter y [u]:=h2.1
      simpa[Rd]using h3
    subst aa
    have O:h[γ.β c]?=some (.stringIter y.1 y.2):=by
     rcases ob with⟨_,e⟩|⟨s,p,e1,e2⟩
     ·exact absurd rfl (e _ _)
     ·have e3:y.1=s/\y.2=p:=by
       simp only[Z4,Br,Value.iface.injEq,Value.agg.injEq,Array.mk.injEq,Value.string.injEq,Value.int.injEq,and_true,true_and]at e1
       exact⟨e1.1,by omega⟩
      rw[e2,e3.1,e3.2]
    have Z:γ.β c<h.size:=(Ac.1 O).1
    intro B d
    have hg:∀(w:World),w.heap[γ.β c]?=some (.stringIter y.1 y.2)->(getObj (γ.β c)).run P w=.ok (.stringIter y.1 y.2) w:=λw e=>by simp[getObj,Sem.run,e]
    have hs:∀(w:World) (o':Obj),w.heap[γ.β c]?=some (.stringIter y.1 y.2)->(setObj (γ.β c) o').run P w=.ok () { w with heap:=w.heap.setIfInBounds (γ.β c) o' }:=λw o' e=>by simp[setObj,Sem.run,e]
    have hx:σ x=.pointer (some ⟨γ.β c,0,none⟩):=hd
    by_cases hb:y.2<y.1.size
    ·have eb:nxB y.1 y.2=true:=by simpa[nxB,Cq]using hb
     have ep:nxP y.1 y.2=y.2+(Utf8.decode y.1 y.2).2:=by unfold nxP;rw[show Nat.blt y.2 y.1.size=true from eb];rfl
     refine .inl ⟨.tuple #[.bool true,.int .i64 y.2,.int .i32 (nxR y.1 y.2)],d,h.setIfInBounds (γ.β c) (.stringIter y.1 (nxP y.1 y.2)),?_,_,_,_,γ,H,⟨λ_=>rfl,λhc=>by rw[eb]at hc;cases hc⟩,?_,Gx.refl _ _⟩
     ·simp only[execOp,ho,hx]
      refine Jd ?_
      unfold Ey
      simp only
      rw[Sem.run_bind,hg _ O]
      simp only[Result.andThen_ok,hb,if_true]
      rw[Sem.run_bind,hs _ _ O,ep]
      rfl
     ·refine I.setBox (ql hc) (us:=[Z4 y.1 (nxP y.1 y.2)]) (.inr ⟨_,_,rfl,by simp[Z]⟩) (λi hi=>by simp[AW (Ne.symm hi)]) (by simp) ⟨rfl,trivial⟩ (X8 hR)
    ·have eb:nxB y.1 y.2=false:=by
      cases h:nxB y.1 y.2 with
      |false=>rfl
      |true=>exact absurd (by simpa[nxB,Cq]using h) hb
     have ep:nxP y.1 y.2=y.2:=by unfold nxP;rw[show Nat.blt y.2 y.1.size=false from eb];rfl
     refine .inl ⟨.tuple #[.bool false],d,h,?_,_,_,_,γ,H,⟨λhc=>(by rw[eb]at hc;cases hc),λ_=>rfl⟩,?_,Gx.refl _ _⟩
     ·simp only[execOp,ho,hx]
      refine Jd ?_
      unfold Ey
      simp only
      rw[Sem.run_bind,hg _ O]
      simp only[Result.andThen_ok,hb,if_false]
      rfl
     ·refine I.setBox (ql hc) (us:=[Z4 y.1 (nxP y.1 y.2)]) (.inr ⟨_,_,rfl,by rw[ep];exact O⟩) (λi hi=>rfl) rfl ⟨rfl,trivial⟩ (X8 hR)
  ·exact H.elim
 ·exact H.elim
end
section
variable {P:Program} {tr t tx e ty:TypeId} {n d m b:Nat} {C R:CS} {γ:Gh} {h:zb} {z u:Value} {xs news:List Value}
variable {h0 : zb} {W : Nat -> Prop} {M0 : Fr}
def X9(cs:CS)(t:Ty):Nat->List AA->Option (List (El t)×List AA)
 |0,l=>some ([],l)
 |n+1,l=>match collect cs t l with
  |some (y,l')=>match X9 cs t n l' with
   |some (ys,l'')=>some (y::ys,l'')
   |none=>none
  |none=>none
theorem zbj{γ:Gh}{cs:CS}(hf:z0m γ cs){t:Ty}:∀{n:Nat} {l l':List AA} {ys:List (El t)},X9 cs t n l=some (ys,l')->∀{us:List Value},All2 (DenA γ) l us->∃c1 c2,us=c1++c2/\RowC γ.M t ys c1/\ys.length=n/\All2 (DenA γ) l' c2
 |0,l,l',ys,h,us,hu=>by
  simp only[X9,Ab,Bv]at h
  obtain⟨rfl,rfl⟩:=h
  exact⟨[],us,rfl,RowC.nil _ _,rfl,hu⟩
 |n+1,l,l',ys,h,us,hu=>by
  simp only[X9]at h
  split at h
  ·rename_i y l1 h1
   split at h
   ·rename_i O l2 h2
    simp only[Ab,Bv]at h
    obtain⟨rfl,rfl⟩:=h
    obtain⟨c1,c2,rfl,r1,r2⟩:=Jl hf h1 hu
    obtain⟨c3,c4,rfl,r3,r4,r5⟩:=zbj hf h2 r2
    exact⟨c1++c3,c4,by simp,by simpa using (RowC.single r1).append r3,by simp[r4],r5⟩
   ·cases h
  ·cases h
def zhw(P:Program)(el:TypeId)(k:Nat):Option (List Value):=bif Nat.beq k 0 then some []else(match zeroOf P el with
 |some z=>some ((Ev k).map (z.cells[· % z.cells.size]!)).toList
 |none=>none)
def qay:List (Nat×AV)->List AV
 |[]=>[]
 |(_,v)::l=>v::qay l
def zbk(P:Program)(tr:TypeId)(t:TypeId)(n:Nat)(ps:List (Nat×AV))(d:Nat)(C R:CS)(K:AV->CS->Option Nat->Prop):Prop:=
 match z4z P t with
 |some el=>match z8m P tr 8 el,zhw P el (n*je P el)with
  |some ty,some zs=>bif Nat.beq (je P el) (sz ty)then(bif Nat.ble (n*je P el) 16777216 then(bif Nat.blt 0 (je P el)then(bif wo d R then(match zqt (λi=>some (i*je P el,je P el)) (zs.map .v) ps with
   |some r=>match X9 (frzL (Xf (qay ps)) C++R) ty n r with
    |some (ys,[])=>K (.g (.a (.own d))) ((d,.row el ty ys)::jc d (frzL (Xf (qay ps)) C)) (some d)
    |_=>False
   |none=>False)else False)else False)else False)else False
  |_,_=>False
 |none=>False
theorem zjq{parts:Array (Nat×Operand)}{o:Oper}(ho:o.op=.buildSlice t n parts){ps:List (Nat×AV)}{ρ:Operand->Option AV}(ak:zc2 ρ parts.toList=some ps){K:AV->CS->Option Nat->Prop}
  (H:zbk P tr t n ps d C R K) {σ:Operand->Value} (I:Inv h0 W M0 (C++R) γ h) (hρ:∀x av,ρ x=some av->DenV γ av (σ x)):ExA P (execOp σ o) h (zeq h0 W M0 R γ K):=by
 unfold zbk at H
 split at H
 ·rename_i el al
  obtain⟨hu,ai⟩:=Jn al
  split at H
  ·rename_i ty zs ap O
   cases hz:Nat.beq (je P el) (sz ty)with
   |false=>rw[hz]at H;exact H.elim
   |true=>
   rw[hz]at H
   cases hb1:Nat.ble (n*je P el) 16777216 with
   |false=>rw[hb1]at H;exact H.elim
   |true=>
   rw[hb1]at H
   cases hb2:Nat.blt 0 (je P el)with
   |false=>rw[hb2]at H;exact H.elim
   |true=>
   rw[hb2]at H
   cases hR:wo d R with
   |false=>rw[hR]at H;exact H.elim
   |true=>
   rw[hR]at H
   simp only[cond_true]at H
   split at H
   ·rename_i r hr
    split at H
    ·rename_i ys af
     obtain⟨γ1,I1,g1⟩:=Inv.frzL (C:=C) (γ:=γ) (Xf (qay ps)) I
     have ah:∀x av,ρ x=some av->DenV γ1 av (σ x):=λx av hx=>(hρ x av hx).gx g1 rfl
     obtain⟨ws,e1,e2⟩:=Wc hr (Qc γ1 zs) (X6 ah ak)
     obtain⟨c1,c2,rfl,r3,r4,r5⟩:=zbj I1.fz af e2
     cases c2 with
     |cons _ _=>exact r5.elim
     |nil=>
     rw[Bc]at *
     have Z:=Ak hz
     have ae:0<je P el:=by simpa[Cq]using hb2
     have an:n*je P el<=16777216:=BE hb1
     have hn:n<=n*je P el:=Dj _ ae
     have ac:c1.length=n*je P el:=by rw[r3.1,r4,Z]
     intro B e
     refine .inl ⟨.slice (some ⟨h.size,0,none⟩) n n,e,h.push (.cells c1.toArray el),?_,_,_,_,zqq γ1 d ⟨some ⟨h.size,0,none⟩,n,n⟩,H,?_,?_,?_⟩
     ·have hq:=QExec.underlying (h:=h) hu B e
      have hs:=QExec.sizeOf (P:=P) (h:=h) (j5 ai).choose_spec B e
      have e5:(parts.map λx=>(x.1,σ x.2)).toList=parts.toList.map λx=>(x.1,σ x.2):=by rw[C7]
      have e6:Ez (λi=>some (i*je P el,je P el)) zs.toArray (parts.map λx=>(x.1,σ x.2)).toList=some c1.toArray:=by rw[e5];exact e1
      simp only[execOp,ho]
      refine Jd ?_
      unfold Instr.buildSlice
      rw[Sem.run_bind,hq]
      simp only[Result.andThen_ok]
      rw[Sem.run_bind,hs]
      simp only[Result.andThen_ok]
      rw[if_neg (by omega)]
      unfold zhw at O
      by_cases aa:n*je P el=0
      ·rw[if_pos aa]
       rw[aa]at O ⊢
       simp at O
       subst O
       simp only[Sem.run_bind,Sem.run_pure,Result.andThen_ok]
       have e7:Array.map (λx=>(#[]:Array Value)[x % (#[]:Array Value).size]!) (Ev 0)=([]:List Value).toArray:=by simp
       rw[e7,e6]
       rfl
      ·rw[if_neg aa]
       have hb:Nat.beq (n*je P el) 0=false:=by
        cases hh:Nat.beq (n*je P el) 0 with
        |false=>rfl
        |true=>exact absurd (Ak hh) aa
       rw[hb]at O
       simp only[cond_false]at O
       split at O
       ·rename_i z am
        have aj:=Jp am h B e
        simp only[Ab]at O
        rw[Sem.run_bind,aj]
        simp only[Result.andThen_ok,Sem.run_bind,Sem.run_pure]
        have e7:Array.map (λx=>z.cells[x % z.cells.size]!) (Ev (n*je P el))=zs.toArray:=by
         rw[<-O]
        rw[e7,e6]
        rfl
       ·cases O
     ·simp only[DenV,DenG,DenA,yw];rfl
     ·refine I1.newRow hR (by simp) (p:=none) (λi hi _=>by rw[BG,if_neg (by omega)]) (λb hb=>by cases hb) (cells:=c1) ⟨by rw[ac,<-Z],.inr ⟨h.size,n,c1.toArray,rfl,I.size,wu _ _,Ae _,by unfold maxLen;omega,by rw[<-Z];simpa using ac,?_⟩⟩ (λq hq=>.inr (by cases hq;rfl)) r3 (by omega) r4.symm
      rw[AM]
      rw[<-Z];simp;omega
     ·exact⟨g1.1,λi hi=>⟨((Qq γ1 d _).2 i hi).1.trans (g1.2 i (by simp)).1,((Qq γ1 d _).2 i hi).2.trans (g1.2 i (by simp)).2⟩⟩
    ·exact H.elim
   ·exact H.elim
  ·exact H.elim
 ·exact H.elim
theorem Zr{n sz:Nat}{s:Sl}{cells:List Value}(ha:Arr n h s.a cells)(hl:cells.length=s.len*sz)(O:0<sz)(B:World)(d:Nat):
  (Cm sz s.len (.slice s.a s.len s.cap)).run P (mk B d h)=.ok cells.toArray (mk B d h):=by
 rcases ha with rfl|⟨b,o,e,_,hc⟩
 ·have h0:s.len=0:=by
   rcases Do s.len with h0|h0
   ·exact h0
   ·have:=Nat.mul_pos h0 O;simp at hl;omega
  rw[h0]
  cases s.a with
  |none=>simp[Cm]
  |some p=>simp[Cm,loadCells,loadCellsFrom]
 ·rw[e]
  exact run_firstCells_some (mk B d h) sz s.len ⟨b,o,none⟩ s.len s.cap cells hl λj u hu=>by rw[zo];exact hc j u hu
theorem zc5{n sz:Nat}{s:Sl}{cells:List Value}(ha:Arr n h s.a cells)(hl:cells.length=s.len*sz)(O:0<sz)(h1:∀u∈cells,u.oneCell'=true){tx e':TypeId}(hk:P.underlying tx=some (.slice e'))(B:World)(d:Nat):
  Src P sz tx (slV s) s.len cells (mk B d h):=
 ⟨.inl ⟨e',hk⟩,λ_=>rfl,Zr ha hl O B d,Zr ha hl O B (d+1),hl,h1⟩
theorem zou{g o:Nat}{O:Array Value}{T:TypeId}(hg:h[g]?=some (.cells O T (0,0))){vs:List Value}(hl:o+vs.length<=O.size)(h1:∀u∈vs,u.oneCell'=true)(B:World)(d:Nat):
  ∃h',(storeCells ⟨g,o,none⟩ vs 0).run P (mk B d h)=.ok () (mk B d h')/\h'[g]?=some (.cells (O.toList.take o++vs++O.toList.drop (o+vs.length)).toArray T (0,0))/\h'.size=h.size/\∀j,j≠g->h'[j]?=h[j]?:=by
 obtain⟨h',r1,r2,r3,r4⟩:=Z7 (P:=P) B d vs (o+0) h O hg (by omega) h1
 exact⟨h',by rw[zbh];exact r1,r2,r3,r4⟩
theorem Yf{sz bytes:Nat}(T:ElemT P t e z sz bytes){base:Nat}{s:Sl}(aa:xs.length=s.len*sz)(Z:∀B d,(Cm sz s.len (slV s)).run P (mk B d h)=.ok xs.toArray (mk B d h))
  {x:Value} (hs:∀B d,Src P sz tx x m news (mk B d h)) (O:(s.len+m)*bytes<=140737488355328) (ak:s.len+m<=140737488355328) (af:base<=h.size) (hg:s.cap<s.len+m) (B:World) (d:Nat):
  ∃c blk,(Au #[t,tx] ty #[slV s,x]).run P (mk B d h)=.ok (.slice (some ⟨h.size,0,none⟩) (s.len+m) c) (mk B (d+1) (h.push (.cells blk e)))/\s.len+m<=c/\c<=maxLen/\blk.size=c*sz/\blk.toList.take ((s.len+m)*sz)=xs++news:=by
 obtain⟨i,hi,hz,aj,ae⟩:=T.info
 subst aj
 subst ae
 have hS:=hs B d
 have ac:=hS.newsLen
 have hr:=run_append_grow_src (P:=P) (mk B d h) t tx ty e i z T.slice hi hz s.a s.len s.cap xs (Z B (d+1)) x m news hS hg (by omega) (growslice_fits (by omega) O)
 have ah:=grownCap_ge (mk B d h) (s.len+m) s.cap e
 have ai:=grownCap_le_maxLen (mk B d h) (s.len+m) s.cap e (by unfold maxLen;omega)
 generalize grownCap (mk B d h) (s.len+m) s.cap e=c at *
 refine⟨c,_,hr,ah,ai,?_,?_⟩
 ·simp only[Array.size_append,DI,size_zeroCells,Av,T.zero,aa,ac,<-Bz]
  congr 1
  omega
 ·simp only[Array.toList_append]
  have:(xs++news).length=(s.len+m)*i.size:=by rw[Av,aa,ac,Bz]
  rw[<-this]
  exact Eb
theorem x8{sz bytes:Nat}(T:ElemT P t e z sz bytes){h h':zb}{s:Sl}{x:Value}{B:World}(hS:Src P sz tx x m news (mk B d h))(O:s.len+m<=s.cap)
  (aa:∀p,s.a=some p->(storeCells (p.add (s.len*sz)) news 0).run P (mk B d h)=.ok () (mk B d h')) (Z:s.a=none->h'=h):(Au #[t,tx] ty #[slV s,x]).run P (mk B d h)=.ok (.slice s.a (s.len+m) s.cap) (mk B d h'):=by
 obtain⟨i,hi,hz,ac,ae⟩:=T.info
 subst ac
 have ht:=T.slice
 unfold slV
 rcases hS.kind with⟨e',hk⟩|hk
 ·cases ha:s.a with
  |none=>rw[Z ha];simp[Au,run_underlying ht,run_underlying hk,sizeOf,typeInfo,hi,hS.len,O,hS.cells]
  |some p=>simp[Au,run_underlying ht,run_underlying hk,sizeOf,typeInfo,hi,hS.len,O,hS.cells,aa p ha]
 ·cases ha:s.a with
  |none=>rw[Z ha];simp[Au,run_underlying ht,run_underlying hk,sizeOf,typeInfo,hi,hS.len,O,hS.cells]
  |some p=>simp[Au,run_underlying ht,run_underlying hk,sizeOf,typeInfo,hi,hS.len,O,hS.cells,aa p ha]
theorem zkv{sz bytes:Nat}(T:ElemT P t e z sz bytes){base:Nat}{s:Sl}(H:Owns h base e sz s xs){x:Value}(hs:∀B d,Src P sz tx x m news (mk B d h))
  (af:(s.len+m)*bytes<=140737488355328) (aj:s.len+m<=140737488355328) (aa:base<=h.size) {K:Value->zb->Prop}
  (hK:∀(s':Sl) (h':zb),s'.len=s.len+m->Owns h' base e sz s' (xs++news)->(∀i,i<h.size->(∀p,s.a=some p->i≠p.block)->h'[i]?=h[i]?)->h.size<=h'.size->(∀p',s'.a=some p'->(∃p,s.a=some p/\p'.block=p.block)\/p'.block=h.size)->K (slV s') h'):
  XRun P (Au #[t,tx] ty #[slV s,x]) h K:=by
 intro B d
 have hS:=hs B d
 have ae:=hS.newsLen
 have Z:=H.1
 have ai:=H.arr
 by_cases ac:s.len+m<=s.cap
 ·rcases H.2 with⟨hv,aC⟩|⟨g,cap,am,hv,ap,hg,aB,az,ak,ah⟩
  ·simp only[AJ]at hv
   obtain⟨e1,e2,e3⟩:=hv
   have hm:m=0:=by omega
   subst hm
   have hn:news=[]:=Az (by simpa using ae)
   subst hn
   have hr:=x8 (P:=P) (ty:=ty) T (s:=s) (h':=h) hS ac (λp hp=>by rw[e1]at hp;cases hp) (λ_=>rfl)
   refine⟨_,d,h,hr,hK ⟨s.a,s.len+0,s.cap⟩ h rfl ?_ (λ_ _ _=>rfl) (Ae _) (λp' O=>by rw[show s.a=none from e1]at O;cases O)⟩
   rw[Bc]
   exact H
  ·simp only[AJ]at hv
   obtain⟨e1,_,e3⟩:=hv
   have al:h[g]?=some (.cells am e (0,0)):=hg
   have au:(s.len+m)*sz<=cap*sz:=AO _ (by omega)
   rw[Bz]at au
   obtain⟨h',r1,r2,r3,r4⟩:=zou (P:=P) al (o:=s.len*sz) (vs:=news) (by rw[ak];omega) hS.one B d
   have hr:=x8 (P:=P) (ty:=ty) T (s:=s) (h':=h') hS ac (λp hp=>by
    rw[e1]at hp;cases hp;rw[zo,AD];exact r1) (λhn=>by rw[e1]at hn;cases hn)
   refine⟨_,d,h',hr,hK ⟨s.a,s.len+m,s.cap⟩ h' rfl ⟨?_,.inr ⟨g,cap,_,?_,ap,r2,(by show s.len+m<=cap;omega),az,?_,?_⟩⟩ (λi hi an=>r4 i λe'=>an _ e1 e') (by omega) (λp' O=>.inl ⟨p',O,rfl⟩)⟩
   ·rw[Av,Z,ae,Bz]
   ·simp[e1,e3]
   ·simp only[DI,Av,AL,Bg,CW]
    rw[ae,ak]at *;omega
   ·simp only
    rw[ah]
    have:(xs++news).length=(s.len+m)*sz:=by rw[Av,Z,ae,Bz]
    rw[<-this]
    exact Eb
 ·obtain⟨c,blk,hr,ar,ay,ax,aA⟩:=Yf (P:=P) (ty:=ty) (base:=base) T Z (λB d=>Zr ai Z T.pos B d) hs af aj aa (by omega) B d
  refine⟨_,d+1,_,hr,hK ⟨some ⟨h.size,0,none⟩,s.len+m,c⟩ _ rfl ⟨?_,.inr ⟨h.size,c,blk,rfl,aa,wu _ _,ar,ay,ax,aA⟩⟩ (λi hi _=>by rw[BG,if_neg (by omega)]) (by simp) (λp' O=>.inr (by cases O;rfl))⟩
  rw[Av,Z,ae,Bz]
def zc6(s:Bt):List Int:=s.data.toList.map λb=>(b.toNat:Int)
def z3u:(ty:Ty)->Bt->Option (List (El ty))
 |.int .u8,s=>some (zc6 s)
 |_,_=>none
def qbi(P:Program)(cs:CS)(tx:TypeId)(ty:Ty):AV->Option (List (El ty))
 |.g (.a (.v (.string s)))=>match P.underlying tx with
  |some .string=>z3u ty s
  |_=>none
 |.g (.a (.v (.slice none 0 0)))=>match P.underlying tx with
  |some (.slice _)=>some []
  |_=>none
 |.g (.a aa)=>match P.underlying tx with
  |some (.slice _)=>match rowOf cs aa with
   |some r=>Yr (.row r.1) (.row ty) r.2
   |none=>match aa with
    |.own c=>match Jk cs c with
     |some (.row _ t xs)=>Yr (.row t) (.row ty) xs
     |_=>none
    |_=>none
  |_=>none
 |_=>none
theorem RowC.bytes(M:Fr)(s:Bt):RowC M (.int .u8) (zc6 s) (byteCells s):=by
 have hl:(byteCells s).length=(zc6 s).length:=by unfold byteCells zc6;simp
 refine⟨by rw[hl];simp[sz],λi hi=>?_⟩
 have O:i<(byteCells s).length:=by rw[hl];exact hi
 have e:(byteCells s)[i]=.int .u8 (zc6 s)[i]:=by simp only[byteCells,zc6,List.getElem_map]
 have e2:((byteCells s).drop (i*1)).take 1=[(byteCells s)[i]]:=by
  rw[Cf,AC O];rfl
 show((byteCells s).drop (i*1)).take 1=[.int .u8 (zc6 s)[i]]
 rw[e2,e]
theorem Yg{t t':Ty}{xs:List (El t)}{ys:List (El t')}(h:Yr (.row t) (.row t') xs=some ys):∃e:t=t',ys=e ▸ xs:=by
 unfold Yr at h
 split at h
 ·rename_i e
  have e':t=t':=by injection e
  subst e'
  simp only[Ab]at h
  exact⟨rfl,h.symm⟩
 ·cases h
theorem zsr{cs:CS}(I:Inv h0 W M0 cs γ h){ty:Ty}{av:AV}{ys:List (El ty)}(hs:qbi P cs tx ty av=some ys)(ae:0<sz ty)(hd:DenV γ av u):
  ∃news,RowC γ.M ty ys news/\∀B d,Src P (sz ty) tx u ys.length news (mk B d h):=by
 have row:∀{t:Ty} {xs:List (El t)} {n:Nat} {s:Sl} {cells:List Value} {e':TypeId},Yr (.row t) (.row ty) xs=some ys->P.underlying tx=some (.slice e')->u=slV s->s.len=xs.length->RowC γ.M t xs cells->Arr n h s.a cells ->
   ∃news,RowC γ.M ty ys news/\∀B d,Src P (sz ty) tx u ys.length news (mk B d h):=by
  intro t xs n s cells e' hc hu e hl hr ha
  obtain⟨e1,e2⟩:=Yg hc
  subst e1
  simp only at e2
  subst e2
  refine⟨cells,hr,λB d=>?_⟩
  rw[e,<-hl]
  exact zc5 ha (by rw[hl];exact hr.1) ae hr.one hu B d
 unfold qbi at hs
 split at hs
 ·rename_i s
  split at hs
  ·rename_i hu
   unfold z3u at hs
   split at hs
   case h_2=>cases hs
   simp only[Ab]at hs
   subst hs
   refine⟨byteCells s,RowC.bytes _ s,λB d=>?_⟩
   rw[show u=.string s from hd]
   have:=Src.ofString (P:=P) (mk B d h) hu s
   have e:(zc6 s).length=s.size:=by unfold zc6;rw[Dw,CW];rfl
   rw[e];exact this
  ·cases hs
 ·split at hs
  ·rename_i e' hu
   simp only[Ab]at hs
   subst hs
   refine⟨[],RowC.nil _ _,λB d=>?_⟩
   rw[show u=.slice none 0 0 from hd]
   exact Src.ofNil (mk B d h) hu 0
  ·cases hs
 ·rename_i aa _ _
  split at hs
  ·rename_i e' hu
   split at hs
   ·rename_i r hr
    obtain⟨s,e,hl,hn,cells,O,ac⟩:=(zcz I hr hd).rowC I.ag
    exact row hs hu e hl O ac
   ·split at hs
    ·rename_i c _ _ _
     split at hs
     ·rename_i e t xs hc
      obtain⟨cells,Z,O,hn,hl⟩:=I.den _ (ql hc)
      exact row hs hu (show u=slV _ from hd) hl O Z.arr
     ·cases hs
    ·cases hs
  ·cases hs
 ·cases hs
def zmb(P:Program)(el:TypeId)(ty:Ty):Option Nat:=match P.info? el with
 |some i=>match i.zero with
  |some z=>bif (bif Nat.beq i.size (sz ty)then(bif Nat.beq z.cells.size i.size then(bif Nat.blt 0 i.size then Nat.blt 0 i.bytes else false)else false)else false)then some i.bytes else none
  |none=>none
 |none=>none
theorem zkw{t el:TypeId}{ty:Ty}(hu:P.underlying t=some (.slice el))(h:zmb P el ty=some b):(∃z,ElemT P t el z (sz ty) b)/\0<b:=by
 unfold zmb at h
 split at h
 ·rename_i i hi
  split at h
  ·rename_i z hz
   cases h1:Nat.beq i.size (sz ty)with
   |false=>rw[h1]at h;cases h
   |true=>
   cases h2:Nat.beq z.cells.size i.size with
   |false=>rw[h1,h2]at h;cases h
   |true=>
   cases h3:Nat.blt 0 i.size with
   |false=>rw[h1,h2,h3]at h;cases h
   |true=>
   cases h4:Nat.blt 0 i.bytes with
   |false=>rw[h1,h2,h3,h4]at h;cases h
   |true=>
   rw[h1,h2,h3,h4]at h
   simp only[cond_true,Ab]at h
   have e1:=Ak h1
   have e2:=Ak h2
   have e3:0<i.size:=by simpa[Cq]using h3
   have e4:0<i.bytes:=by simpa[Cq]using h4
   exact⟨⟨z,hu,⟨i,hi,hz,e1,h⟩,by rw[e2,e1],by rw[<-e1];exact e3⟩,by rw[<-h];exact e4⟩
  ·cases h
 ·cases h
def zes(P:Program)(tr:TypeId)(t tx:TypeId)(bv sv:AV)(d:Nat)(C R:CS)(K:AV->CS->Option Nat->Prop):Prop:=
 match z4z P t with
 |some el=>match z8m P tr 8 el with
  |some ty=>match zmb P el ty,qbi P (C++R) tx ty sv with
   |some b,some ys=>match bv with
    |.g (.a (.v (.slice none 0 0)))=>bif wo d R then(ys.length*b<=140737488355328/\K (.g (.a (.own d))) ((d,.row el ty ys)::jc d C) (some d))else False
    |.g (.a (.own c))=>match Jk C c with
     |some (.row e t' xs)=>match Yr (.row t') (.row ty) xs with
      |some xs=>bif Nat.beq e el then(bif wo d R then((xs.length+ys.length)*b<=140737488355328/\K (.g (.a (.own d))) ((d,.row el ty (xs++ys))::jc d (zji c C)) (some d))else False)else False
      |none=>False
     |_=>False
    |.g (.a (.dc t' xs))=>match Yr (.row t') (.row ty) xs with
     |some xs=>(xs.length+ys.length)*b<=140737488355328/\K (.g (.a (.d (.row ty) (xs++ys)))) C none
     |none=>False
    |_=>False
   |_,_=>False
  |none=>False
 |none=>False
theorem zc7{n b k:Nat}(hb:0<b)(h:n*b<=k):n<=k:=D6 (Dj _ hb) h
theorem zuu{tr t tx ty':TypeId}{bv sv:AV}{K:AV->CS->Option Nat->Prop}(H:zes P tr t tx bv sv d C R K)(I:Inv h0 W M0 (C++R) γ h)
  {u v:Value} (au:DenV γ bv u) (aT:DenV γ sv v):XRun P (Au #[t,tx] ty' #[u,v]) h (zeq h0 W M0 R γ K):=by
 unfold zes at H
 split at H
 ·rename_i el aS
  obtain⟨hu,aV⟩:=Jn aS
  split at H
  ·rename_i ty aZ
   split at H
   ·rename_i b ys hb aM
    obtain⟨⟨z,T⟩,am⟩:=zkw hu hb
    obtain⟨news,ai,aj⟩:=zsr I aM T.pos aT
    split at H
    ·cases hR:wo d R with
     |false=>rw[hR]at H;exact H.elim
     |true=>
     rw[hR]at H
     obtain⟨ac,hK⟩:=H
     rw[show u=slV ⟨none,0,0⟩from au]
     have ae:=zc7 am ac
     refine zkv T (Owns.nil h h0.size el (sz ty)) aj (by simpa using ac) (by simpa using ae) I.size λs' h' hl al hk hs hp=>?_
     rw[BL]at al
     simp only[AD]at hl
     refine⟨_,_,_,zqq γ d s',hK,?_,I.newRow hR hs (p:=none) (λi hi _=>hk i hi (by simp)) (λb hb=>by cases hb) al (λq hq=>?_) ai ae hl,Qq _ _ _⟩
     ·simp only[DenV,DenG,DenA,yw]
     ·rcases hp q hq with⟨p,hp,_⟩|hp
      ·simp at hp
      ·exact .inr hp
    ·rename_i c
     split at H
     ·rename_i e t' aF hc
      split at H
      ·rename_i xs ah
       cases hee:Nat.beq e el with
       |false=>rw[hee]at H;exact H.elim
       |true=>
       rw[hee]at H
       cases hR:wo d R with
       |false=>rw[hR]at H;exact H.elim
       |true=>
       rw[hR]at H
       obtain⟨ac,hK⟩:=H
       have ae:=zc7 am ac
       have ak:=ql hc
       obtain⟨e1,e2⟩:=Yg ah
       subst e1
       simp only at e2
       subst e2
       have e3:=Ak hee
       subst e3
       have ax:=I.den _ (Ap R ak)
       obtain⟨cells,af,Z,aO,O⟩:=ax
       simp only at af Z O
       rw[show u=slV (γ.σ c)from au]
       refine zkv T af aj (by rw[O];exact ac) (by rw[O];exact ae) I.size λs' h' hl al hk hs hp=>?_
       have aC:=I.sep _ (Ap R ak)
       have aY:=zcx hR
       have aD:Inv h0 W M0 (zji c C++R) γ h:=I.sub ((Zp c C).append_right R)
       refine⟨_,_,_,zqq γ d s',hK,?_,aD.newRow hR hs (p:=(γ.σ c).a.map (·.block)) (λi hi ar=>hk i hi λp hp e=>ar (by rw[hp,e];rfl)) (λb hb=>?_) al (λq hq=>?_) (Z.append ai) (by rw[Av];exact ae) (by rw[hl,O,Av]),Qq _ _ _⟩
       ·simp only[DenV,DenG,DenA,yw]
       ·obtain⟨h1,h2⟩:=aC b hb
        refine⟨?_,h2,λx hx aG=>?_⟩
        ·simp only[Dq]at hb
         obtain⟨p,hp,rfl⟩:=hb
         exact(af.base_le p hp).1
        ·have aJ:x∈C++R:=((Zp c C).append_right R).subset hx
         have ar:x≠(c,Ch.row e t' xs):=by
          rintro rfl
          rcases Am.1 hx with hx|hx
          ·exact(Y0 hx).2 rfl
          ·have aA:=I.apart
           rw[Co]at aA
           exact aA.2.2 _ ak _ hx b hb hb
         have hp:=@zcy _ (λ(x y:Nat×Ch)=>∀b,blk γ x.1 x.2=some b->blk γ y.1 y.2≠some b) (λx y h b hb an=>h b an hb) _ I.apart
         exact hp aJ (Ap R ak) ar b aG hb
       ·rcases hp q hq with⟨p,hp,aP⟩|hp
        ·exact .inl (by rw[hp,aP];rfl)
        ·exact .inr hp
      ·exact H.elim
     ·exact H.elim
    ·rename_i t' aF
     split at H
     ·rename_i xs ah
      obtain⟨ac,hK⟩:=H
      have ae:=zc7 am ac
      obtain⟨e1,e2⟩:=Yg ah
      subst e1
      simp only at e2
      subst e2
      obtain⟨s,e,aU,ay⟩:=(show ∃s:Sl,u=slV s/\s.cap=s.len/\Rd γ.M (.row t') xs [u]from au)
      subst e
      obtain⟨s2,e,O,aO,cells,Z,aB⟩:=ay.rowC I.ag
      have e':s=s2:=by cases s;cases s2;simp only[slV,AJ]at e;simp[e]
      subst e'
      have ap:cells.length=s.len*sz t':=by rw[O];exact Z.1
      intro B dr
      by_cases hm:ys.length=0
      ·have aE:ys=[]:=Az hm
       subst aE
       have aH:news=[]:=Az (by rw[ai.1];simp)
       subst aH
       have hr:=x8 (P:=P) (ty:=ty') T (s:=s) (h':=h) (aj B dr) (by simp;omega) (λp hp=>by simp[storeCells]) (λ_=>rfl)
       refine⟨_,dr,h,hr,_,C,none,γ,hK,?_,I,Gx.refl _ _⟩
       rw[Bc]
       exact ay
      ·obtain⟨c,aa,hr,aQ,a6,a1,aL⟩:=Yf (P:=P) (ty:=ty') (base:=0) T ap (λB d=>Zr aB ap T.pos B d) aj (by rw[O];exact ac) (by rw[O];exact ae) (BP _) (by omega) B dr
       have aN:γ.M h.size=none:=I.ag.none (Ae _)
       have hM:Fr.le γ.M (zfq γ h.size aa).M:=by
        intro b cc eM
        have:Nat.beq b h.size=false:=by
         cases hb:Nat.beq b h.size with
         |false=>rfl
         |true=>rw[Ak hb,aN]at eM;cases eM
        simp[zfq,this,eM]
       have aI:AgM (zfq γ h.size aa).M (h.push (.cells aa el)):=by
        intro b cc eM
        by_cases hb:b=h.size
        ·subst hb
         have:cc=aa:=by simp[zfq]at eM;exact eM.symm
         subst this
         exact⟨_,_,wu _ _⟩
        ·have:Nat.beq b h.size=false:=by
          cases an:Nat.beq b h.size with
          |false=>rfl
          |true=>exact absurd (Ak an) hb
         simp only[zfq,this,cond_false]at eM
         obtain⟨T',m,e'⟩:=I.ag b cc eM
         exact⟨T',m,by rw[BG,if_neg hb];exact e'⟩
       refine⟨_,dr+1,_,hr,_,C,none,zfq γ h.size aa,hK,?_,I.call (Keep.push h _ (Ae _)) hM (λb hb=>?_) aI,⟨hM,λ_ _=>⟨rfl,rfl⟩⟩⟩
       ·have az:=((Z.append ai).mono hM).rd (b:=h.size) (o:=0) (c:=c) (cs:=aa) (by simp[zfq]) (by rw[AQ,Av,<-O];exact aL) (by rw[Av,<-O];exact⟨by rw[O];exact ae,aQ⟩)
        rw[Av,<-O]at az
        exact az
       ·have:Nat.beq b h.size=false:=by
         cases an:Nat.beq b h.size with
         |false=>rfl
         |true=>have:=Ak an;omega
        simp[this]
     ·exact H.elim
    ·exact H.elim
   ·exact H.elim
  ·exact H.elim
 ·exact H.elim
end
section
variable {cs C R:CS} {γ b:Gh} {h:zb} {u:Value} {P:Program} {o:Oper} {σ:Operand -> Value} {n:Nat} {gl:Fr} {tr:TypeId} {c:qf} {a:Act} {S:List Nat}
variable {h0 : zb} {W : Nat -> Prop} {M0 : Fr}
def qaz(ns:List Int):Bt:=ns.foldl (λr n=>r.push (Dl n.toNat)) D3
def qbj(t:Ty)(xs:List (El t)):Option (List Int):=Yr (.row t) (.row (.int .u8)) xs
def zss(cs:CS):AA->Option ((t:Ty)×List (El t))
 |.own c=>match Jk cs c with
  |some (.row _ t xs)=>some ⟨t,xs⟩
  |some (.fz t xs)=>some ⟨t,xs⟩
  |_=>none
 |aa=>rowOf cs aa
theorem zkx(I:Inv h0 W M0 cs γ h){aa:AA}{r:(t:Ty)×List (El t)}(hr:zss cs aa=some r)(hd:DenA γ aa u):
  ∃s:Sl,u=slV s/\s.len=r.2.length/\∃cells,RowC γ.M r.1 r.2 cells/\Arr h.size h s.a cells:=by
 unfold zss at hr
 split at hr
 ·split at hr
  ·rename_i c e t xs hc
   simp only[Ab]at hr
   subst hr
   obtain⟨cells,O,Z,hn,hl⟩:=I.den _ (ql hc)
   exact⟨_,hd,hl,cells,Z,O.arr⟩
  ·rename_i c t xs hc
   simp only[Ab]at hr
   subst hr
   have:Rd γ.M (.row t) xs [u]:=by rw[show u=_ from hd];exact I.den _ (ql hc)
   obtain⟨s,e,hl,hn,cells,h1,h2⟩:=this.rowC I.ag
   exact⟨s,e,hl,cells,h1,h2⟩
  ·cases hr
 ·obtain⟨s,e,hl,hn,cells,h1,h2⟩:=(zcz I hr hd).rowC I.ag
  exact⟨s,e,hl,cells,h1,h2⟩
def zmc(P:Program)(s t:TypeId)(av:AV)(cs:CS)(K:AV->Prop):Prop:=
 match P.underlying s,P.underlying t with
 |some (.slice e),some .string=>match P.underlying e,av with
  |some (.int .u8),.g (.a aa)=>match zss cs aa with
   |some r=>match qbj r.1 r.2 with
    |some ns=>K (.g (.a (.v (.string (qaz ns)))))
    |none=>False
   |none=>False
  |_,_=>False
 |some (.int _),some .string=>match av with
  |.g (.a (.v (.int _ n)))=>K (.g (.a (.v (.string (En n)))))
  |_=>False
 |_,_=>False
theorem zxc{M:Fr}{k:IntKind}:∀{ns:List Int} {cells:List Value},RowC M (.int k) ns cells->cells=ns.map (Ew k)
 |ns,cells,H=>by
  apply Bb
  intro i
  have hl:cells.length=ns.length:=by rw[H.1];simp[sz]
  rw[B5]
  by_cases hi:i<ns.length
  ·have:((cells.drop (i*1)).take 1)=[.int k ns[i]]:=H.2 i hi
   have e:cells[i]?=some (.int k ns[i]):=by
    have h2:((cells.drop (i*1)).take 1)[0]?=some (.int k ns[i]):=by rw[this];rfl
    rw[AF,if_pos (by omega),AH]at h2
    simpa using h2
   rw[e,Aj hi];rfl
  ·rw[Bu (by omega),Bu (by omega)];rfl
theorem zqw{s t:TypeId}{x:Operand}(ho:o.op=.convert s t x){av:AV}{K:AV->Prop}(H:zmc P s t av cs K)(I:Inv h0 W M0 cs γ h)(hd:DenV γ av (σ x)):
  ∃ac v,K ac/\DenV γ ac v/\QExec P (execOp σ o) h (.value v):=by
 have val:∀{v:Value},QExec P (convert s t (σ x)) h v->QExec P (execOp σ o) h (.value v):=λhq=>by
  simp only[execOp,ho];exact QExec.val hq
 unfold zmc at H
 split at H
 ·rename_i e hs ht
  split at H
  ·rename_i aa he
   split at H
   ·rename_i r hr
    split at H
    ·rename_i ns af
     refine⟨_,.string (qaz ns),H,rfl,val λB d=>?_⟩
     obtain⟨sl,e1,hl,cells,Z,ae⟩:=zkx I hr hd
     obtain⟨tt,xs⟩:=r
     obtain⟨e2,e3⟩:=Yg af
     simp only at e2
     subst e2
     simp only at e3 hl Z
     subst e3
     have hc:=zxc Z
     subst hc
     have h1:=QExec.underlying (h:=h) hs B d
     have h2:=QExec.underlying (h:=h) ht B d
     have h3:=QExec.underlying (h:=h) he B d
     have O:(Conv.bytesToString (σ x)).run P (mk B d h)=.ok (.string (qaz ns)) (mk B d h):=by
      rw[e1]
      unfold slV
      rcases ae with ah|⟨b,o',e4,_,ai⟩
      ·have aj:ns=[]:=by simpa using ah
       subst aj
       simp only[CR]at hl
       cases ha:sl.a with
       |none=>simp[Conv.bytesToString,qaz]
       |some p=>
        have:=run_bytesToString (P:=P) (mk B d h) p sl.len sl.cap [] (by rw[hl];simp[loadCells,loadCellsFrom])
        exact this
      ·rw[e4]
       refine run_bytesToString (mk B d h) ⟨b,o',none⟩ sl.len sl.cap ns ?_
       have:=Zr (P:=P) (h:=h) (n:=b+1) (sz:=1) (s:=sl) (cells:=ns.map (Ew .u8)) (.inr ⟨b,o',e4,by omega,ai⟩) (by rw[hl];simp) (by omega) B d
       rw[e4]at this
       simpa[Cm]using this
     unfold convert
     rw[Sem.run_bind,h1]
     simp only[Result.andThen_ok]
     rw[Sem.run_bind,h2]
     simp only[Result.andThen_ok]
     rw[e1]at O ⊢
     unfold slV at O ⊢
     simp only[Sem.run_bind,h3,Result.andThen_ok]
     exact O
    ·exact H.elim
   ·exact H.elim
  ·exact H.elim
 ·rename_i k hs ht
  split at H
  ·rename_i k' n
   refine⟨_,.string (En n),H,rfl,val λB d=>?_⟩
   have h1:=QExec.underlying (h:=h) hs B d
   have h2:=QExec.underlying (h:=h) ht B d
   have e:σ x=.int k' n:=hd
   unfold convert
   rw[Sem.run_bind,h1]
   simp only[Result.andThen_ok]
   rw[Sem.run_bind,h2,e]
   rfl
  ·exact H.elim
 ·exact H.elim
def z9i:BinOp->Option Bool
 |.eql=>some true
 |.neq=>some false
 |_=>none
def qbk(P:Program)(o:Oper)(ρ:Operand->Option AV)(cs:CS):Option (Bool×Nat):=match o.op with
 |.binOp op t x y _=>match z9i op,ρ x,ρ y with
  |some pol,some (.g (.a aa)),some (.g (.a (.v (.slice none 0 0))))=>match zss cs aa,P.underlying t with
   |some ⟨ty,xs⟩,some (.slice _)=>bif Nat.blt 0 (sz ty)then some (pol,xs.length)else none
   |_,_=>none
  |_,_,_=>none
 |_=>none
theorem zmd(op:BinOp)(t:TypeId)(x y:Operand)(a b:Option Addr)(l c l' c':Nat)(w:World):(eqGuard op t x y (.slice a l c) (.slice b l' c')).run P w=.ok () w:=by
 unfold eqGuard;cases op <;> rfl
theorem z5i{ρ:Operand->Option AV}{ae:Bool}(hn:qbk P o ρ (C++R)=some (ae,n)){K:AV->CS->Option Nat->Prop}(H:∀b:Bool,(b=true->n=0)->K (.g (.a (.v (.bool (bif ae then b else !b))))) C none)
  (I:Inv h0 W M0 (C++R) γ h) (hρ:∀x av,ρ x=some av->DenV γ av (σ x)):ExA P (execOp σ o) h (zeq h0 W M0 R γ K):=by
 unfold qbk at hn
 split at hn
 ·rename_i op t x y yt ho
  split at hn
  ·rename_i ah aa O hx hy
   split at hn
   ·rename_i ty xs e hr hu
    cases hz:Nat.blt 0 (sz ty)with
    |false=>rw[hz]at hn;cases hn
    |true=>
     rw[hz]at hn
     simp only[cond_true,Ab,Bv]at hn
     obtain⟨rfl,rfl⟩:=hn
     have ai:0<sz ty:=by simpa[Cq]using hz
     obtain⟨s,e1,hl,cells,Z,ac⟩:=zkx I hr (hρ _ _ hx)
     have e2:σ y=.slice none 0 0:=hρ _ _ hy
     have af:s.a.isNone=true->xs.length=0:=by
      intro hs
      have hc:cells=[]:=by
       rcases ac with hc|⟨b,o,ha,_⟩
       ·exact hc
       ·rw[ha]at hs;cases hs
      have:=Z.1
      rw[hc]at this
      simp only[CR]at this
      rcases Nat.mul_eq_zero.1 this.symm with h1|h1
      ·exact h1
      ·omega
     have hK:=H s.a.isNone af
     intro B d
     refine .inl ⟨_,d,h,?_,_,C,none,γ,hK,rfl,I,Gx.refl _ _⟩
     simp only[execOp,ho]
     refine Jd ?_
     rw[e1,e2]
     simp only[slV]
     rw[Sem.run_bind,zmd]
     simp only[Result.andThen_ok]
     cases op <;> simp only[z9i,Ab]at O <;> (try (cases O;done)) <;> subst O
     ·simp only[binOp,Sem.run_bind,run_equal_slice_nil _ t _ _ _ _ hu];rfl
     ·simp only[binOp,Sem.run_bind,run_equal_slice_nil _ t _ _ _ _ hu];rfl
   ·cases hn
  ·cases hn
 ·cases hn
def hA0(P:Program)(gl:Fr)(tr:TypeId)(o:Oper)(ρ:Operand->Option AV)(C R:CS)(K:AV->CS->Option Nat->Prop):Prop:=
 match o.op with
 |.alloc t=>match o.dst with
  |some d=>zw4 P t d C R K
  |none=>False
 |.box t x=>match o.dst,ρ x with
  |some d,some av=>match zuq av with
   |some l=>qbh t d l C R K
   |none=>False
  |_,_=>False
 |.store t a x=>match ρ a,ρ x with
  |some (.g (.a aa)),some xv=>match zuq xv with
   |some l2=>zw8 P t aa l2 C R K
   |none=>False
  |_,_=>False
 |.buildSlice t n parts=>match o.dst,zc2 ρ parts.toList with
  |some d,some ps=>zbk P tr t n ps d C R K
  |_,_=>False
 |.convert s t x=>bif isQ P o then qA P gl o ρ none (C++R) (λav=>K av C none)else(match ρ x with
  |some av=>zmc P s t av (C++R) λO=>K O C none
  |none=>False)
 |.call c=>match c.callee with
  |.builtin .append=>match c.args.toList,c.argTypes.toList,o.dst with
   |[s,x],[t,tx],some d=>match ρ s,ρ x with
    |some bv,some sv=>zes P tr t tx bv sv d C R K
    |_,_=>False
   |_,_,_=>False
  |.builtin _=>qA P gl o ρ none (C++R) λav=>K av C none
  |_=>z5f P gl tr o ρ C R λav C'=>K av C' none
 |.range t x=>match o.dst,ρ x with
  |some d,some av=>zxa P t av d C R K
  |_,_=>False
 |.next x true=>match ρ x with
  |some av=>z5h av C R K
  |none=>False
 |_=>qA P gl o ρ none (C++R) λav=>K av C none
theorem toList_eq{α:Type}{x:Array α}{l:List α}(h:x.toList=l):x=l.toArray:=by
 have:=congrArg List.toArray h;simpa using this
theorem z9j(Z:Fr.le gl M0){ρ:Operand->Option AV}{K:AV->CS->Option Nat->Prop}(H:hA0 P gl tr o ρ C R K)(I:Inv h0 W M0 (C++R) γ h)
  (hσ:∀f,σ (.func f)=.func (.func f) #[] #[]) (hρ:∀x av,ρ x=some av->DenV γ av (σ x)):ExA P (execOp σ o) h (zeq h0 W M0 R γ K):=by
 unfold hA0 at H
 split at H
 ·rename_i t ho
  split at H
  ·exact zw5 ho H I
  ·exact H.elim
 ·rename_i t x ho
  split at H
  ·rename_i d av hd O
   split at H
   ·rename_i l hl
    exact z5g ho H I (zc0 hl (hρ _ _ O))
   ·exact H.elim
  ·exact H.elim
 ·rename_i t a x ho
  split at H
  ·rename_i aa xv ha hx
   split at H
   ·rename_i l hl
    exact zw9 ho H I (zc0 hl (hρ _ _ hx)) (hρ _ _ ha)
   ·exact H.elim
  ·exact H.elim
 ·rename_i t n parts ho
  split at H
  ·rename_i d ps hd ai
   exact zjq ho ai H I hρ
  ·exact H.elim
 ·rename_i s t x ho
  cases hq:isQ P o with
  |true=>rw[hq]at H;exact z5d Z H I hρ
  |false=>
   rw[hq]at H
   simp only[cond_false]at H
   split at H
   ·rename_i av O
    obtain⟨af,v,h1,h2,h3⟩:=zqw ho H I (hρ _ _ O)
    exact λB d=>.inl ⟨v,d,h,h3 B d,af,C,none,γ,h1,h2,I,Gx.refl _ _⟩
   ·exact H.elim
 ·rename_i c ho
  split at H
  ·rename_i hc
   split at H
   ·rename_i s x t tx d ac ae hd
    split at H
    ·rename_i bv sv hs hx
     have ah:=zuu (ty':=o.type) H I (hρ _ _ hs) (hρ _ _ hx)
     intro B e
     obtain⟨v,d',h',r,hp⟩:=ah B e
     refine .inl ⟨v,d',h',?_,hp⟩
     have ee:execOp σ o=(Au c.argTypes o.type (c.args.map σ) >>= λx=>(Dg (DL x):Sem Next)):=by
      simp only[execOp,ho,resolve,hc]
      rfl
     rw[ee,toList_eq ac,toList_eq ae]
     refine Jd ?_
     simpa using r
    ·exact H.elim
   ·exact H.elim
  ·exact z5d Z H I hρ
  ·exact z1d Z H I hσ hρ
 ·rename_i t x ho
  split at H
  ·rename_i d av hd O
   exact zxb ho H I (hρ _ _ O)
  ·exact H.elim
 ·rename_i x ho
  split at H
  ·rename_i av O
   exact z1e ho H I (hρ _ _ O)
  ·exact H.elim
 ·exact z5d Z H I hρ
def hA(P:Program)(gl:Fr)(tr:TypeId)(o:Oper)(ρ:Operand->Option AV)(C R:CS)(K:AV->CS->Option Nat->Prop):Prop:=match qbk P o ρ (C++R)with
 |some (pol,n)=>∀b:Bool,(b=true->n=0)->K (.g (.a (.v (.bool (bif pol then b else !b))))) C none
 |none=>hA0 P gl tr o ρ C R K
theorem qbl(O:Fr.le gl M0){ρ:Operand->Option AV}{K:AV->CS->Option Nat->Prop}(H:hA P gl tr o ρ C R K)(I:Inv h0 W M0 (C++R) γ h)
  (hσ:∀f,σ (.func f)=.func (.func f) #[] #[]) (hρ:∀x av,ρ x=some av->DenV γ av (σ x)):ExA P (execOp σ o) h (zeq h0 W M0 R γ K):=by
 unfold hA at H
 split at H
 ·rename_i Z n hn
  exact z5i hn H I hρ
 ·exact z9j O H I hσ hρ
def orA:Option AV->Option AV->Option AV
 |some v,_=>some v
 |none,w=>w
def qbm(b:Bool)(x y:AV):Option AV:=match exV x,exV y with
 |some u,some v=>some (zun (zwb b u v))
 |_,_=>match x,y with
  |.g (.a (.d t xs)),.g (.a (.d t' ys))=>match Yr t' t ys with
   |some ys=>some (.g (.a (.d t (bif b then xs else ys))))
   |none=>none
  |_,_=>none
theorem z1f{b:Bool}{x y z:AV}(h:qbm b x y=some z){u v:Value}(hx:b=true->DenV γ x u)(hy:b=false->DenV γ y v):DenV γ z (if b=true then u else v):=by
 unfold qbm at h
 split at h
 ·rename_i p q hp hq
  simp only[Ab]at h
  subst h
  have e:(if b=true then u else v)=zwb b p q:=by
   rw[zsd]
   cases b with
   |true=>simp only[if_true];exact zqr hp (hx rfl)
   |false=>simp only[A9,if_false];exact zqr hq (hy rfl)
  rw[e];exact Jm γ _
 ·split at h
  ·rename_i t xs t' ys _
   split at h
   ·rename_i O hc
    simp only[Ab]at h
    subst h
    cases b with
    |true=>exact hx rfl
    |false=>exact Wa hc (hy rfl)
   ·cases h
  ·cases h
def z1g(e:yl)(c:qf)(x a b:Operand)(K:AV->Prop):Prop:=
 match x with
 |.tmp s=>match zl6 e s with
  |some (cs,v)=>match zuo v with
   |some t=>bif suf cs c then(match orA (zho e c a) (zho e ((s,true)::cs) a),orA (zho e c b) (zho e ((s,false)::cs) b)with
    |some va,some vb=>match qbm t va vb with
     |some z=>K z
     |none=>False
    |_,_=>False)else False
   |none=>False
  |none=>False
 |_=>False
theorem Wd{e:yl}{x a b:Operand}{K:AV->Prop}(H:z1g e c x a b K):
  ∃z,K z/\∀(n:Nat) (γ:Gh) (O:Act),SatA n e γ O->valid (zx O) c->∃t,O.eval x=.bool t/\DenV γ z (if t=true then O.eval a else O.eval b):=by
 unfold z1g at H
 split at H
 ·rename_i s
  split at H
  ·rename_i cs v hl
   split at H
   ·rename_i t ht
    cases hsf:suf cs c with
    |false=>rw[hsf]at H;exact H.elim
    |true=>
     rw[hsf]at H
     simp only[cond_true]at H
     split at H
     ·rename_i va vb ha hb
      split at H
      ·rename_i z hz
       refine⟨z,H,λn γ O hs hv=>?_⟩
       have Z:=Jc hsf hv
       have hx:zx O s=.bool t:=zhp ht ((hs.all _ (Qb hl)).1 Z)
       refine⟨t,hx,z1f hz (λac=>?_) (λaa=>?_)⟩
       ·unfold orA at ha
        split at ha
        ·rename_i w _ h1
         simp only[Ab]at ha;subst ha
         exact qe hs hv h1
        ·exact qe hs (c:=(s,true)::cs) ⟨by rw[hx,ac],Z⟩ ha
       ·unfold orA at hb
        split at hb
        ·rename_i w _ h1
         simp only[Ab]at hb;subst hb
         exact qe hs hv h1
        ·exact qe hs (c:=(s,false)::cs) ⟨by rw[hx,aa],Z⟩ hb
      ·exact H.elim
     ·exact H.elim
   ·exact H.elim
  ·exact H.elim
 ·exact H.elim
def opA(P:Program)(gl:Fr)(tr:TypeId)(o:Oper)(e:yl)(c:qf)(C R:CS)(K:AV->CS->Option Nat->Prop):Prop:=
 match o.op with
 |.pick x a b=>z1g e c x a b λav=>K av C none
 |_=>match Wb e c with
  |some none=>hA P gl tr o (zho e c) C R K
  |some (some b)=>bif zhd o then zus P gl tr o (zho e c) b (C++R) (λav=>K av C none)else qA P gl o (zho e c) (some b) (C++R) (λav=>K av C none)
  |none=>False
theorem z5j(O:Fr.le gl M0){e:yl}{K:AV->CS->Option Nat->Prop}(H:opA P gl tr o e c C R K)(hs:SatA n e γ a)(I:Inv h0 W M0 (C++R) γ h)(hv:valid (zx a) c):
  ExA P (execOp a.eval o) h (zeq h0 W M0 R γ K):=by
 have hσ:∀f,a.eval (.func f)=.func (.func f) #[] #[]:=λ_=>rfl
 have hρ:∀x av,zho e c x=some av->DenV γ av (a.eval x):=λx av hx=>qe hs hv hx
 unfold opA at H
 split at H
 ·rename_i x y z ho
  obtain⟨av,h1,h2⟩:=Wd H
  obtain⟨t,h3,h4⟩:=h2 n γ a hs hv
  refine λB d=>.inl ⟨_,d,h,?_,av,C,none,γ,h1,h4,I,Gx.refl _ _⟩
  simp only[execOp,ho,h3,asBool,Sem.run_bind,Sem.run_pure,Result.andThen_ok]
 ·split at H
  ·exact qbl O H I hσ hρ
  ·rename_i b hb
   have hg:=Zh hs hb hv
   cases hic:zhd o with
   |true=>
    rw[hic]at H
    simp only[cond_true]at H
    obtain⟨f,args,h1,h2⟩:=(zbg (h0:=h0) (W:=W) (M0:=M0) H).2 hg O γ h a.eval I hσ hρ
    refine λB d=>.inr (.inr ⟨f,args,h1 _,h2.mono ?_⟩)
    rintro v h' ⟨av,γ',g1,g2,g3,g4,_⟩
    exact⟨av,C,none,γ',g1,g2,g3,g4⟩
   |false=>
    rw[hic]at H
    simp only[cond_false]at H
    obtain⟨av,h1,h2⟩:=zgq (h0:=h0) (W:=W) (M0:=M0) O H
    obtain⟨v,hd,hq⟩:=h2 hg γ h a.eval I hρ
    exact λB d=>.inl ⟨v,d,h,hq B d,av,C,none,γ,h1,hd,I,Gx.refl _ _⟩
  ·exact H.elim
theorem z9k{e:yl}{K:AV->CS->Option Nat->Prop}(H:opA P gl tr o e c C R K)(hs:SatA n e γ a)(hv:¬valid (zx a) c):∃av,K av C none:=by
 unfold opA at H
 split at H
 ·obtain⟨av,h1,_⟩:=Wd H
  exact⟨av,h1⟩
 ·split at H
  ·rename_i hg
   have:=zbd hs hg hv
   cases this
  ·rename_i b hb
   have O:=zbd hs hb hv
   simp only[Ab]at O
   cases hic:zhd o with
   |true=>rw[hic]at H;simp only[cond_true]at H;exact(zbg (h0:=#[]) (W:=λ_=>False) (M0:=λ_=>none) H).1 O
   |false=>
    rw[hic]at H
    simp only[cond_false]at H
    obtain⟨av,h1,_⟩:=zgq (h0:=#[]) (W:=λ_=>False) (M0:=gl) (Fr.le.refl _) H
    exact⟨av,h1⟩
  ·exact H.elim
def GxS(S:List Nat)(γ γ':Gh):Prop:=Fr.le γ.M γ'.M/\∀i,i∉S->γ'.β i=γ.β i/\γ'.σ i=γ.σ i
theorem GxS.refl(S:List Nat)(γ:Gh):GxS S γ γ:=⟨Fr.le.refl _,λ_ _=>⟨rfl,rfl⟩⟩
theorem GxS.trans{a b c:Gh}(h:GxS S a b)(k:GxS S b c):GxS S a c:=⟨h.1.trans k.1,λi hi=>⟨(k.2 i hi).1.trans (h.2 i hi).1,(k.2 i hi).2.trans (h.2 i hi).2⟩⟩
theorem GxS.mono{S S':List Nat}{a b:Gh}(h:GxS S a b)(hs:∀x∈S,x∈S'):GxS S' a b:=⟨h.1,λi hi=>h.2 i λhm=>hi (hs i hm)⟩
def qa0(c:Option Nat)(d:Option Nat):Bool:=match c,d with
 |none,_=>true
 |some x,some y=>Nat.beq x y
 |some _,none=>false
theorem Gx.toS{c d:Option Nat}{γ γ':Gh}(g:Gx c γ γ')(h:qa0 c d=true)(hS:∀i,d=some i->i∈S):GxS S γ γ':=by
 refine⟨g.1,λi hi=>g.2 i λe=>?_⟩
 subst e
 cases d with
 |none=>cases h
 |some y=>
  have:i=y:=Ak h
  subst this
  exact hi (hS _ rfl)
def wRA(P:Program)(gl:Fr)(tr:TypeId)(n:Nat)(ops:Array Oper)(R:CS)(K:yl->CS->Prop):List Oper->yl->CS->Prop
 |[],e,C=>K (zfr e) C
 |o::rest,e,C=>match Y1 ops e o.guard with
  |some c=>bif yu n c o.dst then opA P gl tr o e c C R (λav C' i=>bif qa0 i o.dst then wRA P gl tr n ops R K rest (z06 (zsm i e) o.dst c av) C' else False)else False
  |none=>False
theorem zc8{P:Program}{gl:Fr}(ae:Fr.le gl M0){tr:TypeId}{n:Nat}{ops:Array Oper}{R:CS}{K:yl->CS->Prop}{Q:Exit->Act->World->Prop}(B:World):
  ∀(l:List Oper) (e:yl) (C:CS) (γ:Gh) (h:zb) (a:Act) (d:Nat),wRA P gl tr n ops R K l e C->SatA n e γ a->Inv h0 W M0 (C++R) γ h ->
   (∀e' C' γ' a' d' h',SatA n e' γ' a'->Inv h0 W M0 (C'++R) γ' h'->Same (jj l) a a'->GxS (jj l) γ γ'->K e' C'->Q .normal a' (mk B d' h'))->wpList P ops Q l a (mk B d h)
 |[],e,C,γ,h,a,d,H,hs,I,hQ=>hQ _ _ _ _ _ _ hs.clean I (Same.refl _ _) (GxS.refl _ _) H
 |o::rest,e,C,γ,h,a,d,H,hs,I,hQ=>by
  unfold wRA at H
  split at H
  ·rename_i c hc
   cases hd:yu n c o.dst with
   |false=>rw[hd]at H;exact H.elim
   |true=>
    rw[hd]at H
    simp only[cond_true]at H
    have hw:=Zq hs hc
    have aa:∀i,o.dst=some i->i∈jj (o::rest):=λi hi=>by simp[jj,hi]
    have O:∀x∈jj rest,x∈jj (o::rest):=λx hx=>by
     unfold jj
     split
     ·exact Ah _ hx
     ·exact hx
    have Z:∀av u d' h' C' i γ',(valid (zx a) c->DenV γ' av u)->(¬valid (zx a) c->u=undef)->Inv h0 W M0 (C'++R) γ' h'->Gx i γ γ'->(bif qa0 i o.dst then wRA P gl tr n ops R K rest (z06 (zsm i e) o.dst c av) C' else False) ->
      wpList P ops Q rest (a.put o.dst u) (mk B d' h'):=λav u d' h' C' i γ' h1 h2 I' g h3=>by
     cases hid:qa0 i o.dst with
     |false=>rw[hid]at h3;exact h3.elim
     |true=>
      rw[hid]at h3
      exact zc8 ae B rest _ _ _ _ _ _ h3 ((hs.gx g).putO hd h1 h2) I' λe' af ah a' ai aj q1 q2 q3 q4 q5=>
       hQ e' af ah a' ai aj q1 q2 ((Same.put a o.dst u aa).trans (q3.mono O)) ((g.toS hid aa).trans (q4.mono O)) q5
    unfold wpList
    by_cases hv:valid (zx a) c
    ·rw[if_pos (hw.2 hv)]
     refine .inl ((z5j ae H hs I hv).upon B d ?_)
     rintro v d' h' ⟨av,C',i,γ',g1,g2,g3,g4⟩
     exact Z av v d' h' C' i γ' (λ_=>g2) (λac=>absurd hv ac) g3 g4 g1
    ·rw[if_neg (λhx=>hv (hw.1 hx))]
     obtain⟨av,hK⟩:=z9k H hs hv
     exact Z av undef d h C none γ (λac=>absurd ac hv) (λ_=>rfl) I (Gx.refl _ _) hK
  ·exact H.elim
end
section
variable {cs C R:CS} {γ:Gh} {h:zb} {i:Nat} {e:TypeId} {t:Ty}
variable {h0 : zb} {W : Nat -> Prop} {M0 : Fr}
inductive Shp where
 |dat (t:Ty)
 |own (e:TypeId) (t:Ty)
 deriving DecidableEq
@[reducible] def DS:Shp->Type
 |.dat t=>El t
 |.own _ t=>List (El t)
inductive SG where
 |one (s:Shp)
 |agg (l:List Shp)
structure AnnA where
 slots:List (Nat×SG)
 boxes:List (Nat×List Shp)
 ro:List Nat
 ids:List Nat
abbrev Dy:=(s:Shp)×DS s
@[reducible] def zuv:List Shp->Type->Type
 |[],X=>X
 |s::l,X=>DS s->zuv l X
def z5k(s s':Shp)(x:DS s):Option (DS s'):=if h:s=s' then some (h ▸ x)else none
def zxd{X:Type}:(l:List Shp)->zuv l X->(List Dy->X->Prop)->Prop
 |[],f,k=>k [] f
 |s::l,f,k=>∀x:DS s,zxd l (f x) λvs y=>k (⟨s,x⟩::vs) y
def zf4{X:Type}:(l:List Shp)->List Dy->zuv l X->Option X
 |[],[],f=>some f
 |s::l,d::ds,f=>match z5k d.1 s d.2 with
  |some x=>zf4 l ds (f x)
  |none=>none
 |_,_,_=>none
def z9l{X:Type}:(l:List Shp)->(List Dy->X)->zuv l X
 |[],f=>f []
 |s::l,f=>λx=>z9l l λvs=>f (⟨s,x⟩::vs)
def zov{X Y:Type}:(l:List Shp)->zuv l X->zuv l Y->zuv l (X×Y)
 |[],f,g=>(f,g)
 |_::l,f,g=>λx=>zov l (f x) (g x)
theorem zst{s s':Shp}{x:DS s}{y:DS s'}(h:z5k s s' x=some y):(⟨s',y⟩:Dy)=⟨s,x⟩:=by
 unfold z5k at h
 split at h
 ·rename_i e
  subst e
  have h:=Aw h
  rw[<-h]
 ·cases h
theorem zky{X:Type}:∀{l:List Shp} {vs:List Dy} {f:zuv l X} {x:X} {k:List Dy->X->Prop},zf4 l vs f=some x->zxd l f k->k vs x
 |[],[],f,x,k,h,g=>by have h:=Aw h;subst h;exact g
 |[],_::_,f,x,k,h,g=>by simp[zf4]at h
 |_::_,[],f,x,k,h,g=>by simp[zf4]at h
 |s::l,d::ds,f,x,k,h,g=>by
  simp only[zf4]at h
  split at h
  ·rename_i y hy
   have:=zky h (g y)
   rw[zst hy]at this
   exact this
  ·cases h
theorem zow{X:Type}:∀{l:List Shp} {vs:List Dy} {f:List Dy->X} {x:X},zf4 l vs (z9l l f)=some x->x=f vs
 |[],[],f,x,h=>(Aw h).symm
 |[],_::_,f,x,h=>by simp[zf4]at h
 |_::_,[],f,x,h=>by simp[zf4]at h
 |s::l,d::ds,f,x,h=>by
  simp only[zf4,z9l]at h
  split at h
  ·rename_i y hy
   have:=zow h
   rw[zst hy]at this
   exact this
  ·cases h
theorem zox{X:Type}:∀{l:List Shp} {f:List Dy->X} {k:List Dy->X->Prop},(∀vs,k vs (f vs))->zxd l (z9l l f) k
 |[],_,_,h=>h []
 |_::_,_,_,h=>λ_=>zox λ_=>h _
structure Pl where
 id:Nat
 s:Shp
 a:AA
def plL(base:Nat):List Shp->List AA->Option (List Pl)
 |[],[]=>some []
 |s::ss,a::as=>match plL (base+1) ss as with
  |some l=>some (⟨base,s,a⟩::l)
  |none=>none
 |_,_=>none
def zhx(e:yl):List (Nat×SG)->Option (List Pl)
 |[]=>some []
 |(i,sg)::l=>match zl6 e i,zhx e l with
  |some ([],.g x),some r=>match sg,x with
   |.one s,.a a=>some (⟨100000+64*i,s,a⟩::r)
   |.agg ss,.agg as=>match plL (100000+64*i) ss as with
    |some q=>some (q++r)
    |none=>none
   |_,_=>none
  |_,_=>none
def zhy(C:CS):List (Nat×List Shp)->Option (List Pl)
 |[]=>some []
 |(c,ss)::l=>match Jk C c,zhy C l with
  |some (.box as),some r=>match plL (1000000+64*c) ss as with
   |some q=>some (q++r)
   |none=>none
  |_,_=>none
def z9m:SG->List Shp
 |.one s=>[s]
 |.agg l=>l
def zsu:List (Nat×SG)->List Shp
 |[]=>[]
 |(_,sg)::l=>z9m sg++zsu l
def zxe:List (Nat×List Shp)->List Shp
 |[]=>[]
 |(_,ss)::l=>ss++zxe l
def zbl(J:AnnA):List Shp:=zsu J.slots++zxe J.boxes
def zuw:List Pl->List Nat
 |[]=>[]
 |⟨_,.dat _,.own c⟩::l=>c::zuw l
 |_::l=>zuw l
def z9n(c:Nat):List Pl->Bool
 |[]=>false
 |p::l=>bif (bif Nat.beq p.id c then true else zuk c p.a)then true else z9n c l
def zme(R:CS):List Pl->CS->Option CS
 |[],C=>some C
 |p::l,C=>match p.s with
  |.dat _=>zme R l C
  |.own e t=>bif z9n p.id l then none else(match p.a with
   |.own c=>match Jk C c with
    |some (.row e' t' xs)=>match Yr (.row t') (.row t) xs with
     |some ys=>bif Nat.beq e e' then(bif Nat.beq c p.id then zme R l C else(bif wo p.id R then zme R l ((p.id,.row e t ys)::jc p.id (zji c C))else none))else none
     |none=>none
    |_=>none
   |.v (.slice none 0 0)=>bif wo p.id R then zme R l ((p.id,.row e t [])::jc p.id C)else none
   |_=>none)
theorem zkz(I:Inv h0 W M0 cs γ h){x y:Nat×Ch}(hx:x∈cs)(hy:y∈cs)(Z:x≠y):∀b,blk γ x.1 x.2=some b->blk γ y.1 y.2≠some b:=
 @zcy _ (λ(x y:Nat×Ch)=>∀b,blk γ x.1 x.2=some b->blk γ y.1 y.2≠some b) (λx y h b hb O=>h b O hb) _ I.apart _ _ hx hy Z
theorem Inv.rename(I:Inv h0 W M0 (C++R) γ h){c i:Nat}(hR:wo i R=true){xs:List (El t)}(hc:(c,Ch.row e t xs)∈C):
  Inv h0 W M0 ((i,.row e t xs)::jc i (zji c C)++R) (zqq γ i (γ.σ c)) h:=by
 have O:(jc i (zji c C)++R).Sublist (C++R):=(((xg i _).trans (Zp c C))).append_right R
 have Z:(c,Ch.row e t xs)∈C++R:=Ap R hc
 have ac:∀x∈jc i (zji c C)++R,∀b,blk γ c (.row e t xs)=some b->blk γ x.1 x.2≠some b:=by
  intro x hx b hb ae
  have af:x≠(c,Ch.row e t xs):=by
   rintro rfl
   rcases Am.1 hx with hx|hx
   ·exact(Y0 ((xg i _).subset hx)).2 rfl
   ·have aa:=I.apart
    rw[Co]at aa
    exact aa.2.2 _ hc _ hx b hb hb
  exact zkz I (O.subset hx) Z af b ae hb
 have hI:Inv h0 W M0 (jc i (zji c C)++R) (zqq γ i (γ.σ c)) h:=
  I.rest O (Qq γ i _) (zbc hR) (λx hx b hb=>⟨rfl,(I.sep x (O.subset hx) b hb).2⟩) I.ag (λ_ _ _=>rfl) (Ae _) (λ_ _=>rfl)
 obtain⟨cells,h1,h2,h3,h4⟩:=I.den _ Z
 have eb:∀b,blk (zqq γ i (γ.σ c)) i (.row e t xs)=some b->blk γ c (.row e t xs)=some b:=λb hb=>by simpa[blk,yw]using hb
 refine hI.cons ⟨cells,by rw[yw];exact h1,h2,h3,by rw[yw];exact h4⟩ (λb hb=>I.sep _ Z b (eb b hb)) (λb hb x hx e'=>?_)
 rw[zkq (Qq γ i _) _ (zbc hR x hx).1]at e'
 exact ac x hx b (eb b hb) e'
theorem Inv.nilRow(I:Inv h0 W M0 (C++R) γ h)(hR:wo i R=true)(e:TypeId)(t:Ty):
  Inv h0 W M0 ((i,.row e t [])::jc i C++R) (zqq γ i ⟨none,0,0⟩) h:=by
 have O:=(xg i C).append_right R
 have hI:Inv h0 W M0 (jc i C++R) (zqq γ i ⟨none,0,0⟩) h:=
  I.rest O (Qq γ i _) (zbc hR) (λx hx b hb=>⟨rfl,(I.sep x (O.subset hx) b hb).2⟩) I.ag (λ_ _ _=>rfl) (Ae _) (λ_ _=>rfl)
 refine hI.cons ⟨[],by rw[yw];exact Owns.nil _ _ _ _,RowC.nil _ _,by simp,by rw[yw];rfl⟩ (λb hb=>by simp[blk,yw]at hb) (λb hb=>by simp[blk,yw]at hb)
theorem zsv{c:Nat}:∀{l:List Pl},z9n c l=false->∀p∈l,p.id≠c/\zuk c p.a=false
 |[],_,p,hp=>by cases hp
 |q::l,h,p,hp=>by
  simp only[z9n]at h
  cases hq:(bif Nat.beq q.id c then true else zuk c q.a)with
  |true=>rw[hq]at h;cases h
  |false=>
   rw[hq]at h
   rcases Ag.1 hp with rfl|hp
   ·cases hb:Nat.beq p.id c with
    |true=>rw[hb]at hq;cases hq
    |false=>rw[hb]at hq;exact⟨λe=>by rw[e]at hb;simp at hb,hq⟩
   ·exact zsv h p hp
def zux:List Pl->List Nat
 |[]=>[]
 |p::l=>p.id::zux l
theorem zbm{R:CS}{h:zb}:∀{l:List Pl} {C C1:CS} {γ:Gh},zme R l C=some C1->Inv h0 W M0 (C++R) γ h ->
  ∃γ1,Inv h0 W M0 (C1++R) γ1 h/\GxS (zux l) γ γ1/\(γ1.M=γ.M/\γ1.β=γ.β)/\∀p∈l,∀e t,p.s=.own e t->∀u,DenA γ p.a u->DenA γ1 (.own p.id) u
 |[],C,C1,γ,hn,I=>by
  simp only[zme,Ab]at hn
  subst hn
  exact⟨γ,I,GxS.refl _ _,⟨rfl,rfl⟩,λp hp=>by cases hp⟩
 |p::l,C,C1,γ,hn,I=>by
  have tl:∀{S:List Nat} {a b:Gh},GxS (zux l) a b->GxS (zux (p::l)) a b:=λg=>g.mono λx hx=>Ah _ hx
  have O:∀s,GxS (zux (p::l)) γ (zqq γ p.id s):=λs=>⟨Fr.le.refl _,λi hi=>(Qq γ p.id s).2 i (by
   simp only[zux,Ag,not_or]at hi;intro e;simp only[Ab]at e;exact hi.1 e.symm)⟩
  simp only[zme]at hn
  split at hn
  ·rename_i t hs
   obtain⟨γ1,I1,g1,m1,h1⟩:=zbm hn I
   exact⟨γ1,I1,tl (S:=[]) g1,m1,λq hq e t' Z=>by
    rcases Ag.1 hq with rfl|hq
    ·rw[hs]at Z;cases Z
    ·exact h1 q hq e t' Z⟩
  ·rename_i e t hs
   cases hm:z9n p.id l with
   |true=>rw[hm]at hn;cases hn
   |false=>
    rw[hm]at hn
    simp only[cond_false]at hn
    have af:=zsv hm
    have aa:∀{C2:CS} {γ2:Gh},zme R l C2=some C1->Inv h0 W M0 (C2++R) γ2 h->GxS (zux (p::l)) γ γ2->(γ2.M=γ.M/\γ2.β=γ.β)->(∀i,i≠p.id->γ2.σ i=γ.σ i/\γ2.β i=γ.β i)->(∀u,DenA γ p.a u->DenA γ2 (.own p.id) u) ->
      ∃γ1,Inv h0 W M0 (C1++R) γ1 h/\GxS (zux (p::l)) γ γ1/\(γ1.M=γ.M/\γ1.β=γ.β)/\∀q∈p::l,∀e t,q.s=.own e t->∀u,DenA γ q.a u->DenA γ1 (.own q.id) u:=by
     intro C2 γ2 aj I2 g2 m2 ac ai
     obtain⟨γ1,I1,g1,m1,h1⟩:=zbm aj I2
     refine⟨γ1,I1,g2.trans (tl (S:=[]) g1),⟨m1.1.trans m2.1,m1.2.trans m2.2⟩,λq hq e' t' Z u hu=>?_⟩
     rcases Ag.1 hq with rfl|hq
     ·have h2:=ai u hu
      have ah:q.id∉zux l:=by
       intro hi
       have:∀{l:List Pl},q.id∈zux l->∃p∈l,p.id=q.id:=by
        intro l
        induction l with
        |nil=>intro h;cases h
        |cons x l ih=>
         intro h
         simp only[zux,Ag]at h
         rcases h with h|h
         ·exact⟨x,Aq,h.symm⟩
         ·obtain⟨y,hy,e⟩:=ih h;exact⟨y,Ah _ hy,e⟩
       obtain⟨y,hy,e⟩:=this hi
       exact(af y hy).1 e
      rw[show u=_ from h2]
      simp only[DenA,(g1.2 _ ah).2]
     ·refine h1 q hq e' t' Z u ?_
      have gx:Gx (some p.id) γ γ2:=⟨by rw[m2.1];exact Fr.le.refl _,λi hi=>by
       have:=ac i (λe=>hi (by rw[e]))
       exact⟨this.2,this.1⟩⟩
      exact hu.gx gx (af q hq).2
    split at hn
    ·rename_i c ha
     split at hn
     ·rename_i e' t' xs hc
      split at hn
      ·rename_i ys ae
       obtain⟨e1,e2⟩:=Yg ae
       subst e1
       simp only at e2
       subst e2
       cases hee:Nat.beq e e' with
       |false=>rw[hee]at hn;cases hn
       |true=>
        rw[hee]at hn
        have:=Ak hee
        subst this
        simp only[cond_true]at hn
        cases hci:Nat.beq c p.id with
        |true=>
         rw[hci]at hn
         simp only[cond_true]at hn
         have ak:=Ak hci
         exact aa hn I (GxS.refl _ _) ⟨rfl,rfl⟩ (λ_ _=>⟨rfl,rfl⟩) (λu hu=>by rw[ha,ak]at hu;exact hu)
        |false=>
         rw[hci]at hn
         simp only[cond_false]at hn
         cases hR:wo p.id R with
         |false=>rw[hR]at hn;cases hn
         |true=>
          rw[hR]at hn
          simp only[cond_true]at hn
          refine aa hn (I.rename hR (ql hc)) (O _) ⟨rfl,rfl⟩ (λi hi=>?_) (λu hu=>?_)
          ·have:=(Qq γ p.id (γ.σ c)).2 i (by simp;exact λe=>hi e.symm)
           exact⟨this.2,this.1⟩
          ·rw[ha]at hu
           rw[show u=_ from hu]
           simp only[DenA,yw]
      ·cases hn
     ·cases hn
    ·rename_i ha
     cases hR:wo p.id R with
     |false=>rw[hR]at hn;cases hn
     |true=>
      rw[hR]at hn
      simp only[cond_true]at hn
      refine aa hn (I.nilRow hR e t) (O _) ⟨rfl,rfl⟩ (λi hi=>?_) (λu hu=>?_)
      ·have:=(Qq γ p.id ⟨none,0,0⟩).2 i (by simp;exact λe=>hi e.symm)
       exact⟨this.2,this.1⟩
      ·rw[ha]at hu
       rw[show u=_ from hu]
       simp only[DenA,yw]
       rfl
    ·cases hn
def z9o(cs0 cs:CS)(p:Pl):Option Dy:=match p.s with
 |.dat t=>match zjp cs0 t p.a with
  |some x=>some ⟨.dat t,x⟩
  |none=>none
 |.own e t=>match Jk cs p.id with
  |some (.row e' t' xs)=>match Yr (.row t') (.row t) xs with
   |some ys=>bif Nat.beq e e' then some ⟨.own e t,ys⟩else none
   |none=>none
  |_=>none
def zuy(cs0 cs:CS):List Pl->Option (List Dy)
 |[]=>some []
 |p::l=>match z9o cs0 cs p,zuy cs0 cs l with
  |some d,some v=>some (d::v)
  |_,_=>none
def qa1(i:Nat):Dy->AA
 |⟨.dat t,x⟩=>match Jj t x with
  |[a]=>a
  |_=>.v undef
 |⟨.own _ _,_⟩=>.own i
def qa2:Nat->List Dy->List AA
 |_,[]=>[]
 |i,d::l=>qa1 i d::qa2 (i+1) l
def z8n(i:Nat):Dy->CS
 |⟨.own e t,xs⟩=>[(i,.row e t xs)]
 |_=>[]
def zuz:Nat->List Dy->CS
 |_,[]=>[]
 |i,d::l=>z8n i d++zuz (i+1) l
theorem zsw{x:El t}{u:Value}(h:Rd γ.M t x [u]):DenA γ (qa1 i ⟨.dat t,x⟩) u:=by
 have hd:=Zg (γ:=γ) h
 unfold qa1
 match hx:Jj t x,hd with
 |[a],hd=>simp only[hx];exact hd.1
 |[],hd=>exact hd.elim
 |_::_::_,hd=>exact hd.2.elim
theorem zu0{t':Ty}{xs:List (El t')}{ys:List (El t)}(h:Yr (.row t') (.row t) xs=some ys):Ch.row e t' xs=Ch.row e t ys:=by
 obtain⟨e1,e2⟩:=Yg h
 subst e1
 simp only at e2
 rw[e2]
theorem zoy{cs0 cs:CS}{p:Pl}{l:List Pl}{v:List Dy}(h:zuy cs0 cs (p::l)=some v):∃d w,v=d::w/\zuy cs0 cs l=some w /\
  ((∃t x,p.s=.dat t/\d=⟨.dat t,x⟩/\zjp cs0 t p.a=some x)\/(∃e t xs,p.s=.own e t/\d=⟨.own e t,xs⟩/\(p.id,Ch.row e t xs)∈cs)):=by
 simp only[zuy]at h
 split at h
 ·rename_i d w h1 h2
  have h:=Aw h
  refine⟨d,w,h.symm,h2,?_⟩
  unfold z9o at h1
  split at h1
  ·rename_i t hs
   split at h1
   ·rename_i y hy
    exact .inl ⟨t,y,hs,(Aw h1).symm,hy⟩
   ·cases h1
  ·rename_i e t hs
   split at h1
   ·rename_i e' t' xs hf
    split at h1
    ·rename_i ys hc
     cases he:Nat.beq e e' with
     |false=>rw[he]at h1;cases h1
     |true=>
      rw[he]at h1
      refine .inr ⟨e,t,ys,hs,(Aw (show some (⟨.own e t,ys⟩:Dy)=some d from h1)).symm,?_⟩
      have:=ql hf
      rw[zu0 hc,<-Ak he]at this
      exact this
    ·cases h1
   ·cases h1
 ·cases h
theorem We{cs0 cs:CS}:∀{q r:List Pl} {v:List Dy},zuy cs0 cs (q++r)=some v->∃v1 v2,v=v1++v2/\v1.length=q.length/\zuy cs0 cs q=some v1/\zuy cs0 cs r=some v2
 |[],r,v,h=>⟨[],v,rfl,rfl,rfl,h⟩
 |p::q,r,v,h=>by
  simp only[Be,zuy]at h
  split at h
  ·rename_i d w h1 h2
   have h:=Aw h
   obtain⟨v1,v2,rfl,e1,e2,e3⟩:=We h2
   exact⟨d::v1,v2,by rw[<-h];rfl,by simp[e1],by simp only[zuy,h1,e2],e3⟩
  ·cases h
theorem zoz{base:Nat}:∀{ss:List Shp} {as:List AA} {l:List Pl},plL base ss as=some l->l.length=ss.length/\∀{γ γ1:Gh} {cs0 O:CS} {v:List Dy} {us:List Value},z0m γ cs0->γ1.M=γ.M->zuy cs0 O l=some v ->
   (∀p∈l,∀e t,p.s=.own e t->∀u,DenA γ p.a u->DenA γ1 (.own p.id) u)->All2 (DenA γ) as us->All2 (DenA γ1) (qa2 base v) us/\∀x∈zuz base v,x∈O:=by
 intro ss
 induction ss generalizing base with
 |nil=>
  intro as l h
  cases as with
  |nil=>
   simp only[plL,Ab]at h
   subst h
   refine⟨rfl,λhf hM hd ho hu=>?_⟩
   have hd:=Aw hd
   subst hd
   refine⟨?_,λx hx=>by cases hx⟩
   rename_i us
   cases us with
   |nil=>trivial
   |cons _ _=>exact hu.elim
  |cons a as=>simp[plL]at h
 |cons s ss ih=>
  intro as l h
  cases as with
  |nil=>simp[plL]at h
  |cons a as=>
   simp only[plL]at h
   split at h
   ·rename_i l' hl
    simp only[Ab]at h
    subst h
    obtain⟨e1,ih⟩:=ih hl
    refine⟨by simp[e1],λ {γ γ1 cs0 O v us} hf hM hd ho hu=>?_⟩
    obtain⟨d,w,rfl,h2,h3⟩:=zoy hd
    cases us with
    |nil=>exact hu.elim
    |cons u us=>
     obtain⟨i1,i2⟩:=ih hf hM h2 (λp hp=>ho p (Ah _ hp)) hu.2
     rcases h3 with⟨t,x,hs,rfl,hc⟩|⟨e,t,xs,hs,rfl,hm⟩
     ·have:=wv hf hc hu.1
      rw[<-hM]at this
      refine⟨⟨zsw this,i1⟩,λy hy=>i2 y ?_⟩
      simpa[zuz,z8n]using hy
     ·refine⟨⟨ho _ Aq e t hs u hu.1,i1⟩,λy hy=>?_⟩
      simp only[zuz,z8n,Be,BL,Ag]at hy
      rcases hy with rfl|hy
      ·exact hm
      ·exact i2 y hy
   ·cases h
def zbn:List (Nat×SG)->List Dy->yl
 |[],_=>[]
 |(i,.one _)::l,d::ds=>(i,[],.g (.a (qa1 (100000+64*i) d)))::zbn l ds
 |(_,.one _)::_,[]=>[]
 |(i,.agg ss)::l,ds=>(i,[],.g (.agg (qa2 (100000+64*i) (ds.take ss.length))))::zbn l (ds.drop ss.length)
def Wg:List (Nat×SG)->List Dy->CS
 |[],_=>[]
 |(i,.one _)::l,d::ds=>z8n (100000+64*i) d++Wg l ds
 |(_,.one _)::_,[]=>[]
 |(i,.agg ss)::l,ds=>zuz (100000+64*i) (ds.take ss.length)++Wg l (ds.drop ss.length)
def zmf:List (Nat×List Shp)->List Dy->CS
 |[],_=>[]
 |(c,ss)::l,ds=>(c,.box (qa2 (1000000+64*c) (ds.take ss.length)))::(zuz (1000000+64*c) (ds.take ss.length)++zmf l (ds.drop ss.length))
def zqx:List (Nat×SG)->Nat
 |[]=>0
 |(_,.one _)::l=>1+zqx l
 |(_,.agg ss)::l=>ss.length+zqx l
def z3v(J:AnnA)(ds:List Dy):yl:=zbn J.slots ds
def chJ(J:AnnA)(ds:List Dy):CS:=Wg J.slots ds++zmf J.boxes (ds.drop (zqx J.slots))
theorem Wh{e:yl}{n:Nat}{a:Act}:∀{ss:List (Nat×SG)} {l:List Pl},zhx e ss=some l->l.length=zqx ss/\∀{γ γ1:Gh} {cs0 Z:CS} {v w:List Dy},SatA n e γ a->z0m γ cs0->γ1.M=γ.M->zuy cs0 Z l=some v ->
   (∀p∈l,∀e t,p.s=.own e t->∀u,DenA γ p.a u->DenA γ1 (.own p.id) u)->(∀x∈zbn ss (v++w),zl7 γ1 (zx a) x)/\∀x∈Wg ss (v++w),x∈Z
 |[],l,h=>by
  simp only[zhx,Ab]at h
  subst h
  refine⟨rfl,λ_ _ _ hd _=>?_⟩
  have hd:=Aw hd
  subst hd
  exact⟨λx hx=>(by cases hx),λx hx=>(by cases hx)⟩
 |(i,sg)::ss,l,h=>by
  simp only[zhx]at h
  split at h
  ·rename_i x r hl hr
   split at h
   ·rename_i s aa
    simp only[Ab]at h
    subst h
    obtain⟨e1,ih⟩:=Wh (n:=n) (a:=a) hr
    refine⟨by simp[e1,zqx];omega,λ {γ γ1 cs0 Z v w} hs hf hM hd ho=>?_⟩
    obtain⟨d,v',rfl,h2,h3⟩:=zoy hd
    obtain⟨i1,i2⟩:=ih (w:=w) hs hf hM h2 (λp hp=>ho p (Ah _ hp))
    have O:DenA γ aa (zx a i):=(hs.all _ (Qb hl)).1 trivial
    rcases h3 with⟨t,x,ae,rfl,hc⟩|⟨e',t,xs,ae,rfl,hm⟩
    ·have:=wv hf hc O
     rw[<-hM]at this
     refine⟨λy hy=>?_,λy hy=>?_⟩
     ·simp only[Be,zbn,Ag]at hy
      rcases hy with rfl|hy
      ·exact⟨λ_=>zsw this,λhn=>absurd trivial hn⟩
      ·exact i1 y hy
     ·simp only[Be,Wg,z8n,BL]at hy
      exact i2 y hy
    ·refine⟨λy hy=>?_,λy hy=>?_⟩
     ·simp only[Be,zbn,Ag]at hy
      rcases hy with rfl|hy
      ·exact⟨λ_=>ho _ Aq e' t ae _ O,λhn=>absurd trivial hn⟩
      ·exact i1 y hy
     ·simp only[Be,Wg,z8n,BL,Ag]at hy
      rcases hy with rfl|hy
      ·exact hm
      ·exact i2 y hy
   ·rename_i ac as
    split at h
    ·rename_i q hq
     simp only[Ab]at h
     subst h
     obtain⟨e1,ih⟩:=Wh (n:=n) (a:=a) hr
     obtain⟨e2,hp⟩:=zoz hq
     refine⟨by simp[e1,e2,zqx],λ {γ γ1 cs0 Z v w} hs hf hM hd ho=>?_⟩
     obtain⟨v1,v2,rfl,l1,d1,d2⟩:=We hd
     obtain⟨i1,i2⟩:=ih (w:=w) hs hf hM d2 (λp hp=>ho p (Ay _ hp))
     obtain⟨us,hu,O⟩:=(show ∃us,zx a i=.agg us.toArray/\All2 (DenA γ) as us from(hs.all _ (Qb hl)).1 trivial)
     obtain⟨p1,p2⟩:=hp hf hM d1 (λp hp=>ho p (Ap _ hp)) O
     have et:(v1++v2++w).take ac.length=v1:=by rw[<-e2,<-l1,AY,Eb]
     have ed:(v1++v2++w).drop ac.length=v2++w:=by rw[<-e2,<-l1,AY,List.drop_left]
     refine⟨λy hy=>?_,λy hy=>?_⟩
     ·simp only[zbn,et,ed,Ag]at hy
      rcases hy with rfl|hy
      ·exact⟨λ_=>⟨us,hu,p1⟩,λhn=>absurd trivial hn⟩
      ·exact i1 y hy
     ·simp only[Wg,et,ed,Am]at hy
      rcases hy with hy|hy
      ·exact p2 y hy
      ·exact i2 y hy
    ·cases h
   ·cases h
  ·cases h
theorem zc9{C0:CS}:∀{bs:List (Nat×List Shp)} {l:List Pl},zhy C0 bs=some l->∀{R:CS} {γ γ1:Gh} {cs0 O:CS} {v:List Dy} {h:zb},Inv h0 W M0 (C0++R) γ h->z0m γ cs0->γ1.M=γ.M->γ1.β=γ.β->zuy cs0 O l=some v ->
   (∀p∈l,∀e t,p.s=.own e t->∀u,DenA γ p.a u->DenA γ1 (.own p.id) u) ->
   ∀x∈zmf bs v,x∈O\/(DenC h0.size γ1 h x.1 x.2/\(∃as,(x.1,Ch.box as)∈C0)/\(∃as,x.2=Ch.box as)/\∃ss,(x.1,ss)∈bs)
 |[],l,hp,R,γ,γ1,cs0,O,v,h,I,hf,hM,hβ,hd,ho,x,hx=>by cases hx
 |(c,ss)::bs,l,hp,R,γ,γ1,cs0,O,v,h,I,hf,hM,hβ,hd,ho,x,hx=>by
  simp only[zhy]at hp
  split at hp
  ·rename_i as r hc hr
   split at hp
   ·rename_i q hq
    simp only[Ab]at hp
    subst hp
    obtain⟨e2,aa⟩:=zoz hq
    obtain⟨v1,v2,rfl,l1,d1,d2⟩:=We hd
    obtain⟨us,eb,Z⟩:=I.den _ (Ap R (ql hc))
    obtain⟨p1,p2⟩:=aa hf hM d1 (λp hp=>ho p (Ap _ hp)) Z
    have et:(v1++v2).take ss.length=v1:=by rw[<-e2,<-l1,Eb]
    have ed:(v1++v2).drop ss.length=v2:=by rw[<-e2,<-l1,List.drop_left]
    simp only[zmf,et,ed,Ag,Am]at hx
    rcases hx with rfl|hx|hx
    ·exact .inr ⟨⟨us,by rw[hβ];exact eb,p1⟩,⟨as,ql hc⟩,⟨_,rfl⟩,ss,Aq⟩
    ·exact .inl (p2 x hx)
    ·rcases zc9 hr I hf hM hβ d2 (λp hp=>ho p (Ay _ hp)) x hx with h1|⟨h1,h2,h3,s',h4⟩
     ·exact .inl h1
     ·exact .inr ⟨h1,h2,h3,s',Ah _ h4⟩
   ·cases hp
  ·cases hp
def zhz(C:CS):List (Nat×List Shp)->Bool
 |[]=>true
 |(c,_)::l=>match Jk C c with
  |some (.box _)=>zhz C l
  |_=>false
theorem zh0{C:CS}:∀{l:List (Nat×List Shp)},zhz C l=true->∀c ss,(c,ss)∈l->∃as,(c,Ch.box as)∈C
 |[],_,c,ss,h=>by cases h
 |(c',ss')::l,hb,c,ss,h=>by
  simp only[zhz]at hb
  split at hb
  ·rename_i as hf
   rcases Ag.1 h with h|h
   ·cases h;exact⟨as,ql hf⟩
   ·exact zh0 hb c ss h
  ·cases hb
def zu1:CS->Bool
 |[]=>true
 |(c,_)::l=>bif zw7 c l then zu1 l else false
theorem zk0:∀{l:CS},zu1 l=true->l.Pairwise λx y=>x.1≠y.1
 |[],_=>.nil
 |(c,k)::l,h=>by
  simp only[zu1]at h
  cases hn:zw7 c l with
  |false=>rw[hn]at h;cases h
  |true=>
   rw[hn]at h
   exact BD.2 ⟨λy hy e=>X8 hn y hy e.symm,zk0 h⟩
def allIn(S:List Nat):List Nat->Bool
 |[]=>true
 |i::l=>bif memN S i then allIn S l else false
theorem zo0{l:List Nat}(h:memN l i=true):i∈l:=by
 induction l with
 |nil=>cases h
 |cons j l ih=>
  simp only[memN]at h
  cases hb:Nat.beq i j with
  |true=>rw[Ak hb];exact Aq
  |false=>rw[hb]at h;exact Ah _ (ih h)
theorem zo1{S:List Nat}:∀{l:List Nat},allIn S l=true->∀i∈l,i∈S
 |[],_,i,h=>by cases h
 |j::l,hl,i,h=>by
  simp only[allIn]at hl
  cases hm:memN S j with
  |false=>rw[hm]at hl;cases hl
  |true=>
   rw[hm]at hl
   rcases Ag.1 h with rfl|h
   ·exact zo0 hm
   ·exact zo1 hl i h
theorem Inv.pick{C F R:CS}(I:Inv h0 W M0 (C++R) γ h)(hnd:zu1 F=true)(hsrc:∀x∈F,DenC h0.size γ h x.1 x.2/\∃k,(x.1,k)∈C/\blk γ x.1 k=blk γ x.1 x.2):Inv h0 W M0 (F++R) γ h where
 ag:=I.ag
 frame:=I.frame
 size:=I.size
 old:=I.old
 le:=I.le
 den:=λx hx=>by
  rcases Am.1 hx with hx|hx
  ·exact(hsrc x hx).1
  ·exact I.den x (Ay _ hx)
 sep:=λx hx b hb=>by
  rcases Am.1 hx with hx|hx
  ·obtain⟨_,k,hk,e⟩:=hsrc x hx
   exact I.sep _ (Ap _ hk) b (by rw[e];exact hb)
  ·exact I.sep x (Ay _ hx) b hb
 apart:=by
  have hI:=I.apart
  rw[Co]at hI ⊢
  refine⟨(zk0 hnd).imp_of_mem λ {x y} hx hy hne b hb hb'=>?_,hI.2.1,λx hx y hy b hb=>?_⟩
  ·obtain⟨_,k,hk,e⟩:=hsrc x hx
   obtain⟨_,k',hk',e'⟩:=hsrc y hy
   exact zkz I (Ap R hk) (Ap R hk') (λe2=>hne (Prod.mk.inj e2).1) b (by rw[e];exact hb) (by rw[e'];exact hb')
  ·obtain⟨_,k,hk,e⟩:=hsrc x hx
   exact hI.2.2 _ hk y hy b (by rw[e];exact hb)
def xtr(J:AnnA)(R:CS)(e:yl)(C:CS):Option (List Dy):=
 match zhx e J.slots,zhy C J.boxes with
 |some ps,some pb=>match zhy (frzL (zuw (ps++pb)) C) J.boxes with
  |some O=>match zme R (ps++O) (frzL (zuw (ps++pb)) C)with
   |some C1=>bif zhz C1 J.boxes then(bif allIn J.ids (zux (ps++O))then(match zuy (frzL (zuw (ps++pb)) C++R) C1 (ps++O)with
    |some ds=>bif zu1 (chJ J ds)then some ds else none
    |none=>none)else none)else none
   |none=>none
  |none=>none
 |_,_=>none
theorem zh1{J:AnnA}{e:yl}{ds:List Dy}(hx:xtr J R e C=some ds){n:Nat}{a:Act}(hs:SatA n e γ a)(I:Inv h0 W M0 (C++R) γ h):
  ∃γ1,Inv h0 W M0 (chJ J ds++R) γ1 h/\GxS J.ids γ γ1/\∀x∈z3v J ds,zl7 γ1 (zx a) x:=by
 unfold xtr at hx
 split at hx
 ·rename_i ps pb aj ak
  split at hx
  ·rename_i ac O
   split at hx
   ·rename_i C1 ae
    cases hbi:zhz C1 J.boxes with
    |false=>rw[hbi]at hx;cases hx
    |true=>
    rw[hbi]at hx
    cases hai:allIn J.ids (zux (ps++ac))with
    |false=>rw[hai]at hx;cases hx
    |true=>
    rw[hai]at hx
    simp only[cond_true]at hx
    split at hx
    ·rename_i Z af
     cases hnd:zu1 (chJ J Z)with
     |false=>rw[hnd]at hx;cases hx
     |true=>
     rw[hnd]at hx
     have hx:=Aw (show some Z=some ds from hx)
     subst hx
     obtain⟨γ0,I0,g0⟩:=Inv.frzL (C:=C) (γ:=γ) (zuw (ps++pb)) I
     have ah:=hs.gx0 g0
     obtain⟨γ1,I1,g1,⟨hM,hβ⟩,ho⟩:=zbm ae I0
     obtain⟨v1,v2,rfl,l1,d1,d2⟩:=We af
     obtain⟨e1,ai⟩:=Wh (n:=n) (a:=a) aj
     obtain⟨f1,f2⟩:=ai (w:=v2) ah I0.fz hM d1 (λp hp=>ho p (Ap _ hp))
     have aa:=zc9 O I0 I0.fz hM hβ d2 (λp hp=>ho p (Ay _ hp))
     have ed:(v1++v2).drop (zqx J.slots)=v2:=by rw[<-e1,<-l1,List.drop_left]
     have gS:GxS J.ids γ γ1:=⟨g0.1.trans g1.1,λi hi=>by
      have h2:=g1.2 i (λhm=>hi (zo1 hai i hm))
      have h1:=g0.2 i (by simp)
      exact⟨h2.1.trans h1.1,h2.2.trans h1.2⟩⟩
     refine⟨γ1,I1.pick hnd λx hx=>?_,gS,f1⟩
     unfold chJ at hx
     rw[ed]at hx
     rcases Am.1 hx with hx|hx
     ·have:=f2 x hx
      exact⟨I1.den x (Ap _ this),x.2,this,rfl⟩
     ·rcases aa x hx with h1|⟨h1,_,⟨as,h2⟩,ss,h3⟩
      ·exact⟨I1.den x (Ap _ h1),x.2,h1,rfl⟩
      ·obtain⟨al,h4⟩:=zh0 hbi _ _ h3
       exact⟨h1,_,h4,by rw[h2];rfl⟩
    ·cases hx
   ·cases hx
  ·cases hx
 ·cases hx
theorem zxf{α:Type}{R:α->α->Prop}(hs:∀x y,R x y->R y x){l l':List α}(p:l.Perm l'):l.Pairwise R->l'.Pairwise R:=by
 induction p with
 |nil=>exact id
 |cons x p ih=>intro h;rw[BD]at h ⊢;exact⟨λy hy=>h.1 y (p.symm.subset hy),ih h.2⟩
 |swap x y l=>
  intro h
  simp only[BD,Ag]at h ⊢
  obtain⟨h1,h2,h3⟩:=h
  exact⟨λz hz=>by rcases hz with rfl|hz;exact hs _ _ (h1 _ (.inl rfl));exact h2 z hz,λz hz=>h1 z (.inr hz),h3⟩
 |trans _ _ O Z=>exact λh=>Z (O h)
theorem Inv.perm{cs cs':CS}(I:Inv h0 W M0 cs γ h)(p:cs.Perm cs'):Inv h0 W M0 cs' γ h where
 ag:=I.ag
 frame:=I.frame
 size:=I.size
 old:=I.old
 le:=I.le
 den:=λx hx=>I.den x (p.symm.subset hx)
 sep:=λx hx=>I.sep x (p.symm.subset hx)
 apart:=zxf (λx y h b hb hb'=>h b hb' hb) p I.apart
end
section
variable {P:Program} {gl:Fr}
variable {h0 : zb} {W : Nat -> Prop} {M0 : Fr}
def z1h(P:Program)(gl:Fr)(o:Oper)(e:yl)(c:qf)(cs:CS)(K:AV->Prop):Prop:=
 match o.op with
 |.pick x a b=>z1g e c x a b K
 |_=>match Wb e c with
  |some g=>qA P gl o (zho e c) g cs K
  |none=>False
def wQA(P:Program)(gl:Fr)(n:Nat)(ops:Array Oper)(cs:CS)(K:yl->Prop):List Oper->yl->Prop
 |[],e=>K e
 |o::rest,e=>match Y1 ops e o.guard with
  |some c=>bif yu n c o.dst then z1h P gl o e c cs λv=>wQA P gl n ops cs K rest (z06 e o.dst c v)else False
  |none=>False
theorem zk1(O:Fr.le gl M0){o:Oper}{e:yl}{c:qf}{cs:CS}{K:AV->Prop}(H:z1h P gl o e c cs K):∃av,K av/\∀(n:Nat) (γ:Gh) (a:Act) (h:zb),SatA n e γ a->Inv h0 W M0 cs γ h->valid (zx a) c->∃v,DenV γ av v/\QExec P (execOp a.eval o) h (.value v):=by
 unfold z1h at H
 split at H
 ·rename_i x y z ho
  obtain⟨av,h1,h2⟩:=Wd H
  refine⟨av,h1,λn γ a h hs I hv=>?_⟩
  obtain⟨t,h3,h4⟩:=h2 n γ a hs hv
  refine⟨_,h4,λB d=>?_⟩
  simp only[execOp,ho,h3,asBool,Sem.run_bind,Sem.run_pure,Result.andThen_ok]
 ·split at H
  ·rename_i g hg
   obtain⟨av,h1,h2⟩:=zgq (h0:=h0) (W:=W) (M0:=M0) O H
   exact⟨av,h1,λn γ a h hs I hv=>h2 (Zh hs hg hv) γ h a.eval I λx av hx=>qe hs hv hx⟩
  ·exact H.elim
theorem zh2{P:Program}{gl:Fr}(ae:Fr.le gl M0){n:Nat}{ops:Array Oper}{cs:CS}{K:yl->Prop}{Q:Act->Prop}{γ:Gh}{h:zb}(I:Inv h0 W M0 cs γ h)(B:World)(d:Nat):
  ∀(l:List Oper) (e:yl) (a:Act),wQA P gl n ops cs K l e->SatA n e γ a->(∀e' a',SatA n e' γ a'->Same (jj l) a a'->K e'->Q a')->wpStill P ops (mk B d h) Q l a
 |[],e,a,H,hs,hQ=>hQ _ _ hs (Same.refl _ _) H
 |o::rest,e,a,H,hs,hQ=>by
  unfold wQA at H
  split at H
  ·rename_i c hc
   cases hd:yu n c o.dst with
   |false=>rw[hd]at H;exact H.elim
   |true=>
    rw[hd]at H
    simp only[cond_true]at H
    have hw:=Zq hs hc
    have ac:∀i,o.dst=some i->i∈jj (o::rest):=λi hi=>by simp[jj,hi]
    have Z:∀x∈jj rest,x∈jj (o::rest):=λx hx=>by
     unfold jj
     split
     ·exact Ah _ hx
     ·exact hx
    obtain⟨av,hK,hy⟩:=zk1 (h0:=h0) (W:=W) (M0:=M0) ae H
    have O:∀u,(valid (zx a) c->DenV γ av u)->(¬valid (zx a) c->u=undef)->wpStill P ops (mk B d h) Q rest (a.put o.dst u):=λu h1 h2=>
     zh2 ae I B d rest _ _ hK (hs.putO hd h1 h2) λe' a' q1 q2 q3=>hQ e' a' q1 ((Same.put a o.dst u ac).trans (q2.mono Z)) q3
    unfold wpStill
    by_cases hv:valid (zx a) c
    ·rw[if_pos (hw.2 hv)]
     unfold Oper.still
     obtain⟨v,h1,h2⟩:=hy n γ a h hs I hv
     rw[h2 B d,Oper.stillUpon_value]
     exact O v (λ_=>h1) (λaa=>absurd hv aa)
    ·rw[if_neg (λhx=>hv (hw.1 hx))]
     exact O undef (λaa=>absurd aa hv) (λ_=>rfl)
  ·exact H.elim
abbrev zxg:=List (Nat×Nat)
def zqy(P:Program)(gl:Fr)(tr:TypeId)(n:Nat)(tl:zxg)(id:Nat)(ops:Array Oper)(O:Bool)(R:CS)(K:yl->CS->Prop)(e:yl)(C:CS):Prop:=
 bif O then(match zwk tl id with
  |none=>bif Region.lexB .any ops then wQA P gl n ops (C++R) (λe'=>K (zfr e') C) ops.toList e else False
  |some m=>bif Region.lexTailB .any ops m then wQA P gl n ops (C++R) (λe'=>wRA P gl tr n ops R K (ops.toList.drop m) e' C) (ops.toList.take m) e else False)
 else wRA P gl tr n ops R K ops.toList e C
theorem zmg(hm:P.follows .mixedOrders=true)(aa:Fr.le gl M0){tr:TypeId}{n:Nat}{tl:zxg}{id:Nat}{ops:Array Oper}{Z:Bool}{R C:CS}{K:yl->CS->Prop}{e:yl}
  (H:zqy P gl tr n tl id ops Z R K e C) {γ:Gh} {h:zb} (B:World) (d:Nat) {a:Act} (hs:SatA n e γ a) (I:Inv h0 W M0 (C++R) γ h) {Q:Exit->Act->World->Prop}
  (hQ:∀e' C' γ' a' d' h',SatA n e' γ' a'->Inv h0 W M0 (C'++R) γ' h'->Same (jj ops.toList) a a'->GxS (jj ops.toList) γ γ'->K e' C'->Q .normal a' (mk B d' h')):(C4 id ops Z).wp P Q a (mk B d h):=by
 unfold zqy at H
 cases Z with
 |false=>exact wp_region_list (zc8 aa B _ _ _ _ _ _ _ H hs I hQ)
 |true=>
  simp only[cond_true]at H
  split at H
  ·cases hB:Region.lexB .any ops with
   |false=>rw[hB]at H;exact H.elim
   |true=>
    rw[hB]at H
    refine wp_region_still hm hB ?_
    exact zh2 aa I B (d+1) _ _ _ H hs λe' a' q1 q2 q3=>hQ _ _ _ _ _ _ q1.clean I q2 (GxS.refl _ _) q3
  ·rename_i m _
   cases hB:Region.lexTailB .any ops m with
   |false=>rw[hB]at H;exact H.elim
   |true=>
    rw[hB]at H
    have O:jj ops.toList=jj (ops.toList.take m)++jj (ops.toList.drop m):=by rw[<-Z2,Bp]
    have:=wp_region_still_tail (id:=id) (Q:=Q) (a:=a) (w:=mk B d h) (l:=ops.toList) m hm (by simpa using hB) (by
     simp only[Array.toArray_toList]
     refine zh2 aa I B (d+1) _ _ _ H hs λe' a' q1 q2 q3=>?_
     refine zc8 aa B _ _ _ _ _ _ (d+1) q3 q1 I λaj ae af ac ah ai q4 q5 q6 q7 q8=>hQ aj ae af ac ah ai q4 q5 ?_ ?_ q8
     ·rw[O]
      exact(q2.mono λx hx=>Ap _ hx).trans (q6.mono λx hx=>Ay _ hx)
     ·rw[O]
      exact q7.mono λx hx=>Ay _ hx)
    simpa using this
end
end Go.X
end
