/- A part of the proof: nothing is stated here for its own sake. -/
import Derived.Test.YtbploiccompocaaGreatDoorPjA
import Derived.Laws.StructEq
import Derived.Deep.AppendSrc
import Derived.Laws.BytesString
open _root_.Go.Addr renaming add->Aj
open _root_.Array renaming ext'->EL,getD_eq_getD_getElem?->Bq,getElem?_eq_some_iff->Ac,getElem?_push->BM,getElem?_setIfInBounds_ne->AL,length_toList->C7,range->E4,size_setIfInBounds->Cf,toList_map->Dd
open _root_.Bool renaming false_eq_true->AW,true_and->Bi
open _root_.Go.Builtin renaming append_->Au,firstCells->CC,len_->CV
open _root_.Go.Code renaming region->Db
open _root_.Go.Deferred renaming ofValue->Eh
open _root_.Go.Instr renaming fill->E8,indexAt->EM,loadAt->Ef,next->E7,range->E3,sliceAt->EN,storeAt->Ai,sureAddr->Es
open _root_.List renaming append_assoc->AP,append_nil->Bf,cons_append->A5,drop_drop->Cd,drop_eq_getElem_cons->AE,drop_eq_nil_of_le->A6,drop_take->Ew,drop_zero->A2,eq_nil_of_length_eq_zero->Av,ext_getElem?->A7,getElem?_append_left->Bo,getElem?_append_right->Bj,getElem?_cons_zero->Dx,getElem?_drop->AJ,getElem?_eq_getElem->Am,getElem?_eq_none->Bu,getElem?_eq_some_iff->Az,getElem?_map->B5,getElem?_take->AF,getElem?_toArray->DW,getElem_append_left->CX,getElem_append_right->Cx,getElem_of_mem->Bc,length_append->Ao,length_cons->Ay,length_drop->AY,length_map->Ba,length_nil->Dh,length_take->AR,mapM_cons->Ev,map_cons->Dq,mem_append->An,mem_append_left->Aq,mem_append_right->AC,mem_cons->Af,mem_cons_of_mem->Ah,mem_cons_self->Ar,nil_append->BP,pairwise_append->CG,pairwise_cons->BR,size_toArray->DZ,take_append_drop->Br,take_left->Eu,take_length->AD,take_of_length_le->AX,take_succ_eq_append_getElem->Ag,take_take->Ex
open _root_.List.cons renaming injEq->Cq
open _root_.Nat renaming add_mul->BH,blt_eq->CM,eq_of_beq_eq_true->Al,eq_zero_or_pos->DG,le_mul_of_pos_right->Dz,le_of_ble_eq_true->BS,le_refl->Ae,lt_of_lt_of_le->DD,lt_or_ge->AZ,min_eq_left->C5,mul_comm->C9,mul_le_mul_right->AM,mul_one->Cg,one_mul->Dj,succ_mul->DI,zero_add->AH,zero_le->CY,zero_mul->Di
open _root_.Go.Next renaming value->Ea
open _root_.Option renaming bind_some->Cu,map_eq_some_iff->CO
open _root_.Option.some renaming inj->Ax,injEq->Ab
open _root_.Prod.mk renaming injEq->BG
open _root_.Pure renaming pure->Dv
open _root_.Go.Region renaming wanted->BU
open _root_.UInt8 renaming ofNat->CZ
open _root_.Go.Utf8 renaming encode->EW
open _root_.Go.Value renaming int->E5
open _root_.Go.Value.slice renaming injEq->AO
set_option linter.unusedVariables false
set_option maxRecDepth 100000
namespace Go.X
end Go.X
namespace Go.Proofs
end Go.Proofs
open Go Go.X Go.Proofs
section
namespace Go.X
section
variable {M M':Fr} {h h':zb} {b c o j n0:Nat} {γ γ':Gh} {us:List Value} {u:Value} {t:Ty} {cs C R:CS} {e:TypeId}
def AgM(M:Fr)(h:zb):Prop:=∀b c,M b=some c->∃T m,h[b]?=some (.cells c T m)
theorem AgM.lt(H:AgM M h){c:Array Value}(e:M b=some c):b<h.size:=by
 obtain⟨T,m,e'⟩:=H b c e;exact(Ac.1 e').1
theorem AgM.none{M:Fr}{h:zb}(H:AgM M h){b:Nat}(hb:h.size<=b):M b=none:=by
 cases e:M b with
 |none=>rfl
 |some c=>have:=H.lt e;omega
theorem AgM.cell(H:AgM M h){c:Array Value}{v:Value}(e:M b=some c)(hv:c[o]?=some v):zk h ⟨b,o,Option.none⟩=some v:=by
 obtain⟨T,m,e'⟩:=H b c e
 unfold zk;simp[e',hv]
def Gx(c:Option Nat)(γ γ':Gh):Prop:=Fr.le γ.M γ'.M/\∀i,c≠some i->γ'.β i=γ.β i/\γ'.σ i=γ.σ i
theorem Gx.refl(c:Option Nat)(γ:Gh):Gx c γ γ:=⟨Fr.le.refl _,λ_ _=>⟨rfl,rfl⟩⟩
def zwq(c:Nat):AA->Bool
 |.box j _=>Nat.beq j c
 |.own j=>Nat.beq j c
 |.oelt j _ _ _=>Nat.beq j c
 |_=>false
def zpg(c:Nat):List AA->Bool
 |[]=>false
 |x::l=>bif zwq c x then true else zpg c l
def zh8(c:Nat):Ch->Bool
 |.box l=>zpg c l
 |_=>false
def qcr(c:Nat):AG->Bool
 |.a x=>zwq c x
 |.agg l=>zpg c l
def z4h(c:Nat):List AG->Bool
 |[]=>false
 |x::l=>bif qcr c x then true else z4h c l
def z3p(c:Nat):AV->Bool
 |.g x=>qcr c x
 |.tup l=>z4h c l
 |.nx _ _ _=>false
def z3q{α:Type}(f:Nat->α->Bool):Option Nat->α->Bool
 |none,_=>false
 |some c,x=>f c x
theorem zpw(h:Nat.beq j c=false):some c≠some j:=by
 intro e;simp only[Ab]at e;subst e;simp at h
theorem DenA.gx{c:Option Nat}(g:Gx c γ γ'):∀{x:AA} {u:Value},z3q zwq c x=false->DenA γ x u->DenA γ' x u
 |.v _,_,_,h=>h
 |.d _ _,_,_,h=>Rd.mono g.1 h
 |.box j o,u,hm,h=>by
  have:c≠some j:=by cases c with|none=>simp|some c=>exact zpw hm
  rw[show u=_ from h];simp only[DenA,(g.2 j this).1]
 |.own j,u,hm,h=>by
  have:c≠some j:=by cases c with|none=>simp|some c=>exact zpw hm
  rw[show u=_ from h];simp only[DenA,(g.2 j this).2]
 |.oelt j z i o,u,hm,h=>by
  have:c≠some j:=by cases c with|none=>simp|some c=>exact zpw hm
  obtain⟨b,e1,e2⟩:=h
  exact⟨b,by rw[(g.2 j this).2];exact e1,e2⟩
 |.elt _ _ _,_,_,⟨b,f,cs,e,h1,h2⟩=>⟨b,f,cs,e,g.1 _ _ h1,Rd.mono g.1 h2⟩
 |.dc _ _,_,_,⟨s,e1,e2,h⟩=>⟨s,e1,e2,Rd.mono g.1 h⟩
theorem z4i{l:List AA}(h:zpg c l=false):∀x∈l,zwq c x=false:=by
 induction l with
 |nil=>intro x hx;cases hx
 |cons y l ih=>
  intro x hx
  simp only[zpg]at h
  cases hy:zwq c y with
  |true=>simp[hy]at h
  |false=>
   simp only[hy,cond_false]at h
   rcases Af.1 hx with rfl|hx
   ·exact hy
   ·exact ih h x hx
theorem DenL.gx{c:Option Nat}(g:Gx c γ γ'){l:List AA}(hm:z3q zpg c l=false)(h:All2 (DenA γ) l us):All2 (DenA γ') l us:=
 h.imp λx hx u hu=>DenA.gx g (by cases c with|none=>rfl|some c=>exact z4i hm x hx) hu
theorem DenG.gx{c:Option Nat}(g:Gx c γ γ'){x:AG}(hm:z3q qcr c x=false)(h:DenG γ x u):DenG γ' x u:=by
 cases x with
 |a x=>exact DenA.gx g (by cases c <;> exact hm) h
 |agg l=>obtain⟨us,e,h⟩:=h;exact⟨us,e,DenL.gx g (by cases c <;> exact hm) h⟩
theorem zy6{l:List AG}(h:z4h c l=false):∀x∈l,qcr c x=false:=by
 induction l with
 |nil=>intro x hx;cases hx
 |cons y l ih=>
  intro x hx
  simp only[z4h]at h
  cases hy:qcr c y with
  |true=>simp[hy]at h
  |false=>
   simp only[hy,cond_false]at h
   rcases Af.1 hx with rfl|hx
   ·exact hy
   ·exact ih h x hx
theorem DenV.gx{c:Option Nat}(g:Gx c γ γ'){x:AV}(hm:z3q z3p c x=false)(h:DenV γ x u):DenV γ' x u:=by
 cases x with
 |g x=>exact DenG.gx g (by cases c <;> exact hm) h
 |tup l=>
  obtain⟨us,e,h⟩:=h
  exact⟨us,e,h.imp λx hx u hu=>DenG.gx g (by cases c with|none=>rfl|some c=>exact zy6 hm x hx) hu⟩
 |nx b p c=>exact h
def RowC(M:Fr)(t:Ty)(xs:List (El t))(cells:List Value):Prop:=
 cells.length=xs.length*sz t/\∀i (h:i<xs.length),Rd M t xs[i] ((cells.drop (i*sz t)).take (sz t))
theorem RowC.mono(hM:Fr.le M M'){xs:List (El t)}{cells:List Value}(H:RowC M t xs cells):RowC M' t xs cells:=⟨H.1,λi h=>Rd.mono hM (H.2 i h)⟩
theorem RowC.nil(M:Fr)(t:Ty):RowC M t [] []:=⟨by simp,λi h=>absurd h (by simp)⟩
theorem RowC.single{x:El t}{cs:List Value}(h:Rd M t x cs):RowC M t [x] cs:=by
 have hl:=h.len
 refine⟨by simp[hl],λi hi=>?_⟩
 have:i=0:=by simpa using hi
 subst this
 simp only[Di,A2,List.getElem_cons_zero,<-hl,AD]
 exact h
theorem RowC.append{xs ys:List (El t)}{c1 c2:List Value}(h1:RowC M t xs c1)(h2:RowC M t ys c2):RowC M t (xs++ys) (c1++c2):=by
 refine⟨by rw[Ao,Ao,h1.1,h2.1,BH],λi hi=>?_⟩
 by_cases O:i<xs.length
 ·rw[CX O]
  have aa:(i+1)*sz t<=c1.length:=by rw[h1.1];exact AM _ O
  rw[BH,Dj]at aa
  rw[List.drop_append_of_le_length (by omega),List.take_append_of_le_length (by rw[AY];omega)]
  exact h1.2 i O
 ·have Z:xs.length<=i:=by omega
  rw[Cx Z]
  have ac:i-xs.length<ys.length:=by rw[Ao]at hi;omega
  have:=h2.2 (i-xs.length) ac
  have e:(c1++c2).drop (i*sz t)=c2.drop ((i-xs.length)*sz t):=by
   rw[List.drop_append]
   have:c1.length<=i*sz t:=by rw[h1.1];exact AM _ Z
   rw[A6 this,BP,h1.1,<-Nat.sub_mul]
  rw[e];exact this
theorem RowC.one{xs:List (El t)}{cells:List Value}(H:RowC M t xs cells):∀v∈cells,v.oneCell'=true:=by
 intro v hv
 obtain⟨j,hj,rfl⟩:=Bc hv
 have hz:0<sz t:=by
  rcases DG (sz t)with h|h
  ·rw[H.1,h,Nat.mul_zero]at hj;omega
  ·exact h
 have hi:j / sz t<xs.length:=by rw[H.1]at hj;exact Nat.div_lt_of_lt_mul (by rw[C9];exact hj)
 refine Rd.one (H.2 _ hi) _ ?_
 rw[List.mem_iff_getElem?]
 refine⟨j % sz t,?_⟩
 rw[AF,if_pos (Nat.mod_lt _ hz),AJ,C9,Nat.div_add_mod,Am hj]
theorem RowC.rd{xs:List (El t)}{cells:List Value}(H:RowC M t xs cells){cs:Array Value}(hM:M b=some cs)(hc:(cs.toList.drop o).take (xs.length*sz t)=cells)(hn:xs.length<=140737488355328/\xs.length<=c):
  Rd M (.row t) xs [.slice (some ⟨b,o,none⟩) xs.length c]:=by
 refine⟨_,rfl,_,_,rfl,hn,.inr ⟨b,o,cs,rfl,hM,λi hi=>?_⟩⟩
 have:=H.2 i hi
 rw[<-hc]at this
 have O:(i+1)*sz t<=xs.length*sz t:=AM _ hi
 rw[BH,Dj]at O
 have e:(((cs.toList.drop o).take (xs.length*sz t)).drop (i*sz t)).take (sz t)=cut cs (o+i*sz t) (sz t):=by
  unfold cut
  rw[Ew,Ex,Cd,C5 (by omega)]
 rw[e]at this
 exact this
theorem Rd.rowC(ag:AgM M h){xs:List (El t)}(H:Rd M (.row t) xs [u]):∃s:Sl,u=slV s/\s.len=xs.length/\(xs.length<=140737488355328/\xs.length<=s.cap)/\∃cells,RowC M t xs cells/\Arr h.size h s.a cells:=by
 obtain⟨v,e,a,c,rfl,hn,H⟩:=H
 cases e
 refine⟨⟨a,xs.length,c⟩,rfl,rfl,hn,?_⟩
 rcases H with rfl|⟨b,o,cs,rfl,hM,hi⟩
 ·exact⟨[],RowC.nil _ _,.inl rfl⟩
 ·have O:xs=[]\/xs.length*sz t<=(cs.toList.drop o).length:=by
   rcases DG xs.length with h0|h0
   ·exact .inl (Av h0)
   ·right
    have:=(hi (xs.length-1) (by omega)).len
    unfold cut at this
    rw[AR,AY]at this
    rw[AY]
    rcases DG (sz t)with hz|hz
    ·rw[hz];simp
    ·have e:xs.length*sz t=(xs.length-1)*sz t+sz t:=by
      rw[<-DI];congr 1;omega
     rw[e];omega
  rcases O with rfl|O
  ·exact⟨[],RowC.nil _ _,.inl rfl⟩
  refine⟨(cs.toList.drop o).take (xs.length*sz t),⟨by rw[AR];omega,λi Z=>?_⟩,.inr ⟨b,o,rfl,ag.lt hM,λi v hv=>?_⟩⟩
  ·have:=hi i Z
   have aa:(i+1)*sz t<=xs.length*sz t:=AM _ Z
   rw[BH,Dj]at aa
   unfold cut at this
   rw[Ew,Ex,Cd,C5 (by omega)]
   exact this
  ·refine ag.cell hM ?_
   rw[AF]at hv
   split at hv
   ·rw[AJ]at hv;simpa using hv
   ·cases hv
def z8v(o:Option Obj)(us:List Value):Prop:=((∃T,o=some (.cells us.toArray T (0,0)))/\∀s p,us≠[Z9 s p])\/(∃s p,us=[Z9 s p]/\o=some (.stringIter s p))
def DenC(n0:Nat)(γ:Gh)(h:zb)(c:Nat):Ch->Prop
 |.box l=>∃us,z8v h[γ.β c]? us/\All2 (DenA γ) l us
 |.row e t xs=>∃cells,Owns h n0 e (sz t) (γ.σ c) cells/\RowC γ.M t xs cells/\xs.length<=140737488355328/\(γ.σ c).len=xs.length
 |.fz t xs=>Rd γ.M (.row t) xs [slV (γ.σ c)]
def blk(γ:Gh)(c:Nat):Ch->Option Nat
 |.box _=>some (γ.β c)
 |.row _ _ _=>(γ.σ c).a.map (·.block)
 |.fz _ _=>none
structure Inv (h0:zb) (W:Nat->Prop) (M0:Fr) (cs:CS) (γ:Gh) (h:zb):Prop where
 ag:AgM γ.M h
 frame:∀i,i<h0.size->¬W i->h[i]?=h0[i]?
 size:h0.size<=h.size
 old:∀b,b<h0.size->γ.M b=M0 b
 le:Fr.le M0 γ.M
 den:∀x∈cs,DenC h0.size γ h x.1 x.2
 sep:∀x∈cs,∀b,blk γ x.1 x.2=some b->(h0.size<=b\/W b)/\γ.M b=none
 apart:cs.Pairwise λx y=>∀b,blk γ x.1 x.2=some b->blk γ y.1 y.2≠some b
variable {h0 : zb} {W : Nat -> Prop} {M0 : Fr}
theorem DenC.lt{k:Ch}(H:DenC n0 γ h c k):∀b,blk γ c k=some b->b<h.size:=by
 intro b hb
 cases k with
 |box l=>
  obtain⟨us,e,_⟩:=H
  simp only[blk,Ab]at hb
  subst hb
  rcases e with⟨⟨T,e⟩,_⟩|⟨s,p,_,e⟩
  ·exact(Ac.1 e).1
  ·exact(Ac.1 e).1
 |row e t xs=>
  obtain⟨cells,h1,_⟩:=H
  simp only[blk,CO]at hb
  obtain⟨p,hp,rfl⟩:=hb
  exact(h1.base_le p hp).2
 |fz t xs=>cases hb
theorem DenC.gx{c:Option Nat}(g:Gx c γ γ'){k:Ch}(hj:c≠some j)(hm:z3q zh8 c k=false)(H:DenC n0 γ h j k)(hb:∀b,blk γ j k=some b->h'[b]?=h[b]?):DenC n0 γ' h' j k:=by
 obtain⟨e1,e2⟩:=g.2 j hj
 cases k with
 |box l=>
  obtain⟨us,e,h1⟩:=H
  exact⟨us,by rw[e1,hb _ rfl];exact e,DenL.gx g (by cases c <;> exact hm) h1⟩
 |row e t xs=>
  obtain⟨cells,h1,h2,h3,h4⟩:=H
  refine⟨cells,?_,h2.mono g.1,h3,by rw[e2];exact h4⟩
  rw[e2]
  exact h1.keep λp hp=>hb _ (by simp[blk,hp])
 |fz t xs=>simp only[DenC,e2];exact Rd.mono g.1 H
theorem zlt{c:Option Nat}(g:Gx c γ γ')(k:Ch)(hj:c≠some j):blk γ' j k=blk γ j k:=by
 obtain⟨e1,e2⟩:=g.2 j hj
 cases k <;> simp[blk,e1,e2]
theorem Inv.rest{cs rest:CS}{γ γ':Gh}{h h':zb}(I:Inv h0 W M0 cs γ h)(hsub:rest.Sublist cs){c:Option Nat}(g:Gx c γ γ')
  (hmen:∀x∈rest,c≠some x.1/\z3q zh8 c x.2=false) (hk:∀x∈rest,∀b,blk γ x.1 x.2=some b->h'[b]?=h[b]?/\γ'.M b=none)
  (ag:AgM γ'.M h') (hframe:∀i,i<h0.size->¬W i->h'[i]?=h[i]?) (hsize:h.size<=h'.size) (hold:∀b,b<h0.size->γ'.M b=γ.M b):Inv h0 W M0 rest γ' h' where
 ag:=ag
 frame:=λi hi hw=>(hframe i hi hw).trans (I.frame i hi hw)
 size:=Nat.le_trans I.size hsize
 old:=λb hb=>(hold b hb).trans (I.old b hb)
 le:=I.le.trans g.1
 den:=λx hx=>(I.den x (hsub.subset hx)).gx g (hmen x hx).1 (hmen x hx).2 λb hb=>(hk x hx b hb).1
 sep:=λx hx b hb=>by
  rw[zlt g _ (hmen x hx).1]at hb
  exact⟨(I.sep x (hsub.subset hx) b hb).1,(hk x hx b hb).2⟩
 apart:=by
  refine(I.apart.sublist hsub).imp_of_mem λ {x y} hx hy h=>?_
  intro b hb
  rw[zlt g _ (hmen x hx).1]at hb
  rw[zlt g _ (hmen y hy).1]
  exact h b hb
theorem Inv.cons{rest:CS}(I:Inv h0 W M0 rest γ h){k:Ch}(hd:DenC h0.size γ h c k)(hs:∀b,blk γ c k=some b->(h0.size<=b\/W b)/\γ.M b=none)
  (ha:∀b,blk γ c k=some b->∀x∈rest,blk γ x.1 x.2≠some b):Inv h0 W M0 ((c,k)::rest) γ h where
 ag:=I.ag
 frame:=I.frame
 size:=I.size
 old:=I.old
 le:=I.le
 den:=λx hx=>by rcases Af.1 hx with rfl|hx;exact hd;exact I.den x hx
 sep:=λx hx=>by rcases Af.1 hx with rfl|hx;exact hs;exact I.sep x hx
 apart:=BR.2 ⟨λy hy b hb=>ha b hb y hy,I.apart⟩
theorem Inv.sub{cs rest:CS}(I:Inv h0 W M0 cs γ h)(hsub:rest.Sublist cs):Inv h0 W M0 rest γ h where
 ag:=I.ag
 frame:=I.frame
 size:=I.size
 old:=I.old
 le:=I.le
 den:=λx hx=>I.den x (hsub.subset hx)
 sep:=λx hx=>I.sep x (hsub.subset hx)
 apart:=I.apart.sublist hsub
theorem Inv.fz(I:Inv h0 W M0 cs γ h):z3o γ cs:=λc t xs hm=>I.den _ hm
theorem Inv.call(I:Inv h0 W M0 cs γ h)(k:Keep h.size h h')(hM:Fr.le γ.M M')(O:∀b,b<h.size->M' b=γ.M b)(ag:AgM M' h'):Inv h0 W M0 cs { γ with M:=M' } h':=
 I.rest (List.Sublist.refl _) (c:=none) ⟨hM,λ_ _=>⟨rfl,rfl⟩⟩ (λx _=>⟨by simp,rfl⟩)
  (λx hx b hb=>by
   have Z:=(I.den x hx).lt b hb
   exact⟨k.get b Z,(O b Z).trans (I.sep x hx b hb).2⟩) ag (λi hi _=>k.get i (DD hi I.size)) k.size (λb hb=>O b (DD hb I.size))
def jc(c:Nat):CS->CS
 |[]=>[]
 |(j,k)::l=>bif (bif Nat.beq j c then true else zh8 c k)then jc c l else(j,k)::jc c l
def wu(c:Nat):CS->Bool
 |[]=>true
 |(j,k)::l=>bif (bif Nat.beq j c then true else zh8 c k)then false else wu c l
def zki(c:Nat):CS->CS
 |[]=>[]
 |(j,k)::l=>bif Nat.beq j c then zki c l else(j,k)::zki c l
theorem xe(c:Nat):∀l:CS,(jc c l).Sublist l
 |[]=>.slnil
 |(j,k)::l=>by
  simp only[jc]
  cases(bif Nat.beq j c then true else zh8 c k)with
  |true=>exact(xe c l).cons _
  |false=>exact(xe c l).cons_cons _
theorem Zr(c:Nat):∀l:CS,(zki c l).Sublist l
 |[]=>.slnil
 |(j,k)::l=>by
  simp only[zki]
  cases Nat.beq j c with
  |true=>exact(Zr c l).cons _
  |false=>exact(Zr c l).cons_cons _
theorem ze6{c:Nat}:∀{l:CS} {x:Nat×Ch},x∈jc c l->some c≠some x.1/\zh8 c x.2=false
 |(j,k)::l,x,h=>by
  simp only[jc]at h
  cases hb:(bif Nat.beq j c then true else zh8 c k)with
  |true=>rw[hb]at h;exact ze6 h
  |false=>
   rw[hb]at h
   rcases Af.1 h with rfl|h
   ·cases hj:Nat.beq j c with
    |true=>simp[hj]at hb
    |false=>simp only[hj,cond_false]at hb;exact⟨zpw hj,hb⟩
   ·exact ze6 h
theorem zdg{c:Nat}:∀{l:CS},wu c l=true->∀x∈l,some c≠some x.1/\zh8 c x.2=false
 |[],_,x,h=>by cases h
 |(j,k)::l,hn,x,h=>by
  simp only[wu]at hn
  cases hb:(bif Nat.beq j c then true else zh8 c k)with
  |true=>rw[hb]at hn;cases hn
  |false=>
   rw[hb]at hn
   rcases Af.1 h with rfl|h
   ·cases hj:Nat.beq j c with
    |true=>simp[hj]at hb
    |false=>simp only[hj,cond_false]at hb;exact⟨zpw hj,hb⟩
   ·exact zdg hn x h
theorem Y5{c:Nat}:∀{l:CS} {x:Nat×Ch},x∈zki c l->x∈l/\x.1≠c
 |(j,k)::l,x,h=>by
  simp only[zki]at h
  cases hb:Nat.beq j c with
  |true=>rw[hb]at h;exact⟨Ah _ (Y5 h).1,(Y5 h).2⟩
  |false=>
   rw[hb]at h
   rcases Af.1 h with rfl|h
   ·refine⟨Ar,λe=>?_⟩
    simp only at e
    subst e
    simp at hb
   ·exact⟨Ah _ (Y5 h).1,(Y5 h).2⟩
def zyg(γ:Gh)(c b:Nat):Gh:={ γ with β:=λi=>bif Nat.beq i c then b else γ.β i }
def zsc(γ:Gh)(c:Nat)(s:Sl):Gh:={ γ with σ:=λi=>bif Nat.beq i c then s else γ.σ i }
theorem Xq(γ:Gh)(c b:Nat):Gx (some c) γ (zyg γ c b):=⟨Fr.le.refl _,λi hi=>by
 have:Nat.beq i c=false:=by
  cases h:Nat.beq i c with
  |false=>rfl
  |true=>exact absurd (congrArg some (Al h).symm) hi
 simp[zyg,this]⟩
theorem Qw(γ:Gh)(c:Nat)(s:Sl):Gx (some c) γ (zsc γ c s):=⟨Fr.le.refl _,λi hi=>by
 have:Nat.beq i c=false:=by
  cases h:Nat.beq i c with
  |false=>rfl
  |true=>exact absurd (congrArg some (Al h).symm) hi
 simp[zsc,this]⟩
theorem Qf(γ:Gh)(c b:Nat):(zyg γ c b).β c=b:=by simp[zyg]
theorem yv(γ:Gh)(c:Nat)(s:Sl):(zsc γ c s).σ c=s:=by simp[zsc]
theorem zbs(hR:wu c R=true):∀x∈jc c C++R,some c≠some x.1/\z3q zh8 (some c) x.2=false:=by
 intro x hx
 rcases An.1 hx with hx|hx
 ·exact ze6 hx
 ·exact zdg hR x hx
theorem Inv.newBoxO(I:Inv h0 W M0 (C++R) γ h)(hR:wu c R=true){l:List AA}(hd:All2 (DenA γ) l us)(hl:zpg c l=false){ob:Obj}(Z:z8v (some ob) us):
  Inv h0 W M0 ((c,.box l)::jc c C++R) (zyg γ c h.size) (h.push ob):=by
 have O:∀x∈jc c C++R,∀b,blk γ x.1 x.2=some b->b<h.size:=λx hx b hb=>(I.den x (((xe c C).append_right R).subset hx)).lt b hb
 have hI:Inv h0 W M0 (jc c C++R) (zyg γ c h.size) (h.push ob):=by
  refine I.rest ((xe c C).append_right R) (Xq γ c h.size) (zbs hR) (λx hx b hb=>?_) (λb cc e=>?_) (λi hi _=>?_) (by simp) (λb hb=>rfl)
  ·have:=O x hx b hb
   exact⟨by rw[BM,if_neg (by omega)],(I.sep x (((xe c C).append_right R).subset hx) b hb).2⟩
  ·have:=I.ag.lt e
   obtain⟨T',m,e'⟩:=I.ag b cc e
   exact⟨T',m,by rw[BM,if_neg (by omega)];exact e'⟩
  ·have:=I.size
   rw[BM,if_neg (by omega)]
 refine hI.cons ⟨us,by rw[Qf,ww];exact Z,DenL.gx (Xq γ c h.size) hl hd⟩ (λb hb=>?_) (λb hb x hx e=>?_)
 ·simp only[blk,Qf,Ab]at hb
  subst hb
  exact⟨.inl I.size,I.ag.none (Ae _)⟩
 ·simp only[blk,Qf,Ab]at hb
  subst hb
  rw[zlt (Xq γ c h.size) _ (zbs hR x hx).1]at e
  have:=O x hx _ e
  omega
theorem Inv.newBox(I:Inv h0 W M0 (C++R) γ h)(hR:wu c R=true){l:List AA}(hd:All2 (DenA γ) l us)(hl:zpg c l=false)(O:itB l=false)(T:TypeId):
  Inv h0 W M0 ((c,.box l)::jc c C++R) (zyg γ c h.size) (h.push (.cells us.toArray T)):=
 Inv.newBoxO I hR hd hl (.inl ⟨⟨T,rfl⟩,λs p=>zue O hd s p⟩)
theorem zdh{α:Type}{R:α->α->Prop}(hs:∀x y,R x y->R y x):∀{l:List α},l.Pairwise R->∀{x y:α},x∈l->y∈l->x≠y->R x y
 |[],_,_,_,hx,_,_=>by cases hx
 |z::l,h,x,y,hx,hy,hne=>by
  rw[BR]at h
  rcases Af.1 hx with e1|h1
  ·rcases Af.1 hy with e2|h2
   ·exact absurd (e1.trans e2.symm) hne
   ·rw[e1];exact h.1 _ h2
  ·rcases Af.1 hy with e2|h2
   ·rw[e2];exact hs _ _ (h.1 _ h1)
   ·exact zdh hs h.2 h1 h2 hne
theorem Inv.setBox(I:Inv h0 W M0 (C++R) γ h){l l':List AA}(hc:(c,Ch.box l)∈C)(e:z8v h'[γ.β c]? us)
  (ho:∀i,i≠γ.β c->h'[i]?=h[i]?) (hs:h'.size=h.size) (hd:All2 (DenA γ) l' us) (hR:∀x∈R,x.1≠c):Inv h0 W M0 ((c,.box l')::zki c C++R) γ h':=by
 have O:=I.sep _ (Aq R hc) _ rfl
 have Z:∀x∈zki c C++R,blk γ x.1 x.2≠some (γ.β c):=by
  intro x hx
  have ae:x≠(c,Ch.box l):=by
   rintro rfl
   rcases An.1 hx with hx|hx
   ·exact(Y5 hx).2 rfl
   ·exact hR _ hx rfl
  have ac:x∈C++R:=((Zr c C).append_right R).subset hx
  have hp:=@zdh _ (λ(x y:Nat×Ch)=>∀b,blk γ x.1 x.2=some b->blk γ y.1 y.2≠some b) (λx y h b hb aa=>h b aa hb) _ I.apart
  intro hb
  exact hp (Aq R hc) ac (λe=>ae e.symm) _ rfl hb
 have hI:Inv h0 W M0 (zki c C++R) γ h':=by
  refine I.rest ((Zr c C).append_right R) (c:=none) (Gx.refl _ _) (λx _=>⟨by simp,rfl⟩) (λx hx b hb=>?_) (λb cc eM=>?_) (λi hi hw=>?_) (by omega) (λb hb=>rfl)
  ·exact⟨ho b λe'=>Z x hx (e' ▸ hb),(I.sep x (((Zr c C).append_right R).subset hx) b hb).2⟩
  ·obtain⟨T',m,e'⟩:=I.ag b cc eM
   exact⟨T',m,by rw[ho b λe2=>by rw[e2,O.2]at eM;cases eM];exact e'⟩
  ·refine ho i λe'=>?_
   have h2:=O.1
   simp only at h2
   rcases h2 with h1|h1
   ·omega
   ·rw[e']at hw;exact hw h1
 refine hI.cons ⟨us,e,hd⟩ (λb hb=>?_) (λb hb x hx=>?_)
 ·simp only[blk,Ab]at hb;subst hb;exact O
 ·simp only[blk,Ab]at hb;subst hb;exact Z x hx
theorem Inv.newRow(I:Inv h0 W M0 (C++R) γ h)(hR:wu c R=true)(hs:h.size<=h'.size){p:Option Nat}(ho:∀i,i<h.size->p≠some i->h'[i]?=h[i]?)
  (hp:∀b,p=some b->h0.size<=b/\γ.M b=none/\∀x∈C++R,blk γ x.1 x.2≠some b) {s:Sl} {xs:List (El t)} {cells:List Value} (ae:Owns h' h0.size e (sz t) s cells)
  (hb:∀q,s.a=some q->p=some q.block\/q.block=h.size) (aa:RowC γ.M t xs cells) (hn:xs.length<=140737488355328) (hl:s.len=xs.length):
  Inv h0 W M0 ((c,.row e t xs)::jc c C++R) (zsc γ c s) h':=by
 have O:=(xe c C).append_right R
 have ac:∀x∈jc c C++R,∀b,blk γ x.1 x.2=some b->b<h.size:=λx hx b hb=>(I.den x (O.subset hx)).lt b hb
 have hI:Inv h0 W M0 (jc c C++R) (zsc γ c s) h':=by
  refine I.rest O (Qw γ c s) (zbs hR) (λx hx b hb=>?_) (λb cc eM=>?_) (λi hi hw=>?_) hs (λb hb=>rfl)
  ·exact⟨ho b (ac x hx b hb) λe'=>(hp b e').2.2 x (O.subset hx) hb,(I.sep x (O.subset hx) b hb).2⟩
  ·obtain⟨T',m,e'⟩:=I.ag b cc eM
   exact⟨T',m,by rw[ho b (I.ag.lt eM) λe2=>by have:=(hp b e2).2.1;rw[show γ.M b=some cc from eM]at this;cases this];exact e'⟩
  ·have:=I.size
   refine ho i (by omega) λe'=>?_
   have:=(hp i e').1
   omega
 refine hI.cons ⟨cells,by rw[yv];exact ae,aa,hn,by rw[yv];exact hl⟩ (λb Z=>?_) (λb Z x hx e'=>?_)
 ·simp only[blk,yv,CO]at Z
  obtain⟨q,hq,rfl⟩:=Z
  rcases hb q hq with h1|h1
  ·exact⟨.inl (hp _ h1).1,(hp _ h1).2.1⟩
  ·rw[h1];exact⟨.inl I.size,I.ag.none (Ae _)⟩
 ·simp only[blk,yv,CO]at Z
  obtain⟨q,hq,rfl⟩:=Z
  rw[zlt (Qw γ c s) _ (zbs hR x hx).1]at e'
  rcases hb q hq with h1|h1
  ·exact(hp _ h1).2.2 x (O.subset hx) e'
  ·rw[h1]at e';have:=ac x hx _ e';omega
def z8w(c:Nat):CS->CS
 |[]=>[]
 |(j,k)::l=>bif Nat.beq j c then(match k with
  |.row _ t xs=>(j,.fz t xs)::z8w c l
  |k=>(j,k)::z8w c l)else(j,k)::z8w c l
def zgc(γ:Gh)(b:Nat)(cs:Array Value):Gh:={ γ with M:=λi=>bif Nat.beq i b then some cs else γ.M i }
theorem Inv.freeze1{A C:CS}{xs:List (El t)}(I:Inv h0 W M0 (A++(c,.row e t xs)::C) γ h):∃γ',Inv h0 W M0 (A++(c,.fz t xs)::C) γ' h/\Gx none γ γ':=by
 obtain⟨cells,ah,ac,hn,hl⟩:=I.den (c,.row e t xs) (by simp)
 have am:=ac.1
 rcases ah.2 with⟨hv,h1⟩|⟨g,cap,O,hv,aa,hg,ar,an,au,ae⟩
 ·refine⟨γ,?_,Gx.refl _ _⟩
  have al:xs=[]:=Av (by omega)
  have hd:DenC h0.size γ h c (.fz t xs):=by
   subst al
   simp only[AO]at hv
   exact⟨_,rfl,none,0,by simp[slV,hv],⟨by simp,by simp⟩,.inl rfl⟩
  have Z:∀x,x∈A++(c,Ch.fz t xs)::C->x∈A++(c,Ch.row e t xs)::C\/x=(c,Ch.fz t xs):=by
   intro x hx
   simp only[An,Af]at hx ⊢
   rcases hx with h|h|h
   ·exact .inl (.inl h)
   ·exact .inr h
   ·exact .inl (.inr (.inr h))
  refine⟨I.ag,I.frame,I.size,I.old,I.le,λx hx=>?_,λx hx b hb=>?_,?_⟩
  ·rcases Z x hx with h|rfl
   ·exact I.den x h
   ·exact hd
  ·rcases Z x hx with h|rfl
   ·exact I.sep x h b hb
   ·cases hb
  ·have:=I.apart
   simp only[CG,BR]at this ⊢
   obtain⟨a1,⟨a2,a3⟩,a4⟩:=this
   refine⟨a1,⟨λy hy b hb=>(by simp[blk]at hb),a3⟩,λx hx y hy b hb=>?_⟩
   rcases Af.1 hy with rfl|hy
   ·simp[blk]
   ·exact a4 x hx y (Ah _ hy) b hb
 ·simp only[AO]at hv
  have ak:γ.M g=none:=(I.sep (c,.row e t xs) (by simp) g (by simp[blk,hv.1])).2
  have ai:Fr.le γ.M (zgc γ g O).M:=by
   intro b cc eM
   have:Nat.beq b g=false:=by
    cases hb:Nat.beq b g with
    |false=>rfl
    |true=>rw[Al hb,ak]at eM;cases eM
   simp[zgc,this,eM]
  have gx:Gx none γ (zgc γ g O):=⟨ai,λ_ _=>⟨rfl,rfl⟩⟩
  have ap:g<h.size:=(Ac.1 hg).1
  have aj:∀x,x∈A++C->blk γ x.1 x.2≠some g:=by
   intro x hx
   have:=I.apart
   simp only[CG,BR]at this
   obtain⟨a1,⟨a2,a3⟩,a4⟩:=this
   rcases An.1 hx with hx|hx
   ·intro hb
    exact a4 x hx (c,.row e t xs) Ar g hb (by simp[blk,hv.1])
   ·exact a2 x hx g (by simp[blk,hv.1])
  have af:∀b,b≠g->(zgc γ g O).M b=γ.M b:=by
   intro b hb
   have:Nat.beq b g=false:=by
    cases h:Nat.beq b g with
    |false=>rfl
    |true=>exact absurd (Al h) hb
   simp[zgc,this]
  have hI:Inv h0 W M0 (A++C) (zgc γ g O) h:=by
   refine I.rest (by simp) gx (λx _=>⟨by simp,rfl⟩) (λx hx b hb=>?_) (λb cc eM=>?_) (λ_ _ _=>rfl) (Ae _) (λb hb=>af b (by omega))
   ·have aa:b≠g:=λe'=>aj x hx (e' ▸ hb)
    refine⟨rfl,(af b aa).trans (I.sep x ?_ b hb).2⟩
    simp only[An,Af]at hx ⊢
    rcases hx with h|h
    ·exact .inl h
    ·exact .inr (.inr h)
   ·by_cases aa:b=g
    ·subst aa
     have:cc=O:=by simp[zgc]at eM;exact eM.symm
     subst this
     exact⟨_,_,hg⟩
    ·rw[af b aa]at eM;exact I.ag b cc eM
  refine⟨zgc γ g O,?_,gx⟩
  have hd:DenC h0.size (zgc γ g O) h c (.fz t xs):=by
   have:=(ac.mono ai).rd (b:=g) (o:=0) (c:=cap) (cs:=O) (by simp[zgc]) (by rw[A2,<-hl];exact ae) ⟨hn,by omega⟩
   show Rd _ _ _ [slV (γ.σ c)]
   have e3:slV (γ.σ c)=.slice (some ⟨g,0,none⟩) xs.length cap:=by
    unfold slV;rw[hv.1,hl,hv.2.2]
   rw[e3];exact this
  have Z:∀x,x∈A++(c,Ch.fz t xs)::C->x∈A++C\/x=(c,Ch.fz t xs):=by
   intro x hx
   simp only[An,Af]at hx ⊢
   rcases hx with h|h|h
   ·exact .inl (.inl h)
   ·exact .inr h
   ·exact .inl (.inr h)
  refine⟨hI.ag,hI.frame,hI.size,hI.old,hI.le,λx hx=>?_,λx hx b hb=>?_,?_⟩
  ·rcases Z x hx with h|rfl
   ·exact hI.den x h
   ·exact hd
  ·rcases Z x hx with h|rfl
   ·exact hI.sep x h b hb
   ·cases hb
  ·have:=hI.apart
   simp only[CG,BR]at this ⊢
   obtain⟨a1,a3,a4⟩:=this
   refine⟨a1,⟨λy hy b hb=>(by simp[blk]at hb),a3⟩,λx hx y hy b hb=>?_⟩
   rcases Af.1 hy with rfl|hy
   ·simp[blk]
   ·exact a4 x hx y hy b hb
theorem Inv.freeze{R:CS}{h:zb}(c:Nat):∀(C A:CS) {γ:Gh},Inv h0 W M0 (A++C++R) γ h->∃γ',Inv h0 W M0 (A++z8w c C++R) γ' h/\Gx none γ γ'
 |[],A,γ,I=>⟨γ,I,Gx.refl _ _⟩
 |(j,k)::l,A,γ,I=>by
  have go:∀(k:Ch) {γ:Gh},Inv h0 W M0 (A++(j,k)::l++R) γ h->∃γ',Inv h0 W M0 (A++(j,k)::z8w c l++R) γ' h/\Gx none γ γ':=by
   intro k γ I
   have:=Inv.freeze c l (A++[(j,k)]) (R:=R) (γ:=γ) (by simpa using I)
   simpa using this
  simp only[z8w]
  cases Nat.beq j c with
  |true=>
   cases k with
   |row e t xs=>
    obtain⟨γ1,I1,g1⟩:=Inv.freeze1 (A:=A) (C:=l++R) (γ:=γ) (by simpa using I)
    obtain⟨γ2,I2,g2⟩:=go (.fz t xs) (γ:=γ1) (by simpa using I1)
    exact⟨γ2,I2,g1.1.trans g2.1,λi hi=>⟨(g2.2 i hi).1.trans (g1.2 i hi).1,(g2.2 i hi).2.trans (g1.2 i hi).2⟩⟩
   |box l'=>exact go _ I
   |fz t xs=>exact go _ I
  |false=>exact go _ I
end
section
variable {i n:Nat} {c:qf} {v:AV} {γ γ':Gh} {a:Act} {u:Value} {o:Oper} {g:Option Bool} {σ:Operand -> Value}
abbrev ye:=List (Nat×qf×AV)
def zm8:ye->Nat->Option (qf×AV)
 |[],_=>none
 |(j,c,v)::e,i=>bif Nat.beq i j then some (c,v)else zm8 e i
def zm9(γ:Gh)(σ:Nat->Value)(x:Nat×qf×AV):Prop:=(valid σ x.2.1->DenV γ x.2.2 (σ x.1))/\(¬valid σ x.2.1->σ x.1=undef)
structure SatA (n:Nat) (e:ye) (γ:Gh) (a:Act):Prop where
 defers:a.defers=[]
 size:a.tmps.size=n
 all:∀x∈e,zm9 γ (zw a) x
def qcs:ye->Nat->ye
 |[],_=>[]
 |(j,c,v)::e,i=>bif (bif Nat.beq i j then true else mentions c i)then qcs e i else(j,c,v)::qcs e i
def qf1(e:ye)(i:Nat)(c:qf)(v:AV):ye:=(i,c,v)::qcs e i
def z4j(e:ye):Option Nat->qf->AV->ye
 |none,_,_=>e
 |some d,c,v=>qf1 e d c v
def zgd:ye->ye
 |[]=>[]
 |(j,[],v)::e=>(j,[],v)::zgd e
 |(_,_::_,_)::e=>zgd e
def zpx(c:Nat):ye->ye
 |[]=>[]
 |(j,ch,v)::e=>bif z3p c v then zpx c e else(j,ch,v)::zpx c e
def zuf:Option Nat->ye->ye
 |none,e=>e
 |some c,e=>zpx c e
theorem Qg{e:ye}(h:zm8 e i=some (c,v)):(i,c,v)∈e:=by
 induction e with
 |nil=>cases h
 |cons x e ih=>
  obtain⟨j,cj,vj⟩:=x
  simp only[zm8]at h
  by_cases hb:Nat.beq i j=true
  ·simp only[hb,cond_true,Ab,BG]at h
   obtain⟨rfl,rfl⟩:=h
   rw[Al hb]
   exact Ar
  ·simp only[hb,cond_false]at h
   exact Ah _ (ih h)
theorem z4k{e:ye}{x:Nat×qf×AV}(h:x∈qcs e i):x∈e/\x.1≠i/\mentions x.2.1 i=false:=by
 induction e with
 |nil=>cases h
 |cons y e ih=>
  obtain⟨j,cj,vj⟩:=y
  simp only[qcs]at h
  by_cases hb:Nat.beq i j=true
  ·simp only[hb,cond_true]at h
   exact⟨Ah _ (ih h).1,(ih h).2⟩
  ·have aa:Nat.beq i j=false:=Bool.eq_false_iff.2 hb
   simp only[aa,cond_false]at h
   by_cases hm:mentions cj i=true
   ·simp only[hm,cond_true]at h
    exact⟨Ah _ (ih h).1,(ih h).2⟩
   ·have Z:mentions cj i=false:=by simpa using hm
    simp only[Z,cond_false]at h
    rcases Af.1 h with rfl|h
    ·refine⟨Ar,λO=>?_,Z⟩
     simp only at O
     rw[O]at hb
     exact hb (by simp)
    ·exact⟨Ah _ (ih h).1,(ih h).2⟩
theorem zwr{e:ye}{x:Nat×qf×AV}(h:x∈zgd e):x∈e/\x.2.1=[]:=by
 induction e with
 |nil=>cases h
 |cons y e ih=>
  obtain⟨j,cj,vj⟩:=y
  cases cj with
  |nil=>
   simp only[zgd]at h
   rcases Af.1 h with rfl|h
   ·exact⟨Ar,rfl⟩
   ·exact⟨Ah _ (ih h).1,(ih h).2⟩
  |cons c cs=>
   simp only[zgd]at h
   exact⟨Ah _ (ih h).1,(ih h).2⟩
theorem zws{c:Option Nat}{e:ye}{x:Nat×qf×AV}(h:x∈zuf c e):x∈e/\z3q z3p c x.2.2=false:=by
 cases c with
 |none=>exact⟨h,rfl⟩
 |some c=>
  have key:∀e:ye,x∈zpx c e->x∈e/\z3p c x.2.2=false:=by
   intro e
   induction e with
   |nil=>intro h;cases h
   |cons y e ih=>
    obtain⟨j,cj,vj⟩:=y
    intro h
    simp only[zpx]at h
    cases hm:z3p c vj with
    |true=>rw[hm]at h;exact⟨Ah _ (ih h).1,(ih h).2⟩
    |false=>
     rw[hm]at h
     rcases Af.1 h with rfl|h
     ·exact⟨Ar,hm⟩
     ·exact⟨Ah _ (ih h).1,(ih h).2⟩
  exact key e h
theorem SatA.sub{e e':ye}(h:SatA n e γ a)(hs:∀x∈e',x∈e):SatA n e' γ a:=⟨h.defers,h.size,λx hx=>h.all x (hs x hx)⟩
theorem SatA.clean{e:ye}(h:SatA n e γ a):SatA n (zgd e) γ a:=h.sub λ_ hx=>(zwr hx).1
theorem SatA.gx{e:ye}{c:Option Nat}(h:SatA n e γ a)(g:Gx c γ γ'):SatA n (zuf c e) γ' a:=
 ⟨h.defers,h.size,λx hx=>by
  obtain⟨h1,h2⟩:=zws hx
  exact⟨λhv=>((h.all x h1).1 hv).gx g h2,(h.all x h1).2⟩⟩
theorem SatA.gx0{e:ye}(h:SatA n e γ a)(g:Gx none γ γ'):SatA n e γ' a:=h.gx g
theorem SatA.put{e:ye}(h:SatA n e γ a)(hi:i<n)(hm:mentions c i=false)
  (hy:valid (zw a) c->DenV γ v u) (hn:¬valid (zw a) c->u=undef):SatA n (qf1 e i c v) γ (a.put (some i) u):=by
 refine⟨by rw[qg];exact h.defers,by rw[size_put];exact h.size,λx hx=>?_⟩
 have Z:i<a.tmps.size:=by rw[h.size];exact hi
 rcases Af.1 hx with rfl|hx
 ·have hv:=Z4 (σ:=zw (a.put (some i) u)) (τ:=zw a) hm (λj hj=>qq hj)
  refine⟨λhc=>?_,λhc=>?_⟩
  ·simp only;rw[yc Z];exact hy (hv.1 hc)
  ·exact(yc Z).trans (hn (λO=>hc (hv.2 O)))
 ·obtain⟨h1,h2,h3⟩:=z4k hx
  have hv:=Z4 (σ:=zw (a.put (some i) u)) (τ:=zw a) h3 (λj hj=>qq hj)
  have hf:=h.all x h1
  refine⟨λhc=>?_,λhc=>?_⟩
  ·rw[qq h2];exact hf.1 (hv.1 hc)
  ·exact(qq h2).trans (hf.2 (λO=>hc (hv.2 O)))
theorem SatA.putO{e:ye}(h:SatA n e γ a){d:Option Nat}(hd:yq n c d=true)
  (hy:valid (zw a) c->DenV γ v u) (hn:¬valid (zw a) c->u=undef):SatA n (z4j e d c v) γ (a.put d u):=by
 cases d with
 |none=>exact h
 |some i=>
  simp only[yq]at hd
  by_cases hm:mentions c i=true
  ·simp[hm]at hd
  ·have O:mentions c i=false:=by simpa using hm
   simp only[O,cond_false]at hd
   exact h.put (by simpa[CM]using hd) O hy hn
def qe3:Value->AG
 |.agg cs=>.agg (cs.toList.map .v)
 |v=>.a (.v v)
def zwt:Value->AV
 |.tuple vs=>.tup (vs.toList.map qe3)
 |v=>.g (qe3 v)
theorem zug(γ:Gh)(v:Value):DenG γ (qe3 v) v:=by
 cases v with
 |agg cs=>
  refine⟨cs.toList,by simp,?_⟩
  generalize cs.toList=l
  induction l with
  |nil=>trivial
  |cons x l ih=>exact⟨rfl,ih⟩
 |_=>exact rfl
theorem Jv(γ:Gh)(v:Value):DenV γ (zwt v) v:=by
 cases v with
 |tuple vs=>
  refine⟨vs.toList,by simp,?_⟩
  generalize vs.toList=l
  induction l with
  |nil=>trivial
  |cons x l ih=>exact⟨zug γ x,ih⟩
 |agg cs=>exact zug γ (.agg cs)
 |_=>exact rfl
def exL:List AA->Option (List Value)
 |[]=>some []
 |.v x::l=>match exL l with
  |some vs=>some (x::vs)
  |none=>none
 |_::_=>none
def exV:AV->Option Value
 |.g (.a (.v x))=>some x
 |.g (.agg l)=>match exL l with
  |some vs=>some (.agg vs.toArray)
  |none=>none
 |_=>none
theorem zy7{γ:Gh}:∀{l:List AA} {vs us:List Value},exL l=some vs->All2 (DenA γ) l us->us=vs
 |[],vs,[],h,_=>by simp only[exL,Ab]at h;exact h
 |[],_,_::_,_,h=>h.elim
 |.v x::l,vs,u::us,h,hd=>by
  simp only[exL]at h
  split at h
  ·rename_i ws hw
   simp only[Ab]at h
   subst h
   rw[show u=x from hd.1,zy7 hw hd.2]
  ·cases h
 |.v _::_,_,[],_,h=>h.elim
 |.d _ _::_,_,_,h,_=>by simp[exL]at h
 |.box _ _::_,_,_,h,_=>by simp[exL]at h
 |.own _::_,_,_,h,_=>by simp[exL]at h
 |.oelt _ _ _ _::_,_,_,h,_=>by simp[exL]at h
 |.elt _ _ _::_,_,_,h,_=>by simp[exL]at h
 |.dc _ _::_,_,_,h,_=>by simp[exL]at h
theorem zsd{x:AV}{v u:Value}(h:exV x=some v)(hd:DenV γ x u):u=v:=by
 unfold exV at h
 split at h
 ·simp only[Ab]at h;subst h;exact hd
 ·rename_i l
  split at h
  ·rename_i vs hv
   simp only[Ab]at h
   subst h
   obtain⟨us,rfl,h2⟩:=hd
   rw[zy7 hv h2]
  ·cases h
 ·cases h
def zh9(e:ye)(c:qf):Operand->Option AV
 |.tmp t=>match zm8 e t with
  |some (cs,v)=>bif suf cs c then some v else none
  |none=>none
 |.const v=>some (zwt v)
 |.global g=>some (.g (.a (.v (.pointer (some ⟨g,0,none⟩)))))
 |.func f=>some (.g (.a (.v (.func (.func f) #[] #[]))))
theorem qd{e:ye}(h:SatA n e γ a)(hc:valid (zw a) c){x:Operand}(hx:zh9 e c x=some v):DenV γ v (a.eval x):=by
 cases x with
 |tmp t=>
  simp only[zh9]at hx
  split at hx
  ·rename_i cs u hl
   by_cases hs:suf cs c=true
   ·simp only[hs,cond_true,Ab]at hx
    subst hx
    exact(h.all _ (Qg hl)).1 (Jl hs hc)
   ·simp[hs]at hx
  ·cases hx
 |const u=>simp only[zh9,Ab]at hx;subst hx;exact Jv γ u
 |global g=>simp only[zh9,Ab]at hx;subst hx;exact rfl
 |func f=>simp only[zh9,Ab]at hx;subst hx;exact rfl
def zwu:AV->Option Bool
 |.g (.a (.v (.bool b)))=>some b
 |_=>none
theorem zia{b:Bool}(h:zwu v=some b)(hd:DenV γ v u):u=.bool b:=by
 unfold zwu at h
 split at h
 ·simp only[Ab]at h;subst h;exact hd
 ·cases h
def Y6(ops:Array Oper)(e:ye):Option (Nat×Bool)->Option qf
 |none=>some []
 |some (j,p)=>match jd ops j with
  |some g=>match zm8 e g with
   |some (cg,v)=>match zwu v with
    |some _=>some ((g,p)::cg)
    |none=>none
   |none=>none
  |none=>none
def zpy(e:ye):qf->Option Bool
 |[]=>some true
 |(g,p)::c=>match zm8 e g with
  |some (cg,v)=>match zwu v with
   |some b=>bif Z5 cg c then(match zpy e c with
    |some cb=>some (cb&&(bif p then b else !b))
    |none=>none)else none
   |none=>none
  |none=>none
theorem Xr{n:Nat}{e:ye}{γ:Gh}{a:Act}(h:SatA n e γ a):∀{c:qf} {b:Bool},zpy e c=some b->(b=true↔valid (zw a) c)
 |[],b,hb=>by simp only[zpy,Ab]at hb;simp[<-hb,valid]
 |(g,p)::c,b,hb=>by
  simp only[zpy]at hb
  split at hb
  ·rename_i cg v hl
   split at hb
   ·rename_i bg O
    by_cases hq:Z5 cg c=true
    ·simp only[hq,cond_true]at hb
     split at hb
     ·rename_i cb Z
      simp only[Ab]at hb
      have ih:=Xr h Z
      have hf:=h.all _ (Qg hl)
      rw[Jk hq]at hf
      by_cases hv:valid (zw a) c
      ·have h1:zw a g=.bool bg:=zia O (hf.1 hv)
       have h2:=ih.2 hv
       subst hb
       simp only[valid,h1,hv,h2,Bi,and_true,Value.bool.injEq]
       cases p <;> cases bg <;> simp
      ·have h1:cb=false:=by cases cb with|false=>rfl|true=>exact absurd (ih.1 rfl) hv
       subst hb
       simp[valid,hv,h1]
     ·cases hb
    ·simp[hq]at hb
   ·cases hb
  ·cases hb
theorem Zs{ops:Array Oper}{e:ye}(h:SatA n e γ a)(hc:Y6 ops e o.guard=some c):
  BU o (yielded ops a.tmps)=true↔valid (zw a) c:=by
 unfold BU
 cases hg:o.guard with
 |none=>rw[hg]at hc;simp only[Y6,Ab]at hc;simp[<-hc,valid]
 |some jp=>
  obtain⟨j,p⟩:=jp
  rw[hg]at hc
  simp only[Y6]at hc
  split at hc
  ·rename_i g hd
   split at hc
   ·rename_i cg v hl
    split at hc
    ·rename_i b hb
     simp only[Ab]at hc
     subst hc
     have Z:((ops[j]?).bind (·.dst))=some g:=by
      simp only[jd]at hd
      split at hd
      ·rename_i o' O;simp[O,hd]
      ·cases hd
     have hf:=h.all _ (Qg hl)
     have hy:yielded ops a.tmps j=some p↔zw a g=.bool p:=by
      unfold yielded zw
      rw[Z]
      simp only[Cu]
      cases ht:a.tmps[g]? with
      |none=>simp[Bq,ht,undef]
      |some v=>cases v <;> simp[Bq,ht]
     simp only[beq_iff_eq,hy,valid]
     constructor
     ·intro h1
      refine⟨h1,?_⟩
      by_cases hv:valid (zw a) cg
      ·exact hv
      ·have:=hf.2 hv
       simp only at this
       rw[h1]at this
       exact absurd this.symm zc3
     ·exact λh1=>h1.1
    ·cases hc
   ·cases hc
  ·cases hc
def Wo(e:ye):qf->Option (Option Bool)
 |[]=>some none
 |c=>match zpy e c with
  |some b=>some (some b)
  |none=>none
theorem Zj{e:ye}(hs:SatA n e γ a)(h:Wo e c=some g)(hv:valid (zw a) c):gok g:=by
 unfold Wo at h
 split at h
 ·simp only[Ab]at h;subst h;trivial
 ·split at h
  ·rename_i b hb
   simp only[Ab]at h
   subst h
   exact(Xr hs hb).2 hv
  ·cases h
theorem zbt{e:ye}(hs:SatA n e γ a)(h:Wo e c=some g)(hv:¬valid (zw a) c):g=some false:=by
 unfold Wo at h
 split at h
 ·exact absurd trivial hv
 ·split at h
  ·rename_i b hb
   simp only[Ab]at h
   subst h
   cases b with
   |false=>rfl
   |true=>exact absurd ((Xr hs hb).1 rfl) hv
  ·cases h
def qeg(ρ:Operand->Option AV)(x:Operand):Value:=match ρ x with
 |some av=>match exV av with
  |some v=>v
  |none=>undef
 |none=>undef
def zib(ρ:Operand->Option AV):List Operand->Bool
 |[]=>true
 |x::l=>match ρ x with
  |some av=>match exV av with
   |some _=>zib ρ l
   |none=>false
  |none=>false
theorem zpz{ρ:Operand->Option AV}(hρ:∀x av,ρ x=some av->DenV γ av (σ x)){l:List Operand}(hk:zib ρ l=true):∀x∈l,σ x=qeg ρ x:=by
 induction l with
 |nil=>intro x hx;cases hx
 |cons y l ih=>
  intro x hx
  simp only[zib]at hk
  split at hk
  ·rename_i av hv
   split at hk
   ·rename_i v O
    rcases Af.1 hx with rfl|hx
    ·rw[zsd O (hρ _ _ hv)];simp[qeg,hv,O]
    ·exact ih hk x hx
   ·cases hk
  ·cases hk
theorem zp0{ρ:Operand->Option AV}(hρ:∀x av,ρ x=some av->DenV γ av (σ x))(hs:xd o.op=true)(hk:zib ρ o.op.operands.toList=true):
  execOp σ o=execOp (qeg ρ) o:=
 execOp_congr o (λcs b hb=>by rw[hb]at hs;cases hs) λx hx=>zpz hρ hk x (by simpa using hx)
end
section
variable {o n f k:Nat} {h:zb} {u:Value} {us:List Value} {cs:CS} {γ:Gh} {t ty:TypeId} {P:Program}
variable {h0 : zb} {W : Nat -> Prop} {M0 : Fr}
def takeN(l:List AA)(o n:Nat):Option (List AA):=bif Nat.beq ((l.drop o).take n).length n then some ((l.drop o).take n)else none
theorem zas{l r:List AA}(h:takeN l o n=some r):r=(l.drop o).take n/\r.length=n:=by
 unfold takeN at h
 cases hb:Nat.beq ((l.drop o).take n).length n with
 |false=>rw[hb]at h;cases h
 |true=>
  rw[hb]at h
  simp only[cond_true,Ab]at h
  subst h
  exact⟨rfl,Al hb⟩
theorem zp1{h:zb}{p:Addr}:∀{us:List Value} {i:Nat},(∀j v,us[j]?=some v->zk h (p.add (i+j))=some v)->ze h p i us
 |[],_,_=>trivial
 |v::us,i,H=>⟨by have:=H 0 v rfl;simpa using this,zp1 λj u hu=>by have:=H (j+1) u (by simpa using hu);rwa[show i+(j+1)=i+1+j by omega]at this⟩
def Behind(h:zb)(u:Value)(us:List Value):Prop:=∃b o,u=.pointer (some ⟨b,o,none⟩)/\∀j v,us[j]?=some v->zk h ⟨b,o+j,none⟩=some v
theorem Behind.ld(H:Behind h u us):∃p:Addr,u=.pointer (some p)/\ze h p 0 us/\∀v,us=[v]->zk h p=some v:=by
 obtain⟨b,o,e,hc⟩:=H
 refine⟨_,e,zp1 λj v hv=>?_,λv hv=>?_⟩
 ·rw[zm,AH];exact hc j v hv
 ·have:=hc 0 v (by rw[hv];rfl);simpa using this
theorem z8x{cs:Array Value}{f n j:Nat}{v:Value}(h:(cut cs f n)[j]?=some v):cs[f+j]?=some v:=by
 unfold cut at h
 rw[AF]at h
 split at h
 ·rw[AJ]at h;simpa using h
 ·cases h
def z4l(cs:CS)(n:Nat):AA->Option (List AA)
 |.box c o=>match Jt cs c with
  |some (.box l)=>bif itB l then none else takeN l o n
  |_=>none
 |.elt t x o=>takeN (Js t x) o n
 |_=>none
theorem zse(I:Inv h0 W M0 cs γ h){aa:AA}{r:List AA}(hf:z4l cs n aa=some r)(hd:DenA γ aa u):
  ∃us,Behind h u us/\us.length=n/\All2 (DenA γ) r us:=by
 unfold z4l at hf
 split at hf
 ·rename_i c o
  split at hf
  ·rename_i l hl
   cases hit:itB l with
   |true=>rw[hit]at hf;cases hf
   |false=>
   rw[hit]at hf
   obtain⟨rfl,hn⟩:=zas hf
   obtain⟨us,e,h2⟩:=I.den _ (qj hl)
   rcases e with⟨⟨T,e⟩,_⟩|⟨s,p,e,_⟩
   case inr=>exact absurd e (zue hit h2 s p)
   have h3:=(h2.drop o).take n
   refine⟨(us.drop o).take n,⟨_,_,hd,λj v hv=>?_⟩,by rw[<-h3.length];exact hn,h3⟩
   rw[AF]at hv
   split at hv
   ·rw[AJ]at hv
    unfold zk;simp only[e];simp;exact hv
   ·cases hv
  ·cases hf
 ·rename_i t x o
  obtain⟨rfl,hn⟩:=zas hf
  obtain⟨b,f,cc,e,hM,hr⟩:=hd
  have h3:=((Zi (γ:=γ) hr).drop o).take n
  refine⟨_,⟨_,_,e,λj v hv=>?_⟩,by rw[<-h3.length];exact hn,h3⟩
  rw[AF]at hv
  split at hv
  ·rw[AJ]at hv
   have:=z8x hv
   exact I.ag.cell hM (by rw[show f+o+j=f+(o+j)by omega];exact this)
  ·cases hv
 ·cases hf
theorem z8y(I:Inv h0 W M0 cs γ h){c:Nat}{e:TypeId}{t:Ty}{xs:List (El t)}(hc:Jt cs c=some (.row e t xs)){i:Nat}{y:El t}(hy:xs[i]?=some y){r:List AA}(hr:takeN (Js t y) o n=some r)(hd:DenA γ (.oelt c (sz t) i o) u):∃us,Behind h u us/\us.length=n/\All2 (DenA γ) r us:=by
 obtain⟨rfl,hn⟩:=zas hr
 obtain⟨g,hg,rfl⟩:=hd
 obtain⟨cells,Z,ac,_,hl⟩:=I.den _ (qj hc)
 simp only at hl Z
 rcases Z.2 with⟨hv,h1⟩|⟨g',cap,ah,hv,_,ae,_,_,_,aa⟩
 ·simp only[AO]at hv;rw[hg]at hv;cases hv.1
 ·simp only[AO]at hv
  rw[hg]at hv
  have af:g=g':=by have:=hv.1;simp only[Ab,Addr.mk.injEq]at this;exact this.1
  subst af
  have hi:i<xs.length:=(Az.1 hy).1
  have ai:xs[i]=y:=(Az.1 hy).2
  have h4:=ac.2 i hi
  rw[ai]at h4
  have h3:=((Zi (γ:=γ) h4).drop o).take n
  refine⟨_,⟨_,_,rfl,λj v O=>?_⟩,by rw[<-h3.length];exact hn,h3⟩
  rw[AF]at O
  split at O
  ·rw[AJ,AF]at O
   split at O
   ·rw[AJ,<-aa,AF]at O
    split at O
    ·have e2:h[g]?=some (.cells ah e (0,0)):=ae
     unfold zk
     simp only[e2]
     simp
     rw[show i*sz t+o+j=i*sz t+(o+j)by omega]
     simpa using O
    ·cases O
   ·cases O
  ·cases O
def zna:Option Nat->List AA->Option AG
 |none,[x]=>some (.a x)
 |some _,l=>some (.agg l)
 |_,_=>none
def Xs(P:Program)(t:TypeId):Option (Option Nat):=match zyf P t with
 |some (.one _)=>some none
 |some (.agg l)=>some (some l.length)
 |none=>none
def z3r:Option Nat->Nat
 |none=>1
 |some n=>n
theorem ze7{s:Option Nat}(hs:Xs P t=some s)(hb:Behind h u us)(hn:us.length=z3r s){r:List AA}(hr:All2 (DenA γ) r us){ag:AG}(hp:zna s r=some ag):
  ∃v,DenG γ ag v/\QExec P (Ef t u) h v:=by
 obtain⟨p,e,hl,h1⟩:=hb.ld
 subst e
 have O:∀v,QExec P (loadVar t p) h v->QExec P (Ef t (.pointer (some p))) h v:=λv hq B d=>by
  unfold Ef Es
  simp only[Sem.run_bind,Sem.run_pure,Result.andThen_ok]
  exact hq B d
 unfold Xs at hs
 split at hs
 ·rename_i a hv
  simp only[Ab]at hs
  subst hs
  match us,hn,r,hr with
  |[v],_,[x],hr=>
   simp only[zna,Ab]at hp
   subst hp
   exact⟨v,hr.1,O v (zc5 hv (h1 v rfl))⟩
  |[v],_,[],hr=>exact hr.elim
  |[v],_,_::_::_,hr=>exact hr.2.elim
 ·rename_i l hv
  simp only[Ab]at hs
  subst hs
  simp only[zna,Ab]at hp
  subst hp
  exact⟨.agg us.toArray,⟨us,rfl,hr⟩,O _ (zc6 hv hn hl)⟩
 ·cases hs
def zwv(P:Program)(cs:CS)(t:TypeId)(aa:AA)(g:Option Bool)(K:AV->Prop):Prop:=
 match Xs P t with
 |some s=>match aa with
  |.oelt c z i o=>match Jt cs c with
   |some (.row e ty xs)=>bif Nat.beq z (sz ty)then(∃y:El ty,req g (xs[i]?=some y)/\match takeN (Js ty y) o (z3r s)with
    |some r=>match zna s r with
     |some ag=>K (.g ag)
     |none=>False
    |none=>False)else False
   |_=>False
  |aa=>match z4l cs (z3r s) aa with
   |some r=>match zna s r with
    |some ag=>K (.g ag)
    |none=>False
   |none=>False
 |none=>False
theorem zic{aa:AA}{g:Option Bool}{K:AV->Prop}(H:zwv P cs t aa g K):
  ∃av,K av/\(gok g->∀γ h u,Inv h0 W M0 cs γ h->DenA γ aa u->∃v,DenV γ av v/\QExec P (Ef t u) h v):=by
 unfold zwv at H
 split at H
 ·rename_i s hs
  split at H
  ·rename_i c z i o
   split at H
   ·rename_i e ty xs hc
    cases hz:Nat.beq z (sz ty)with
    |false=>rw[hz]at H;exact H.elim
    |true=>
     rw[hz]at H
     obtain⟨y,hy,H⟩:=H
     split at H
     ·rename_i r hr
      split at H
      ·rename_i ag hp
       refine⟨_,H,λhg γ h u I hd=>?_⟩
       rw[Al hz]at hd
       obtain⟨us,h1,h2,h3⟩:=z8y I hc (hy.out hg) hr hd
       exact ze7 hs h1 h2 h3 hp
      ·exact H.elim
     ·exact H.elim
   ·exact H.elim
  ·split at H
   ·rename_i r hr
    split at H
    ·rename_i ag hp
     refine⟨_,H,λhg γ h u I hd=>?_⟩
     obtain⟨us,h1,h2,h3⟩:=zse I hr hd
     exact ze7 hs h1 h2 h3 hp
    ·exact H.elim
   ·exact H.elim
 ·exact H.elim
def zy8(P:Program)(t:TypeId)(f:Nat):Option (Nat×TypeId):=match P.underlying t with
 |some (.struct fs)=>match fs[f]? with
  |some fl=>match P.info? fl.type with
   |some i=>bif Nat.beq i.size 0 then none else some (fl.offset,fl.type)
   |none=>none
  |none=>none
 |_=>none
def qeh(k:Nat):AA->Option AA
 |.box c o=>some (.box c (o+k))
 |.elt t x o=>some (.elt t x (o+k))
 |.oelt c z i o=>some (.oelt c z i (o+k))
 |_=>none
theorem zy9(hf:zy8 P t f=some (k,ty))(b o:Nat):QExec P (Instr.fieldAt t (.pointer (some ⟨b,o,none⟩)) f) h (.pointer (some ⟨b,o+k,none⟩)):=by
 unfold zy8 at hf
 split at hf
 ·rename_i fs hu
  split at hf
  ·rename_i fl Z
   split at hf
   ·rename_i i hi
    cases hz:Nat.beq i.size 0 with
    |true=>rw[hz]at hf;cases hf
    |false=>
     rw[hz]at hf
     simp only[cond_false,Ab,BG]at hf
     obtain⟨rfl,rfl⟩:=hf
     intro B d
     have hq:=QExec.underlying (h:=h) hu B d
     have hs:=QExec.sizeOf (h:=h) hi B d
     have O:¬(ja P fl.type=0):=by
      unfold ja;rw[hi]
      intro e
      simp only at e
      rw[e]at hz;simp at hz
     unfold Instr.fieldAt Es fieldPlace
     simp only[Sem.run_bind,hq,Result.andThen_ok,Z,Sem.run_pure,hs,O,if_false,zm]
   ·cases hf
  ·cases hf
 ·cases hf
theorem zuh{aa O:AA}(h:qeh k aa=some O)(hd:DenA γ aa u):∃b o,u=.pointer (some ⟨b,o,none⟩)/\DenA γ O (.pointer (some ⟨b,o+k,none⟩)):=by
 unfold qeh at h
 split at h
 ·simp only[Ab]at h;subst h;exact⟨_,_,hd,rfl⟩
 ·simp only[Ab]at h;subst h
  obtain⟨b,f,cs,e,h1,h2⟩:=hd
  exact⟨_,_,e,b,f,cs,by rw[Nat.add_assoc],h1,h2⟩
 ·simp only[Ab]at h;subst h
  obtain⟨g,e1,e2⟩:=hd
  exact⟨_,_,e2,g,e1,by rw[Nat.add_assoc]⟩
 ·cases h
def zza(P:Program)(ty:TypeId)(l:List AA)(k:Nat):Option AG:=match Xs P ty with
 |some s=>match takeN l k (z3r s)with
  |some r=>zna s r
  |none=>none
 |none=>none
theorem zp2{s:Option Nat}(hs:Xs P t=some s)(h:zb):QExec P (isAgg t) h s.isSome:=by
 unfold Xs at hs
 split at hs
 ·rename_i a hv
  simp only[Ab]at hs;subst hs
  unfold zyf at hv
  split at hv
  ·exact absurd hv (by split <;> (first|(intro h;cases h;done)|(cases Nat.beq _ _ <;> intro h <;> cases h)))
  ·exact absurd hv (by split <;> (first|(intro h;cases h;done)|(cases Nat.beq _ _ <;> intro h <;> cases h)))
  ·rename_i d Z O hu
   intro B e
   have hq:=QExec.underlying (h:=h) hu B e
   unfold isAgg
   rw[Sem.run_bind,hq]
   cases d <;> first|rfl|exact(Z _ rfl).elim|exact(O _ _ rfl).elim
  ·cases hv
 ·rename_i l hv
  simp only[Ab]at hs;subst hs
  unfold zyf at hv
  have hu:(∃fs,P.underlying t=some (.struct fs))\/∃n e,P.underlying t=some (.array n e):=by
   split at hv
   ·exact .inl ⟨_,by assumption⟩
   ·exact .inr ⟨_,_,by assumption⟩
   ·simp at hv
   ·cases hv
  intro B e
  rcases hu with⟨fs,hu⟩|⟨m,e',hu⟩
  ·have hq:=QExec.underlying (h:=h) hu B e
   unfold isAgg
   rw[Sem.run_bind,hq];rfl
  ·have hq:=QExec.underlying (h:=h) hu B e
   unfold isAgg
   rw[Sem.run_bind,hq];rfl
 ·cases hs
theorem z4m(hs:Xs P t=some (some n)):ja P t=n/\∃i,P.info? t=some i:=by
 unfold Xs at hs
 split at hs
 ·cases hs
 ·rename_i l hv
  simp only[Ab]at hs
  subst hs
  unfold zyf at hv
  have key:∀x:Option (List Atom),(match x with
    |some l=>bif Nat.beq l.length (ja P t)then some (VT.agg l)else none
    |none=>none)=some (.agg l)->ja P t=l.length:=by
   intro x hx
   split at hx
   ·rename_i l'
    cases hb:Nat.beq l'.length (ja P t)with
    |false=>rw[hb]at hx;cases hx
    |true=>
     rw[hb]at hx
     simp only[cond_true,Ab,VT.agg.injEq]at hx
     rw[<-hx];exact(Al hb).symm
   ·cases hx
  split at hv
  ·exact⟨key _ hv,info_of_underlying (by assumption)⟩
  ·exact⟨key _ hv,info_of_underlying (by assumption)⟩
  ·simp at hv
  ·cases hv
 ·cases hs
theorem zbu{l:List AA}{ag:AG}(hp:zza P ty l k=some ag)(hd:All2 (DenA γ) l us)(h:zb):∃v,DenG γ ag v/\QExec P (part ty us.toArray k) h v:=by
 unfold zza at hp
 split at hp
 ·rename_i s hs
  split at hp
  ·rename_i r hr
   obtain⟨rfl,hn⟩:=zas hr
   have h3:=(hd.drop k).take (z3r s)
   have O:((us.drop k).take (z3r s)).length=z3r s:=by rw[<-h3.length];exact hn
   cases s with
   |none=>
    generalize hq:(us.drop k).take (z3r none)=q at *
    match q,O,hq with
    |[v],_,hq=>
     generalize Z:(l.drop k).take (z3r none)=r' at *
     match r',h3 with
     |[x],h3=>
      simp only[zna,Ab]at hp
      subst hp
      refine⟨v,h3.1,λB d=>?_⟩
      have ha:=zp2 hs h B d
      have hv:us[k]?=some v:=by
       have:((us.drop k).take 1)[0]?=some v:=by rw[show(us.drop k).take 1=[v]from hq];rfl
       rw[AF,if_pos (by omega),AJ]at this
       simpa using this
      unfold part
      rw[Sem.run_bind,ha]
      simp[hv]
     |[],h3=>exact h3.elim
     |_::_::_,h3=>exact h3.2.elim
   |some n=>
    simp only[zna,Ab]at hp
    subst hp
    refine⟨.agg ((us.drop k).take n).toArray,⟨_,rfl,h3⟩,λB d=>?_⟩
    have ha:=zp2 hs h B d
    obtain⟨hz,i,hi⟩:=z4m hs
    have hS:=QExec.sizeOf (h:=h) hi B d
    unfold part
    rw[Sem.run_bind,ha]
    simp only[Option.isSome_some,Result.andThen_ok,if_true]
    rw[Sem.run_bind,hS,hz]
    simp
  ·cases hp
 ·cases hp
end
section
variable {cs:CS} {γ:Gh} {h:zb} {u:Value} {t el:TypeId} {a:Option Addr} {n:Int} {av:AV} {P:Program} {cap:Nat} {g:Option Bool} {σ:Operand -> Value} {b:Bool} {o:Oper}
variable {h0 : zb} {W : Nat -> Prop} {M0 : Fr}
def rowOf(cs:CS):AA->Option ((t:Ty)×List (El t))
 |.d (.row t) xs=>some ⟨t,xs⟩
 |.dc t xs=>some ⟨t,xs⟩
 |.own c=>match Jt cs c with
  |some (.fz t xs)=>some ⟨t,xs⟩
  |_=>none
 |_=>none
theorem zdi(I:Inv h0 W M0 cs γ h){aa:AA}{r:(t:Ty)×List (El t)}(hr:rowOf cs aa=some r)(hd:DenA γ aa u):Rd γ.M (.row r.1) r.2 [u]:=by
 unfold rowOf at hr
 split at hr
 ·simp only[Ab]at hr;subst hr;exact hd
 ·simp only[Ab]at hr;subst hr;obtain⟨s,_,_,h⟩:=hd;exact h
 ·split at hr
  ·rename_i t xs hc
   simp only[Ab]at hr;subst hr
   rw[show u=_ from hd]
   exact I.den _ (qj hc)
  ·cases hr
 ·cases hr
theorem Rd.sub{M:Fr}{t:Ty}{xs:List (El t)}{n c:Nat}(H:Rd M (.row t) xs [.slice a n c]){l r m:Nat}(h1:l<=r)(h2:r<=xs.length)(h3:r<=m)(h4:m<=c):
  Rd M (.row t) ((xs.take r).drop l) [.slice (Yw a (sz t) l m) (r-l) (m-l)]:=by
 obtain⟨v,e,a',c',e2,hn,H⟩:=H
 cases e
 simp only[AO]at e2
 obtain⟨rfl,rfl,rfl⟩:=e2
 have O:((xs.take r).drop l).length=r-l:=by simp;omega
 refine⟨_,rfl,Yw a (sz t) l m,m-l,by rw[O],⟨by rw[O];omega,by rw[O];omega⟩,?_⟩
 by_cases hr:r=l
 ·left
  apply Av
  omega
 rcases H with Z|⟨b,o,cs,e1,hM,hi⟩
 ·left;subst Z;simp
 ·right
  have aa:¬(m=l):=by omega
  refine⟨b,o+l*sz t,cs,?_,hM,λi ac=>?_⟩
  ·unfold Yw;rw[if_neg aa,e1];simp[zm]
  ·have:=hi (l+i) (by omega)
   have e3:((xs.take r).drop l)[i]=xs[l+i]:=by simp
   rw[e3]
   have e4:o+l*sz t+i*sz t=o+(l+i)*sz t:=by rw[BH];omega
   rw[e4];exact this
def qei:AV->Option Int
 |.g (.a (.v (.int _ n)))=>some n
 |_=>none
theorem zui(h:qei av=some n)(hd:DenV γ av u):∃k,u=.int k n:=by
 unfold qei at h
 split at h
 ·simp only[Ab]at h;subst h;exact⟨_,hd⟩
 ·cases h
def z8z(P:Program)(t:TypeId):Option TypeId:=match P.underlying t with
 |some (.slice el)=>bif jb P el then some el else none
 |_=>none
theorem Jw(h:z8z P t=some el):P.underlying t=some (.slice el)/\jb P el=true:=by
 unfold z8z at h
 split at h
 ·rename_i e hu
  cases ho:jb P e with
  |false=>rw[ho]at h;cases h
  |true=>rw[ho]at h;simp only[cond_true,Ab]at h;subst h;exact⟨hu,ho⟩
 ·cases h
def zzb(P:Program)(cs:CS)(t:TypeId)(aa:AA)(n:Int)(g:Option Bool)(K:AV->Prop):Prop:=
 match z8z P t with
 |some el=>match rowOf cs aa with
  |some r=>bif Nat.beq (ja P el) (sz r.1)then ∃y:El r.1,req g (0<=n/\r.2[n.toNat]?=some y)/\K (.g (.a (.elt r.1 y 0)))else False
  |none=>match aa with
   |.own c=>match Jt cs c with
    |some (.row e ty xs)=>bif Nat.beq (ja P el) (sz ty)then req g (0<=n/\n.toNat<xs.length)/\K (.g (.a (.oelt c (sz ty) n.toNat 0)))else False
    |_=>False
   |_=>False
 |none=>False
theorem zp3(hu:P.underlying t=some (.slice el))(ho:jb P el=true){a:Addr}{len cap:Nat}{k:IntKind}(h1:0<=n)(h2:n<(len:Int))(h:zb):
  QExec P (EM t (.slice (some a) len cap) (.int k n)) h (.pointer (some (a.add (n.toNat*ja P el)))):=by
 have:=Zd (P:=P) (t:=t) (x:=.slice (some a) len cap) (i:=.int k n) (g:=none) (K:=λv=>v=.pointer (some (a.add (n.toNat*ja P el))))
  (λZ O=>by
   rcases O with O|⟨m,O⟩
   ·rw[hu]at O;cases O;exact j7 ho
   ·rw[hu]at O;cases O) (by unfold zpl;rw[hu];exact⟨a,⟨rfl,h1,h2⟩,rfl⟩)
 obtain⟨v,rfl,hq⟩:=this
 exact hq trivial h
theorem zp4{aa:AA}{K:AV->Prop}(H:zzb P cs t aa n g K):
  ∃av,K av/\(gok g->∀γ h u k,Inv h0 W M0 cs γ h->DenA γ aa u->∃v,DenV γ av v/\QExec P (EM t u (.int k n)) h v):=by
 unfold zzb at H
 split at H
 ·rename_i el af
  obtain⟨hu,ho⟩:=Jw af
  split at H
  ·rename_i r hr
   cases hz:Nat.beq (ja P el) (sz r.1)with
   |false=>rw[hz]at H;exact H.elim
   |true=>
    rw[hz]at H
    obtain⟨y,hy,hK⟩:=H
    refine⟨_,hK,λhg γ h u k I hd=>?_⟩
    obtain⟨ac,ae⟩:=hy.out hg
    have Z:=Al hz
    obtain⟨v,e,a,c,e2,hn,H⟩:=zdi I hr hd
    cases e
    subst e2
    have hi:n.toNat<r.2.length:=(Az.1 ae).1
    have hx:r.2[n.toNat]=y:=(Az.1 ae).2
    rcases H with ai|⟨b,o,cc,e1,hM,ah⟩
    ·rw[ai]at hi;simp at hi
    ·subst e1
     refine⟨_,?_,zp3 hu ho ac (by omega) h⟩
     have:=ah n.toNat hi
     rw[hx]at this
     rw[zm,Z]
     exact⟨b,o+n.toNat*sz r.1,cc,rfl,hM,this⟩
  ·split at H
   ·rename_i c _
    split at H
    ·rename_i e ty xs hc
     cases hz:Nat.beq (ja P el) (sz ty)with
     |false=>rw[hz]at H;exact H.elim
     |true=>
      rw[hz]at H
      obtain⟨hy,hK⟩:=H
      refine⟨_,hK,λhg γ h u k I hd=>?_⟩
      obtain⟨ac,hi⟩:=hy.out hg
      have Z:=Al hz
      obtain⟨cells,O,al,_,hl⟩:=I.den _ (qj hc)
      simp only at hl O
      rcases O.2 with⟨hv,h1⟩|⟨g',cap,an,hv,_,am,_,_,_,ak⟩
      ·omega
      ·simp only[AO]at hv
       have aj:u=slV (γ.σ c):=hd
       subst aj
       unfold slV
       rw[hv.1]
       refine⟨_,?_,zp3 hu ho ac (by omega) h⟩
       rw[zm,Z,AH]
       exact⟨g',hv.1,rfl⟩
    ·exact H.elim
   ·exact H.elim
 ·exact H.elim
def zp5(ρ:Operand->Option AV)(d:Int):Option Operand->Option Int
 |none=>some d
 |some x=>match ρ x with
  |some av=>qei av
  |none=>none
theorem Jx{ρ:Operand->Option AV}(hρ:∀x av,ρ x=some av->DenV γ av (σ x)){d n:Int}{x:Option Operand}(h:zp5 ρ d x=some n):j8 (x.map σ) d=some n:=by
 unfold zp5 at h
 split at h
 ·exact h
 ·rename_i y
  split at h
  ·rename_i av O
   obtain⟨k,e⟩:=zui h (hρ _ _ O)
   simp[j8,e]
  ·cases h
def zzc(P:Program)(cs:CS)(ρ:Operand->Option AV)(t:TypeId)(aa:AA)(lo hi mx:Option Operand)(g:Option Bool)(K:AV->Prop):Prop:=
 match z8z P t with
 |some el=>match rowOf cs aa with
  |some r=>bif Nat.beq (ja P el) (sz r.1)then(match zp5 ρ 0 lo,zp5 ρ (r.2.length:Int) hi with
   |some l,some h=>match mx with
    |none=>req g (0<=l/\l<=h/\h<=(r.2.length:Int))/\K (.g (.a (.d (.row r.1) ((r.2.take h.toNat).drop l.toNat))))
    |some m=>match zp5 ρ 0 (some m),hi with
     |some m,some _=>req g (0<=l/\l<=h/\h<=(r.2.length:Int)/\m=h)/\K (.g (.a (.dc r.1 ((r.2.take h.toNat).drop l.toNat))))
     |_,_=>False
   |_,_=>False)else False
  |none=>False
 |none=>False
theorem zp6(hu:P.underlying t=some (.slice el))(ho:jb P el=true){len cap:Nat}{lo hi mx:Option Value}{l r m:Int}(hl:j8 lo 0=some l)(hr:j8 hi (len:Int)=some r)(hm:j8 mx (cap:Int)=some m)
  (h0:mx=none\/∃v,hi=some v) (h1:0<=l) (h2:l<=r) (h3:r<=m) (h4:m<=(cap:Int)) (h:zb):
  QExec P (EN t (.slice a len cap) lo hi mx) h (.slice (Yw a (ja P el) l.toNat m.toNat) (r.toNat-l.toNat) (m.toNat-l.toNat)):=by
 have:=Y2 (P:=P) (t:=t) (x:=.slice a len cap) (lo:=lo) (hi:=hi) (mx:=mx) (g:=none) (K:=λv=>v=.slice (Yw a (ja P el) l.toNat m.toNat) (r.toNat-l.toNat) (m.toNat-l.toNat))
  (λZ O=>by rw[hu]at O;cases O;exact j7 ho) (by unfold zt2;rw[hu];simp only[hl,hr,hm];exact⟨h0,⟨h1,h2,h3,h4⟩,trivial⟩)
 obtain⟨v,rfl,hq⟩:=this
 exact hq trivial h
theorem zp7{ρ:Operand->Option AV}{aa:AA}{lo hi mx:Option Operand}{K:AV->Prop}(H:zzc P cs ρ t aa lo hi mx g K):
  ∃av,K av/\(gok g->∀γ h u σ,Inv h0 W M0 cs γ h->(∀x av,ρ x=some av->DenV γ av (σ x))->DenA γ aa u->∃v,DenV γ av v/\QExec P (EN t u (lo.map σ) (hi.map σ) (mx.map σ)) h v):=by
 unfold zzc at H
 split at H
 ·rename_i el ah
  obtain⟨hu,ho⟩:=Jw ah
  split at H
  ·rename_i r hr
   cases hz:Nat.beq (ja P el) (sz r.1)with
   |false=>rw[hz]at H;exact H.elim
   |true=>
    rw[hz]at H
    have ae:=Al hz
    simp only[cond_true]at H
    split at H
    ·rename_i l hh hl af
     split at H
     ·obtain⟨hy,hK⟩:=H
      refine⟨_,hK,λhg γ h u σ I hρ hd=>?_⟩
      obtain⟨h1,h2,h3⟩:=hy.out hg
      have O:=zdi I hr hd
      have Z:=O
      obtain⟨v,e,a,c,e2,hn,_⟩:=Z
      cases e
      subst e2
      refine⟨_,?_,zp6 hu ho (Jx hρ hl) (Jx hρ af) (m:=(c:Int)) rfl (.inl rfl) h1 h2 (by omega) (Int.le_refl _) h⟩
      rw[ae]
      exact O.sub (by omega) (by omega) (by omega) (by omega)
     ·rename_i m
      split at H
      ·rename_i m' hx hm
       obtain⟨hy,hK⟩:=H
       refine⟨_,hK,λhg γ h u σ I hρ hd=>?_⟩
       obtain⟨h1,h2,h3,h4⟩:=hy.out hg
       subst h4
       have O:=zdi I hr hd
       have Z:=O
       obtain⟨v,e,a,c,e2,hn,_⟩:=Z
       cases e
       subst e2
       have ac:=Jx hρ hm
       have ai:j8 ((some m).map σ) (c:Int)=some m':=by
        unfold j8 at ac ⊢
        simp only[Option.map_some]at ac ⊢
        split at ac <;> simp_all
       refine⟨_,?_,zp6 hu ho (Jx hρ hl) (Jx hρ af) ai (.inr ⟨_,rfl⟩) h1 h2 (Int.le_refl _) (by omega) h⟩
       rw[ae]
       refine⟨⟨_,_,_⟩,rfl,rfl,O.sub (by omega) (by omega) (by omega) (by omega)⟩
      ·exact H.elim
    ·exact H.elim
  ·exact H.elim
 ·exact H.elim
def qe4(cs:CS):AA->Option Nat
 |.d (.row _) xs=>some xs.length
 |.dc _ xs=>some xs.length
 |.own c=>match Jt cs c with
  |some (.fz _ xs)=>some xs.length
  |some (.row _ _ xs)=>some xs.length
  |_=>none
 |_=>none
theorem z4n(I:Inv h0 W M0 cs γ h){aa:AA}{n:Nat}(hn:qe4 cs aa=some n)(hd:DenA γ aa u):∃a c,u=.slice a n c:=by
 have key:∀{t:Ty} {xs:List (El t)},Rd γ.M (.row t) xs [u]->∃a c,u=.slice a xs.length c:=by
  rintro t xs ⟨v,e,a,c,e2,_⟩
  cases e
  exact⟨a,c,e2⟩
 unfold qe4 at hn
 split at hn
 ·simp only[Ab]at hn;subst hn;exact key hd
 ·simp only[Ab]at hn;subst hn;obtain⟨s,_,_,hd⟩:=hd;exact key hd
 ·split at hn
  ·rename_i c t xs hc
   simp only[Ab]at hn;subst hn
   rw[show u=_ from hd]at key ⊢
   exact key (I.den _ (qj hc))
  ·rename_i c e t xs hc
   simp only[Ab]at hn;subst hn
   obtain⟨cells,_,_,_,hl⟩:=I.den _ (qj hc)
   simp only at hl
   rw[show u=_ from hd]
   exact⟨_,_,by unfold slV;rw[hl]⟩
  ·cases hn
 ·cases hn
def qct:AA->List AA
 |.v x=>x.cells.toList.map .v
 |x=>[x]
def zww:AV->Option (List AA)
 |.g (.a x)=>some (qct x)
 |.g (.agg l)=>some l
 |_=>none
theorem qcu(h:u.oneCell'=true):u.cells.toList=[u]:=by
 cases u <;> first|rfl|simp[Value.oneCell']at h
theorem Qh(γ:Gh):∀l:List Value,All2 (DenA γ) (l.map .v) l
 |[]=>trivial
 |_::l=>⟨rfl,Qh γ l⟩
theorem zzd{x:AA}(hd:DenA γ x u):All2 (DenA γ) (qct x) u.cells.toList:=by
 have key:u.oneCell'=true->All2 (DenA γ) [x] u.cells.toList:=λh=>by rw[qcu h];exact⟨hd,trivial⟩
 cases x with
 |v y=>rw[show u=y from hd];exact Qh γ _
 |d t y=>exact key (Rd.one (show Rd γ.M t y [u]from hd) u (by simp))
 |box c o=>exact key (by rw[show u=_ from hd];rfl)
 |own c=>exact key (by rw[show u=_ from hd];rfl)
 |oelt c z i o=>obtain⟨g,_,e⟩:=hd;exact key (by rw[e];rfl)
 |elt t y o=>obtain⟨b,f,cs,e,_⟩:=hd;exact key (by rw[e];rfl)
 |dc t xs=>obtain⟨s,e,_⟩:=hd;exact key (by rw[e];rfl)
theorem zdj{l:List AA}(h:zww av=some l)(hd:DenV γ av u):All2 (DenA γ) l u.cells.toList:=by
 unfold zww at h
 split at h
 ·simp only[Ab]at h;subst h;exact zzd hd
 ·simp only[Ab]at h;subst h
  obtain⟨us,rfl,h2⟩:=hd
  simpa[Value.cells]using h2
 ·cases h
def zsf(O:Nat->Option (Nat×Nat))(cells:List AA):List (Nat×AV)->Option (List AA)
 |[]=>some cells
 |(i,av)::rest=>match O i,zww av with
  |some (off,size),some l=>bif Nat.beq l.length size then(bif Nat.ble (off+l.length) cells.length then zsf O (cells.take off++l++cells.drop (off+l.length)) rest else none)else none
  |_,_=>none
theorem z4o(vs:List Value):∀(k off:Nat) (cs:Array Value),off+k+vs.length<=cs.size ->
  ((vs.zipIdx k).foldl (λcs (x:Value×Nat)=>cs.setIfInBounds (off+x.2) x.1) cs).toList=cs.toList.take (off+k)++vs++cs.toList.drop (off+k+vs.length):=by
 induction vs with
 |nil=>intro k off cs h;simp
 |cons v vs ih=>
  intro k off cs h
  simp only[Ay]at h
  rw[List.zipIdx_cons,List.foldl_cons]
  refine(ih (k+1) off (cs.setIfInBounds (off+k) v) (by rw[Cf];omega)).trans ?_
  simp only[Array.toList_setIfInBounds,Ay]
  have hi:off+k<cs.toList.length:=by simp;omega
  rw[<-Nat.add_assoc,List.drop_set_of_lt (by omega)]
  have e2:(cs.toList.set (off+k) v).take (off+k+1)=cs.toList.take (off+k)++[v]:=by
   rw[List.take_set,Ag hi,List.set_append_right _ _ (by simp;omega)]
   have:off+k-(cs.toList.take (off+k)).length=0:=by simp;omega
   rw[this];rfl
  rw[e2,show off+k+(vs.length+1)=off+k+1+vs.length by omega]
  simp
theorem Wp{O:Nat->Option (Nat×Nat)}{γ:Gh}:∀{parts:List (Nat×AV)} {cells r:List AA} {us:List Value} {ps:List (Nat×Value)},zsf O cells parts=some r->All2 (DenA γ) cells us->All2 (λ(x:Nat×AV) (y:Nat×Value)=>x.1=y.1/\DenV γ x.2 y.2) parts ps ->
  ∃ws:List Value,E8 O us.toArray ps=some ws.toArray/\All2 (DenA γ) r ws
 |[],cells,r,us,[],h,hc,_=>by
  simp only[zsf,Ab]at h
  subst h
  exact⟨us,rfl,hc⟩
 |[],_,_,_,_::_,_,_,hp=>hp.elim
 |_::_,_,_,_,[],_,_,hp=>hp.elim
 |(i,av)::rest,cells,r,us,(j,v)::ps,h,hc,hp=>by
  obtain⟨⟨aa,hv⟩,hp⟩:=hp
  simp only at aa hv
  subst aa
  simp only[zsf]at h
  split at h
  ·rename_i off size l af hl
   cases hb:Nat.beq l.length size with
   |false=>rw[hb]at h;cases h
   |true=>
    rw[hb]at h
    simp only[cond_true]at h
    cases hb2:Nat.ble (off+l.length) cells.length with
    |false=>rw[hb2]at h;cases h
    |true=>
     rw[hb2]at h
     simp only[cond_true]at h
     have Z:=zdj hl hv
     have ac:=Z.length
     have aj:=hc.length
     have h1:=Al hb
     have h2:=BS hb2
     have ah:v.cells.size=size:=by rw[<-h1,ac];simp
     have ae:All2 (DenA γ) (cells.take off++l++cells.drop (off+l.length)) (us.take off++v.cells.toList++us.drop (off+l.length)):=((hc.take off).append Z).append (hc.drop _)
     obtain⟨ws,e1,e2⟩:=Wp h ae hp
     refine⟨ws,?_,e2⟩
     simp only[E8,af]
     have ai:¬((decide (v.cells.size≠size)||decide (off+v.cells.size>us.toArray.size))=true):=by
      rw[ah];simp;omega
     rw[if_neg ai]
     rw[<-e1]
     congr 1
     apply EL
     have:=z4o v.cells.toList 0 off us.toArray (by simp;omega)
     rw[<-Array.foldl_toList,Array.toList_zipIdx]
     refine this.trans ?_
     simp[<-ac]
  ·cases h
def zdk(P:Program):List Field->Bool
 |[]=>true
 |f::l=>bif jb P f.type then zdk P l else false
theorem zlu{P:Program}{h:zb}:∀{l:List Field},zdk P l=true->QExec P (l.mapM λf=>do pure (f.offset,<-Go.sizeOf f.type)) h (l.map λf=>(f.offset,ja P f.type))
 |[],_=>λ_ _=>rfl
 |f::l,H=>by
  simp only[zdk]at H
  cases ho:jb P f.type with
  |false=>rw[ho]at H;cases H
  |true=>
   rw[ho]at H
   obtain⟨i,hi⟩:=j7 ho
   rw[Ev]
   exact QExec.bind (QExec.bind (QExec.sizeOf hi) (QExec.pure _)) (QExec.bind (zlu H) (QExec.pure _))
def placeOf(P:Program)(fs:Array Field)(i:Nat):Option (Nat×Nat):=match fs[i]? with
 |some f=>some (f.offset,ja P f.type)
 |none=>none
def zdl(ρ:Operand->Option AV):List (Nat×Operand)->Option (List (Nat×AV))
 |[]=>some []
 |(i,x)::l=>match ρ x,zdl ρ l with
  |some av,some r=>some ((i,av)::r)
  |_,_=>none
theorem zat{γ:Gh}{ρ:Operand->Option AV}{σ:Operand->Value}(hρ:∀x av,ρ x=some av->DenV γ av (σ x)):∀{l:List (Nat×Operand)} {r:List (Nat×AV)},zdl ρ l=some r ->
  All2 (λ(x:Nat×AV) (y:Nat×Value)=>x.1=y.1/\DenV γ x.2 y.2) r (l.map λx=>(x.1,σ x.2))
 |[],r,h=>by simp only[zdl,Ab]at h;subst h;trivial
 |(i,x)::l,r,h=>by
  simp only[zdl]at h
  split at h
  ·rename_i av r' h1 h2
   simp only[Ab]at h
   subst h
   exact⟨⟨rfl,hρ _ _ h1⟩,zat hρ h2⟩
  ·cases h
def zeroOf(P:Program)(t:TypeId):Option Value:=match P.info? t with
 |some i=>i.zero
 |none=>none
theorem Jy{z:Value}(h:zeroOf P t=some z)(hp:zb):QExec P (zeroValue t) hp z:=by
 unfold zeroOf at h
 split at h
 ·rename_i i hi
  intro B d
  simp[zeroValue,typeInfo,program,hi,Sem.run,h]
 ·cases h
def zze(P:Program)(t:TypeId)(parts:List (Nat×AV)):Option (List AA):=match P.underlying t,zeroOf P t with
 |some (.struct fs),some z=>bif zdk P fs.toList then zsf (placeOf P fs) (z.cells.toList.map .v) parts else none
 |_,_=>none
theorem zp8{parts:List (Nat×AV)}{r:List AA}(h:zze P t parts=some r){ps:List (Nat×Value)}(hp:All2 (λ(x:Nat×AV) (y:Nat×Value)=>x.1=y.1/\DenV γ x.2 y.2) parts ps)(hh:zb):
  ∃ws:List Value,QExec P (Instr.build t ps.toArray) hh (.agg ws.toArray)/\All2 (DenA γ) r ws:=by
 unfold zze at h
 split at h
 ·rename_i fs z hu hz
  cases hof:zdk P fs.toList with
  |false=>rw[hof]at h;cases h
  |true=>
   rw[hof]at h
   simp only[cond_true]at h
   obtain⟨ws,e1,e2⟩:=Wp h (Qh γ _) hp
   refine⟨ws,?_,e2⟩
   intro B d
   have hq:=QExec.underlying (h:=hh) hu B d
   have Z:=Jy hz hh B d
   have O:=zlu (P:=P) (h:=hh) hof B d
   unfold Instr.build
   rw[Sem.run_bind,Z]
   simp only[Result.andThen_ok]
   rw[Sem.run_bind,hq]
   simp only[Result.andThen_ok]
   rw[Sem.run_bind,Array.mapM_eq_mapM_toList,Sem.run_map,O]
   simp only[Result.andThen_ok]
   have e3:(λi=>((fs.toList.map λf=>(f.offset,ja P f.type)).toArray)[i]?)=placeOf P fs:=by
    funext i
    unfold placeOf
    cases hi:fs[i]? <;> simp[hi]
   rw[e3]
   have e4:z.cells.toList.toArray=z.cells:=by simp
   rw[e4]at e1
   simp only[e1]
   rfl
 ·cases h
def zzf(P:Program)(t:TypeId)(a b:Value):Option Bool:=match P.underlying t,a,b with
 |some (.int _),.int k x,.int k' y=>if k=k' then some (x==y)else none
 |some .string,.string x,.string y=>some (x.toList==y.toList)
 |some .bool,.bool x,.bool y=>some (x==y)
 |_,_,_=>none
def z81(P:Program)(xs ys:List AA):List Field->Option Bool
 |[]=>some true
 | f :: fs => if f.name = "_" then none else match zza P f.type xs f.offset, zza P f.type ys f.offset with
  |some (.a (.v a)),some (.a (.v b))=>match zzf P f.type a b,z81 P xs ys fs with
   |some p,some q=>some (p&&q)
   |_,_=>none
  |_,_=>none
def eqA(P:Program)(o:Oper)(ρ:Operand->Option AV):Option Bool:=match o.op with
 |.binOp .eql t x y _=>match ρ x,ρ y with
  |some (.g (.agg xs)),some (.g (.agg ys))=>match P.underlying t with
   |some (.struct _)=>bif P.stoodInHeld t then none else bif P.eqGuardType P.depth t then none else z81 P xs ys (P.fieldsOf t).toList
   |_=>none
  |_,_=>none
 |.binOp .neq t x y _=>match ρ x,ρ y with
  |some (.g (.agg xs)),some (.g (.agg ys))=>match P.underlying t with
   |some (.struct _)=>bif P.stoodInHeld t then none else bif P.eqGuardType P.depth t then none else(match z81 P xs ys (P.fieldsOf t).toList with
    |some b=>some (!b)
    |none=>none)
   |_=>none
  |_,_=>none
 |_=>none
theorem zp9{a b:Value}{r:Bool}(h:zzf P t a b=some r)(d:Nat)(w:World):(Op.equalIn (d+1) t a b).run P w=.ok r w:=by
 unfold zzf at h
 split at h
 ·rename_i k0 k x k' y hu
  split at h
  ·rename_i hk
   simp only[Ab]at h
   subst hk;subst h
   exact run_equalIn_int w d t k k0 x y hu
  ·cases h
 ·rename_i x y hu
  simp only[Ab]at h
  subst h
  exact run_equalIn_string w d t x y hu
 ·rename_i x y hu
  simp only[Ab]at h
  subst h
  exact run_equalIn_bool' w d t x y hu
 ·cases h
theorem zlv{P:Program}{γ:Gh}{xs ys:List AA}{us vs:List Value}(hx:All2 (DenA γ) xs us)(hy:All2 (DenA γ) ys vs)(d:Nat)(h:zb):∀(fs:List Field) (b:Bool),z81 P xs ys fs=some b->QExec P (Op.eqFields (d+1) us.toArray vs.toArray fs) h b
 |[],b,hb=>by
  simp only[z81,Ab]at hb
  subst hb
  exact QExec.pure _
 |f::fs,b,hb=>by
  unfold z81 at hb
  split at hb
  ·cases hb
  ·rename_i hn
   split at hb
   ·rename_i a b' Z O
    split at hb
    ·rename_i p q hp hq
     simp only[Ab]at hb
     subst hb
     obtain⟨v1,e1,r1⟩:=zbu Z hx h
     obtain⟨v2,e2,r2⟩:=zbu O hy h
     have aa:v1=a:=e1
     have ac:v2=b':=e2
     subst aa;subst ac
     intro B dd
     unfold Op.eqFields
     rw[if_pos (by exact hn)]
     rw[Sem.run_bind,r1 B dd]
     simp only[Result.andThen_ok]
     rw[Sem.run_bind,r2 B dd]
     simp only[Result.andThen_ok]
     rw[Sem.run_bind,zp9 hp d]
     simp only[Result.andThen_ok]
     cases p with
     |false=>rfl
     |true=>simpa using zlv hx hy d h fs q hq B dd
    ·cases hb
   ·cases hb
theorem zqa{ρ:Operand->Option AV}(H:eqA P o ρ=some b)(hρ:∀x av,ρ x=some av->DenV γ av (σ x))(h:zb):QExec P (execOp σ o) h (.value (.bool b)):=by
 have key:∀{t:TypeId} {xs ys:List AA} {us vs:List Value} {fs:Array Field} {b:Bool},P.underlying t=some (.struct fs)->P.stoodInHeld t=false->All2 (DenA γ) xs us->All2 (DenA γ) ys vs->z81 P xs ys (P.fieldsOf t).toList=some b->QExec P (Op.equalIn 10000 t (.agg us.toArray) (.agg vs.toArray)) h b:=by
  intro t xs ys us vs fs b hu hs hx hy hb B d
  have hf:P.underlying t=some (.struct (P.fieldsOf t)):=by rw[hu];simp[Program.fieldsOf,hu]
  rw[run_equalIn_struct _ 9999 t us.toArray vs.toArray hf hs]
  exact zlv hx hy 9998 h _ b hb B d
 unfold eqA at H
 split at H
 ·rename_i t x y yt ho
  split at H
  ·rename_i xs ys hx hy
   split at H
   ·rename_i fs hu
    cases hs:P.stoodInHeld t with
    |true=>rw[hs]at H;cases H
    |false=>
     cases hg:P.eqGuardType P.depth t with
     |true=>rw[hs,hg]at H;cases H
     |false=>
      rw[hs,hg]at H
      obtain⟨us,e1,d1⟩:=hρ _ _ hx
      obtain⟨vs,e2,d2⟩:=hρ _ _ hy
      have hk:=key hu hs d1 d2 H
      simp only[execOp,ho,e1,e2]
      refine QExec.val λB d=>?_
      rw[Sem.run_bind,run_eqGuard_agg _ _ _ _ _ _ _ hg]
      simp only[Result.andThen_ok]
      rw[run_eql_struct,hk B d]
      rfl
   ·cases H
  ·cases H
 ·rename_i t x y yt ho
  split at H
  ·rename_i xs ys hx hy
   split at H
   ·rename_i fs hu
    cases hs:P.stoodInHeld t with
    |true=>rw[hs]at H;cases H
    |false=>
     cases hg:P.eqGuardType P.depth t with
     |true=>rw[hs,hg]at H;cases H
     |false=>
      rw[hs,hg]at H
      simp only[cond_false]at H
      split at H
      ·rename_i b' O
       simp only[Ab]at H
       subst H
       obtain⟨us,e1,d1⟩:=hρ _ _ hx
       obtain⟨vs,e2,d2⟩:=hρ _ _ hy
       have hk:=key hu hs d1 d2 O
       simp only[execOp,ho,e1,e2]
       refine QExec.val λB d=>?_
       rw[Sem.run_bind,run_eqGuard_agg _ _ _ _ _ _ _ hg]
       simp only[Result.andThen_ok]
       rw[run_neq_struct,hk B d]
       rfl
      ·cases H
   ·cases H
  ·cases H
 ·cases H
def qA0(P:Program)(o:Oper)(ρ:Operand->Option AV)(g:Option Bool)(cs:CS)(K:AV->Prop):Prop:=
 bif (bif zgn o then(bif isQ P o then(bif xd o.op then zib ρ o.op.operands.toList else false)else false)else false)then Zz P o (qeg ρ) g #[] (λv=>K (zwt v))else
 match o.op with
 |.move x=>match ρ x with
  |some av=>K av
  |none=>False
 |.assign x=>match ρ x with
  |some av=>K av
  |none=>False
 |.extract x i=>match ρ x with
  |some (.tup l)=>match l[i]? with
   |some ag=>K (.g ag)
   |none=>False
  |some (.nx b p c)=>match i with
   |0=>K (.g (.a (.v (.bool b))))
   |1=>req g (b=true)/\K (.g (.a (.v (.int .i64 p))))
   |2=>req g (b=true)/\K (.g (.a (.v (.int .i32 c))))
   |_=>False
  |_=>False
 |.field t x f=>match ρ x,zy8 P t f with
  |some (.g (.agg l)),some (k,ty)=>match zza P ty l k with
   |some ag=>K (.g ag)
   |none=>False
  |_,_=>False
 |.fieldAddr t x f=>match ρ x,zy8 P t f with
  |some (.g (.a aa)),some (k,_)=>match qeh k aa with
   |some O=>K (.g (.a O))
   |none=>False
  |_,_=>False
 |.load t x=>match ρ x with
  |some (.g (.a aa))=>zwv P cs t aa g K
  |_=>False
 |.indexAddr t x i=>match ρ x,ρ i with
  |some (.g (.a aa)),some iv=>match qei iv with
   |some n=>zzb P cs t aa n g K
   |none=>False
  |_,_=>False
 |.slice t x lo hi mx=>match ρ x with
  |some (.g (.a aa))=>zzc P cs ρ t aa lo hi mx g K
  |_=>False
 |.nilCheck x=>match ρ x with
  |some (.g (.a aa))=>match qeh 0 aa with
   |some _=>K (.g (.a aa))
   |none=>False
  |_=>False
 |.build t parts=>match zdl ρ parts.toList with
  |some ps=>match zze P t ps with
   |some r=>K (.g (.agg r))
   |none=>False
  |none=>False
 |.call c=>match c.callee with
  |.builtin .len=>match c.args.toList,c.argTypes.toList with
   |[x],[t]=>match ρ x,P.underlying t with
    |some (.g (.a (.v (.string s)))),some .string=>K (.g (.a (.v (.int .i64 (s.size:Int)))))
    |some (.g (.a (.v (.slice _ n _)))),some (.slice _)=>K (.g (.a (.v (.int .i64 (n:Int)))))
    |some (.g (.a aa)),some (.slice _)=>match qe4 cs aa with
     |some n=>K (.g (.a (.v (.int .i64 (n:Int)))))
     |none=>False
    |_,_=>False
   |_,_=>False
  |_=>False
 |_=>False
theorem zzg{ρ:Operand->Option AV}{K:AV->Prop}(H:qA0 P o ρ g cs K):
  ∃av,K av/\(gok g->∀γ h σ,Inv h0 W M0 cs γ h->(∀x av,ρ x=some av->DenV γ av (σ x))->∃v,DenV γ av v/\QExec P (execOp σ o) h (.value v)):=by
 unfold qA0 at H
 cases hb:(bif zgn o then(bif isQ P o then(bif xd o.op then zib ρ o.op.operands.toList else false)else false)else false)with
 |true=>
  rw[hb]at H
  cases hfam:zgn o with
  |false=>rw[hfam]at hb;cases hb
  |true=>
   cases hq:isQ P o with
   |false=>rw[hfam,hq]at hb;cases hb
   |true=>
    cases hns:xd o.op with
    |false=>rw[hfam,hq,hns]at hb;cases hb
    |true=>
     rw[hfam,hq,hns]at hb
     simp only[cond_true]at hb H
     obtain⟨v,h1,h2⟩:=zal hfam H
     refine⟨_,h1,λhg γ h σ I hρ=>⟨v,Jv γ v,?_⟩⟩
     rw[zp0 hρ hns hb]
     exact h2 hg h ⟨by simp,λi hi=>absurd hi (by simp)⟩
 |false=>
  rw[hb]at H
  simp only[cond_false]at H
  have val:∀{s:Sem Value} {h:zb} {v:Value},QExec P s h v->QExec P (s >>= λx=>(Dv (Ea x):Sem Next)) h (.value v):=λhq=>QExec.val hq
  split at H
  ·rename_i x ho
   split at H
   ·rename_i av O
    exact⟨av,H,λ_ γ h σ I hρ=>⟨_,hρ _ _ O,by simp only[execOp,ho];exact QExec.pure _⟩⟩
   ·exact H.elim
  ·rename_i x ho
   split at H
   ·rename_i av O
    exact⟨av,H,λ_ γ h σ I hρ=>⟨_,hρ _ _ O,by simp only[execOp,ho];exact QExec.pure _⟩⟩
   ·exact H.elim
  ·rename_i x i ho
   split at H
   ·rename_i l O
    split at H
    ·rename_i ag ae
     refine⟨_,H,λ_ γ h σ I hρ=>?_⟩
     obtain⟨us,e,h2⟩:=hρ _ _ O
     obtain⟨u,hu,hd⟩:=h2.get ae
     refine⟨u,hd,?_⟩
     simp only[execOp,ho,e]
     refine val λB d=>?_
     unfold Instr.extract
     simp[hu]
    ·exact H.elim
   ·rename_i b p c O
    split at H
    ·refine⟨_,H,λ_ γ h σ I hρ=>⟨_,rfl,?_⟩⟩
     obtain⟨e1,e2⟩:=hρ _ _ O
     simp only[execOp,ho]
     refine val λB d=>?_
     cases b with
     |true=>rw[e1 rfl];rfl
     |false=>rw[e2 rfl];rfl
    ·refine⟨_,H.2,λhg γ h σ I hρ=>⟨_,rfl,?_⟩⟩
     obtain⟨e1,_⟩:=hρ _ _ O
     simp only[execOp,ho,e1 (H.1.out hg)]
     exact val λB d=>rfl
    ·refine⟨_,H.2,λhg γ h σ I hρ=>⟨_,rfl,?_⟩⟩
     obtain⟨e1,_⟩:=hρ _ _ O
     simp only[execOp,ho,e1 (H.1.out hg)]
     exact val λB d=>rfl
    ·exact H.elim
   ·exact H.elim
  ·rename_i t x f ho
   split at H
   ·rename_i l k ty O hf
    split at H
    ·rename_i ag ae
     refine⟨_,H,λ_ γ h σ I hρ=>?_⟩
     obtain⟨us,e,h2⟩:=hρ _ _ O
     obtain⟨v,hd,hq⟩:=zbu ae h2 h
     refine⟨v,hd,?_⟩
     simp only[execOp,ho,e]
     refine val λB d=>?_
     unfold zy8 at hf
     split at hf
     ·rename_i fs hu
      split at hf
      ·rename_i fl an
       split at hf
       ·rename_i i hi
        cases hz:Nat.beq i.size 0 with
        |true=>rw[hz]at hf;cases hf
        |false=>
         rw[hz]at hf
         simp only[cond_false,Ab,BG]at hf
         obtain⟨rfl,rfl⟩:=hf
         have ak:=QExec.underlying (h:=h) hu B d
         unfold Instr.field
         rw[Sem.run_bind,ak]
         simp only[Result.andThen_ok,an,asAgg,Sem.run_bind,Sem.run_pure]
         exact hq B d
       ·cases hf
      ·cases hf
     ·cases hf
    ·exact H.elim
   ·exact H.elim
  ·rename_i t x f ho
   split at H
   ·rename_i aa k ty O hf
    split at H
    ·rename_i aj ah
     refine⟨_,H,λ_ γ h σ I hρ=>?_⟩
     obtain⟨b,o',e,hd⟩:=zuh ah (hρ _ _ O)
     refine⟨_,hd,?_⟩
     simp only[execOp,ho]
     rw[e]
     exact val (zy9 hf b o')
    ·exact H.elim
   ·exact H.elim
  ·rename_i t x ho
   split at H
   ·rename_i aa O
    obtain⟨av,h1,h2⟩:=zic (h0:=h0) (W:=W) (M0:=M0) H
    refine⟨av,h1,λhg γ h σ I hρ=>?_⟩
    obtain⟨v,hd,hq⟩:=h2 hg γ h _ I (hρ _ _ O)
    refine⟨v,hd,?_⟩
    simp only[execOp,ho]
    exact val hq
   ·exact H.elim
  ·rename_i t x i ho
   split at H
   ·rename_i aa iv O al
    split at H
    ·rename_i n hn
     obtain⟨av,h1,h2⟩:=zp4 (h0:=h0) (W:=W) (M0:=M0) H
     refine⟨av,h1,λhg γ h σ I hρ=>?_⟩
     obtain⟨k,e⟩:=zui hn (hρ _ _ al)
     obtain⟨v,hd,hq⟩:=h2 hg γ h _ k I (hρ _ _ O)
     refine⟨v,hd,?_⟩
     simp only[execOp,ho]
     rw[e]
     exact val hq
    ·exact H.elim
   ·exact H.elim
  ·rename_i t x lo hi mx ho
   split at H
   ·rename_i aa O
    obtain⟨av,h1,h2⟩:=zp7 (h0:=h0) (W:=W) (M0:=M0) H
    refine⟨av,h1,λhg γ h σ I hρ=>?_⟩
    obtain⟨v,hd,hq⟩:=h2 hg γ h _ σ I hρ (hρ _ _ O)
    refine⟨v,hd,?_⟩
    simp only[execOp,ho]
    exact val hq
   ·exact H.elim
  ·rename_i x ho
   split at H
   ·rename_i aa O
    split at H
    ·rename_i aj ah
     refine⟨_,H,λ_ γ h σ I hρ=>?_⟩
     obtain⟨b,o',e,hd⟩:=zuh ah (hρ _ _ O)
     have ap:=hρ _ _ O
     refine⟨σ x,ap,?_⟩
     simp only[execOp,ho]
     rw[e]
     exact QExec.pure _
    ·exact H.elim
   ·exact H.elim
  ·rename_i t parts ho
   split at H
   ·rename_i ps am
    split at H
    ·rename_i r hr
     refine⟨_,H,λ_ γ h σ I hρ=>?_⟩
     obtain⟨ws,hq,hd⟩:=zp8 hr (zat hρ am) h
     refine⟨.agg ws.toArray,⟨ws,rfl,hd⟩,?_⟩
     simp only[execOp,ho]
     have e:(parts.map λx=>(x.1,σ x.2))=(parts.toList.map λx=>(x.1,σ x.2)).toArray:=by rw[<-Dd]
     have:=val hq
     rw[<-e]at this
     exact this
    ·exact H.elim
   ·exact H.elim
  ·rename_i c ho
   split at H
   ·rename_i hc
    split at H
    ·rename_i x t af ai
     have Z:c.args=#[x]:=by
      have:=congrArg List.toArray af;simp at this;exact this
     have ac:c.argTypes=#[t]:=by
      have:=congrArg List.toArray ai;simp at this;exact this
     have key:∀(σ:Operand->Value) (h:zb) (n:Int),(QExec P (CV #[t] o.type #[σ x]) h (.int .i64 n))->QExec P (execOp σ o) h (.value (.int .i64 n)):=by
      intro σ h n hq
      have e:execOp σ o=(CV c.argTypes o.type (c.args.map σ) >>= λx=>(Dv (Ea x):Sem Next)):=by
       simp only[execOp,ho,resolve,hc]
       rfl
      rw[e,Z,ac]
      refine val ?_
      simpa using hq
     split at H
     ·rename_i s O hu
      refine⟨_,H,λ_ γ h σ I hρ=>⟨_,rfl,key σ h _ λB d=>?_⟩⟩
      have hq:=QExec.underlying (h:=h) hu B d
      have e:σ x=.string s:=hρ _ _ O
      unfold CV
      simp only[DW,Dx,e,Sem.run_bind,hq,Result.andThen_ok,Sem.run_pure]
      rfl
     ·rename_i a n cp el O hu
      refine⟨_,H,λ_ γ h σ I hρ=>⟨_,rfl,key σ h _ λB d=>?_⟩⟩
      have hq:=QExec.underlying (h:=h) hu B d
      have e:σ x=.slice a n cp:=hρ _ _ O
      unfold CV
      simp only[DW,Dx,e,Sem.run_bind,hq,Result.andThen_ok,Sem.run_pure]
      rfl
     ·rename_i aa el _ _ O hu
      split at H
      ·rename_i n hn
       refine⟨_,H,λ_ γ h σ I hρ=>⟨_,rfl,key σ h _ λB d=>?_⟩⟩
       have hq:=QExec.underlying (h:=h) hu B d
       obtain⟨a,cp,e⟩:=z4n I hn (hρ _ _ O)
       unfold CV
       simp only[DW,Dx,e,Sem.run_bind,hq,Result.andThen_ok,Sem.run_pure]
       rfl
      ·exact H.elim
     ·exact H.elim
    ·exact H.elim
   ·exact H.elim
  ·exact H.elim
def qe5(P:Program)(o:Oper)(ρ:Operand->Option AV):Option Bool:=match o.op with
 |.binOp op t x (.const .nilIface) _=>match ρ x,ρ (.const .nilIface),P.underlying t with
  |some (.g (.a (.d .err b))),some (.g (.a (.v .nilIface))),some (.interface _)=>match op with
   |.eql=>some b
   |.neq=>some (!b)
   |_=>none
  |_,_,_=>none
 |_=>none
theorem zlw{ρ:Operand->Option AV}(H:qe5 P o ρ=some b)(hρ:∀x av,ρ x=some av->DenV γ av (σ x))(h:zb):QExec P (execOp σ o) h (.value (.bool b)):=by
 have key:∀{t:TypeId} {ms:Array (String×TypeId)} {b:Bool} {u:Value},P.underlying t=some (.interface ms)->((b=true/\u=.nilIface)\/(b=false/\∃t u',u=.iface t u'))->QExec P (Op.equal t u .nilIface) h b:=by
  intro t ms b u hu hb B d
  have hq:=QExec.underlying (h:=h) hu B d
  unfold Op.equal Op.maxDepth
  rcases hb with⟨rfl,rfl⟩|⟨rfl,t',u',rfl⟩
  ·unfold Op.equalIn;rw[Sem.run_bind,hq];rfl
  ·unfold Op.equalIn;rw[Sem.run_bind,hq];rfl
 unfold qe5 at H
 split at H
 ·rename_i op t x yt ho
  split at H
  ·rename_i b0 ms hx hy hu
   have hσ:σ (.const .nilIface)=.nilIface:=hρ _ _ hy
   obtain⟨u,e,hb⟩:=(show Rd γ.M .err b0 [σ x]from hρ _ _ hx)
   have eu:u=σ x:=by simpa using e.symm
   subst eu
   have hk:=key hu hb
   have hg:∀op,QExec P (eqGuard op t x (.const .nilIface) (σ x) .nilIface) h ():=by
    intro op B d
    unfold eqGuard
    rcases hb with⟨_,e2⟩|⟨_,t',u',e2⟩
    ·rw[e2];cases op <;> simp
    ·rw[e2];cases op <;> simp
   have O:∀op,(binOp op t (σ x) .nilIface=match op with | .eql=>(do pure (.bool (<-Op.equal t (σ x) .nilIface))) | .neq=>(do pure (.bool (!(<-Op.equal t (σ x) .nilIface))))|_=>binOp op t (σ x) .nilIface):=by
    intro op
    rcases hb with⟨_,e2⟩|⟨_,t',u',e2⟩
    ·rw[e2];cases op <;> rfl
    ·rw[e2];cases op <;> rfl
   simp only[execOp,ho,hσ]
   refine QExec.val ((hg op).bind ?_)
   split at H
   ·simp only[Ab]at H;subst H
    rw[O]
    exact hk.bind (QExec.pure _)
   ·simp only[Ab]at H;subst H
    rw[O]
    exact hk.bind (QExec.pure _)
   ·cases H
  ·cases H
 ·cases H
def z88(o:Oper)(ρ:Operand->Option AV):Option (TypeId×Nat×Nat):=match o.op with
 |.load t x=>match ρ x with
  |some (.g (.a (.v (.pointer (some ⟨b,off,none⟩)))))=>some (t,b,off)
  |_=>none
 |_=>none
def zid(gl:Fr)(b off:Nat)(v:Value):Prop:=∃cs,gl b=some cs/\cs[off]?=some v
def zlx(gl:Fr)(b:Nat)(g:Option Bool):List Atom->Nat->(List AA->Prop)->Prop
 |[],_,K=>K []
 |.int k::l,o,K=>∃x:Int,req g (zid gl b o (.int k x))/\zlx gl b g l (o+1) λr=>K (.v (.int k x)::r)
 |.str::l,o,K=>∃x:Bt,req g (zid gl b o (.string x))/\zlx gl b g l (o+1) λr=>K (.v (.string x)::r)
 |.bool::l,o,K=>∃x:Bool,req g (zid gl b o (.bool x))/\zlx gl b g l (o+1) λr=>K (.v (.bool x)::r)
 |_::_,_,_=>False
theorem Qi{gl:Fr}{b:Nat}{g:Option Bool}:∀{l:List Atom} {o:Nat} {K:List AA->Prop},zlx gl b g l o K->∃vs:List Value,vs.length=l.length/\K (vs.map .v)/\(gok g->∀(j:Nat) (v:Value),vs[j]?=some v->zid gl b (o+j) v)
 |[],o,K,H=>⟨[],rfl,H,λ_ j v h=>by simp at h⟩
 |.int k::l,o,K,⟨x,h1,h2⟩=>by
  obtain⟨vs,e1,e2,e3⟩:=Qi h2
  refine⟨.int k x::vs,by simp[e1],e2,λhg j v hv=>?_⟩
  cases j with
  |zero=>simp at hv;subst hv;exact h1.out hg
  |succ j=>have:=e3 hg j v (by simpa using hv);rwa[show o+1+j=o+(j+1)by omega]at this
 |.str::l,o,K,⟨x,h1,h2⟩=>by
  obtain⟨vs,e1,e2,e3⟩:=Qi h2
  refine⟨.string x::vs,by simp[e1],e2,λhg j v hv=>?_⟩
  cases j with
  |zero=>simp at hv;subst hv;exact h1.out hg
  |succ j=>have:=e3 hg j v (by simpa using hv);rwa[show o+1+j=o+(j+1)by omega]at this
 |.bool::l,o,K,⟨x,h1,h2⟩=>by
  obtain⟨vs,e1,e2,e3⟩:=Qi h2
  refine⟨.bool x::vs,by simp[e1],e2,λhg j v hv=>?_⟩
  cases j with
  |zero=>simp at hv;subst hv;exact h1.out hg
  |succ j=>have:=e3 hg j v (by simpa using hv);rwa[show o+1+j=o+(j+1)by omega]at this
 |.sl::_,_,_,H=>H.elim
 |.mp::_,_,_,H=>H.elim
 |.ptr::_,_,_,H=>H.elim
 |.raw::_,_,_,H=>H.elim
def qcv(P:Program)(gl:Fr)(t:TypeId)(b off:Nat)(g:Option Bool)(K:AV->Prop):Prop:=match zyf P t with
 |some (.one a)=>zlx gl b g [a] off λr=>match r with
  |[x]=>K (.g (.a x))
  |_=>False
 |some (.agg l)=>zlx gl b g l off λr=>K (.g (.agg r))
 |none=>False
def z9a(P:Program)(o:Oper)(ρ:Operand->Option AV):Option (Nat×Nat×Int×Nat×Nat):=match o.op with
 |.indexAddr t x i=>match ρ x,ρ i,P.underlying t with
  |some (.g (.a (.v (.pointer (some ⟨b,off,none⟩))))),some (.g (.a (.v (.int _ n)))),some (.array len el)=>bif jb P el then some (b,off,n,len,ja P el)else none
  |_,_,_=>none
 |_=>none
def qA(P:Program)(gl:Fr)(o:Oper)(ρ:Operand->Option AV)(g:Option Bool)(cs:CS)(K:AV->Prop):Prop:=match eqA P o ρ with
 |some b=>K (.g (.a (.v (.bool b))))
 |none=>match qe5 P o ρ with
  |some b=>K (.g (.a (.v (.bool b))))
  |none=>match z88 o ρ with
   |some (t,b,off)=>qcv P gl t b off g K
   |none=>match z9a P o ρ with
    |some (b,off,n,len,z)=>req g (0<=n/\n<(len:Int))/\K (.g (.a (.v (.pointer (some ⟨b,off+n.toNat*z,none⟩)))))
    |none=>qA0 P o ρ g cs K
theorem zhd{gl:Fr}(aa:Fr.le gl M0){ρ:Operand->Option AV}{K:AV->Prop}(H:qA P gl o ρ g cs K):
  ∃av,K av/\(gok g->∀γ h σ,Inv h0 W M0 cs γ h->(∀x av,ρ x=some av->DenV γ av (σ x))->∃v,DenV γ av v/\QExec P (execOp σ o) h (.value v)):=by
 unfold qA at H
 split at H
 ·rename_i b hb
  exact⟨_,H,λ_ γ h σ _ hρ=>⟨_,rfl,zqa hb hρ h⟩⟩
 ·split at H
  ·rename_i b hb
   exact⟨_,H,λ_ γ h σ _ hρ=>⟨_,rfl,zlw hb hρ h⟩⟩
  ·split at H
   ·rename_i t b off hg
    unfold z88 at hg
    split at hg
    ·rename_i t' x ho
     split at hg
     ·rename_i b' O hx
      simp only[Ab,BG]at hg
      obtain⟨rfl,rfl,rfl⟩:=hg
      have key:∀{s:Option Nat} {vs:List Value} {ag:AG},Xs P t'=some s->vs.length=z3r s->zna s (vs.map .v)=some ag->(gok g->∀(j:Nat) (v:Value),vs[j]?=some v->zid gl b' (O+j) v)->gok g->∀γ h σ,Inv h0 W M0 cs γ h->(∀x av,ρ x=some av->DenV γ av (σ x))->∃u,DenV γ (.g ag) u/\QExec P (execOp σ o) h (.value u):=by
       intro s vs ag hs hn hp hc hg γ h σ I hρ
       have hu:σ x=.pointer (some ⟨b',O,none⟩):=hρ _ _ hx
       obtain⟨u,hd,hq⟩:=ze7 (γ:=γ) hs (u:=σ x) (us:=vs) ⟨_,_,hu,λj w hw=>by
        obtain⟨cc,e1,e2⟩:=hc hg j w hw
        exact I.ag.cell (I.le _ _ (aa _ _ e1)) e2⟩ hn (Qh γ vs) hp
       exact⟨u,hd,by simp only[execOp,ho];exact QExec.val hq⟩
      unfold qcv at H
      split at H
      ·rename_i a hv
       obtain⟨vs,e1,e2,e3⟩:=Qi H
       match vs,e1,e2,e3 with
       |[v],e1,e2,e3=>exact⟨_,e2,key (s:=none) (by unfold Xs;rw[hv]) rfl rfl e3⟩
      ·rename_i l hv
       obtain⟨vs,e1,e2,e3⟩:=Qi H
       exact⟨_,e2,key (s:=some l.length) (by unfold Xs;rw[hv]) e1 rfl e3⟩
      ·exact H.elim
     ·cases hg
    ·cases hg
   ·split at H
    ·rename_i b off n len z hg
     unfold z9a at hg
     split at hg
     ·rename_i t x i ho
      split at hg
      ·rename_i b' O k n' ah el hx hi hu
       cases hok:jb P el with
       |false=>rw[hok]at hg;cases hg
       |true=>
        rw[hok]at hg
        simp only[cond_true,Ab,BG]at hg
        obtain⟨rfl,rfl,rfl,rfl,rfl⟩:=hg
        refine⟨_,H.2,λac γ h σ I hρ=>⟨_,rfl,?_⟩⟩
        have af:σ x=.pointer (some ⟨b',O,none⟩):=hρ _ _ hx
        have ae:σ i=.int k n':=hρ _ _ hi
        obtain⟨h1,h2⟩:=H.1.out ac
        obtain⟨v,rfl,hq⟩:=Zd (P:=P) (t:=t) (x:=.pointer (some ⟨b',O,none⟩)) (i:=.int k n') (g:=none) (K:=λv=>v=.pointer (some (Aj ⟨b',O,none⟩ (n'.toNat*ja P el))))
         (λai Z=>by
          rcases Z with Z|⟨m,Z⟩
          ·rw[hu]at Z;cases Z
          ·rw[hu]at Z;cases Z;exact j7 hok) (by unfold zpl;rw[hu];exact⟨_,⟨rfl,h1,h2⟩,rfl⟩)
        have:=hq trivial h
        rw[zm]at this
        simp only[execOp,ho,af,ae]
        exact QExec.val this
      ·cases hg
     ·cases hg
    ·exact zzg H
end
section
variable {M gl:Fr} {u:Value} {P:Program} {f:FuncId} {γ:Gh} {cs C R:CS} {o:Oper} {σ:Operand -> Value} {h:zb} {Post:Value -> zb -> Prop} {tr:TypeId}
variable {h0 : zb} {W : Nat -> Prop} {M0 : Fr}
def zdm:Ty->Bool
 |.tree=>true
 |.unit=>true
 |.pair _ _=>true
 |_=>false
def RdV(M:Fr)(t:Ty)(x:El t)(u:Value):Prop:=if zdm t=true then ∃cs:List Value,u=.agg cs.toArray/\Rd M t x cs else Rd M t x [u]
theorem RdV.mono{M M':Fr}(hM:Fr.le M M'){t:Ty}{x:El t}(h:RdV M t x u):RdV M' t x u:=by
 unfold RdV at *
 by_cases ha:zdm t=true
 ·rw[if_pos ha]at *
  obtain⟨cs,e,h⟩:=h;exact⟨cs,e,Rd.mono hM h⟩
 ·rw[if_neg ha]at *
  exact Rd.mono hM h
structure Arg where
 t:Ty
 x:El t
def Xt(M:Fr)(l:List Arg)(vs:List Value):Prop:=All2 (λ(a:Arg) u=>RdV M a.t a.x u) l vs
@[reducible] def Els:List Ty->Type
 |[]=>Unit
 |[t]=>El t
 |t::t'::l=>El t×Els (t'::l)
def qcw:(l:List Ty)->Els l
 |[]=>()
 |[t]=>qcq t
 |t::t'::l=>(qcq t,qcw (t'::l))
def RdL(M:Fr):(l:List Ty)->Els l->List Value->Prop
 |[],_,us=>us=[]
 |[t],x,us=>∃u,us=[u]/\RdV M t x u
 |t::t'::l,x,us=>∃u O,us=u::O/\RdV M t x.1 u/\RdL M (t'::l) x.2 O
def Xu(M:Fr)(l:List Ty)(x:Els l)(v:Value):Prop:=∃us,RdL M l x us/\v=zkn us
theorem RdL.length{M:Fr}:∀{l:List Ty} {x:Els l} {us:List Value},RdL M l x us->us.length=l.length
 |[],_,_,h=>by rw[h];rfl
 |[_],_,_,⟨u,e,_⟩=>by rw[e];rfl
 |_::t'::l,x,_,⟨u,us,e,_,h⟩=>by rw[e,Ay,RdL.length h];rfl
def PC(P:Program)(gl:Fr)(f:FuncId)(args:List Arg)(rt:List Ty)(R:Els rt->Prop):Prop:=
 ∀(h:zb) (M:Fr) (vs:List Value),Fr.le gl M->AgM M h->Xt M args vs->XC P f vs.toArray h λv h'=>
  Keep h.size h h'/\∃M' r,Fr.le M M'/\(∀b,b<h.size->M' b=M b)/\AgM M' h'/\Xu M' rt r v/\R r
theorem PC.mono{args:List Arg}{rt:List Ty}{R R':Els rt->Prop}(H:PC P gl f args rt R)(hR:∀r,R r->R' r):PC P gl f args rt R':=
 λh M vs h1 h2 h3=>(H h M vs h1 h2 h3).mono λv h' ⟨k,M',r,e1,e2,e3,e4,e5⟩=>⟨k,M',r,e1,e2,e3,e4,hR r e5⟩
def BdL:(l:List Ty)->Els l->Prop
 |[],_=>True
 |[t],x=>Bd t x
 |t::t'::l,x=>Bd t x.1/\BdL (t'::l) x.2
theorem RdV.bd{t:Ty}{x:El t}(h:RdV M t x u):Bd t x:=by
 unfold RdV at h
 split at h
 ·obtain⟨cs,_,h⟩:=h;exact h.bd
 ·exact h.bd
theorem RdL.bd{M:Fr}:∀{l:List Ty} {x:Els l} {us:List Value},RdL M l x us->BdL l x
 |[],_,_,_=>trivial
 |[_],_,_,⟨u,_,h⟩=>h.bd
 |_::_::_,_,_,⟨_,_,_,h,h'⟩=>⟨h.bd,RdL.bd h'⟩
theorem PC.bd{args:List Arg}{rt:List Ty}{R:Els rt->Prop}(H:(∀a∈args,Bd a.t a.x)->PC P gl f args rt R):PC P gl f args rt R:=by
 intro h M vs h1 h2 h3
 refine H ?_ h M vs h1 h2 h3
 clear H h1 h2
 induction args generalizing vs with
 |nil=>intro a ha;cases ha
 |cons a args ih=>
  cases vs with
  |nil=>exact h3.elim
  |cons u us=>
   intro b hb
   rcases Af.1 hb with rfl|hb
   ·exact RdV.bd h3.1
   ·exact ih us h3.2 b hb
def gOf(t:Ty)(x:El t):AG:=bif zdm t then .agg (Js t x)else(match Js t x with
 |[y]=>.a y
 |l=>.agg l)
theorem zsg{t:Ty}{x:El t}(h:RdV γ.M t x u):DenG γ (gOf t x) u:=by
 unfold RdV at h
 unfold gOf
 split at h
 ·rename_i ha
  rw[ha]
  obtain⟨cs,e,h⟩:=h
  exact⟨cs,e,Zi h⟩
 ·rename_i ha
  have O:zdm t=false:=by simpa using ha
  rw[O]
  simp only[cond_false]
  have hd:=Zi (γ:=γ) h
  match hx:Js t x,hd with
  |[y],hd=>exact hd.1
  |[],hd=>exact hd.elim
  |_::_::_,hd=>exact hd.2.elim
def qej:(l:List Ty)->Els l->List AG
 |[],_=>[]
 |[t],x=>[gOf t x]
 |t::t'::l,x=>gOf t x.1::qej (t'::l) x.2
theorem zuj{γ:Gh}:∀{l:List Ty} {x:Els l} {us:List Value},RdL γ.M l x us->All2 (DenG γ) (qej l x) us
 |[],_,_,h=>by rw[h];trivial
 |[_],_,_,⟨u,e,h⟩=>by rw[e];exact⟨zsg h,trivial⟩
 |_::_::_,_,_,⟨u,us,e,h,h'⟩=>by rw[e];exact⟨zsg h,zuj h'⟩
def qca(l:List Ty)(x:Els l):AV:=match qej l x with
 |[g]=>.g g
 |gs=>.tup gs
theorem z4p{l:List Ty}{x:Els l}{v:Value}(h:Xu γ.M l x v):DenV γ (qca l x) v:=by
 obtain⟨us,h,rfl⟩:=h
 have hd:=zuj (γ:=γ) h
 unfold qca
 generalize qej l x=gs at *
 match gs,us,hd with
 |[],[],_=>exact⟨[],rfl,trivial⟩
 |[g],[u],hd=>exact hd.1
 |g::g'::gs,u::u'::us,hd=>exact⟨_,rfl,hd⟩
 |[],_::_,hd=>exact hd.elim
 |_::_,[],hd=>exact hd.elim
 |[_],_::_::_,hd=>exact hd.2.elim
 |_::_::_,[_],hd=>exact hd.2.elim
def qcb(P:Program)(tr:TypeId):Nat->TypeId->Option Ty
 |0,_=>none
 |n+1,t=>bif Nat.beq t tr then some .tree else match P.underlying t with
  |some (.int k)=>some (.int k)
  |some .bool=>some .bool
  |some .string=>some .str
  |some (.slice e)=>match qcb P tr n e with
   |some x=>some (.row x)
   |none=>none
  |some (.struct fs)=>tysOf P (λt=>qcb P tr n t) fs.toList
  |some (.interface _)=>some .err
  |_=>none
where tysOf (P:Program) (f:TypeId->Option Ty):List Field->Option Ty
 |[]=>some .unit
 |[x]=>f x.type
 |x::y::l=>match f x.type,tysOf P f (y::l)with
  |some a,some b=>some (.pair a b)
  |_,_=>none
def tyL(P:Program)(tr:TypeId):List TypeId->Option (List Ty)
 |[]=>some []
 |t::l=>match qcb P tr 8 t,tyL P tr l with
  |some a,some b=>some (a::b)
  |_,_=>none
def qcx:AA->List Nat
 |.own c=>[c]
 |_=>[]
def zwx:List AA->List Nat
 |[]=>[]
 |x::l=>qcx x++zwx l
def qe6:AV->List Nat
 |.g (.a x)=>qcx x
 |.g (.agg l)=>zwx l
 |_=>[]
def Xv:List AV->List Nat
 |[]=>[]
 |v::l=>qe6 v++Xv l
def frzL:List Nat->CS->CS
 |[],C=>C
 |c::l,C=>frzL l (z8w c C)
theorem Inv.frzL{C R:CS}{γ:Gh}{h:zb}:∀(l:List Nat) {C:CS} {γ:Gh},Inv h0 W M0 (C++R) γ h->∃γ',Inv h0 W M0 (frzL l C++R) γ' h/\Gx none γ γ'
 |[],C,γ,I=>⟨γ,I,Gx.refl _ _⟩
 |c::l,C,γ,I=>by
  obtain⟨γ1,I1,g1⟩:=Inv.freeze c C [] I
  obtain⟨γ2,I2,g2⟩:=Inv.frzL (C:=C) (γ:=γ) l I1
  exact⟨γ2,I2,g1.1.trans g2.1,λi hi=>⟨(g2.2 i hi).1.trans (g1.2 i hi).1,(g2.2 i hi).2.trans (g1.2 i hi).2⟩⟩
def zdn(cs:CS)(t:Ty):AV->Option (El t)
 |.g (.agg l)=>bif zdm t then(match collect cs t l with
  |some (y,[])=>some y
  |_=>none)else none
 |.g (.a x)=>bif zdm t then none else zko cs t x
 |_=>none
theorem zbv(hf:z3o γ cs){t:Ty}{av:AV}{y:El t}(h:zdn cs t av=some y)(hd:DenV γ av u):RdV γ.M t y u:=by
 unfold zdn at h
 unfold RdV
 split at h
 ·rename_i l
  cases ha:zdm t with
  |false=>rw[ha]at h;cases h
  |true=>
   rw[ha]at h
   simp only[cond_true]at h
   split at h
   ·rename_i y' hc
    simp only[Ab]at h
    subst h
    obtain⟨us,e,h2⟩:=hd
    obtain⟨c1,c2,rfl,r1,r2⟩:=Ju hf hc h2
    cases c2 with
    |nil=>simp only[if_true];exact⟨c1,by rw[e,Bf],r1⟩
    |cons _ _=>exact r2.elim
   ·cases h
 ·rename_i x
  cases ha:zdm t with
  |true=>rw[ha]at h;cases h
  |false=>
   rw[ha]at h
   simp only[AW,if_false]
   exact wy hf h hd
 ·cases h
def we(cs:CS):List Ty->List AV->Option (List Arg)
 |[],[]=>some []
 |t::ts,v::vs=>match zdn cs t v,we cs ts vs with
  |some x,some l=>some (⟨t,x⟩::l)
  |_,_=>none
 |_,_=>none
theorem xn{γ:Gh}{cs:CS}(hf:z3o γ cs):∀{ts:List Ty} {vs:List AV} {l:List Arg},we cs ts vs=some l->∀{us:List Value},All2 (DenV γ) vs us->Xt γ.M l us
 |[],[],l,h,[],_=>by simp only[we,Ab]at h;subst h;trivial
 |[],[],_,_,_::_,hd=>hd.elim
 |t::ts,v::vs,l,h,[],hd=>hd.elim
 |t::ts,v::vs,l,h,u::us,hd=>by
  simp only[we]at h
  split at h
  ·rename_i x l' h1 h2
   simp only[Ab]at h
   subst h
   exact⟨zbv hf h1 hd.1,xn hf h2 hd.2⟩
  ·cases h
 |[],_::_,_,h,_,_=>by simp[we]at h
 |_::_,[],_,h,_,_=>by simp[we]at h
def zsh(ρ:Operand->Option AV):List Operand->Option (List AV)
 |[]=>some []
 |x::l=>match ρ x,zsh ρ l with
  |some v,some vs=>some (v::vs)
  |_,_=>none
theorem Xw{γ:Gh}{ρ:Operand->Option AV}{σ:Operand->Value}(hρ:∀x av,ρ x=some av->DenV γ av (σ x)):∀{l:List Operand} {vs:List AV},zsh ρ l=some vs->All2 (DenV γ) vs (l.map σ)
 |[],vs,h=>by simp only[zsh,Ab]at h;subst h;trivial
 |x::l,vs,h=>by
  simp only[zsh]at h
  split at h
  ·rename_i v O h1 h2
   simp only[Ab]at h
   subst h
   exact⟨hρ _ _ h1,Xw hρ h2⟩
  ·cases h
def ExA(P:Program)(s:Sem Next)(h:zb)(Post:Value->zb->Prop):Prop:=∀B d,
 (∃v d' h',s.run P (mk B d h)=.ok (.value v) (mk B d' h')/\Post v h') \/
 (∃d' h',s.run P (mk B d h)=.ok .skip (mk B d' h')/\Post undef h') \/
 (∃f args,s.run P (mk B d h)=.ok (.enter f args) (mk B d h)/\XC P f args h Post)
theorem ExA.upon(H:ExA P (execOp σ o) h Post)(B:World)(d:Nat){a:Act}{next:Act->World->Prop}{Q:Exit->Act->World->Prop}
  (hn:∀v d' h',Post v h'->next (a.put o.dst v) (mk B d' h')):o.upon P a next Q ((execOp σ o).run P (mk B d h)):=by
 rcases H B d with⟨v,d',h',e,hp⟩|⟨d',h',e,hp⟩|⟨f,args,e,hx⟩
 ·exact upon_value e (hn _ _ _ hp)
 ·exact upon_skip e (hn _ _ _ hp)
 ·rw[e]
  refine(hx B d).mono ?_
  rintro e' w' ⟨v,d',O,rfl,rfl,h3⟩
  exact hn _ _ _ h3
theorem ExA.mono{s:Sem Next}{Post O:Value->zb->Prop}(H:ExA P s h Post)(hp:∀v h',Post v h'->O v h'):ExA P s h O:=λB d=>by
 rcases H B d with⟨v,d',h',e,q⟩|⟨d',h',e,q⟩|⟨f,args,e,hx⟩
 ·exact .inl ⟨v,d',h',e,hp _ _ q⟩
 ·exact .inr (.inl ⟨d',h',e,hp _ _ q⟩)
 ·exact .inr (.inr ⟨f,args,e,hx.mono hp⟩)
def ze8(h0:zb)(W:Nat->Prop)(M0:Fr)(R:CS)(γ:Gh)(K:AV->CS->Option Nat->Prop)(v:Value)(h':zb):Prop:=
 ∃av C' c γ',K av C' c/\DenV γ' av v/\Inv h0 W M0 (C'++R) γ' h'/\Gx c γ γ'
theorem z9b(O:Fr.le gl M0){ρ:Operand->Option AV}{K:AV->CS->Option Nat->Prop}(H:qA P gl o ρ none (C++R) λav=>K av C none)(I:Inv h0 W M0 (C++R) γ h)
  (hρ:∀x av,ρ x=some av->DenV γ av (σ x)):ExA P (execOp σ o) h (ze8 h0 W M0 R γ K):=by
 obtain⟨av,h1,h2⟩:=zhd (h0:=h0) (W:=W) (M0:=M0) O H
 obtain⟨v,hd,hq⟩:=h2 trivial γ h σ I hρ
 exact λB d=>.inl ⟨v,d,h,hq B d,av,C,none,γ,h1,hd,I,Gx.refl _ _⟩
def qcy:Operand->Option FuncId
 |.func f=>some f
 |_=>none
def z9c(P:Program)(tr:TypeId)(f:FuncId):Option (List Ty×List Ty):=match P.funcs[f]? with
 |some fn=>match tyL P tr fn.params.toList,tyL P tr fn.resultTypes.toList with
  |some a,some b=>some (a,b)
  |_,_=>none
 |none=>none
def z9d(P:Program)(gl:Fr)(tr:TypeId)(o:Oper)(ρ:Operand->Option AV)(C R:CS)(K:AV->CS->Prop):Prop:=
 match o.op with
 |.call c=>match c.callee with
  |.value x=>match qcy x with
   |some f=>bif qp P f then(match z9c P tr f,zsh ρ c.args.toList with
    |some (ts,rt),some vs=>match we (frzL (Xv vs) C++R) ts vs with
     |some args=>PC P gl f args rt λr=>K (qca rt r) (frzL (Xv vs) C)
     |none=>False
    |_,_=>False)else False
   |none=>False
  |_=>False
 |_=>False
def zwy(P:Program)(gl:Fr)(tr:TypeId)(o:Oper)(ρ:Operand->Option AV)(b:Bool)(cs:CS)(K:AV->Prop):Prop:=
 match o.op with
 |.call c=>match c.callee with
  |.value x=>match qcy x with
   |some f=>bif qp P f then(match z9c P tr f,zsh ρ c.args.toList with
    |some (ts,rt),some vs=>match we cs ts vs with
     |some args=>∃J:Els rt->Prop,(b=true->PC P gl f args rt J)/\∀r,(b=true->J r)->K (qca rt r)
     |none=>False
    |_,_=>False)else False
   |none=>False
  |_=>False
 |_=>False
theorem znb{x:Operand}(h:qcy x=some f):x=.func f:=by
 unfold qcy at h
 split at h
 ·simp only[Ab]at h;rw[h]
 ·cases h
theorem zdo{c:Call}(ho:o.op=.call c)(hc:c.callee=.value (.func f))(hf:qp P f=true)(hσ:σ (.func f)=.func (.func f) #[] #[])(w:World):
  (execOp σ o).run P w=.ok (.enter f (c.args.map σ)) w:=by
 simp only[execOp,ho,resolve,hc,hσ,Eh,Sem.run_bind,Sem.run_pure,Result.andThen_ok,invoke]
 rw[Xl hf]
 simp
theorem znc(O:Fr.le gl M0){args:List Arg}{rt:List Ty}{Rr:Els rt->Prop}(H:PC P gl f args rt Rr)(I:Inv h0 W M0 cs γ h){us:List Value}(ha:Xt γ.M args us):
  XC P f us.toArray h λv h'=>∃r γ',Rr r/\DenV γ' (qca rt r) v/\Inv h0 W M0 cs γ' h'/\Gx none γ γ'/\Keep h.size h h':=
 (H h γ.M us (O.trans I.le) I.ag ha).mono λv h' ⟨k,M',r,e1,e2,e3,e4,e5⟩=>
  ⟨r,{ γ with M:=M' },e5,z4p (γ:={ γ with M:=M' }) e4,I.call k e1 e2 e3,⟨e1,λ_ _=>⟨rfl,rfl⟩⟩,k⟩
theorem z4q(Z:Fr.le gl M0){ρ:Operand->Option AV}{K:AV->CS->Option Nat->Prop}(H:z9d P gl tr o ρ C R λav C'=>K av C' none)(I:Inv h0 W M0 (C++R) γ h)
  (hσ:∀f,σ (.func f)=.func (.func f) #[] #[]) (hρ:∀x av,ρ x=some av->DenV γ av (σ x)):ExA P (execOp σ o) h (ze8 h0 W M0 R γ K):=by
 unfold z9d at H
 split at H
 ·rename_i c ho
  split at H
  ·rename_i x hx
   split at H
   ·rename_i f hf
    cases hcal:qp P f with
    |false=>rw[hcal]at H;exact H.elim
    |true=>
     rw[hcal]at H
     simp only[cond_true]at H
     split at H
     ·rename_i ts rt vs hs aa
      split at H
      ·rename_i args O
       intro B d
       have e:=znb hf
       subst e
       obtain⟨γ1,I1,g1⟩:=Inv.frzL (C:=C) (γ:=γ) (Xv vs) I
       have ha:=xn I1.fz O ((Xw hρ aa).imp λv _ u hu=>hu.gx g1 rfl)
       refine .inr (.inr ⟨f,c.args.map σ,zdo ho hx hcal (hσ f) _,?_⟩)
       have e2:c.args.map σ=(c.args.toList.map σ).toArray:=by rw[<-Dd]
       rw[e2]
       refine(znc Z H I1 ha).mono ?_
       rintro v h' ⟨r,γ',h1,h2,h3,h4,_⟩
       exact⟨_,_,none,γ',h1,h2,h3,g1.1.trans h4.1,λi hi=>⟨(h4.2 i hi).1.trans (g1.2 i hi).1,(h4.2 i hi).2.trans (g1.2 i hi).2⟩⟩
      ·exact H.elim
     ·exact H.elim
   ·exact H.elim
  ·exact H.elim
 ·exact H.elim
theorem zbw{ρ:Operand->Option AV}{b:Bool}{K:AV->Prop}(H:zwy P gl tr o ρ b cs K):(b=false->∃av,K av) /\
  (b=true->Fr.le gl M0->∀γ h σ,Inv h0 W M0 cs γ h->(∀f,σ (.func f)=.func (.func f) #[] #[])->(∀x av,ρ x=some av->DenV γ av (σ x))->∃f args,(∀w,(execOp σ o).run P w=.ok (.enter f args) w) /\
   XC P f args h λv h'=>∃av γ',K av/\DenV γ' av v/\Inv h0 W M0 cs γ' h'/\Gx none γ γ'/\Keep h.size h h'):=by
 unfold zwy at H
 split at H
 ·rename_i c ho
  split at H
  ·rename_i x hx
   split at H
   ·rename_i f hf
    cases hcal:qp P f with
    |false=>rw[hcal]at H;exact H.elim
    |true=>
     rw[hcal]at H
     simp only[cond_true]at H
     split at H
     ·rename_i ts rt vs hs Z
      split at H
      ·rename_i args O
       obtain⟨J,h1,h2⟩:=H
       refine⟨λhb=>⟨_,h2 (qcw rt) (λh=>by rw[hb]at h;cases h)⟩,λhb aa γ h σ I hσ hρ=>?_⟩
       have e:=znb hf
       subst e
       refine⟨f,c.args.map σ,λw=>zdo ho hx hcal (hσ f) w,?_⟩
       have e2:c.args.map σ=(c.args.toList.map σ).toArray:=by rw[<-Dd]
       rw[e2]
       refine(znc aa (h1 hb) I (xn I.fz O (Xw hρ Z))).mono ?_
       rintro v h' ⟨r,γ',g1,g2,g3,g4,g5⟩
       exact⟨_,γ',h2 r (λ_=>g1),g2,g3,g4,g5⟩
      ·exact H.elim
     ·exact H.elim
   ·exact H.elim
  ·exact H.elim
 ·exact H.elim
end
section
variable {P:Program} {t:TypeId} {o:Oper} {d:Nat} {C R:CS} {γ:Gh} {h:zb} {σ:Operand -> Value} {av:AV}
variable {h0 : zb} {W : Nat -> Prop} {M0 : Fr}
def zzh(P:Program)(t:TypeId)(d:Nat)(C R:CS)(K:AV->CS->Option Nat->Prop):Prop:=match zeroOf P t with
 |some z=>bif wu d R then(bif itB (z.cells.toList.map .v)then False else K (.g (.a (.box d 0))) ((d,.box (z.cells.toList.map .v))::jc d C) (some d))else False
 |none=>False
theorem ze9(c:Nat):∀l:List Value,zpg c (l.map .v)=false
 |[]=>rfl
 |_::l=>by simp only[Dq,zpg,zwq,cond_false,ze9 c l]
theorem zau(t:TypeId)(v:Value)(B:World)(d:Nat)(h:zb):(newVar t v).run P (mk B d h)=.ok ⟨h.size,0,none⟩ (mk B d (h.push (.cells v.cells t))):=rfl
theorem zzi(ho:o.op=.alloc t){K:AV->CS->Option Nat->Prop}(H:zzh P t d C R K)(I:Inv h0 W M0 (C++R) γ h):ExA P (execOp σ o) h (ze8 h0 W M0 R γ K):=by
 unfold zzh at H
 split at H
 ·rename_i z hz
  cases hR:wu d R with
  |false=>rw[hR]at H;exact H.elim
  |true=>
   rw[hR]at H
   cases hit:itB (z.cells.toList.map .v)with
   |true=>rw[hit]at H;exact H.elim
   |false=>
   rw[hit]at H
   intro B e
   refine .inl ⟨.pointer (some ⟨h.size,0,none⟩),e,h.push (.cells z.cells t),?_,_,_,_,zyg γ d h.size,H,?_,?_,Xq _ _ _⟩
   ·have O:=Jy hz h B e
    simp only[execOp,ho]
    refine Jm ?_
    unfold Instr.alloc
    rw[Sem.run_bind,O]
    simp only[Result.andThen_ok]
    rw[Sem.run_bind,zau]
    rfl
   ·simp only[DenV,DenG,DenA,Qf]
   ·have:=I.newBox (c:=d) hR (Qh γ z.cells.toList) (ze9 d _) hit t
    simpa using this
 ·exact H.elim
def qe7(t:TypeId)(d:Nat)(l:List AA)(C R:CS)(K:AV->CS->Option Nat->Prop):Prop:=
 bif wu d R then(bif zpg d l then False else(bif itB l then False else K (.g (.a (.box d 0))) ((d,.box l)::jc d C) (some d)))else False
theorem z9e{x:Operand}(ho:o.op=.box t x){l:List AA}{K:AV->CS->Option Nat->Prop}(H:qe7 t d l C R K)(I:Inv h0 W M0 (C++R) γ h)
  (hl:All2 (DenA γ) l (σ x).cells.toList):ExA P (execOp σ o) h (ze8 h0 W M0 R γ K):=by
 unfold qe7 at H
 cases hR:wu d R with
 |false=>rw[hR]at H;exact H.elim
 |true=>
  rw[hR]at H
  cases hm:zpg d l with
  |true=>rw[hm]at H;exact H.elim
  |false=>
   rw[hm]at H
   cases hit:itB l with
   |true=>rw[hit]at H;exact H.elim
   |false=>
   rw[hit]at H
   intro B e
   refine .inl ⟨.pointer (some ⟨h.size,0,none⟩),e,h.push (.cells (σ x).cells t),?_,_,_,_,zyg γ d h.size,H,?_,?_,Xq _ _ _⟩
   ·simp only[execOp,ho]
    refine Jm ?_
    unfold Instr.box
    rw[Sem.run_bind,zau]
    rfl
   ·simp only[DenV,DenG,DenA,Qf]
   ·have:=I.newBox (c:=d) hR hl hm hit t
    simpa using this
def zzj:AA->Bool
 |.v x=>x.oneCell'
 |_=>true
def zie:List AA->Bool
 |[]=>true
 |x::l=>bif zzj x then zie l else false
theorem zwz{x:AA}{u:Value}(h:zzj x=true)(hd:DenA γ x u):u.oneCell'=true:=by
 cases x with
 |v y=>rw[show u=y from hd];exact h
 |d t y=>exact Rd.one (show Rd γ.M t y [u]from hd) u (by simp)
 |box c o=>rw[show u=_ from hd];rfl
 |own c=>rw[show u=_ from hd];rfl
 |oelt c z i o=>obtain⟨g,_,e⟩:=hd;rw[e];rfl
 |elt t y o=>obtain⟨b,f,cs,e,_⟩:=hd;rw[e];rfl
 |dc t xs=>obtain⟨s,e,_⟩:=hd;rw[e];rfl
theorem zif{γ:Gh}:∀{l:List AA} {us:List Value},zie l=true->All2 (DenA γ) l us->∀u∈us,u.oneCell'=true
 |[],[],_,_,u,hu=>by cases hu
 |[],_::_,_,h,_,_=>h.elim
 |_::_,[],_,h,_,_=>h.elim
 |x::l,v::us,h,hd,u,hu=>by
  simp only[zie]at h
  cases hx:zzj x with
  |false=>rw[hx]at h;cases h
  |true=>
   rw[hx]at h
   rcases Af.1 hu with rfl|hu
   ·exact zwz hx hd.1
   ·exact zif h hd.2 u hu
def zzk(c:Nat):CS->Bool
 |[]=>true
 |(j,_)::l=>bif Nat.beq j c then false else zzk c l
theorem zav{c:Nat}:∀{l:CS},zzk c l=true->∀x∈l,x.1≠c
 |[],_,x,hx=>by cases hx
 |(j,k)::l,h,x,hx=>by
  simp only[zzk]at h
  cases hb:Nat.beq j c with
  |true=>rw[hb]at h;cases h
  |false=>
   rw[hb]at h
   rcases Af.1 hx with rfl|hx
   ·intro e;simp only at e;subst e;simp at hb
   ·exact zav h x hx
theorem zbx{P:Program}{g o:Nat}:∀(vs:List Value) (i:Nat) (w:World),(storeCells ⟨g,o,none⟩ vs i).run P w=(storeCells ⟨g,0,none⟩ vs (o+i)).run P w
 |[],i,w=>rfl
 |v::vs,i,w=>by
  unfold storeCells
  rw[Sem.run_bind,Sem.run_bind,zm,zm,AH]
  congr 1
  funext a w'
  exact zbx vs (i+1) w'
theorem Wq{n:Nat}(hi:jb P t=true)(hs:ja P t=n){b o:Nat}{cs:Array Value}{T:TypeId}(e:h[b]?=some (.cells cs T (0,0))){v:Value}(hv:v.cells.size=n)(hl:o+n<=cs.size)(h1:∀u∈v.cells.toList,u.oneCell'=true)(B:World)(d:Nat):
  ∃h',(Ai t (.pointer (some ⟨b,o,none⟩)) v).run P (mk B d h)=.ok () (mk B d h')/\h'[b]?=some (.cells (cs.toList.take o++v.cells.toList++cs.toList.drop (o+n)).toArray T (0,0))/\h'.size=h.size/\∀j,j≠b->h'[j]?=h[j]?:=by
 obtain⟨h',r1,r2,r3,r4⟩:=Qd (P:=P) B d v.cells.toList (o+0) h cs e (by simp;omega) h1
 refine⟨h',?_,by rw[r2];simp[hv],r3,r4⟩
 have hz:=QExec.sizeOf (P:=P) (h:=h) (j7 hi).choose_spec B d
 unfold Ai Es
 simp only[Sem.run_bind,Sem.run_pure,Result.andThen_ok]
 unfold storeVar
 rw[Sem.run_bind,hz]
 simp only[Result.andThen_ok]
 rw[hs,hv]
 simp only[ne_eq,not_true_eq_false,if_false]
 rw[zbx]
 exact r1
theorem Yd{α:Type}{L vs:List α}{p:Nat}(h:p+vs.length<=L.length)(q:Nat):(L.take p++vs++L.drop (p+vs.length))[q]?=if q<p then L[q]? else if q<p+vs.length then vs[q-p]? else L[q]?:=by
 have h1:(L.take p).length=p:=by simp;omega
 by_cases h2:q<p
 ·rw[if_pos h2,AP,Bo (by omega),AF,if_pos h2]
 ·rw[if_neg h2]
  by_cases h3:q<p+vs.length
  ·rw[if_pos h3,Bo (by rw[Ao,h1];omega),Bj (by omega),h1]
  ·rw[if_neg h3,Bj (by rw[Ao,h1];omega),AJ,Ao,h1]
   congr 1;omega
theorem RowC.set{M:Fr}{t:Ty}{xs:List (El t)}{cells:List Value}(H:RowC M t xs cells){i:Nat}(hi:i<xs.length){y:El t}{o:Nat}{vs:List Value}(hl:o+vs.length<=sz t)
  (hy:Rd M t y ((((cells.drop (i*sz t)).take (sz t)).take o)++vs++(((cells.drop (i*sz t)).take (sz t)).drop (o+vs.length)))):
  RowC M t (xs.set i y) (cells.take (i*sz t+o)++vs++cells.drop (i*sz t+o+vs.length)):=by
 have Z:(i+1)*sz t<=cells.length:=by rw[H.1];exact AM _ hi
 rw[BH,Dj]at Z
 have hE:((cells.drop (i*sz t)).take (sz t)).length=sz t:=by rw[AR,AY];omega
 refine⟨?_,λj hj=>?_⟩
 ·rw[List.length_set,<-H.1]
  simp only[Ao,AR,AY];omega
 ·rw[List.length_set]at hj
  by_cases O:i=j
  ·subst O
   rw[List.getElem_set_self]
   have e:(((cells.take (i*sz t+o)++vs++cells.drop (i*sz t+o+vs.length)).drop (i*sz t)).take (sz t))=(((cells.drop (i*sz t)).take (sz t)).take o)++vs++(((cells.drop (i*sz t)).take (sz t)).drop (o+vs.length)):=by
    apply A7
    intro k
    rw[Yd (by rw[hE];exact hl),AF,AF,AJ,AJ,Yd (by omega)]
    by_cases hk:k<sz t
    ·simp only[hk,if_true]
     by_cases h1:k<o
     ·rw[if_pos (by omega),if_pos h1]
     ·rw[if_neg (by omega),if_neg h1]
      by_cases h2:k<o+vs.length
      ·rw[if_pos (by omega),if_pos h2];congr 1;omega
      ·rw[if_neg (by omega),if_neg h2]
    ·simp only[hk,if_false]
     rw[if_neg (by omega),if_neg (by omega)]
   rw[e];exact hy
  ·rw[List.getElem_set_ne O]
   have e:(((cells.take (i*sz t+o)++vs++cells.drop (i*sz t+o+vs.length)).drop (j*sz t)).take (sz t))=(cells.drop (j*sz t)).take (sz t):=by
    apply A7
    intro k
    rw[AF,AF,AJ,AJ,Yd (by omega)]
    by_cases hk:k<sz t
    ·simp only[hk,if_true]
     rcases AZ j i with h1|h1
     ·have:(j+1)*sz t<=i*sz t:=AM _ h1
      rw[BH,Dj]at this
      rw[if_pos (by omega)]
     ·have h2:i+1<=j:=by omega
      have:(i+1)*sz t<=j*sz t:=AM _ h2
      rw[BH,Dj]at this
      rw[if_neg (by omega),if_neg (by omega)]
    ·simp only[hk,if_false]
   rw[e];exact H.2 j hj
theorem Inv.setRow{h h':zb}(I:Inv h0 W M0 (C++R) γ h){c:Nat}{e:TypeId}{t:Ty}{xs Z:List (El t)}(hc:(c,Ch.row e t xs)∈C){g:Nat}(hg:(γ.σ c).a.map (·.block)=some g)
  (ho:∀i,i≠g->h'[i]?=h[i]?) (hs:h'.size=h.size) (hd:DenC h0.size γ h' c (.row e t Z)) (hR:∀x∈R,x.1≠c):Inv h0 W M0 ((c,.row e t Z)::zki c C++R) γ h':=by
 have O:=I.sep _ (Aq R hc) g hg
 have aa:∀x∈zki c C++R,blk γ x.1 x.2≠some g:=by
  intro x hx
  have ae:x≠(c,Ch.row e t xs):=by
   rintro rfl
   rcases An.1 hx with hx|hx
   ·exact(Y5 hx).2 rfl
   ·exact hR _ hx rfl
  have af:x∈C++R:=((Zr c C).append_right R).subset hx
  have hp:=@zdh _ (λ(x y:Nat×Ch)=>∀b,blk γ x.1 x.2=some b->blk γ y.1 y.2≠some b) (λx y h b hb ac=>h b ac hb) _ I.apart
  intro hb
  exact hp (Aq R hc) af (λe=>ae e.symm) _ hg hb
 have hI:Inv h0 W M0 (zki c C++R) γ h':=by
  refine I.rest ((Zr c C).append_right R) (c:=none) (Gx.refl _ _) (λx _=>⟨by simp,rfl⟩) (λx hx b hb=>?_) (λb cc eM=>?_) (λi hi hw=>?_) (by omega) (λb hb=>rfl)
  ·exact⟨ho b λe'=>aa x hx (e' ▸ hb),(I.sep x (((Zr c C).append_right R).subset hx) b hb).2⟩
  ·obtain⟨T',m,e'⟩:=I.ag b cc eM
   exact⟨T',m,by rw[ho b λe2=>by rw[e2,O.2]at eM;cases eM];exact e'⟩
  ·refine ho i λe'=>?_
   have h2:=O.1
   rcases h2 with h1|h1
   ·omega
   ·rw[e']at hw;exact hw h1
 refine hI.cons hd (λb hb=>?_) (λb hb x hx=>?_)
 ·simp only[blk,hg,Ab]at hb;subst hb;exact O
 ·simp only[blk,hg,Ab]at hb;subst hb;exact aa x hx
def zzl(P:Program)(t:TypeId)(aa:AA)(l2:List AA)(C R:CS)(K:AV->CS->Option Nat->Prop):Prop:=
 bif jb P t then(bif Nat.beq l2.length (ja P t)then(bif zie l2 then(match aa with
 |.box c o=>match Jt C c with
  |some (.box l)=>bif zzk c R then(bif (bif itB l then true else itB (l.take o++l2++l.drop (o+l2.length)))then False else(bif Nat.ble (o+l2.length) l.length then K (zwt undef) ((c,.box (l.take o++l2++l.drop (o+l2.length)))::zki c C) none else False))else False
  |_=>False
 |.oelt c z i o=>match Jt (frzL (zwx l2) C) c with
  |some (.row e ty xs)=>bif zzk c R then(bif Nat.beq z (sz ty)then(bif Nat.ble (o+l2.length) (sz ty)then ∃y:El ty,xs[i]?=some y/\(match collect (frzL (zwx l2) C++R) ty ((Js ty y).take o++l2++(Js ty y).drop (o+l2.length))with
   |some (y',[])=>K (zwt undef) ((c,.row e ty (xs.set i y'))::zki c (frzL (zwx l2) C)) none
   |_=>False)else False)else False)else False
  |_=>False
 |_=>False)else False)else False)else False
theorem zzm{a x:Operand}(ho:o.op=.store t a x){aa:AA}{l2:List AA}{K:AV->CS->Option Nat->Prop}(H:zzl P t aa l2 C R K)(I:Inv h0 W M0 (C++R) γ h)
  (hl:All2 (DenA γ) l2 (σ x).cells.toList) (ha:DenA γ aa (σ a)):ExA P (execOp σ o) h (ze8 h0 W M0 R γ K):=by
 unfold zzl at H
 cases hi:jb P t with
 |false=>rw[hi]at H;exact H.elim
 |true=>
  rw[hi]at H
  cases hn:Nat.beq l2.length (ja P t)with
  |false=>rw[hn]at H;exact H.elim
  |true=>
   rw[hn]at H
   cases hok:zie l2 with
   |false=>rw[hok]at H;exact H.elim
   |true=>
    rw[hok]at H
    have ay:l2.length=ja P t:=Al hn
    have af:(σ x).cells.size=ja P t:=by rw[<-ay,hl.length];simp
    have h1:=zif hok hl
    simp only[cond_true]at H
    split at H
    ·rename_i c off
     split at H
     ·rename_i l hc
      cases hR:zzk c R with
      |false=>rw[hR]at H;exact H.elim
      |true=>
       rw[hR]at H
       cases hit:itB l with
       |true=>rw[hit]at H;exact H.elim
       |false=>
       rw[hit]at H
       cases hit2:itB (l.take off++l2++l.drop (off+l2.length))with
       |true=>rw[hit2]at H;exact H.elim
       |false=>
       rw[hit2]at H
       simp only[cond_true,cond_false]at H
       cases hble:Nat.ble (off+l2.length) l.length with
       |false=>rw[hble]at H;exact H.elim
       |true=>
        rw[hble]at H
        have aA:=BS hble
        obtain⟨us,e,h2⟩:=I.den _ (Aq R (qj hc))
        rcases e with⟨⟨T,e⟩,_⟩|⟨s,p,e,_⟩
        case inr=>exact absurd e (zue hit h2 s p)
        have aP:=h2.length
        intro B d
        obtain⟨h',r1,r2,r3,r4⟩:=Wq (P:=P) hi rfl e (o:=off) af (by simp;omega) h1 B d
        refine .inr (.inl ⟨d,h',?_,_,_,_,γ,H,Jv _ _,?_,Gx.refl _ _⟩)
        ·simp only[execOp,ho]
         rw[show σ a=_ from ha]
         exact zwg r1
        ·refine I.setBox (qj hc) (us:=us.take off++(σ x).cells.toList++us.drop (off+l2.length)) (.inl ⟨⟨T,?_⟩,λs p=>zue hit2 (((h2.take off).append hl).append (h2.drop _)) s p⟩) r4 r3 ?_ (zav hR)
         ·rw[r2,ay]
         ·exact((h2.take off).append hl).append (h2.drop _)
     ·exact H.elim
    ·rename_i c z i off
     split at H
     ·rename_i e ty xs hc
      cases hR:zzk c R with
      |false=>rw[hR]at H;exact H.elim
      |true=>
       rw[hR]at H
       cases hz:Nat.beq z (sz ty)with
       |false=>rw[hz]at H;exact H.elim
       |true=>
        rw[hz]at H
        cases hble:Nat.ble (off+l2.length) (sz ty)with
        |false=>rw[hble]at H;exact H.elim
        |true=>
         rw[hble]at H
         simp only[cond_true]at H
         obtain⟨y,hy,H⟩:=H
         split at H
         ·rename_i y' aC
          have aA:=BS hble
          obtain⟨γ1,I1,g1⟩:=Inv.frzL (C:=C) (γ:=γ) (zwx l2) I
          have au:=ha.gx g1 rfl
          have aF:=DenL.gx (c:=none) g1 rfl hl
          rw[Al hz]at au
          obtain⟨g,hg,aL⟩:=au
          have ah:=qj hc
          obtain⟨cells,aj,Z,ac,O⟩:=I1.den _ (Aq R ah)
          simp only at aj Z ac O
          have ak:i<xs.length:=(Az.1 hy).1
          have aN:xs[i]=y:=(Az.1 hy).2
          rcases aj.2 with⟨hv,aO⟩|⟨g',cap,az,hv,aM,aJ,aG,ap,am,al⟩
          ·omega
          simp only[AO]at hv
          have aI:g'=g:=by
           have:=hv.1;rw[hg]at this;simp only[Ab,Addr.mk.injEq]at this;exact this.1.symm
          subst aI
          have ae:cells.length=xs.length*sz ty:=Z.1
          have ax:(i+1)*sz ty<=xs.length*sz ty:=AM _ ak
          rw[BH,Dj]at ax
          have aE:xs.length*sz ty<=cap*sz ty:=AM _ (by omega)
          have an:(σ x).cells.toList.length=l2.length:=hl.length.symm
          intro B d
          obtain⟨h',r1,r2,r3,r4⟩:=Wq (P:=P) hi rfl aJ (o:=i*sz ty+off) af (by rw[am];omega) h1 B d
          refine .inr (.inl ⟨d,h',?_,_,_,_,γ1,H,Jv _ _,?_,g1⟩)
          ·simp only[execOp,ho]
           rw[aL]
           exact zwg r1
          ·refine I1.setRow ah (g:=g') (by rw[hg];rfl) r4 r3 ?_ (zav hR)
           have hE:=Z.2 i ak
           rw[aN]at hE
           have ar:=Zi (γ:=γ1) hE
           have aB:=((ar.take off).append aF).append (ar.drop (off+l2.length))
           obtain⟨c1,c2,e1,r5,r6⟩:=Ju I1.fz aC aB
           cases c2 with
           |cons _ _=>exact r6.elim
           |nil=>
            rw[Bf]at e1
            rw[<-e1]at r5
            have ai:=Z.set ak (o:=off) (vs:=(σ x).cells.toList) (by rw[an];exact aA) (by rw[an];exact r5)
            refine⟨_,⟨?_,.inr ⟨g',cap,_,by simp[hv],aM,r2,aG,ap,?_,?_⟩⟩,ai,by simpa using ac,by simpa using O⟩
            ·rw[ai.1,O,List.length_set]
            ·simp only[DZ,Ao,AR,AY,C7]
             have:(σ x).cells.toList.length=ja P t:=by simpa using af
             simp only[C7]at this
             rw[this,am];omega
            ·apply A7
             intro k
             have aD:(σ x).cells.toList.length=ja P t:=by simpa using af
             rw[AF,<-aD]
             simp only
             rw[Yd (L:=cells) (by rw[ae];omega)]
             have aH:cells=az.toList.take (xs.length*sz ty):=by rw[<-al,O]
             rw[Yd (L:=az.toList) (by simp only[C7];rw[am];simp only[C7]at an;omega),aH,O]
             by_cases hk:k<xs.length*sz ty
             ·rw[if_pos hk,AF,if_pos hk]
             ·rw[if_neg hk,AF,if_neg hk]
              rw[if_neg (by omega),if_neg (by omega)]
         ·exact H.elim
     ·exact H.elim
    ·exact H.elim
def nxB(s:Bt)(p:Nat):Bool:=Nat.blt p s.size
def nxP(s:Bt)(p:Nat):Nat:=bif Nat.blt p s.size then p+(Utf8.decode s p).2 else p
def nxR(s:Bt)(p:Nat):Int:=((Utf8.decode s p).1:Int)
def zzn(P:Program)(t:TypeId)(av:AV)(d:Nat)(C R:CS)(K:AV->CS->Option Nat->Prop):Prop:=match av,P.underlying t with
 |.g (.a (.v (.string s))),some .string=>bif wu d R then K (.g (.a (.box d 0))) ((d,.box [.d .iter (s,0)])::jc d C) (some d)else False
 |_,_=>False
theorem zzo{x:Operand}(ho:o.op=.range t x){K:AV->CS->Option Nat->Prop}(H:zzn P t av d C R K)(I:Inv h0 W M0 (C++R) γ h)
  (hd:DenV γ av (σ x)):ExA P (execOp σ o) h (ze8 h0 W M0 R γ K):=by
 unfold zzn at H
 split at H
 ·rename_i s hu
  cases hR:wu d R with
  |false=>rw[hR]at H;exact H.elim
  |true=>
   rw[hR]at H
   intro B e
   refine .inl ⟨.pointer (some ⟨h.size,0,none⟩),e,h.push (.stringIter s 0),?_,_,_,_,zyg γ d h.size,H,?_,?_,Xq _ _ _⟩
   ·simp only[execOp,ho,show σ x=.string s from hd]
    refine Jm ?_
    have hq:=QExec.underlying (h:=h) hu B e
    unfold E3
    rw[Sem.run_bind,hq]
    rfl
   ·simp only[DenV,DenG,DenA,Qf]
   ·exact Inv.newBoxO (c:=d) I hR (l:=[.d .iter (s,0)]) (us:=[Z9 s 0]) ⟨rfl,trivial⟩ rfl (.inr ⟨s,0,rfl,rfl⟩)
 ·exact H.elim
def z9f(av:AV)(C R:CS)(K:AV->CS->Option Nat->Prop):Prop:=match av with
 |.g (.a (.box c 0))=>match Jt C c with
  |some (.box [.d .iter x])=>bif zzk c R then K (.nx (nxB x.1 x.2) (x.2:Int) (nxR x.1 x.2)) ((c,.box [.d .iter (x.1,nxP x.1 x.2)])::zki c C) none else False
  |_=>False
 |_=>False
theorem z4r{x:Operand}(ho:o.op=.next x true){K:AV->CS->Option Nat->Prop}(H:z9f av C R K)(I:Inv h0 W M0 (C++R) γ h)
  (hd:DenV γ av (σ x)):ExA P (execOp σ o) h (ze8 h0 W M0 R γ K):=by
 unfold z9f at H
 split at H
 ·rename_i c
  split at H
  ·rename_i y hc
   cases hR:zzk c R with
   |false=>rw[hR]at H;exact H.elim
   |true=>
    rw[hR]at H
    simp only[cond_true]at H
    obtain⟨us,ob,h2⟩:=I.den _ (Aq R (qj hc))
    have aa:us=[Z9 y.1 y.2]:=by
     match us,h2 with
     |[u],h2=>
      have h3:Rd γ.M .iter y [u]:=h2.1
      simpa[Rd]using h3
    subst aa
    have O:h[γ.β c]?=some (.stringIter y.1 y.2):=by
     rcases ob with⟨_,e⟩|⟨s,p,e1,e2⟩
     ·exact absurd rfl (e _ _)
     ·have e3:y.1=s/\y.2=p:=by
       simp only[Z9,Cq,Value.iface.injEq,Value.agg.injEq,Array.mk.injEq,Value.string.injEq,Value.int.injEq,and_true,true_and]at e1
       exact⟨e1.1,by omega⟩
      rw[e2,e3.1,e3.2]
    have Z:γ.β c<h.size:=(Ac.1 O).1
    intro B d
    have hg:∀(w:World),w.heap[γ.β c]?=some (.stringIter y.1 y.2)->(getObj (γ.β c)).run P w=.ok (.stringIter y.1 y.2) w:=λw e=>by simp[getObj,Sem.run,e]
    have hs:∀(w:World) (o':Obj),w.heap[γ.β c]?=some (.stringIter y.1 y.2)->(setObj (γ.β c) o').run P w=.ok () { w with heap:=w.heap.setIfInBounds (γ.β c) o' }:=λw o' e=>by simp[setObj,Sem.run,e]
    have hx:σ x=.pointer (some ⟨γ.β c,0,none⟩):=hd
    by_cases hb:y.2<y.1.size
    ·have eb:nxB y.1 y.2=true:=by simpa[nxB,CM]using hb
     have ep:nxP y.1 y.2=y.2+(Utf8.decode y.1 y.2).2:=by unfold nxP;rw[show Nat.blt y.2 y.1.size=true from eb];rfl
     refine .inl ⟨.tuple #[.bool true,.int .i64 y.2,.int .i32 (nxR y.1 y.2)],d,h.setIfInBounds (γ.β c) (.stringIter y.1 (nxP y.1 y.2)),?_,_,_,_,γ,H,⟨λ_=>rfl,λhc=>by rw[eb]at hc;cases hc⟩,?_,Gx.refl _ _⟩
     ·simp only[execOp,ho,hx]
      refine Jm ?_
      unfold E7
      simp only
      rw[Sem.run_bind,hg _ O]
      simp only[Result.andThen_ok,hb,if_true]
      rw[Sem.run_bind,hs _ _ O,ep]
      rfl
     ·refine I.setBox (qj hc) (us:=[Z9 y.1 (nxP y.1 y.2)]) (.inr ⟨_,_,rfl,by simp[Z]⟩) (λi hi=>by simp[AL (Ne.symm hi)]) (by simp) ⟨rfl,trivial⟩ (zav hR)
    ·have eb:nxB y.1 y.2=false:=by
      cases h:nxB y.1 y.2 with
      |false=>rfl
      |true=>exact absurd (by simpa[nxB,CM]using h) hb
     have ep:nxP y.1 y.2=y.2:=by unfold nxP;rw[show Nat.blt y.2 y.1.size=false from eb];rfl
     refine .inl ⟨.tuple #[.bool false],d,h,?_,_,_,_,γ,H,⟨λhc=>(by rw[eb]at hc;cases hc),λ_=>rfl⟩,?_,Gx.refl _ _⟩
     ·simp only[execOp,ho,hx]
      refine Jm ?_
      unfold E7
      simp only
      rw[Sem.run_bind,hg _ O]
      simp only[Result.andThen_ok,hb,if_false]
      rfl
     ·refine I.setBox (qj hc) (us:=[Z9 y.1 (nxP y.1 y.2)]) (.inr ⟨_,_,rfl,by rw[ep];exact O⟩) (λi hi=>rfl) rfl ⟨rfl,trivial⟩ (zav hR)
  ·exact H.elim
 ·exact H.elim
end
section
variable {P:Program} {tr t tx e ty:TypeId} {n d m b:Nat} {C R:CS} {γ:Gh} {h:zb} {z u:Value} {xs news:List Value}
variable {h0 : zb} {W : Nat -> Prop} {M0 : Fr}
def zaw(cs:CS)(t:Ty):Nat->List AA->Option (List (El t)×List AA)
 |0,l=>some ([],l)
 |n+1,l=>match collect cs t l with
  |some (y,l')=>match zaw cs t n l' with
   |some (ys,l'')=>some (y::ys,l'')
   |none=>none
  |none=>none
theorem zby{γ:Gh}{cs:CS}(hf:z3o γ cs){t:Ty}:∀{n:Nat} {l l':List AA} {ys:List (El t)},zaw cs t n l=some (ys,l')->∀{us:List Value},All2 (DenA γ) l us->∃c1 c2,us=c1++c2/\RowC γ.M t ys c1/\ys.length=n/\All2 (DenA γ) l' c2
 |0,l,l',ys,h,us,hu=>by
  simp only[zaw,Ab,BG]at h
  obtain⟨rfl,rfl⟩:=h
  exact⟨[],us,rfl,RowC.nil _ _,rfl,hu⟩
 |n+1,l,l',ys,h,us,hu=>by
  simp only[zaw]at h
  split at h
  ·rename_i y l1 h1
   split at h
   ·rename_i O l2 h2
    simp only[Ab,BG]at h
    obtain⟨rfl,rfl⟩:=h
    obtain⟨c1,c2,rfl,r1,r2⟩:=Ju hf h1 hu
    obtain⟨c3,c4,rfl,r3,r4,r5⟩:=zby hf h2 r2
    exact⟨c1++c3,c4,by simp,by simpa using (RowC.single r1).append r3,by simp[r4],r5⟩
   ·cases h
  ·cases h
def zig(P:Program)(el:TypeId)(k:Nat):Option (List Value):=bif Nat.beq k 0 then some []else(match zeroOf P el with
 |some z=>some ((E4 k).map (z.cells[· % z.cells.size]!)).toList
 |none=>none)
def qek:List (Nat×AV)->List AV
 |[]=>[]
 |(_,v)::l=>v::qek l
def zbz(P:Program)(tr:TypeId)(t:TypeId)(n:Nat)(ps:List (Nat×AV))(d:Nat)(C R:CS)(K:AV->CS->Option Nat->Prop):Prop:=
 match z8z P t with
 |some el=>match qcb P tr 8 el,zig P el (n*ja P el)with
  |some ty,some zs=>bif Nat.beq (ja P el) (sz ty)then(bif Nat.ble (n*ja P el) 16777216 then(bif Nat.blt 0 (ja P el)then(bif wu d R then(match zsf (λi=>some (i*ja P el,ja P el)) (zs.map .v) ps with
   |some r=>match zaw (frzL (Xv (qek ps)) C++R) ty n r with
    |some (ys,[])=>K (.g (.a (.own d))) ((d,.row el ty ys)::jc d (frzL (Xv (qek ps)) C)) (some d)
    |_=>False
   |none=>False)else False)else False)else False)else False
  |_,_=>False
 |none=>False
theorem zkp{parts:Array (Nat×Operand)}{o:Oper}(ho:o.op=.buildSlice t n parts){ps:List (Nat×AV)}{ρ:Operand->Option AV}(aj:zdl ρ parts.toList=some ps){K:AV->CS->Option Nat->Prop}
  (H:zbz P tr t n ps d C R K) {σ:Operand->Value} (I:Inv h0 W M0 (C++R) γ h) (hρ:∀x av,ρ x=some av->DenV γ av (σ x)):ExA P (execOp σ o) h (ze8 h0 W M0 R γ K):=by
 unfold zbz at H
 split at H
 ·rename_i el af
  obtain⟨hu,am⟩:=Jw af
  split at H
  ·rename_i ty zs ap O
   cases hz:Nat.beq (ja P el) (sz ty)with
   |false=>rw[hz]at H;exact H.elim
   |true=>
   rw[hz]at H
   cases hb1:Nat.ble (n*ja P el) 16777216 with
   |false=>rw[hb1]at H;exact H.elim
   |true=>
   rw[hb1]at H
   cases hb2:Nat.blt 0 (ja P el)with
   |false=>rw[hb2]at H;exact H.elim
   |true=>
   rw[hb2]at H
   cases hR:wu d R with
   |false=>rw[hR]at H;exact H.elim
   |true=>
   rw[hR]at H
   simp only[cond_true]at H
   split at H
   ·rename_i r hr
    split at H
    ·rename_i ys ak
     obtain⟨γ1,I1,g1⟩:=Inv.frzL (C:=C) (γ:=γ) (Xv (qek ps)) I
     have al:∀x av,ρ x=some av->DenV γ1 av (σ x):=λx av hx=>(hρ x av hx).gx g1 rfl
     obtain⟨ws,e1,e2⟩:=Wp hr (Qh γ1 zs) (zat al aj)
     obtain⟨c1,c2,rfl,r3,r4,r5⟩:=zby I1.fz ak e2
     cases c2 with
     |cons _ _=>exact r5.elim
     |nil=>
     rw[Bf]at *
     have Z:=Al hz
     have ac:0<ja P el:=by simpa[CM]using hb2
     have an:n*ja P el<=16777216:=BS hb1
     have hn:n<=n*ja P el:=Dz _ ac
     have ae:c1.length=n*ja P el:=by rw[r3.1,r4,Z]
     intro B e
     refine .inl ⟨.slice (some ⟨h.size,0,none⟩) n n,e,h.push (.cells c1.toArray el),?_,_,_,_,zsc γ1 d ⟨some ⟨h.size,0,none⟩,n,n⟩,H,?_,?_,?_⟩
     ·have hq:=QExec.underlying (h:=h) hu B e
      have hs:=QExec.sizeOf (P:=P) (h:=h) (j7 am).choose_spec B e
      have e5:(parts.map λx=>(x.1,σ x.2)).toList=parts.toList.map λx=>(x.1,σ x.2):=by rw[Dd]
      have e6:E8 (λi=>some (i*ja P el,ja P el)) zs.toArray (parts.map λx=>(x.1,σ x.2)).toList=some c1.toArray:=by rw[e5];exact e1
      simp only[execOp,ho]
      refine Jm ?_
      unfold Instr.buildSlice
      rw[Sem.run_bind,hq]
      simp only[Result.andThen_ok]
      rw[Sem.run_bind,hs]
      simp only[Result.andThen_ok]
      rw[if_neg (by omega)]
      unfold zig at O
      by_cases aa:n*ja P el=0
      ·rw[if_pos aa]
       rw[aa]at O ⊢
       simp at O
       subst O
       simp only[Sem.run_bind,Sem.run_pure,Result.andThen_ok]
       have e7:Array.map (λx=>(#[]:Array Value)[x % (#[]:Array Value).size]!) (E4 0)=([]:List Value).toArray:=by simp
       rw[e7,e6]
       rfl
      ·rw[if_neg aa]
       have hb:Nat.beq (n*ja P el) 0=false:=by
        cases hh:Nat.beq (n*ja P el) 0 with
        |false=>rfl
        |true=>exact absurd (Al hh) aa
       rw[hb]at O
       simp only[cond_false]at O
       split at O
       ·rename_i z ai
        have ah:=Jy ai h B e
        simp only[Ab]at O
        rw[Sem.run_bind,ah]
        simp only[Result.andThen_ok,Sem.run_bind,Sem.run_pure]
        have e7:Array.map (λx=>z.cells[x % z.cells.size]!) (E4 (n*ja P el))=zs.toArray:=by
         rw[<-O]
        rw[e7,e6]
        rfl
       ·cases O
     ·simp only[DenV,DenG,DenA,yv];rfl
     ·refine I1.newRow hR (by simp) (p:=none) (λi hi _=>by rw[BM,if_neg (by omega)]) (λb hb=>by cases hb) (cells:=c1) ⟨by rw[ae,<-Z],.inr ⟨h.size,n,c1.toArray,rfl,I.size,ww _ _,Ae _,by unfold maxLen;omega,by rw[<-Z];simpa using ae,?_⟩⟩ (λq hq=>.inr (by cases hq;rfl)) r3 (by omega) r4.symm
      rw[AX]
      rw[<-Z];simp;omega
     ·exact⟨g1.1,λi hi=>⟨((Qw γ1 d _).2 i hi).1.trans (g1.2 i (by simp)).1,((Qw γ1 d _).2 i hi).2.trans (g1.2 i (by simp)).2⟩⟩
    ·exact H.elim
   ·exact H.elim
  ·exact H.elim
 ·exact H.elim
theorem Qj{n sz:Nat}{s:Sl}{cells:List Value}(ha:Arr n h s.a cells)(hl:cells.length=s.len*sz)(O:0<sz)(B:World)(d:Nat):
  (CC sz s.len (.slice s.a s.len s.cap)).run P (mk B d h)=.ok cells.toArray (mk B d h):=by
 rcases ha with rfl|⟨b,o,e,_,hc⟩
 ·have h0:s.len=0:=by
   rcases DG s.len with h0|h0
   ·exact h0
   ·have:=Nat.mul_pos h0 O;simp at hl;omega
  rw[h0]
  cases s.a with
  |none=>simp[CC]
  |some p=>simp[CC,loadCells,loadCellsFrom]
 ·rw[e]
  exact run_firstCells_some (mk B d h) sz s.len ⟨b,o,none⟩ s.len s.cap cells hl λj u hu=>by rw[zm];exact hc j u hu
theorem zih{n sz:Nat}{s:Sl}{cells:List Value}(ha:Arr n h s.a cells)(hl:cells.length=s.len*sz)(O:0<sz)(h1:∀u∈cells,u.oneCell'=true){tx e':TypeId}(hk:P.underlying tx=some (.slice e'))(B:World)(d:Nat):
  Src P sz tx (slV s) s.len cells (mk B d h):=
 ⟨.inl ⟨e',hk⟩,λ_=>rfl,Qj ha hl O B d,Qj ha hl O B (d+1),hl,h1⟩
theorem zqb{g o:Nat}{O:Array Value}{T:TypeId}(hg:h[g]?=some (.cells O T (0,0))){vs:List Value}(hl:o+vs.length<=O.size)(h1:∀u∈vs,u.oneCell'=true)(B:World)(d:Nat):
  ∃h',(storeCells ⟨g,o,none⟩ vs 0).run P (mk B d h)=.ok () (mk B d h')/\h'[g]?=some (.cells (O.toList.take o++vs++O.toList.drop (o+vs.length)).toArray T (0,0))/\h'.size=h.size/\∀j,j≠g->h'[j]?=h[j]?:=by
 obtain⟨h',r1,r2,r3,r4⟩:=Qd (P:=P) B d vs (o+0) h O hg (by omega) h1
 exact⟨h',by rw[zbx];exact r1,r2,r3,r4⟩
theorem Wr{sz bytes:Nat}(T:ElemT P t e z sz bytes){base:Nat}{s:Sl}(Z:xs.length=s.len*sz)(aa:∀B d,(CC sz s.len (slV s)).run P (mk B d h)=.ok xs.toArray (mk B d h))
  {x:Value} (hs:∀B d,Src P sz tx x m news (mk B d h)) (O:(s.len+m)*bytes<=140737488355328) (ak:s.len+m<=140737488355328) (aj:base<=h.size) (hg:s.cap<s.len+m) (B:World) (d:Nat):
  ∃c blk,(Au #[t,tx] ty #[slV s,x]).run P (mk B d h)=.ok (.slice (some ⟨h.size,0,none⟩) (s.len+m) c) (mk B (d+1) (h.push (.cells blk e)))/\s.len+m<=c/\c<=maxLen/\blk.size=c*sz/\blk.toList.take ((s.len+m)*sz)=xs++news:=by
 obtain⟨i,hi,hz,ah,ai⟩:=T.info
 subst ah
 subst ai
 have hS:=hs B d
 have ac:=hS.newsLen
 have hr:=run_append_grow_src (P:=P) (mk B d h) t tx ty e i z T.slice hi hz s.a s.len s.cap xs (aa B (d+1)) x m news hS hg (by omega) (growslice_fits (by omega) O)
 have af:=grownCap_ge (mk B d h) (s.len+m) s.cap e
 have ae:=grownCap_le_maxLen (mk B d h) (s.len+m) s.cap e (by unfold maxLen;omega)
 generalize grownCap (mk B d h) (s.len+m) s.cap e=c at *
 refine⟨c,_,hr,af,ae,?_,?_⟩
 ·simp only[Array.size_append,DZ,size_zeroCells,Ao,T.zero,Z,ac,<-BH]
  congr 1
  omega
 ·simp only[Array.toList_append]
  have:(xs++news).length=(s.len+m)*i.size:=by rw[Ao,Z,ac,BH]
  rw[<-this]
  exact Eu
theorem Qa{sz bytes:Nat}(T:ElemT P t e z sz bytes){h h':zb}{s:Sl}{x:Value}{B:World}(hS:Src P sz tx x m news (mk B d h))(O:s.len+m<=s.cap)
  (aa:∀p,s.a=some p->(storeCells (p.add (s.len*sz)) news 0).run P (mk B d h)=.ok () (mk B d h')) (Z:s.a=none->h'=h):(Au #[t,tx] ty #[slV s,x]).run P (mk B d h)=.ok (.slice s.a (s.len+m) s.cap) (mk B d h'):=by
 obtain⟨i,hi,hz,ac,ae⟩:=T.info
 subst ac
 have ht:=T.slice
 unfold slV
 rcases hS.kind with⟨e',hk⟩|hk
 ·cases ha:s.a with
  |none=>rw[Z ha];simp[Au,run_underlying ht,run_underlying hk,sizeOf,typeInfo,hi,hS.len,O,hS.cells]
  |some p=>simp[Au,run_underlying ht,run_underlying hk,sizeOf,typeInfo,hi,hS.len,O,hS.cells,aa p ha]
 ·cases ha:s.a with
  |none=>rw[Z ha];simp[Au,run_underlying ht,run_underlying hk,sizeOf,typeInfo,hi,hS.len,O,hS.cells]
  |some p=>simp[Au,run_underlying ht,run_underlying hk,sizeOf,typeInfo,hi,hS.len,O,hS.cells,aa p ha]
theorem zfa{sz bytes:Nat}(T:ElemT P t e z sz bytes){base:Nat}{s:Sl}(H:Owns h base e sz s xs){x:Value}(hs:∀B d,Src P sz tx x m news (mk B d h))
  (af:(s.len+m)*bytes<=140737488355328) (ai:s.len+m<=140737488355328) (ae:base<=h.size) {K:Value->zb->Prop}
  (hK:∀(s':Sl) (h':zb),s'.len=s.len+m->Owns h' base e sz s' (xs++news)->(∀i,i<h.size->(∀p,s.a=some p->i≠p.block)->h'[i]?=h[i]?)->h.size<=h'.size->(∀p',s'.a=some p'->(∃p,s.a=some p/\p'.block=p.block)\/p'.block=h.size)->K (slV s') h'):
  XRun P (Au #[t,tx] ty #[slV s,x]) h K:=by
 intro B d
 have hS:=hs B d
 have ac:=hS.newsLen
 have Z:=H.1
 have aj:=H.arr
 by_cases aa:s.len+m<=s.cap
 ·rcases H.2 with⟨hv,aC⟩|⟨g,cap,ax,hv,au,hg,aB,al,ak,ah⟩
  ·simp only[AO]at hv
   obtain⟨e1,e2,e3⟩:=hv
   have hm:m=0:=by omega
   subst hm
   have hn:news=[]:=Av (by simpa using ac)
   subst hn
   have hr:=Qa (P:=P) (ty:=ty) T (s:=s) (h':=h) hS aa (λp hp=>by rw[e1]at hp;cases hp) (λ_=>rfl)
   refine⟨_,d,h,hr,hK ⟨s.a,s.len+0,s.cap⟩ h rfl ?_ (λ_ _ _=>rfl) (Ae _) (λp' O=>by rw[show s.a=none from e1]at O;cases O)⟩
   rw[Bf]
   exact H
  ·simp only[AO]at hv
   obtain⟨e1,_,e3⟩:=hv
   have am:h[g]?=some (.cells ax e (0,0)):=hg
   have ay:(s.len+m)*sz<=cap*sz:=AM _ (by omega)
   rw[BH]at ay
   obtain⟨h',r1,r2,r3,r4⟩:=zqb (P:=P) am (o:=s.len*sz) (vs:=news) (by rw[ak];omega) hS.one B d
   have hr:=Qa (P:=P) (ty:=ty) T (s:=s) (h':=h') hS aa (λp hp=>by
    rw[e1]at hp;cases hp;rw[zm,AH];exact r1) (λhn=>by rw[e1]at hn;cases hn)
   refine⟨_,d,h',hr,hK ⟨s.a,s.len+m,s.cap⟩ h' rfl ⟨?_,.inr ⟨g,cap,_,?_,au,r2,(by show s.len+m<=cap;omega),al,?_,?_⟩⟩ (λi hi an=>r4 i λe'=>an _ e1 e') (by omega) (λp' O=>.inl ⟨p',O,rfl⟩)⟩
   ·rw[Ao,Z,ac,BH]
   ·simp[e1,e3]
   ·simp only[DZ,Ao,AR,AY,C7]
    rw[ac,ak]at *;omega
   ·simp only
    rw[ah]
    have:(xs++news).length=(s.len+m)*sz:=by rw[Ao,Z,ac,BH]
    rw[<-this]
    exact Eu
 ·obtain⟨c,blk,hr,ar,az,ap,aA⟩:=Wr (P:=P) (ty:=ty) (base:=base) T Z (λB d=>Qj aj Z T.pos B d) hs af ai ae (by omega) B d
  refine⟨_,d+1,_,hr,hK ⟨some ⟨h.size,0,none⟩,s.len+m,c⟩ _ rfl ⟨?_,.inr ⟨h.size,c,blk,rfl,ae,ww _ _,ar,az,ap,aA⟩⟩ (λi hi _=>by rw[BM,if_neg (by omega)]) (by simp) (λp' O=>.inr (by cases O;rfl))⟩
  rw[Ao,Z,ac,BH]
def Qk(s:Bt):List Int:=s.data.toList.map λb=>(b.toNat:Int)
def z7p:(ty:Ty)->Bt->Option (List (El ty))
 |.int .u8,s=>some (Qk s)
 |_,_=>none
def qe8(P:Program)(cs:CS)(tx:TypeId)(ty:Ty):AV->Option (List (El ty))
 |.g (.a (.v (.string s)))=>match P.underlying tx with
  |some .string=>z7p ty s
  |_=>none
 |.g (.a (.v (.slice none 0 0)))=>match P.underlying tx with
  |some (.slice _)=>some []
  |_=>none
 |.g (.a aa)=>match P.underlying tx with
  |some (.slice _)=>match rowOf cs aa with
   |some r=>Yx (.row r.1) (.row ty) r.2
   |none=>match aa with
    |.own c=>match Jt cs c with
     |some (.row _ t xs)=>Yx (.row t) (.row ty) xs
     |_=>none
    |_=>none
  |_=>none
 |_=>none
theorem RowC.bytes(M:Fr)(s:Bt):RowC M (.int .u8) (Qk s) (byteCells s):=by
 have hl:(byteCells s).length=(Qk s).length:=by unfold byteCells Qk;simp
 refine⟨by rw[hl];simp[sz],λi hi=>?_⟩
 have O:i<(byteCells s).length:=by rw[hl];exact hi
 have e:(byteCells s)[i]=.int .u8 (Qk s)[i]:=by simp only[byteCells,Qk,List.getElem_map]
 have e2:((byteCells s).drop (i*1)).take 1=[(byteCells s)[i]]:=by
  rw[Cg,AE O];rfl
 show((byteCells s).drop (i*1)).take 1=[.int .u8 (Qk s)[i]]
 rw[e2,e]
theorem Yl{t t':Ty}{xs:List (El t)}{ys:List (El t')}(h:Yx (.row t) (.row t') xs=some ys):∃e:t=t',ys=e ▸ xs:=by
 unfold Yx at h
 split at h
 ·rename_i e
  have e':t=t':=by injection e
  subst e'
  simp only[Ab]at h
  exact⟨rfl,h.symm⟩
 ·cases h
theorem zuk{cs:CS}(I:Inv h0 W M0 cs γ h){ty:Ty}{av:AV}{ys:List (El ty)}(hs:qe8 P cs tx ty av=some ys)(ac:0<sz ty)(hd:DenV γ av u):
  ∃news,RowC γ.M ty ys news/\∀B d,Src P (sz ty) tx u ys.length news (mk B d h):=by
 have row:∀{t:Ty} {xs:List (El t)} {n:Nat} {s:Sl} {cells:List Value} {e':TypeId},Yx (.row t) (.row ty) xs=some ys->P.underlying tx=some (.slice e')->u=slV s->s.len=xs.length->RowC γ.M t xs cells->Arr n h s.a cells ->
   ∃news,RowC γ.M ty ys news/\∀B d,Src P (sz ty) tx u ys.length news (mk B d h):=by
  intro t xs n s cells e' hc hu e hl hr ha
  obtain⟨e1,e2⟩:=Yl hc
  subst e1
  simp only at e2
  subst e2
  refine⟨cells,hr,λB d=>?_⟩
  rw[e,<-hl]
  exact zih ha (by rw[hl];exact hr.1) ac hr.one hu B d
 unfold qe8 at hs
 split at hs
 ·rename_i s
  split at hs
  ·rename_i hu
   unfold z7p at hs
   split at hs
   case h_2=>cases hs
   simp only[Ab]at hs
   subst hs
   refine⟨byteCells s,RowC.bytes _ s,λB d=>?_⟩
   rw[show u=.string s from hd]
   have:=Src.ofString (P:=P) (mk B d h) hu s
   have e:(Qk s).length=s.size:=by unfold Qk;rw[Ba,C7];rfl
   rw[e];exact this
  ·cases hs
 ·split at hs
  ·rename_i e' hu
   simp only[Ab]at hs
   subst hs
   refine⟨[],RowC.nil _ _,λB d=>?_⟩
   rw[show u=.slice none 0 0 from hd]
   exact Src.ofNil (mk B d h) hu 0
  ·cases hs
 ·rename_i aa _ _
  split at hs
  ·rename_i e' hu
   split at hs
   ·rename_i r hr
    obtain⟨s,e,hl,hn,cells,O,Z⟩:=(zdi I hr hd).rowC I.ag
    exact row hs hu e hl O Z
   ·split at hs
    ·rename_i c _ _ _
     split at hs
     ·rename_i e t xs hc
      obtain⟨cells,ae,O,hn,hl⟩:=I.den _ (qj hc)
      exact row hs hu (show u=slV _ from hd) hl O ae.arr
     ·cases hs
    ·cases hs
  ·cases hs
 ·cases hs
def znd(P:Program)(el:TypeId)(ty:Ty):Option Nat:=match P.info? el with
 |some i=>match i.zero with
  |some z=>bif (bif Nat.beq i.size (sz ty)then(bif Nat.beq z.cells.size i.size then(bif Nat.blt 0 i.size then Nat.blt 0 i.bytes else false)else false)else false)then some i.bytes else none
  |none=>none
 |none=>none
theorem zly{t el:TypeId}{ty:Ty}(hu:P.underlying t=some (.slice el))(h:znd P el ty=some b):(∃z,ElemT P t el z (sz ty) b)/\0<b:=by
 unfold znd at h
 split at h
 ·rename_i i hi
  split at h
  ·rename_i z hz
   cases h1:Nat.beq i.size (sz ty)with
   |false=>rw[h1]at h;cases h
   |true=>
   cases h2:Nat.beq z.cells.size i.size with
   |false=>rw[h1,h2]at h;cases h
   |true=>
   cases h3:Nat.blt 0 i.size with
   |false=>rw[h1,h2,h3]at h;cases h
   |true=>
   cases h4:Nat.blt 0 i.bytes with
   |false=>rw[h1,h2,h3,h4]at h;cases h
   |true=>
   rw[h1,h2,h3,h4]at h
   simp only[cond_true,Ab]at h
   have e1:=Al h1
   have e2:=Al h2
   have e3:0<i.size:=by simpa[CM]using h3
   have e4:0<i.bytes:=by simpa[CM]using h4
   exact⟨⟨z,hu,⟨i,hi,hz,e1,h⟩,by rw[e2,e1],by rw[<-e1];exact e3⟩,by rw[<-h];exact e4⟩
  ·cases h
 ·cases h
def zfb(P:Program)(tr:TypeId)(t tx:TypeId)(bv sv:AV)(d:Nat)(C R:CS)(K:AV->CS->Option Nat->Prop):Prop:=
 match z8z P t with
 |some el=>match qcb P tr 8 el with
  |some ty=>match znd P el ty,qe8 P (C++R) tx ty sv with
   |some b,some ys=>match bv with
    |.g (.a (.v (.slice none 0 0)))=>bif wu d R then(ys.length*b<=140737488355328/\K (.g (.a (.own d))) ((d,.row el ty ys)::jc d C) (some d))else False
    |.g (.a (.own c))=>match Jt C c with
     |some (.row e t' xs)=>match Yx (.row t') (.row ty) xs with
      |some xs=>bif Nat.beq e el then(bif wu d R then((xs.length+ys.length)*b<=140737488355328/\K (.g (.a (.own d))) ((d,.row el ty (xs++ys))::jc d (zki c C)) (some d))else False)else False
      |none=>False
     |_=>False
    |.g (.a (.dc t' xs))=>match Yx (.row t') (.row ty) xs with
     |some xs=>(xs.length+ys.length)*b<=140737488355328/\K (.g (.a (.d (.row ty) (xs++ys)))) C none
     |none=>False
    |_=>False
   |_,_=>False
  |none=>False
 |none=>False
theorem zdp{n b k:Nat}(hb:0<b)(h:n*b<=k):n<=k:=Nat.le_trans (Dz _ hb) h
theorem zw0{tr t tx ty':TypeId}{bv sv:AV}{K:AV->CS->Option Nat->Prop}(H:zfb P tr t tx bv sv d C R K)(I:Inv h0 W M0 (C++R) γ h)
  {u v:Value} (au:DenV γ bv u) (aJ:DenV γ sv v):XRun P (Au #[t,tx] ty' #[u,v]) h (ze8 h0 W M0 R γ K):=by
 unfold zfb at H
 split at H
 ·rename_i el aD
  obtain⟨hu,a6⟩:=Jw aD
  split at H
  ·rename_i ty aY
   split at H
   ·rename_i b ys hb aG
    obtain⟨⟨z,T⟩,am⟩:=zly hu hb
    obtain⟨news,ai,ak⟩:=zuk I aG T.pos aJ
    split at H
    ·cases hR:wu d R with
     |false=>rw[hR]at H;exact H.elim
     |true=>
     rw[hR]at H
     obtain⟨ae,hK⟩:=H
     rw[show u=slV ⟨none,0,0⟩from au]
     have ac:=zdp am ae
     refine zfa T (Owns.nil h h0.size el (sz ty)) ak (by simpa using ae) (by simpa using ac) I.size λs' h' hl aj hk hs hp=>?_
     rw[BP]at aj
     simp only[AH]at hl
     refine⟨_,_,_,zsc γ d s',hK,?_,I.newRow hR hs (p:=none) (λi hi _=>hk i hi (by simp)) (λb hb=>by cases hb) aj (λq hq=>?_) ai ac hl,Qw _ _ _⟩
     ·simp only[DenV,DenG,DenA,yv]
     ·rcases hp q hq with⟨p,hp,_⟩|hp
      ·simp at hp
      ·exact .inr hp
    ·rename_i c
     split at H
     ·rename_i e t' aN hc
      split at H
      ·rename_i xs af
       cases hee:Nat.beq e el with
       |false=>rw[hee]at H;exact H.elim
       |true=>
       rw[hee]at H
       cases hR:wu d R with
       |false=>rw[hR]at H;exact H.elim
       |true=>
       rw[hR]at H
       obtain⟨ae,hK⟩:=H
       have ac:=zdp am ae
       have al:=qj hc
       obtain⟨e1,e2⟩:=Yl af
       subst e1
       simp only at e2
       subst e2
       have e3:=Al hee
       subst e3
       have ax:=I.den _ (Aq R al)
       obtain⟨cells,ah,Z,aO,O⟩:=ax
       simp only at ah Z O
       rw[show u=slV (γ.σ c)from au]
       refine zfa T ah ak (by rw[O];exact ae) (by rw[O];exact ac) I.size λs' h' hl aj hk hs hp=>?_
       have ay:=I.sep _ (Aq R al)
       have aU:=zdg hR
       have aP:Inv h0 W M0 (zki c C++R) γ h:=I.sub ((Zr c C).append_right R)
       refine⟨_,_,_,zsc γ d s',hK,?_,aP.newRow hR hs (p:=(γ.σ c).a.map (·.block)) (λi hi ar=>hk i hi λp hp e=>ar (by rw[hp,e];rfl)) (λb hb=>?_) aj (λq hq=>?_) (Z.append ai) (by rw[Ao];exact ac) (by rw[hl,O,Ao]),Qw _ _ _⟩
       ·simp only[DenV,DenG,DenA,yv]
       ·obtain⟨h1,h2⟩:=ay b hb
        refine⟨?_,h2,λx hx aH=>?_⟩
        ·simp only[CO]at hb
         obtain⟨p,hp,rfl⟩:=hb
         exact(ah.base_le p hp).1
        ·have aQ:x∈C++R:=((Zr c C).append_right R).subset hx
         have ar:x≠(c,Ch.row e t' xs):=by
          rintro rfl
          rcases An.1 hx with hx|hx
          ·exact(Y5 hx).2 rfl
          ·have aA:=I.apart
           rw[CG]at aA
           exact aA.2.2 _ al _ hx b hb hb
         have hp:=@zdh _ (λ(x y:Nat×Ch)=>∀b,blk γ x.1 x.2=some b->blk γ y.1 y.2≠some b) (λx y h b hb an=>h b an hb) _ I.apart
         exact hp aQ (Aq R al) ar b aH hb
       ·rcases hp q hq with⟨p,hp,aS⟩|hp
        ·exact .inl (by rw[hp,aS];rfl)
        ·exact .inr hp
      ·exact H.elim
     ·exact H.elim
    ·rename_i t' aN
     split at H
     ·rename_i xs af
      obtain⟨ae,hK⟩:=H
      have ac:=zdp am ae
      obtain⟨e1,e2⟩:=Yl af
      subst e1
      simp only at e2
      subst e2
      obtain⟨s,e,aZ,aB⟩:=(show ∃s:Sl,u=slV s/\s.cap=s.len/\Rd γ.M (.row t') xs [u]from au)
      subst e
      obtain⟨s2,e,O,aO,cells,Z,aC⟩:=aB.rowC I.ag
      have e':s=s2:=by cases s;cases s2;simp only[slV,AO]at e;simp[e]
      subst e'
      have ap:cells.length=s.len*sz t':=by rw[O];exact Z.1
      intro B dr
      by_cases hm:ys.length=0
      ·have aE:ys=[]:=Av hm
       subst aE
       have aI:news=[]:=Av (by rw[ai.1];simp)
       subst aI
       have hr:=Qa (P:=P) (ty:=ty') T (s:=s) (h':=h) (ak B dr) (by simp;omega) (λp hp=>by simp[storeCells]) (λ_=>rfl)
       refine⟨_,dr,h,hr,_,C,none,γ,hK,?_,I,Gx.refl _ _⟩
       rw[Bf]
       exact aB
      ·obtain⟨c,aa,hr,aL,aV,a1,aT⟩:=Wr (P:=P) (ty:=ty') (base:=0) T ap (λB d=>Qj aC ap T.pos B d) ak (by rw[O];exact ae) (by rw[O];exact ac) (CY _) (by omega) B dr
       have aM:γ.M h.size=none:=I.ag.none (Ae _)
       have hM:Fr.le γ.M (zgc γ h.size aa).M:=by
        intro b cc eM
        have:Nat.beq b h.size=false:=by
         cases hb:Nat.beq b h.size with
         |false=>rfl
         |true=>rw[Al hb,aM]at eM;cases eM
        simp[zgc,this,eM]
       have aF:AgM (zgc γ h.size aa).M (h.push (.cells aa el)):=by
        intro b cc eM
        by_cases hb:b=h.size
        ·subst hb
         have:cc=aa:=by simp[zgc]at eM;exact eM.symm
         subst this
         exact⟨_,_,ww _ _⟩
        ·have:Nat.beq b h.size=false:=by
          cases an:Nat.beq b h.size with
          |false=>rfl
          |true=>exact absurd (Al an) hb
         simp only[zgc,this,cond_false]at eM
         obtain⟨T',m,e'⟩:=I.ag b cc eM
         exact⟨T',m,by rw[BM,if_neg hb];exact e'⟩
       refine⟨_,dr+1,_,hr,_,C,none,zgc γ h.size aa,hK,?_,I.call (Keep.push h _ (Ae _)) hM (λb hb=>?_) aF,⟨hM,λ_ _=>⟨rfl,rfl⟩⟩⟩
       ·have az:=((Z.append ai).mono hM).rd (b:=h.size) (o:=0) (c:=c) (cs:=aa) (by simp[zgc]) (by rw[A2,Ao,<-O];exact aT) (by rw[Ao,<-O];exact⟨by rw[O];exact ac,aL⟩)
        rw[Ao,<-O]at az
        exact az
       ·have:Nat.beq b h.size=false:=by
         cases an:Nat.beq b h.size with
         |false=>rfl
         |true=>have:=Al an;omega
        simp[this]
     ·exact H.elim
    ·exact H.elim
   ·exact H.elim
  ·exact H.elim
 ·exact H.elim
end
section
variable {cs C R:CS} {γ b:Gh} {h:zb} {u:Value} {P:Program} {o:Oper} {σ:Operand -> Value} {n:Nat} {gl:Fr} {tr:TypeId} {c:qf} {a:Act} {S:List Nat}
variable {h0 : zb} {W : Nat -> Prop} {M0 : Fr}
def z9g(ns:List Int):Bt:=ns.foldl (λr n=>r.push (CZ n.toNat)) ByteArray.empty
def qe9(t:Ty)(xs:List (El t)):Option (List Int):=Yx (.row t) (.row (.int .u8)) xs
def zul(cs:CS):AA->Option ((t:Ty)×List (El t))
 |.own c=>match Jt cs c with
  |some (.row _ t xs)=>some ⟨t,xs⟩
  |some (.fz t xs)=>some ⟨t,xs⟩
  |_=>none
 |aa=>rowOf cs aa
theorem zlz(I:Inv h0 W M0 cs γ h){aa:AA}{r:(t:Ty)×List (El t)}(hr:zul cs aa=some r)(hd:DenA γ aa u):
  ∃s:Sl,u=slV s/\s.len=r.2.length/\∃cells,RowC γ.M r.1 r.2 cells/\Arr h.size h s.a cells:=by
 unfold zul at hr
 split at hr
 ·split at hr
  ·rename_i c e t xs hc
   simp only[Ab]at hr
   subst hr
   obtain⟨cells,Z,O,hn,hl⟩:=I.den _ (qj hc)
   exact⟨_,hd,hl,cells,O,Z.arr⟩
  ·rename_i c t xs hc
   simp only[Ab]at hr
   subst hr
   have:Rd γ.M (.row t) xs [u]:=by rw[show u=_ from hd];exact I.den _ (qj hc)
   obtain⟨s,e,hl,hn,cells,h1,h2⟩:=this.rowC I.ag
   exact⟨s,e,hl,cells,h1,h2⟩
  ·cases hr
 ·obtain⟨s,e,hl,hn,cells,h1,h2⟩:=(zdi I hr hd).rowC I.ag
  exact⟨s,e,hl,cells,h1,h2⟩
def zne(P:Program)(s t:TypeId)(av:AV)(cs:CS)(K:AV->Prop):Prop:=
 match P.underlying s,P.underlying t with
 |some (.slice e),some .string=>match P.underlying e,av with
  |some (.int .u8),.g (.a aa)=>match zul cs aa with
   |some r=>match qe9 r.1 r.2 with
    |some ns=>K (.g (.a (.v (.string (z9g ns)))))
    |none=>False
   |none=>False
  |_,_=>False
 |some (.int _),some .string=>match av with
  |.g (.a (.v (.int _ n)))=>K (.g (.a (.v (.string (EW n)))))
  |_=>False
 |_,_=>False
theorem zzp{M:Fr}{k:IntKind}:∀{ns:List Int} {cells:List Value},RowC M (.int k) ns cells->cells=ns.map (E5 k)
 |ns,cells,H=>by
  apply A7
  intro i
  have hl:cells.length=ns.length:=by rw[H.1];simp[sz]
  rw[B5]
  by_cases hi:i<ns.length
  ·have:((cells.drop (i*1)).take 1)=[.int k ns[i]]:=H.2 i hi
   have e:cells[i]?=some (.int k ns[i]):=by
    have h2:((cells.drop (i*1)).take 1)[0]?=some (.int k ns[i]):=by rw[this];rfl
    rw[AF,if_pos (by omega),AJ]at h2
    simpa using h2
   rw[e,Am hi];rfl
  ·rw[Bu (by omega),Bu (by omega)];rfl
theorem zsi{s t:TypeId}{x:Operand}(ho:o.op=.convert s t x){av:AV}{K:AV->Prop}(H:zne P s t av cs K)(I:Inv h0 W M0 cs γ h)(hd:DenV γ av (σ x)):
  ∃ac v,K ac/\DenV γ ac v/\QExec P (execOp σ o) h (.value v):=by
 have val:∀{v:Value},QExec P (convert s t (σ x)) h v->QExec P (execOp σ o) h (.value v):=λhq=>by
  simp only[execOp,ho];exact QExec.val hq
 unfold zne at H
 split at H
 ·rename_i e hs ht
  split at H
  ·rename_i aa he
   split at H
   ·rename_i r hr
    split at H
    ·rename_i ns af
     refine⟨_,.string (z9g ns),H,rfl,val λB d=>?_⟩
     obtain⟨sl,e1,hl,cells,Z,ae⟩:=zlz I hr hd
     obtain⟨tt,xs⟩:=r
     obtain⟨e2,e3⟩:=Yl af
     simp only at e2
     subst e2
     simp only at e3 hl Z
     subst e3
     have hc:=zzp Z
     subst hc
     have h1:=QExec.underlying (h:=h) hs B d
     have h2:=QExec.underlying (h:=h) ht B d
     have h3:=QExec.underlying (h:=h) he B d
     have O:(Conv.bytesToString (σ x)).run P (mk B d h)=.ok (.string (z9g ns)) (mk B d h):=by
      rw[e1]
      unfold slV
      rcases ae with ah|⟨b,o',e4,_,aj⟩
      ·have ai:ns=[]:=by simpa using ah
       subst ai
       simp only[Dh]at hl
       cases ha:sl.a with
       |none=>simp[Conv.bytesToString,z9g]
       |some p=>
        have:=run_bytesToString (P:=P) (mk B d h) p sl.len sl.cap [] (by rw[hl];simp[loadCells,loadCellsFrom])
        exact this
      ·rw[e4]
       refine run_bytesToString (mk B d h) ⟨b,o',none⟩ sl.len sl.cap ns ?_
       have:=Qj (P:=P) (h:=h) (n:=b+1) (sz:=1) (s:=sl) (cells:=ns.map (E5 .u8)) (.inr ⟨b,o',e4,by omega,aj⟩) (by rw[hl];simp) (by omega) B d
       rw[e4]at this
       simpa[CC]using this
     unfold convert
     rw[Sem.run_bind,h1]
     simp only[Result.andThen_ok]
     rw[Sem.run_bind,h2]
     simp only[Result.andThen_ok]
     rw[e1]at O ⊢
     unfold slV at O ⊢
     simp only[Sem.run_bind,h3,Result.andThen_ok]
     exact O
    ·exact H.elim
   ·exact H.elim
  ·exact H.elim
 ·rename_i k hs ht
  split at H
  ·rename_i k' n
   refine⟨_,.string (EW n),H,rfl,val λB d=>?_⟩
   have h1:=QExec.underlying (h:=h) hs B d
   have h2:=QExec.underlying (h:=h) ht B d
   have e:σ x=.int k' n:=hd
   unfold convert
   rw[Sem.run_bind,h1]
   simp only[Result.andThen_ok]
   rw[Sem.run_bind,h2,e]
   rfl
  ·exact H.elim
 ·exact H.elim
def qcz:BinOp->Option Bool
 |.eql=>some true
 |.neq=>some false
 |_=>none
def qfa(P:Program)(o:Oper)(ρ:Operand->Option AV)(cs:CS):Option (Bool×Nat):=match o.op with
 |.binOp op t x y _=>match qcz op,ρ x,ρ y with
  |some pol,some (.g (.a aa)),some (.g (.a (.v (.slice none 0 0))))=>match zul cs aa,P.underlying t with
   |some ⟨ty,xs⟩,some (.slice _)=>bif Nat.blt 0 (sz ty)then some (pol,xs.length)else none
   |_,_=>none
  |_,_,_=>none
 |_=>none
theorem znf(op:BinOp)(t:TypeId)(x y:Operand)(a b:Option Addr)(l c l' c':Nat)(w:World):(eqGuard op t x y (.slice a l c) (.slice b l' c')).run P w=.ok () w:=by
 unfold eqGuard;cases op <;> rfl
theorem z9h{ρ:Operand->Option AV}{ac:Bool}(hn:qfa P o ρ (C++R)=some (ac,n)){K:AV->CS->Option Nat->Prop}(H:∀b:Bool,(b=true->n=0)->K (.g (.a (.v (.bool (bif ac then b else !b))))) C none)
  (I:Inv h0 W M0 (C++R) γ h) (hρ:∀x av,ρ x=some av->DenV γ av (σ x)):ExA P (execOp σ o) h (ze8 h0 W M0 R γ K):=by
 unfold qfa at hn
 split at hn
 ·rename_i op t x y yt ho
  split at hn
  ·rename_i ah aa O hx hy
   split at hn
   ·rename_i ty xs e hr hu
    cases hz:Nat.blt 0 (sz ty)with
    |false=>rw[hz]at hn;cases hn
    |true=>
     rw[hz]at hn
     simp only[cond_true,Ab,BG]at hn
     obtain⟨rfl,rfl⟩:=hn
     have ai:0<sz ty:=by simpa[CM]using hz
     obtain⟨s,e1,hl,cells,Z,ae⟩:=zlz I hr (hρ _ _ hx)
     have e2:σ y=.slice none 0 0:=hρ _ _ hy
     have af:s.a.isNone=true->xs.length=0:=by
      intro hs
      have hc:cells=[]:=by
       rcases ae with hc|⟨b,o,ha,_⟩
       ·exact hc
       ·rw[ha]at hs;cases hs
      have:=Z.1
      rw[hc]at this
      simp only[Dh]at this
      rcases Nat.mul_eq_zero.1 this.symm with h1|h1
      ·exact h1
      ·omega
     have hK:=H s.a.isNone af
     intro B d
     refine .inl ⟨_,d,h,?_,_,C,none,γ,hK,rfl,I,Gx.refl _ _⟩
     simp only[execOp,ho]
     refine Jm ?_
     rw[e1,e2]
     simp only[slV]
     rw[Sem.run_bind,znf]
     simp only[Result.andThen_ok]
     cases op <;> simp only[qcz,Ab]at O <;> (try (cases O;done)) <;> subst O
     ·simp only[binOp,Sem.run_bind,run_equal_slice_nil _ t _ _ _ _ hu];rfl
     ·simp only[binOp,Sem.run_bind,run_equal_slice_nil _ t _ _ _ _ hu];rfl
   ·cases hn
  ·cases hn
 ·cases hn
def hA0(P:Program)(gl:Fr)(tr:TypeId)(o:Oper)(ρ:Operand->Option AV)(C R:CS)(K:AV->CS->Option Nat->Prop):Prop:=
 match o.op with
 |.alloc t=>match o.dst with
  |some d=>zzh P t d C R K
  |none=>False
 |.box t x=>match o.dst,ρ x with
  |some d,some av=>match zww av with
   |some l=>qe7 t d l C R K
   |none=>False
  |_,_=>False
 |.store t a x=>match ρ a,ρ x with
  |some (.g (.a aa)),some xv=>match zww xv with
   |some l2=>zzl P t aa l2 C R K
   |none=>False
  |_,_=>False
 |.buildSlice t n parts=>match o.dst,zdl ρ parts.toList with
  |some d,some ps=>zbz P tr t n ps d C R K
  |_,_=>False
 |.convert s t x=>bif isQ P o then qA P gl o ρ none (C++R) (λav=>K av C none)else(match ρ x with
  |some av=>zne P s t av (C++R) λO=>K O C none
  |none=>False)
 |.call c=>match c.callee with
  |.builtin .append=>match c.args.toList,c.argTypes.toList,o.dst with
   |[s,x],[t,tx],some d=>match ρ s,ρ x with
    |some bv,some sv=>zfb P tr t tx bv sv d C R K
    |_,_=>False
   |_,_,_=>False
  |.builtin _=>qA P gl o ρ none (C++R) λav=>K av C none
  |_=>z9d P gl tr o ρ C R λav C'=>K av C' none
 |.range t x=>match o.dst,ρ x with
  |some d,some av=>zzn P t av d C R K
  |_,_=>False
 |.next x true=>match ρ x with
  |some av=>z9f av C R K
  |none=>False
 |_=>qA P gl o ρ none (C++R) λav=>K av C none
theorem toList_eq{α:Type}{x:Array α}{l:List α}(h:x.toList=l):x=l.toArray:=by
 have:=congrArg List.toArray h;simpa using this
theorem qc0(Z:Fr.le gl M0){ρ:Operand->Option AV}{K:AV->CS->Option Nat->Prop}(H:hA0 P gl tr o ρ C R K)(I:Inv h0 W M0 (C++R) γ h)
  (hσ:∀f,σ (.func f)=.func (.func f) #[] #[]) (hρ:∀x av,ρ x=some av->DenV γ av (σ x)):ExA P (execOp σ o) h (ze8 h0 W M0 R γ K):=by
 unfold hA0 at H
 split at H
 ·rename_i t ho
  split at H
  ·exact zzi ho H I
  ·exact H.elim
 ·rename_i t x ho
  split at H
  ·rename_i d av hd O
   split at H
   ·rename_i l hl
    exact z9e ho H I (zdj hl (hρ _ _ O))
   ·exact H.elim
  ·exact H.elim
 ·rename_i t a x ho
  split at H
  ·rename_i aa xv ha hx
   split at H
   ·rename_i l hl
    exact zzm ho H I (zdj hl (hρ _ _ hx)) (hρ _ _ ha)
   ·exact H.elim
  ·exact H.elim
 ·rename_i t n parts ho
  split at H
  ·rename_i d ps hd af
   exact zkp ho af H I hρ
  ·exact H.elim
 ·rename_i s t x ho
  cases hq:isQ P o with
  |true=>rw[hq]at H;exact z9b Z H I hρ
  |false=>
   rw[hq]at H
   simp only[cond_false]at H
   split at H
   ·rename_i av O
    obtain⟨ai,v,h1,h2,h3⟩:=zsi ho H I (hρ _ _ O)
    exact λB d=>.inl ⟨v,d,h,h3 B d,ai,C,none,γ,h1,h2,I,Gx.refl _ _⟩
   ·exact H.elim
 ·rename_i c ho
  split at H
  ·rename_i hc
   split at H
   ·rename_i s x t tx d ac ae hd
    split at H
    ·rename_i bv sv hs hx
     have ah:=zw0 (ty':=o.type) H I (hρ _ _ hs) (hρ _ _ hx)
     intro B e
     obtain⟨v,d',h',r,hp⟩:=ah B e
     refine .inl ⟨v,d',h',?_,hp⟩
     have ee:execOp σ o=(Au c.argTypes o.type (c.args.map σ) >>= λx=>(Dv (Ea x):Sem Next)):=by
      simp only[execOp,ho,resolve,hc]
      rfl
     rw[ee,toList_eq ac,toList_eq ae]
     refine Jm ?_
     simpa using r
    ·exact H.elim
   ·exact H.elim
  ·exact z9b Z H I hρ
  ·exact z4q Z H I hσ hρ
 ·rename_i t x ho
  split at H
  ·rename_i d av hd O
   exact zzo ho H I (hρ _ _ O)
  ·exact H.elim
 ·rename_i x ho
  split at H
  ·rename_i av O
   exact z4r ho H I (hρ _ _ O)
  ·exact H.elim
 ·exact z9b Z H I hρ
def hA(P:Program)(gl:Fr)(tr:TypeId)(o:Oper)(ρ:Operand->Option AV)(C R:CS)(K:AV->CS->Option Nat->Prop):Prop:=match qfa P o ρ (C++R)with
 |some (pol,n)=>∀b:Bool,(b=true->n=0)->K (.g (.a (.v (.bool (bif pol then b else !b))))) C none
 |none=>hA0 P gl tr o ρ C R K
theorem qfb(O:Fr.le gl M0){ρ:Operand->Option AV}{K:AV->CS->Option Nat->Prop}(H:hA P gl tr o ρ C R K)(I:Inv h0 W M0 (C++R) γ h)
  (hσ:∀f,σ (.func f)=.func (.func f) #[] #[]) (hρ:∀x av,ρ x=some av->DenV γ av (σ x)):ExA P (execOp σ o) h (ze8 h0 W M0 R γ K):=by
 unfold hA at H
 split at H
 ·rename_i Z n hn
  exact z9h hn H I hρ
 ·exact qc0 O H I hσ hρ
def orA:Option AV->Option AV->Option AV
 |some v,_=>some v
 |none,w=>w
def qfc(b:Bool)(x y:AV):Option AV:=match exV x,exV y with
 |some u,some v=>some (zwt (zyp b u v))
 |_,_=>match x,y with
  |.g (.a (.d t xs)),.g (.a (.d t' ys))=>match Yx t' t ys with
   |some ys=>some (.g (.a (.d t (bif b then xs else ys))))
   |none=>none
  |_,_=>none
theorem z4s{b:Bool}{x y z:AV}(h:qfc b x y=some z){u v:Value}(hx:b=true->DenV γ x u)(hy:b=false->DenV γ y v):DenV γ z (if b=true then u else v):=by
 unfold qfc at h
 split at h
 ·rename_i p q hp hq
  simp only[Ab]at h
  subst h
  have e:(if b=true then u else v)=zyp b p q:=by
   rw[zt6]
   cases b with
   |true=>simp only[if_true];exact zsd hp (hx rfl)
   |false=>simp only[AW,if_false];exact zsd hq (hy rfl)
  rw[e];exact Jv γ _
 ·split at h
  ·rename_i t xs t' ys _
   split at h
   ·rename_i O hc
    simp only[Ab]at h
    subst h
    cases b with
    |true=>exact hx rfl
    |false=>exact Wn hc (hy rfl)
   ·cases h
  ·cases h
def z4t(e:ye)(c:qf)(x a b:Operand)(K:AV->Prop):Prop:=
 match x with
 |.tmp s=>match zm8 e s with
  |some (cs,v)=>match zwu v with
   |some t=>bif suf cs c then(match orA (zh9 e c a) (zh9 e ((s,true)::cs) a),orA (zh9 e c b) (zh9 e ((s,false)::cs) b)with
    |some va,some vb=>match qfc t va vb with
     |some z=>K z
     |none=>False
    |_,_=>False)else False
   |none=>False
  |none=>False
 |_=>False
theorem Ws{e:ye}{x a b:Operand}{K:AV->Prop}(H:z4t e c x a b K):
  ∃z,K z/\∀(n:Nat) (γ:Gh) (O:Act),SatA n e γ O->valid (zw O) c->∃t,O.eval x=.bool t/\DenV γ z (if t=true then O.eval a else O.eval b):=by
 unfold z4t at H
 split at H
 ·rename_i s
  split at H
  ·rename_i cs v hl
   split at H
   ·rename_i t ht
    cases hsf:suf cs c with
    |false=>rw[hsf]at H;exact H.elim
    |true=>
     rw[hsf]at H
     simp only[cond_true]at H
     split at H
     ·rename_i va vb ha hb
      split at H
      ·rename_i z hz
       refine⟨z,H,λn γ O hs hv=>?_⟩
       have Z:=Jl hsf hv
       have hx:zw O s=.bool t:=zia ht ((hs.all _ (Qg hl)).1 Z)
       refine⟨t,hx,z4s hz (λac=>?_) (λaa=>?_)⟩
       ·unfold orA at ha
        split at ha
        ·rename_i w _ h1
         simp only[Ab]at ha;subst ha
         exact qd hs hv h1
        ·exact qd hs (c:=(s,true)::cs) ⟨by rw[hx,ac],Z⟩ ha
       ·unfold orA at hb
        split at hb
        ·rename_i w _ h1
         simp only[Ab]at hb;subst hb
         exact qd hs hv h1
        ·exact qd hs (c:=(s,false)::cs) ⟨by rw[hx,aa],Z⟩ hb
      ·exact H.elim
     ·exact H.elim
   ·exact H.elim
  ·exact H.elim
 ·exact H.elim
def opA(P:Program)(gl:Fr)(tr:TypeId)(o:Oper)(e:ye)(c:qf)(C R:CS)(K:AV->CS->Option Nat->Prop):Prop:=
 match o.op with
 |.pick x a b=>z4t e c x a b λav=>K av C none
 |_=>match Wo e c with
  |some none=>hA P gl tr o (zh9 e c) C R K
  |some (some b)=>bif zhz o then zwy P gl tr o (zh9 e c) b (C++R) (λav=>K av C none)else qA P gl o (zh9 e c) (some b) (C++R) (λav=>K av C none)
  |none=>False
theorem z9i(O:Fr.le gl M0){e:ye}{K:AV->CS->Option Nat->Prop}(H:opA P gl tr o e c C R K)(hs:SatA n e γ a)(I:Inv h0 W M0 (C++R) γ h)(hv:valid (zw a) c):
  ExA P (execOp a.eval o) h (ze8 h0 W M0 R γ K):=by
 have hσ:∀f,a.eval (.func f)=.func (.func f) #[] #[]:=λ_=>rfl
 have hρ:∀x av,zh9 e c x=some av->DenV γ av (a.eval x):=λx av hx=>qd hs hv hx
 unfold opA at H
 split at H
 ·rename_i x y z ho
  obtain⟨av,h1,h2⟩:=Ws H
  obtain⟨t,h3,h4⟩:=h2 n γ a hs hv
  refine λB d=>.inl ⟨_,d,h,?_,av,C,none,γ,h1,h4,I,Gx.refl _ _⟩
  simp only[execOp,ho,h3,asBool,Sem.run_bind,Sem.run_pure,Result.andThen_ok]
 ·split at H
  ·exact qfb O H I hσ hρ
  ·rename_i b hb
   have hg:=Zj hs hb hv
   cases hic:zhz o with
   |true=>
    rw[hic]at H
    simp only[cond_true]at H
    obtain⟨f,args,h1,h2⟩:=(zbw (h0:=h0) (W:=W) (M0:=M0) H).2 hg O γ h a.eval I hσ hρ
    refine λB d=>.inr (.inr ⟨f,args,h1 _,h2.mono ?_⟩)
    rintro v h' ⟨av,γ',g1,g2,g3,g4,_⟩
    exact⟨av,C,none,γ',g1,g2,g3,g4⟩
   |false=>
    rw[hic]at H
    simp only[cond_false]at H
    obtain⟨av,h1,h2⟩:=zhd (h0:=h0) (W:=W) (M0:=M0) O H
    obtain⟨v,hd,hq⟩:=h2 hg γ h a.eval I hρ
    exact λB d=>.inl ⟨v,d,h,hq B d,av,C,none,γ,h1,hd,I,Gx.refl _ _⟩
  ·exact H.elim
theorem qc1{e:ye}{K:AV->CS->Option Nat->Prop}(H:opA P gl tr o e c C R K)(hs:SatA n e γ a)(hv:¬valid (zw a) c):∃av,K av C none:=by
 unfold opA at H
 split at H
 ·obtain⟨av,h1,_⟩:=Ws H
  exact⟨av,h1⟩
 ·split at H
  ·rename_i hg
   have:=zbt hs hg hv
   cases this
  ·rename_i b hb
   have O:=zbt hs hb hv
   simp only[Ab]at O
   cases hic:zhz o with
   |true=>rw[hic]at H;simp only[cond_true]at H;exact(zbw (h0:=#[]) (W:=λ_=>False) (M0:=λ_=>none) H).1 O
   |false=>
    rw[hic]at H
    simp only[cond_false]at H
    obtain⟨av,h1,_⟩:=zhd (h0:=#[]) (W:=λ_=>False) (M0:=gl) (Fr.le.refl _) H
    exact⟨av,h1⟩
  ·exact H.elim
def GxS(S:List Nat)(γ γ':Gh):Prop:=Fr.le γ.M γ'.M/\∀i,i∉S->γ'.β i=γ.β i/\γ'.σ i=γ.σ i
theorem GxS.refl(S:List Nat)(γ:Gh):GxS S γ γ:=⟨Fr.le.refl _,λ_ _=>⟨rfl,rfl⟩⟩
theorem GxS.trans{a b c:Gh}(h:GxS S a b)(k:GxS S b c):GxS S a c:=⟨h.1.trans k.1,λi hi=>⟨(k.2 i hi).1.trans (h.2 i hi).1,(k.2 i hi).2.trans (h.2 i hi).2⟩⟩
theorem GxS.mono{S S':List Nat}{a b:Gh}(h:GxS S a b)(hs:∀x∈S,x∈S'):GxS S' a b:=⟨h.1,λi hi=>h.2 i λhm=>hi (hs i hm)⟩
def qel(c:Option Nat)(d:Option Nat):Bool:=match c,d with
 |none,_=>true
 |some x,some y=>Nat.beq x y
 |some _,none=>false
theorem Gx.toS{c d:Option Nat}{γ γ':Gh}(g:Gx c γ γ')(h:qel c d=true)(hS:∀i,d=some i->i∈S):GxS S γ γ':=by
 refine⟨g.1,λi hi=>g.2 i λe=>?_⟩
 subst e
 cases d with
 |none=>cases h
 |some y=>
  have:i=y:=Al h
  subst this
  exact hi (hS _ rfl)
def wRA(P:Program)(gl:Fr)(tr:TypeId)(n:Nat)(ops:Array Oper)(R:CS)(K:ye->CS->Prop):List Oper->ye->CS->Prop
 |[],e,C=>K (zgd e) C
 |o::rest,e,C=>match Y6 ops e o.guard with
  |some c=>bif yq n c o.dst then opA P gl tr o e c C R (λav C' i=>bif qel i o.dst then wRA P gl tr n ops R K rest (z4j (zuf i e) o.dst c av) C' else False)else False
  |none=>False
theorem zdq{P:Program}{gl:Fr}(ae:Fr.le gl M0){tr:TypeId}{n:Nat}{ops:Array Oper}{R:CS}{K:ye->CS->Prop}{Q:Exit->Act->World->Prop}(B:World):
  ∀(l:List Oper) (e:ye) (C:CS) (γ:Gh) (h:zb) (a:Act) (d:Nat),wRA P gl tr n ops R K l e C->SatA n e γ a->Inv h0 W M0 (C++R) γ h ->
   (∀e' C' γ' a' d' h',SatA n e' γ' a'->Inv h0 W M0 (C'++R) γ' h'->Same (je l) a a'->GxS (je l) γ γ'->K e' C'->Q .normal a' (mk B d' h'))->wpList P ops Q l a (mk B d h)
 |[],e,C,γ,h,a,d,H,hs,I,hQ=>hQ _ _ _ _ _ _ hs.clean I (Same.refl _ _) (GxS.refl _ _) H
 |o::rest,e,C,γ,h,a,d,H,hs,I,hQ=>by
  unfold wRA at H
  split at H
  ·rename_i c hc
   cases hd:yq n c o.dst with
   |false=>rw[hd]at H;exact H.elim
   |true=>
    rw[hd]at H
    simp only[cond_true]at H
    have hw:=Zs hs hc
    have aa:∀i,o.dst=some i->i∈je (o::rest):=λi hi=>by simp[je,hi]
    have O:∀x∈je rest,x∈je (o::rest):=λx hx=>by
     unfold je
     split
     ·exact Ah _ hx
     ·exact hx
    have Z:∀av u d' h' C' i γ',(valid (zw a) c->DenV γ' av u)->(¬valid (zw a) c->u=undef)->Inv h0 W M0 (C'++R) γ' h'->Gx i γ γ'->(bif qel i o.dst then wRA P gl tr n ops R K rest (z4j (zuf i e) o.dst c av) C' else False) ->
      wpList P ops Q rest (a.put o.dst u) (mk B d' h'):=λav u d' h' C' i γ' h1 h2 I' g h3=>by
     cases hid:qel i o.dst with
     |false=>rw[hid]at h3;exact h3.elim
     |true=>
      rw[hid]at h3
      exact zdq ae B rest _ _ _ _ _ _ h3 ((hs.gx g).putO hd h1 h2) I' λe' af aj a' ah ai q1 q2 q3 q4 q5=>
       hQ e' af aj a' ah ai q1 q2 ((Same.put a o.dst u aa).trans (q3.mono O)) ((g.toS hid aa).trans (q4.mono O)) q5
    unfold wpList
    by_cases hv:valid (zw a) c
    ·rw[if_pos (hw.2 hv)]
     refine .inl ((z9i ae H hs I hv).upon B d ?_)
     rintro v d' h' ⟨av,C',i,γ',g1,g2,g3,g4⟩
     exact Z av v d' h' C' i γ' (λ_=>g2) (λac=>absurd hv ac) g3 g4 g1
    ·rw[if_neg (λhx=>hv (hw.1 hx))]
     obtain⟨av,hK⟩:=qc1 H hs hv
     exact Z av undef d h C none γ (λac=>absurd ac hv) (λ_=>rfl) I (Gx.refl _ _) hK
  ·exact H.elim
end
section
variable {cs C R:CS} {γ:Gh} {h:zb} {i:Nat} {e:TypeId} {t:Ty}
variable {h0 : zb} {W : Nat -> Prop} {M0 : Fr}
inductive Shp where
 |dat (t:Ty)
 |own (e:TypeId) (t:Ty)
 deriving DecidableEq
@[reducible] def DS:Shp->Type
 |.dat t=>El t
 |.own _ t=>List (El t)
inductive SG where
 |one (s:Shp)
 |agg (l:List Shp)
structure AnnA where
 slots:List (Nat×SG)
 boxes:List (Nat×List Shp)
 ro:List Nat
 ids:List Nat
abbrev Dy:=(s:Shp)×DS s
@[reducible] def zw1:List Shp->Type->Type
 |[],X=>X
 |s::l,X=>DS s->zw1 l X
def z9j(s s':Shp)(x:DS s):Option (DS s'):=if h:s=s' then some (h ▸ x)else none
def zzq{X:Type}:(l:List Shp)->zw1 l X->(List Dy->X->Prop)->Prop
 |[],f,k=>k [] f
 |s::l,f,k=>∀x:DS s,zzq l (f x) λvs y=>k (⟨s,x⟩::vs) y
def zgo{X:Type}:(l:List Shp)->List Dy->zw1 l X->Option X
 |[],[],f=>some f
 |s::l,d::ds,f=>match z9j d.1 s d.2 with
  |some x=>zgo l ds (f x)
  |none=>none
 |_,_,_=>none
def qc2{X:Type}:(l:List Shp)->(List Dy->X)->zw1 l X
 |[],f=>f []
 |s::l,f=>λx=>qc2 l λvs=>f (⟨s,x⟩::vs)
def zqc{X Y:Type}:(l:List Shp)->zw1 l X->zw1 l Y->zw1 l (X×Y)
 |[],f,g=>(f,g)
 |_::l,f,g=>λx=>zqc l (f x) (g x)
theorem zum{s s':Shp}{x:DS s}{y:DS s'}(h:z9j s s' x=some y):(⟨s',y⟩:Dy)=⟨s,x⟩:=by
 unfold z9j at h
 split at h
 ·rename_i e
  subst e
  have h:=Ax h
  rw[<-h]
 ·cases h
theorem zl0{X:Type}:∀{l:List Shp} {vs:List Dy} {f:zw1 l X} {x:X} {k:List Dy->X->Prop},zgo l vs f=some x->zzq l f k->k vs x
 |[],[],f,x,k,h,g=>by have h:=Ax h;subst h;exact g
 |[],_::_,f,x,k,h,g=>by simp[zgo]at h
 |_::_,[],f,x,k,h,g=>by simp[zgo]at h
 |s::l,d::ds,f,x,k,h,g=>by
  simp only[zgo]at h
  split at h
  ·rename_i y hy
   have:=zl0 h (g y)
   rw[zum hy]at this
   exact this
  ·cases h
theorem zqd{X:Type}:∀{l:List Shp} {vs:List Dy} {f:List Dy->X} {x:X},zgo l vs (qc2 l f)=some x->x=f vs
 |[],[],f,x,h=>(Ax h).symm
 |[],_::_,f,x,h=>by simp[zgo]at h
 |_::_,[],f,x,h=>by simp[zgo]at h
 |s::l,d::ds,f,x,h=>by
  simp only[zgo,qc2]at h
  split at h
  ·rename_i y hy
   have:=zqd h
   rw[zum hy]at this
   exact this
  ·cases h
theorem zqe{X:Type}:∀{l:List Shp} {f:List Dy->X} {k:List Dy->X->Prop},(∀vs,k vs (f vs))->zzq l (qc2 l f) k
 |[],_,_,h=>h []
 |_::_,_,_,h=>λ_=>zqe λ_=>h _
structure Pl where
 id:Nat
 s:Shp
 a:AA
def plL(base:Nat):List Shp->List AA->Option (List Pl)
 |[],[]=>some []
 |s::ss,a::as=>match plL (base+1) ss as with
  |some l=>some (⟨base,s,a⟩::l)
  |none=>none
 |_,_=>none
def zii(e:ye):List (Nat×SG)->Option (List Pl)
 |[]=>some []
 |(i,sg)::l=>match zm8 e i,zii e l with
  |some ([],.g x),some r=>match sg,x with
   |.one s,.a a=>some (⟨100000+64*i,s,a⟩::r)
   |.agg ss,.agg as=>match plL (100000+64*i) ss as with
    |some q=>some (q++r)
    |none=>none
   |_,_=>none
  |_,_=>none
def zij(C:CS):List (Nat×List Shp)->Option (List Pl)
 |[]=>some []
 |(c,ss)::l=>match Jt C c,zij C l with
  |some (.box as),some r=>match plL (1000000+64*c) ss as with
   |some q=>some (q++r)
   |none=>none
  |_,_=>none
def qc3:SG->List Shp
 |.one s=>[s]
 |.agg l=>l
def zun:List (Nat×SG)->List Shp
 |[]=>[]
 |(_,sg)::l=>qc3 sg++zun l
def zzr:List (Nat×List Shp)->List Shp
 |[]=>[]
 |(_,ss)::l=>ss++zzr l
def zb0(J:AnnA):List Shp:=zun J.slots++zzr J.boxes
def zw2:List Pl->List Nat
 |[]=>[]
 |⟨_,.dat _,.own c⟩::l=>c::zw2 l
 |_::l=>zw2 l
def qc4(c:Nat):List Pl->Bool
 |[]=>false
 |p::l=>bif (bif Nat.beq p.id c then true else zwq c p.a)then true else qc4 c l
def zng(R:CS):List Pl->CS->Option CS
 |[],C=>some C
 |p::l,C=>match p.s with
  |.dat _=>zng R l C
  |.own e t=>bif qc4 p.id l then none else(match p.a with
   |.own c=>match Jt C c with
    |some (.row e' t' xs)=>match Yx (.row t') (.row t) xs with
     |some ys=>bif Nat.beq e e' then(bif Nat.beq c p.id then zng R l C else(bif wu p.id R then zng R l ((p.id,.row e t ys)::jc p.id (zki c C))else none))else none
     |none=>none
    |_=>none
   |.v (.slice none 0 0)=>bif wu p.id R then zng R l ((p.id,.row e t [])::jc p.id C)else none
   |_=>none)
theorem zl1(I:Inv h0 W M0 cs γ h){x y:Nat×Ch}(hx:x∈cs)(hy:y∈cs)(O:x≠y):∀b,blk γ x.1 x.2=some b->blk γ y.1 y.2≠some b:=
 @zdh _ (λ(x y:Nat×Ch)=>∀b,blk γ x.1 x.2=some b->blk γ y.1 y.2≠some b) (λx y h b hb Z=>h b Z hb) _ I.apart _ _ hx hy O
theorem Inv.rename(I:Inv h0 W M0 (C++R) γ h){c i:Nat}(hR:wu i R=true){xs:List (El t)}(hc:(c,Ch.row e t xs)∈C):
  Inv h0 W M0 ((i,.row e t xs)::jc i (zki c C)++R) (zsc γ i (γ.σ c)) h:=by
 have O:(jc i (zki c C)++R).Sublist (C++R):=(((xe i _).trans (Zr c C))).append_right R
 have Z:(c,Ch.row e t xs)∈C++R:=Aq R hc
 have af:∀x∈jc i (zki c C)++R,∀b,blk γ c (.row e t xs)=some b->blk γ x.1 x.2≠some b:=by
  intro x hx b hb ac
  have ae:x≠(c,Ch.row e t xs):=by
   rintro rfl
   rcases An.1 hx with hx|hx
   ·exact(Y5 ((xe i _).subset hx)).2 rfl
   ·have aa:=I.apart
    rw[CG]at aa
    exact aa.2.2 _ hc _ hx b hb hb
  exact zl1 I (O.subset hx) Z ae b ac hb
 have hI:Inv h0 W M0 (jc i (zki c C)++R) (zsc γ i (γ.σ c)) h:=
  I.rest O (Qw γ i _) (zbs hR) (λx hx b hb=>⟨rfl,(I.sep x (O.subset hx) b hb).2⟩) I.ag (λ_ _ _=>rfl) (Ae _) (λ_ _=>rfl)
 obtain⟨cells,h1,h2,h3,h4⟩:=I.den _ Z
 have eb:∀b,blk (zsc γ i (γ.σ c)) i (.row e t xs)=some b->blk γ c (.row e t xs)=some b:=λb hb=>by simpa[blk,yv]using hb
 refine hI.cons ⟨cells,by rw[yv];exact h1,h2,h3,by rw[yv];exact h4⟩ (λb hb=>I.sep _ Z b (eb b hb)) (λb hb x hx e'=>?_)
 rw[zlt (Qw γ i _) _ (zbs hR x hx).1]at e'
 exact af x hx b (eb b hb) e'
theorem Inv.nilRow(I:Inv h0 W M0 (C++R) γ h)(hR:wu i R=true)(e:TypeId)(t:Ty):
  Inv h0 W M0 ((i,.row e t [])::jc i C++R) (zsc γ i ⟨none,0,0⟩) h:=by
 have O:=(xe i C).append_right R
 have hI:Inv h0 W M0 (jc i C++R) (zsc γ i ⟨none,0,0⟩) h:=
  I.rest O (Qw γ i _) (zbs hR) (λx hx b hb=>⟨rfl,(I.sep x (O.subset hx) b hb).2⟩) I.ag (λ_ _ _=>rfl) (Ae _) (λ_ _=>rfl)
 refine hI.cons ⟨[],by rw[yv];exact Owns.nil _ _ _ _,RowC.nil _ _,by simp,by rw[yv];rfl⟩ (λb hb=>by simp[blk,yv]at hb) (λb hb=>by simp[blk,yv]at hb)
theorem zuo{c:Nat}:∀{l:List Pl},qc4 c l=false->∀p∈l,p.id≠c/\zwq c p.a=false
 |[],_,p,hp=>by cases hp
 |q::l,h,p,hp=>by
  simp only[qc4]at h
  cases hq:(bif Nat.beq q.id c then true else zwq c q.a)with
  |true=>rw[hq]at h;cases h
  |false=>
   rw[hq]at h
   rcases Af.1 hp with rfl|hp
   ·cases hb:Nat.beq p.id c with
    |true=>rw[hb]at hq;cases hq
    |false=>rw[hb]at hq;exact⟨λe=>by rw[e]at hb;simp at hb,hq⟩
   ·exact zuo h p hp
def zw3:List Pl->List Nat
 |[]=>[]
 |p::l=>p.id::zw3 l
theorem zb1{R:CS}{h:zb}:∀{l:List Pl} {C C1:CS} {γ:Gh},zng R l C=some C1->Inv h0 W M0 (C++R) γ h ->
  ∃γ1,Inv h0 W M0 (C1++R) γ1 h/\GxS (zw3 l) γ γ1/\(γ1.M=γ.M/\γ1.β=γ.β)/\∀p∈l,∀e t,p.s=.own e t->∀u,DenA γ p.a u->DenA γ1 (.own p.id) u
 |[],C,C1,γ,hn,I=>by
  simp only[zng,Ab]at hn
  subst hn
  exact⟨γ,I,GxS.refl _ _,⟨rfl,rfl⟩,λp hp=>by cases hp⟩
 |p::l,C,C1,γ,hn,I=>by
  have tl:∀{S:List Nat} {a b:Gh},GxS (zw3 l) a b->GxS (zw3 (p::l)) a b:=λg=>g.mono λx hx=>Ah _ hx
  have Z:∀s,GxS (zw3 (p::l)) γ (zsc γ p.id s):=λs=>⟨Fr.le.refl _,λi hi=>(Qw γ p.id s).2 i (by
   simp only[zw3,Af,not_or]at hi;intro e;simp only[Ab]at e;exact hi.1 e.symm)⟩
  simp only[zng]at hn
  split at hn
  ·rename_i t hs
   obtain⟨γ1,I1,g1,m1,h1⟩:=zb1 hn I
   exact⟨γ1,I1,tl (S:=[]) g1,m1,λq hq e t' O=>by
    rcases Af.1 hq with rfl|hq
    ·rw[hs]at O;cases O
    ·exact h1 q hq e t' O⟩
  ·rename_i e t hs
   cases hm:qc4 p.id l with
   |true=>rw[hm]at hn;cases hn
   |false=>
    rw[hm]at hn
    simp only[cond_false]at hn
    have af:=zuo hm
    have aa:∀{C2:CS} {γ2:Gh},zng R l C2=some C1->Inv h0 W M0 (C2++R) γ2 h->GxS (zw3 (p::l)) γ γ2->(γ2.M=γ.M/\γ2.β=γ.β)->(∀i,i≠p.id->γ2.σ i=γ.σ i/\γ2.β i=γ.β i)->(∀u,DenA γ p.a u->DenA γ2 (.own p.id) u) ->
      ∃γ1,Inv h0 W M0 (C1++R) γ1 h/\GxS (zw3 (p::l)) γ γ1/\(γ1.M=γ.M/\γ1.β=γ.β)/\∀q∈p::l,∀e t,q.s=.own e t->∀u,DenA γ q.a u->DenA γ1 (.own q.id) u:=by
     intro C2 γ2 ai I2 g2 m2 ae ah
     obtain⟨γ1,I1,g1,m1,h1⟩:=zb1 ai I2
     refine⟨γ1,I1,g2.trans (tl (S:=[]) g1),⟨m1.1.trans m2.1,m1.2.trans m2.2⟩,λq hq e' t' O u hu=>?_⟩
     rcases Af.1 hq with rfl|hq
     ·have h2:=ah u hu
      have aj:q.id∉zw3 l:=by
       intro hi
       have:∀{l:List Pl},q.id∈zw3 l->∃p∈l,p.id=q.id:=by
        intro l
        induction l with
        |nil=>intro h;cases h
        |cons x l ih=>
         intro h
         simp only[zw3,Af]at h
         rcases h with h|h
         ·exact⟨x,Ar,h.symm⟩
         ·obtain⟨y,hy,e⟩:=ih h;exact⟨y,Ah _ hy,e⟩
       obtain⟨y,hy,e⟩:=this hi
       exact(af y hy).1 e
      rw[show u=_ from h2]
      simp only[DenA,(g1.2 _ aj).2]
     ·refine h1 q hq e' t' O u ?_
      have gx:Gx (some p.id) γ γ2:=⟨by rw[m2.1];exact Fr.le.refl _,λi hi=>by
       have:=ae i (λe=>hi (by rw[e]))
       exact⟨this.2,this.1⟩⟩
      exact hu.gx gx (af q hq).2
    split at hn
    ·rename_i c ha
     split at hn
     ·rename_i e' t' xs hc
      split at hn
      ·rename_i ys ac
       obtain⟨e1,e2⟩:=Yl ac
       subst e1
       simp only at e2
       subst e2
       cases hee:Nat.beq e e' with
       |false=>rw[hee]at hn;cases hn
       |true=>
        rw[hee]at hn
        have:=Al hee
        subst this
        simp only[cond_true]at hn
        cases hci:Nat.beq c p.id with
        |true=>
         rw[hci]at hn
         simp only[cond_true]at hn
         have ak:=Al hci
         exact aa hn I (GxS.refl _ _) ⟨rfl,rfl⟩ (λ_ _=>⟨rfl,rfl⟩) (λu hu=>by rw[ha,ak]at hu;exact hu)
        |false=>
         rw[hci]at hn
         simp only[cond_false]at hn
         cases hR:wu p.id R with
         |false=>rw[hR]at hn;cases hn
         |true=>
          rw[hR]at hn
          simp only[cond_true]at hn
          refine aa hn (I.rename hR (qj hc)) (Z _) ⟨rfl,rfl⟩ (λi hi=>?_) (λu hu=>?_)
          ·have:=(Qw γ p.id (γ.σ c)).2 i (by simp;exact λe=>hi e.symm)
           exact⟨this.2,this.1⟩
          ·rw[ha]at hu
           rw[show u=_ from hu]
           simp only[DenA,yv]
      ·cases hn
     ·cases hn
    ·rename_i ha
     cases hR:wu p.id R with
     |false=>rw[hR]at hn;cases hn
     |true=>
      rw[hR]at hn
      simp only[cond_true]at hn
      refine aa hn (I.nilRow hR e t) (Z _) ⟨rfl,rfl⟩ (λi hi=>?_) (λu hu=>?_)
      ·have:=(Qw γ p.id ⟨none,0,0⟩).2 i (by simp;exact λe=>hi e.symm)
       exact⟨this.2,this.1⟩
      ·rw[ha]at hu
       rw[show u=_ from hu]
       simp only[DenA,yv]
       rfl
    ·cases hn
def qc5(cs0 cs:CS)(p:Pl):Option Dy:=match p.s with
 |.dat t=>match zko cs0 t p.a with
  |some x=>some ⟨.dat t,x⟩
  |none=>none
 |.own e t=>match Jt cs p.id with
  |some (.row e' t' xs)=>match Yx (.row t') (.row t) xs with
   |some ys=>bif Nat.beq e e' then some ⟨.own e t,ys⟩else none
   |none=>none
  |_=>none
def zw4(cs0 cs:CS):List Pl->Option (List Dy)
 |[]=>some []
 |p::l=>match qc5 cs0 cs p,zw4 cs0 cs l with
  |some d,some v=>some (d::v)
  |_,_=>none
def qem(i:Nat):Dy->AA
 |⟨.dat t,x⟩=>match Js t x with
  |[a]=>a
  |_=>.v undef
 |⟨.own _ _,_⟩=>.own i
def qen:Nat->List Dy->List AA
 |_,[]=>[]
 |i,d::l=>qem i d::qen (i+1) l
def qcc(i:Nat):Dy->CS
 |⟨.own e t,xs⟩=>[(i,.row e t xs)]
 |_=>[]
def zw5:Nat->List Dy->CS
 |_,[]=>[]
 |i,d::l=>qcc i d++zw5 (i+1) l
theorem zup{x:El t}{u:Value}(h:Rd γ.M t x [u]):DenA γ (qem i ⟨.dat t,x⟩) u:=by
 have hd:=Zi (γ:=γ) h
 unfold qem
 match hx:Js t x,hd with
 |[a],hd=>simp only[hx];exact hd.1
 |[],hd=>exact hd.elim
 |_::_::_,hd=>exact hd.2.elim
theorem zw6{t':Ty}{xs:List (El t')}{ys:List (El t)}(h:Yx (.row t') (.row t) xs=some ys):Ch.row e t' xs=Ch.row e t ys:=by
 obtain⟨e1,e2⟩:=Yl h
 subst e1
 simp only at e2
 rw[e2]
theorem zqf{cs0 cs:CS}{p:Pl}{l:List Pl}{v:List Dy}(h:zw4 cs0 cs (p::l)=some v):∃d w,v=d::w/\zw4 cs0 cs l=some w /\
  ((∃t x,p.s=.dat t/\d=⟨.dat t,x⟩/\zko cs0 t p.a=some x)\/(∃e t xs,p.s=.own e t/\d=⟨.own e t,xs⟩/\(p.id,Ch.row e t xs)∈cs)):=by
 simp only[zw4]at h
 split at h
 ·rename_i d w h1 h2
  have h:=Ax h
  refine⟨d,w,h.symm,h2,?_⟩
  unfold qc5 at h1
  split at h1
  ·rename_i t hs
   split at h1
   ·rename_i y hy
    exact .inl ⟨t,y,hs,(Ax h1).symm,hy⟩
   ·cases h1
  ·rename_i e t hs
   split at h1
   ·rename_i e' t' xs hf
    split at h1
    ·rename_i ys hc
     cases he:Nat.beq e e' with
     |false=>rw[he]at h1;cases h1
     |true=>
      rw[he]at h1
      refine .inr ⟨e,t,ys,hs,(Ax (show some (⟨.own e t,ys⟩:Dy)=some d from h1)).symm,?_⟩
      have:=qj hf
      rw[zw6 hc,<-Al he]at this
      exact this
    ·cases h1
   ·cases h1
 ·cases h
theorem Wt{cs0 cs:CS}:∀{q r:List Pl} {v:List Dy},zw4 cs0 cs (q++r)=some v->∃v1 v2,v=v1++v2/\v1.length=q.length/\zw4 cs0 cs q=some v1/\zw4 cs0 cs r=some v2
 |[],r,v,h=>⟨[],v,rfl,rfl,rfl,h⟩
 |p::q,r,v,h=>by
  simp only[A5,zw4]at h
  split at h
  ·rename_i d w h1 h2
   have h:=Ax h
   obtain⟨v1,v2,rfl,e1,e2,e3⟩:=Wt h2
   exact⟨d::v1,v2,by rw[<-h];rfl,by simp[e1],by simp only[zw4,h1,e2],e3⟩
  ·cases h
theorem zqg{base:Nat}:∀{ss:List Shp} {as:List AA} {l:List Pl},plL base ss as=some l->l.length=ss.length/\∀{γ γ1:Gh} {cs0 O:CS} {v:List Dy} {us:List Value},z3o γ cs0->γ1.M=γ.M->zw4 cs0 O l=some v ->
   (∀p∈l,∀e t,p.s=.own e t->∀u,DenA γ p.a u->DenA γ1 (.own p.id) u)->All2 (DenA γ) as us->All2 (DenA γ1) (qen base v) us/\∀x∈zw5 base v,x∈O:=by
 intro ss
 induction ss generalizing base with
 |nil=>
  intro as l h
  cases as with
  |nil=>
   simp only[plL,Ab]at h
   subst h
   refine⟨rfl,λhf hM hd ho hu=>?_⟩
   have hd:=Ax hd
   subst hd
   refine⟨?_,λx hx=>by cases hx⟩
   rename_i us
   cases us with
   |nil=>trivial
   |cons _ _=>exact hu.elim
  |cons a as=>simp[plL]at h
 |cons s ss ih=>
  intro as l h
  cases as with
  |nil=>simp[plL]at h
  |cons a as=>
   simp only[plL]at h
   split at h
   ·rename_i l' hl
    simp only[Ab]at h
    subst h
    obtain⟨e1,ih⟩:=ih hl
    refine⟨by simp[e1],λ {γ γ1 cs0 O v us} hf hM hd ho hu=>?_⟩
    obtain⟨d,w,rfl,h2,h3⟩:=zqf hd
    cases us with
    |nil=>exact hu.elim
    |cons u us=>
     obtain⟨i1,i2⟩:=ih hf hM h2 (λp hp=>ho p (Ah _ hp)) hu.2
     rcases h3 with⟨t,x,hs,rfl,hc⟩|⟨e,t,xs,hs,rfl,hm⟩
     ·have:=wy hf hc hu.1
      rw[<-hM]at this
      refine⟨⟨zup this,i1⟩,λy hy=>i2 y ?_⟩
      simpa[zw5,qcc]using hy
     ·refine⟨⟨ho _ Ar e t hs u hu.1,i1⟩,λy hy=>?_⟩
      simp only[zw5,qcc,A5,BP,Af]at hy
      rcases hy with rfl|hy
      ·exact hm
      ·exact i2 y hy
   ·cases h
def zb2:List (Nat×SG)->List Dy->ye
 |[],_=>[]
 |(i,.one _)::l,d::ds=>(i,[],.g (.a (qem (100000+64*i) d)))::zb2 l ds
 |(_,.one _)::_,[]=>[]
 |(i,.agg ss)::l,ds=>(i,[],.g (.agg (qen (100000+64*i) (ds.take ss.length))))::zb2 l (ds.drop ss.length)
def Wu:List (Nat×SG)->List Dy->CS
 |[],_=>[]
 |(i,.one _)::l,d::ds=>qcc (100000+64*i) d++Wu l ds
 |(_,.one _)::_,[]=>[]
 |(i,.agg ss)::l,ds=>zw5 (100000+64*i) (ds.take ss.length)++Wu l (ds.drop ss.length)
def znh:List (Nat×List Shp)->List Dy->CS
 |[],_=>[]
 |(c,ss)::l,ds=>(c,.box (qen (1000000+64*c) (ds.take ss.length)))::(zw5 (1000000+64*c) (ds.take ss.length)++znh l (ds.drop ss.length))
def zsj:List (Nat×SG)->Nat
 |[]=>0
 |(_,.one _)::l=>1+zsj l
 |(_,.agg ss)::l=>ss.length+zsj l
def z7q(J:AnnA)(ds:List Dy):ye:=zb2 J.slots ds
def chJ(J:AnnA)(ds:List Dy):CS:=Wu J.slots ds++znh J.boxes (ds.drop (zsj J.slots))
theorem Wv{e:ye}{n:Nat}{a:Act}:∀{ss:List (Nat×SG)} {l:List Pl},zii e ss=some l->l.length=zsj ss/\∀{γ γ1:Gh} {cs0 Z:CS} {v w:List Dy},SatA n e γ a->z3o γ cs0->γ1.M=γ.M->zw4 cs0 Z l=some v ->
   (∀p∈l,∀e t,p.s=.own e t->∀u,DenA γ p.a u->DenA γ1 (.own p.id) u)->(∀x∈zb2 ss (v++w),zm9 γ1 (zw a) x)/\∀x∈Wu ss (v++w),x∈Z
 |[],l,h=>by
  simp only[zii,Ab]at h
  subst h
  refine⟨rfl,λ_ _ _ hd _=>?_⟩
  have hd:=Ax hd
  subst hd
  exact⟨λx hx=>(by cases hx),λx hx=>(by cases hx)⟩
 |(i,sg)::ss,l,h=>by
  simp only[zii]at h
  split at h
  ·rename_i x r hl hr
   split at h
   ·rename_i s aa
    simp only[Ab]at h
    subst h
    obtain⟨e1,ih⟩:=Wv (n:=n) (a:=a) hr
    refine⟨by simp[e1,zsj];omega,λ {γ γ1 cs0 Z v w} hs hf hM hd ho=>?_⟩
    obtain⟨d,v',rfl,h2,h3⟩:=zqf hd
    obtain⟨i1,i2⟩:=ih (w:=w) hs hf hM h2 (λp hp=>ho p (Ah _ hp))
    have O:DenA γ aa (zw a i):=(hs.all _ (Qg hl)).1 trivial
    rcases h3 with⟨t,x,ae,rfl,hc⟩|⟨e',t,xs,ae,rfl,hm⟩
    ·have:=wy hf hc O
     rw[<-hM]at this
     refine⟨λy hy=>?_,λy hy=>?_⟩
     ·simp only[A5,zb2,Af]at hy
      rcases hy with rfl|hy
      ·exact⟨λ_=>zup this,λhn=>absurd trivial hn⟩
      ·exact i1 y hy
     ·simp only[A5,Wu,qcc,BP]at hy
      exact i2 y hy
    ·refine⟨λy hy=>?_,λy hy=>?_⟩
     ·simp only[A5,zb2,Af]at hy
      rcases hy with rfl|hy
      ·exact⟨λ_=>ho _ Ar e' t ae _ O,λhn=>absurd trivial hn⟩
      ·exact i1 y hy
     ·simp only[A5,Wu,qcc,BP,Af]at hy
      rcases hy with rfl|hy
      ·exact hm
      ·exact i2 y hy
   ·rename_i ac as
    split at h
    ·rename_i q hq
     simp only[Ab]at h
     subst h
     obtain⟨e1,ih⟩:=Wv (n:=n) (a:=a) hr
     obtain⟨e2,hp⟩:=zqg hq
     refine⟨by simp[e1,e2,zsj],λ {γ γ1 cs0 Z v w} hs hf hM hd ho=>?_⟩
     obtain⟨v1,v2,rfl,l1,d1,d2⟩:=Wt hd
     obtain⟨i1,i2⟩:=ih (w:=w) hs hf hM d2 (λp hp=>ho p (AC _ hp))
     obtain⟨us,hu,O⟩:=(show ∃us,zw a i=.agg us.toArray/\All2 (DenA γ) as us from(hs.all _ (Qg hl)).1 trivial)
     obtain⟨p1,p2⟩:=hp hf hM d1 (λp hp=>ho p (Aq _ hp)) O
     have et:(v1++v2++w).take ac.length=v1:=by rw[<-e2,<-l1,AP,Eu]
     have ed:(v1++v2++w).drop ac.length=v2++w:=by rw[<-e2,<-l1,AP,List.drop_left]
     refine⟨λy hy=>?_,λy hy=>?_⟩
     ·simp only[zb2,et,ed,Af]at hy
      rcases hy with rfl|hy
      ·exact⟨λ_=>⟨us,hu,p1⟩,λhn=>absurd trivial hn⟩
      ·exact i1 y hy
     ·simp only[Wu,et,ed,An]at hy
      rcases hy with hy|hy
      ·exact p2 y hy
      ·exact i2 y hy
    ·cases h
   ·cases h
  ·cases h
theorem zdr{C0:CS}:∀{bs:List (Nat×List Shp)} {l:List Pl},zij C0 bs=some l->∀{R:CS} {γ γ1:Gh} {cs0 O:CS} {v:List Dy} {h:zb},Inv h0 W M0 (C0++R) γ h->z3o γ cs0->γ1.M=γ.M->γ1.β=γ.β->zw4 cs0 O l=some v ->
   (∀p∈l,∀e t,p.s=.own e t->∀u,DenA γ p.a u->DenA γ1 (.own p.id) u) ->
   ∀x∈znh bs v,x∈O\/(DenC h0.size γ1 h x.1 x.2/\(∃as,(x.1,Ch.box as)∈C0)/\(∃as,x.2=Ch.box as)/\∃ss,(x.1,ss)∈bs)
 |[],l,hp,R,γ,γ1,cs0,O,v,h,I,hf,hM,hβ,hd,ho,x,hx=>by cases hx
 |(c,ss)::bs,l,hp,R,γ,γ1,cs0,O,v,h,I,hf,hM,hβ,hd,ho,x,hx=>by
  simp only[zij]at hp
  split at hp
  ·rename_i as r hc hr
   split at hp
   ·rename_i q hq
    simp only[Ab]at hp
    subst hp
    obtain⟨e2,aa⟩:=zqg hq
    obtain⟨v1,v2,rfl,l1,d1,d2⟩:=Wt hd
    obtain⟨us,eb,Z⟩:=I.den _ (Aq R (qj hc))
    obtain⟨p1,p2⟩:=aa hf hM d1 (λp hp=>ho p (Aq _ hp)) Z
    have et:(v1++v2).take ss.length=v1:=by rw[<-e2,<-l1,Eu]
    have ed:(v1++v2).drop ss.length=v2:=by rw[<-e2,<-l1,List.drop_left]
    simp only[znh,et,ed,Af,An]at hx
    rcases hx with rfl|hx|hx
    ·exact .inr ⟨⟨us,by rw[hβ];exact eb,p1⟩,⟨as,qj hc⟩,⟨_,rfl⟩,ss,Ar⟩
    ·exact .inl (p2 x hx)
    ·rcases zdr hr I hf hM hβ d2 (λp hp=>ho p (AC _ hp)) x hx with h1|⟨h1,h2,h3,s',h4⟩
     ·exact .inl h1
     ·exact .inr ⟨h1,h2,h3,s',Ah _ h4⟩
   ·cases hp
  ·cases hp
def zik(C:CS):List (Nat×List Shp)->Bool
 |[]=>true
 |(c,_)::l=>match Jt C c with
  |some (.box _)=>zik C l
  |_=>false
theorem zil{C:CS}:∀{l:List (Nat×List Shp)},zik C l=true->∀c ss,(c,ss)∈l->∃as,(c,Ch.box as)∈C
 |[],_,c,ss,h=>by cases h
 |(c',ss')::l,hb,c,ss,h=>by
  simp only[zik]at hb
  split at hb
  ·rename_i as hf
   rcases Af.1 h with h|h
   ·cases h;exact⟨as,qj hf⟩
   ·exact zil hb c ss h
  ·cases hb
def zw7:CS->Bool
 |[]=>true
 |(c,_)::l=>bif zzk c l then zw7 l else false
theorem zl2:∀{l:CS},zw7 l=true->l.Pairwise λx y=>x.1≠y.1
 |[],_=>.nil
 |(c,k)::l,h=>by
  simp only[zw7]at h
  cases hn:zzk c l with
  |false=>rw[hn]at h;cases h
  |true=>
   rw[hn]at h
   exact BR.2 ⟨λy hy e=>zav hn y hy e.symm,zl2 h⟩
def allIn(S:List Nat):List Nat->Bool
 |[]=>true
 |i::l=>bif memN S i then allIn S l else false
theorem zqh{l:List Nat}(h:memN l i=true):i∈l:=by
 induction l with
 |nil=>cases h
 |cons j l ih=>
  simp only[memN]at h
  cases hb:Nat.beq i j with
  |true=>rw[Al hb];exact Ar
  |false=>rw[hb]at h;exact Ah _ (ih h)
theorem zqi{S:List Nat}:∀{l:List Nat},allIn S l=true->∀i∈l,i∈S
 |[],_,i,h=>by cases h
 |j::l,hl,i,h=>by
  simp only[allIn]at hl
  cases hm:memN S j with
  |false=>rw[hm]at hl;cases hl
  |true=>
   rw[hm]at hl
   rcases Af.1 h with rfl|h
   ·exact zqh hm
   ·exact zqi hl i h
theorem Inv.pick{C F R:CS}(I:Inv h0 W M0 (C++R) γ h)(hnd:zw7 F=true)(hsrc:∀x∈F,DenC h0.size γ h x.1 x.2/\∃k,(x.1,k)∈C/\blk γ x.1 k=blk γ x.1 x.2):Inv h0 W M0 (F++R) γ h where
 ag:=I.ag
 frame:=I.frame
 size:=I.size
 old:=I.old
 le:=I.le
 den:=λx hx=>by
  rcases An.1 hx with hx|hx
  ·exact(hsrc x hx).1
  ·exact I.den x (AC _ hx)
 sep:=λx hx b hb=>by
  rcases An.1 hx with hx|hx
  ·obtain⟨_,k,hk,e⟩:=hsrc x hx
   exact I.sep _ (Aq _ hk) b (by rw[e];exact hb)
  ·exact I.sep x (AC _ hx) b hb
 apart:=by
  have hI:=I.apart
  rw[CG]at hI ⊢
  refine⟨(zl2 hnd).imp_of_mem λ {x y} hx hy hne b hb hb'=>?_,hI.2.1,λx hx y hy b hb=>?_⟩
  ·obtain⟨_,k,hk,e⟩:=hsrc x hx
   obtain⟨_,k',hk',e'⟩:=hsrc y hy
   exact zl1 I (Aq R hk) (Aq R hk') (λe2=>hne (Prod.mk.inj e2).1) b (by rw[e];exact hb) (by rw[e'];exact hb')
  ·obtain⟨_,k,hk,e⟩:=hsrc x hx
   exact hI.2.2 _ hk y hy b (by rw[e];exact hb)
def xtr(J:AnnA)(R:CS)(e:ye)(C:CS):Option (List Dy):=
 match zii e J.slots,zij C J.boxes with
 |some ps,some pb=>match zij (frzL (zw2 (ps++pb)) C) J.boxes with
  |some O=>match zng R (ps++O) (frzL (zw2 (ps++pb)) C)with
   |some C1=>bif zik C1 J.boxes then(bif allIn J.ids (zw3 (ps++O))then(match zw4 (frzL (zw2 (ps++pb)) C++R) C1 (ps++O)with
    |some ds=>bif zw7 (chJ J ds)then some ds else none
    |none=>none)else none)else none
   |none=>none
  |none=>none
 |_,_=>none
theorem zim{J:AnnA}{e:ye}{ds:List Dy}(hx:xtr J R e C=some ds){n:Nat}{a:Act}(hs:SatA n e γ a)(I:Inv h0 W M0 (C++R) γ h):
  ∃γ1,Inv h0 W M0 (chJ J ds++R) γ1 h/\GxS J.ids γ γ1/\∀x∈z7q J ds,zm9 γ1 (zw a) x:=by
 unfold xtr at hx
 split at hx
 ·rename_i ps pb ai al
  split at hx
  ·rename_i aj O
   split at hx
   ·rename_i C1 ah
    cases hbi:zik C1 J.boxes with
    |false=>rw[hbi]at hx;cases hx
    |true=>
    rw[hbi]at hx
    cases hai:allIn J.ids (zw3 (ps++aj))with
    |false=>rw[hai]at hx;cases hx
    |true=>
    rw[hai]at hx
    simp only[cond_true]at hx
    split at hx
    ·rename_i Z af
     cases hnd:zw7 (chJ J Z)with
     |false=>rw[hnd]at hx;cases hx
     |true=>
     rw[hnd]at hx
     have hx:=Ax (show some Z=some ds from hx)
     subst hx
     obtain⟨γ0,I0,g0⟩:=Inv.frzL (C:=C) (γ:=γ) (zw2 (ps++pb)) I
     have ae:=hs.gx0 g0
     obtain⟨γ1,I1,g1,⟨hM,hβ⟩,ho⟩:=zb1 ah I0
     obtain⟨v1,v2,rfl,l1,d1,d2⟩:=Wt af
     obtain⟨e1,aa⟩:=Wv (n:=n) (a:=a) ai
     obtain⟨f1,f2⟩:=aa (w:=v2) ae I0.fz hM d1 (λp hp=>ho p (Aq _ hp))
     have ac:=zdr O I0 I0.fz hM hβ d2 (λp hp=>ho p (AC _ hp))
     have ed:(v1++v2).drop (zsj J.slots)=v2:=by rw[<-e1,<-l1,List.drop_left]
     have gS:GxS J.ids γ γ1:=⟨g0.1.trans g1.1,λi hi=>by
      have h2:=g1.2 i (λhm=>hi (zqi hai i hm))
      have h1:=g0.2 i (by simp)
      exact⟨h2.1.trans h1.1,h2.2.trans h1.2⟩⟩
     refine⟨γ1,I1.pick hnd λx hx=>?_,gS,f1⟩
     unfold chJ at hx
     rw[ed]at hx
     rcases An.1 hx with hx|hx
     ·have:=f2 x hx
      exact⟨I1.den x (Aq _ this),x.2,this,rfl⟩
     ·rcases ac x hx with h1|⟨h1,_,⟨as,h2⟩,ss,h3⟩
      ·exact⟨I1.den x (Aq _ h1),x.2,h1,rfl⟩
      ·obtain⟨ak,h4⟩:=zil hbi _ _ h3
       exact⟨h1,_,h4,by rw[h2];rfl⟩
    ·cases hx
   ·cases hx
  ·cases hx
 ·cases hx
theorem zzs{α:Type}{R:α->α->Prop}(hs:∀x y,R x y->R y x){l l':List α}(p:l.Perm l'):l.Pairwise R->l'.Pairwise R:=by
 induction p with
 |nil=>exact id
 |cons x p ih=>intro h;rw[BR]at h ⊢;exact⟨λy hy=>h.1 y (p.symm.subset hy),ih h.2⟩
 |swap x y l=>
  intro h
  simp only[BR,Af]at h ⊢
  obtain⟨h1,h2,h3⟩:=h
  exact⟨λz hz=>by rcases hz with rfl|hz;exact hs _ _ (h1 _ (.inl rfl));exact h2 z hz,λz hz=>h1 z (.inr hz),h3⟩
 |trans _ _ O Z=>exact λh=>Z (O h)
theorem Inv.perm{cs cs':CS}(I:Inv h0 W M0 cs γ h)(p:cs.Perm cs'):Inv h0 W M0 cs' γ h where
 ag:=I.ag
 frame:=I.frame
 size:=I.size
 old:=I.old
 le:=I.le
 den:=λx hx=>I.den x (p.symm.subset hx)
 sep:=λx hx=>I.sep x (p.symm.subset hx)
 apart:=zzs (λx y h b hb hb'=>h b hb' hb) p I.apart
end
section
variable {P:Program} {gl:Fr}
variable {h0 : zb} {W : Nat -> Prop} {M0 : Fr}
def z4u(P:Program)(gl:Fr)(o:Oper)(e:ye)(c:qf)(cs:CS)(K:AV->Prop):Prop:=
 match o.op with
 |.pick x a b=>z4t e c x a b K
 |_=>match Wo e c with
  |some g=>qA P gl o (zh9 e c) g cs K
  |none=>False
def wQA(P:Program)(gl:Fr)(n:Nat)(ops:Array Oper)(cs:CS)(K:ye->Prop):List Oper->ye->Prop
 |[],e=>K e
 |o::rest,e=>match Y6 ops e o.guard with
  |some c=>bif yq n c o.dst then z4u P gl o e c cs λv=>wQA P gl n ops cs K rest (z4j e o.dst c v)else False
  |none=>False
theorem zl3(O:Fr.le gl M0){o:Oper}{e:ye}{c:qf}{cs:CS}{K:AV->Prop}(H:z4u P gl o e c cs K):∃av,K av/\∀(n:Nat) (γ:Gh) (a:Act) (h:zb),SatA n e γ a->Inv h0 W M0 cs γ h->valid (zw a) c->∃v,DenV γ av v/\QExec P (execOp a.eval o) h (.value v):=by
 unfold z4u at H
 split at H
 ·rename_i x y z ho
  obtain⟨av,h1,h2⟩:=Ws H
  refine⟨av,h1,λn γ a h hs I hv=>?_⟩
  obtain⟨t,h3,h4⟩:=h2 n γ a hs hv
  refine⟨_,h4,λB d=>?_⟩
  simp only[execOp,ho,h3,asBool,Sem.run_bind,Sem.run_pure,Result.andThen_ok]
 ·split at H
  ·rename_i g hg
   obtain⟨av,h1,h2⟩:=zhd (h0:=h0) (W:=W) (M0:=M0) O H
   exact⟨av,h1,λn γ a h hs I hv=>h2 (Zj hs hg hv) γ h a.eval I λx av hx=>qd hs hv hx⟩
  ·exact H.elim
theorem zin{P:Program}{gl:Fr}(ac:Fr.le gl M0){n:Nat}{ops:Array Oper}{cs:CS}{K:ye->Prop}{Q:Act->Prop}{γ:Gh}{h:zb}(I:Inv h0 W M0 cs γ h)(B:World)(d:Nat):
  ∀(l:List Oper) (e:ye) (a:Act),wQA P gl n ops cs K l e->SatA n e γ a->(∀e' a',SatA n e' γ a'->Same (je l) a a'->K e'->Q a')->wpStill P ops (mk B d h) Q l a
 |[],e,a,H,hs,hQ=>hQ _ _ hs (Same.refl _ _) H
 |o::rest,e,a,H,hs,hQ=>by
  unfold wQA at H
  split at H
  ·rename_i c hc
   cases hd:yq n c o.dst with
   |false=>rw[hd]at H;exact H.elim
   |true=>
    rw[hd]at H
    simp only[cond_true]at H
    have hw:=Zs hs hc
    have ae:∀i,o.dst=some i->i∈je (o::rest):=λi hi=>by simp[je,hi]
    have aa:∀x∈je rest,x∈je (o::rest):=λx hx=>by
     unfold je
     split
     ·exact Ah _ hx
     ·exact hx
    obtain⟨av,hK,hy⟩:=zl3 (h0:=h0) (W:=W) (M0:=M0) ac H
    have O:∀u,(valid (zw a) c->DenV γ av u)->(¬valid (zw a) c->u=undef)->wpStill P ops (mk B d h) Q rest (a.put o.dst u):=λu h1 h2=>
     zin ac I B d rest _ _ hK (hs.putO hd h1 h2) λe' a' q1 q2 q3=>hQ e' a' q1 ((Same.put a o.dst u ae).trans (q2.mono aa)) q3
    unfold wpStill
    by_cases hv:valid (zw a) c
    ·rw[if_pos (hw.2 hv)]
     unfold Oper.still
     obtain⟨v,h1,h2⟩:=hy n γ a h hs I hv
     rw[h2 B d,Oper.stillUpon_value]
     exact O v (λ_=>h1) (λZ=>absurd hv Z)
    ·rw[if_neg (λhx=>hv (hw.1 hx))]
     exact O undef (λZ=>absurd Z hv) (λ_=>rfl)
  ·exact H.elim
abbrev zzt:=List (Nat×Nat)
def zsk(P:Program)(gl:Fr)(tr:TypeId)(n:Nat)(tl:zzt)(id:Nat)(ops:Array Oper)(O:Bool)(R:CS)(K:ye->CS->Prop)(e:ye)(C:CS):Prop:=
 bif O then(match zyy tl id with
  |none=>bif Region.lexB .any ops then wQA P gl n ops (C++R) (λe'=>K (zgd e') C) ops.toList e else False
  |some m=>bif Region.lexTailB .any ops m then wQA P gl n ops (C++R) (λe'=>wRA P gl tr n ops R K (ops.toList.drop m) e' C) (ops.toList.take m) e else False)
 else wRA P gl tr n ops R K ops.toList e C
theorem zni(hm:P.follows .mixedOrders=true)(aa:Fr.le gl M0){tr:TypeId}{n:Nat}{tl:zzt}{id:Nat}{ops:Array Oper}{Z:Bool}{R C:CS}{K:ye->CS->Prop}{e:ye}
  (H:zsk P gl tr n tl id ops Z R K e C) {γ:Gh} {h:zb} (B:World) (d:Nat) {a:Act} (hs:SatA n e γ a) (I:Inv h0 W M0 (C++R) γ h) {Q:Exit->Act->World->Prop}
  (hQ:∀e' C' γ' a' d' h',SatA n e' γ' a'->Inv h0 W M0 (C'++R) γ' h'->Same (je ops.toList) a a'->GxS (je ops.toList) γ γ'->K e' C'->Q .normal a' (mk B d' h')):(Db id ops Z).wp P Q a (mk B d h):=by
 unfold zsk at H
 cases Z with
 |false=>exact wp_region_list (zdq aa B _ _ _ _ _ _ _ H hs I hQ)
 |true=>
  simp only[cond_true]at H
  split at H
  ·cases hB:Region.lexB .any ops with
   |false=>rw[hB]at H;exact H.elim
   |true=>
    rw[hB]at H
    refine wp_region_still hm hB ?_
    exact zin aa I B (d+1) _ _ _ H hs λe' a' q1 q2 q3=>hQ _ _ _ _ _ _ q1.clean I q2 (GxS.refl _ _) q3
  ·rename_i m _
   cases hB:Region.lexTailB .any ops m with
   |false=>rw[hB]at H;exact H.elim
   |true=>
    rw[hB]at H
    have O:je ops.toList=je (ops.toList.take m)++je (ops.toList.drop m):=by rw[<-Z7,Br]
    have:=wp_region_still_tail (id:=id) (Q:=Q) (a:=a) (w:=mk B d h) (l:=ops.toList) m hm (by simpa using hB) (by
     simp only[Array.toArray_toList]
     refine zin aa I B (d+1) _ _ _ H hs λe' a' q1 q2 q3=>?_
     refine zdq aa B _ _ _ _ _ _ (d+1) q3 q1 I λac ae ai aj af ah q4 q5 q6 q7 q8=>hQ ac ae ai aj af ah q4 q5 ?_ ?_ q8
     ·rw[O]
      exact(q2.mono λx hx=>Aq _ hx).trans (q6.mono λx hx=>AC _ hx)
     ·rw[O]
      exact q7.mono λx hx=>AC _ hx)
    simpa using this
end
end Go.X
end
