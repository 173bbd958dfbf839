/- A part of the proof: nothing is stated here for its own sake. -/
import Derived.Test.YtjohlemfgcmaoaaGreatDoorPoA
import Derived.Laws.StructEq
import Derived.Deep.AppendSrc
import Derived.Laws.BytesString
open _root_.Go.Addr renaming add->Al
open _root_.Array renaming getD_eq_getD_getElem?->A7,getElem?_eq_some_iff->Ac,getElem?_push->BV,getElem?_setIfInBounds_ne->AN,length_toList->CE,range->Es,size_setIfInBounds->AU,toList_map->C8
open _root_.Bool renaming false_eq_true->A3,true_and->Cd
open _root_.Go.Builtin renaming append_->AB,firstCells->CM,len_->DR
open _root_.ByteArray renaming empty->DZ
open _root_.Go.Code renaming region->CW
open _root_.Go.Deferred renaming ofValue->Df
open _root_.Go.Instr renaming fill->Et,indexAt->Ef,loadAt->DO,sliceAt->DX,storeAt->An,sureAddr->DG
open _root_.List renaming append_assoc->AQ,append_nil->AW,cons_append->AO,drop_drop->BR,drop_eq_getElem_cons->AF,drop_eq_nil_of_le->Bj,drop_take->C9,drop_zero->BQ,eq_nil_of_length_eq_zero->AJ,ext_getElem?->Bm,getElem?_append_left->Bq,getElem?_append_right->A5,getElem?_drop->AE,getElem?_eq_getElem->Ai,getElem?_eq_none->BH,getElem?_eq_some_iff->Av,getElem?_map->BS,getElem?_take->Az,getElem_append_left->CQ,getElem_append_right->CH,getElem_of_mem->BD,length_append->Ap,length_cons->Aw,length_drop->AC,length_map->A0,length_nil->BE,length_take->A1,mapM_cons->Ea,map_cons->A4,mem_append->As,mem_append_left->Am,mem_append_right->Au,mem_cons->Af,mem_cons_of_mem->Ae,mem_cons_self->Aj,nil_append->Bc,pairwise_append->Ct,pairwise_cons->BI,take_append_drop->Cf,take_left->DJ,take_length->Bb,take_of_length_le->Co,take_succ_eq_append_getElem->AD,take_take->CX
open _root_.List.cons renaming injEq->Bu
open _root_.Nat renaming add_assoc->Eg,add_mul->BU,blt_eq->Cs,eq_of_beq_eq_true->Ag,eq_zero_or_pos->Do,le_mul_of_pos_right->Dj,le_of_ble_eq_true->BG,le_refl->Ad,le_trans->D6,lt_of_lt_of_le->Dk,lt_or_ge->AR,min_eq_left->CF,mul_comm->Cw,mul_le_mul_right->AK,mul_one->Dc,one_mul->DK,succ_mul->C5,zero_add->Ay,zero_le->CV,zero_mul->Db
open _root_.Go.Next renaming value->Dl
open _root_.Go.Op renaming equal->Er
open _root_.Option renaming bind_some->CK,map_eq_some_iff->Cy,map_some->Dw
open _root_.Option.some renaming inj->Aq,injEq->Aa
open _root_.Prod.mk renaming injEq->A9
open _root_.Pure renaming pure->Da
open _root_.Go.Region renaming wanted->Bo
open _root_.UInt8 renaming ofNat->BX
open _root_.Go.Utf8 renaming encode->Ej
open _root_.Go.Value renaming int->Ep
open _root_.Go.Value.slice renaming injEq->AP
set_option linter.unusedVariables false
set_option maxRecDepth 100000
namespace Go.X
end Go.X
namespace Go.Proofs
end Go.Proofs
open Go Go.X Go.Proofs
section
namespace Go.X
section
variable {M M':Fr} {h h':za} {b c o n0:Nat} {γ γ':Gh} {us:List Value} {u:Value} {t:Ty} {cs C R:CS} {e:TypeId}
def AgM(M:Fr)(h:za):Prop:=∀b c,M b=some c->∃T m,h[b]?=some (.cells c T m)
theorem AgM.lt(H:AgM M h){c:Array Value}(e:M b=some c):b<h.size:=by
 obtain⟨T,m,e'⟩:=H b c e;exact(Ac.1 e').1
theorem AgM.none{M:Fr}{h:za}(H:AgM M h){b:Nat}(hb:h.size<=b):M b=none:=by
 cases e:M b with
 |none=>rfl
 |some c=>have:=H.lt e;omega
theorem AgM.cell(H:AgM M h){c:Array Value}{v:Value}(e:M b=some c)(hv:c[o]?=some v):zd h ⟨b,o,Option.none⟩=some v:=by
 obtain⟨T,m,e'⟩:=H b c e
 unfold zd;simp[e',hv]
def Gx(c:Option Nat)(γ γ':Gh):Prop:=Fr.le γ.M γ'.M/\∀i,c≠some i->γ'.β i=γ.β i/\γ'.σ i=γ.σ i
theorem Gx.refl(c:Option Nat)(γ:Gh):Gx c γ γ:=⟨Fr.le.refl _,λ_ _=>⟨rfl,rfl⟩⟩
def ztj(c:Nat):AA->Bool
 |.box j _=>Nat.beq j c
 |.own j=>Nat.beq j c
 |.oelt j _ _ _=>Nat.beq j c
 |_=>false
def zl4(c:Nat):List AA->Bool
 |[]=>false
 |x::l=>bif ztj c x then true else zl4 c l
def zc6(c:Nat):Ch->Bool
 |.box l=>zl4 c l
 |_=>false
def z9j(c:Nat):AG->Bool
 |.a x=>ztj c x
 |.agg l=>zl4 c l
def z0f(c:Nat):List AG->Bool
 |[]=>false
 |x::l=>bif z9j c x then true else z0f c l
def zvs(c:Nat):AV->Bool
 |.g x=>z9j c x
 |.tup l=>z0f c l
 |.nx _ _ _=>false
def zvt{α:Type}(f:Nat->α->Bool):Option Nat->α->Bool
 |none,_=>false
 |some c,x=>f c x
theorem zmk{j c:Nat}(h:Nat.beq j c=false):some c≠some j:=by
 intro e;simp only[Aa]at e;subst e;simp at h
theorem DenA.gx{c:Option Nat}(g:Gx c γ γ'):∀{x:AA} {u:Value},zvt ztj c x=false->DenA γ x u->DenA γ' x u
 |.v _,_,_,h=>h
 |.d _ _,_,_,h=>Rd.mono g.1 h
 |.box j o,u,hm,h=>by
  have:c≠some j:=by cases c with|none=>simp|some c=>exact zmk hm
  rw[show u=_ from h];simp only[DenA,(g.2 j this).1]
 |.own j,u,hm,h=>by
  have:c≠some j:=by cases c with|none=>simp|some c=>exact zmk hm
  rw[show u=_ from h];simp only[DenA,(g.2 j this).2]
 |.oelt j z i o,u,hm,h=>by
  have:c≠some j:=by cases c with|none=>simp|some c=>exact zmk hm
  obtain⟨b,e1,e2⟩:=h
  exact⟨b,by rw[(g.2 j this).2];exact e1,e2⟩
 |.elt _ _ _,_,_,⟨b,f,cs,e,h1,h2⟩=>⟨b,f,cs,e,g.1 _ _ h1,Rd.mono g.1 h2⟩
 |.dc _ _,_,_,⟨s,e1,e2,h⟩=>⟨s,e1,e2,Rd.mono g.1 h⟩
theorem z0g{l:List AA}(h:zl4 c l=false):∀x∈l,ztj c x=false:=by
 induction l with
 |nil=>intro x hx;cases hx
 |cons y l ih=>
  intro x hx
  simp only[zl4]at h
  cases hy:ztj c y with
  |true=>simp[hy]at h
  |false=>
   simp only[hy,cond_false]at h
   rcases Af.1 hx with rfl|hx
   ·exact hy
   ·exact ih h x hx
theorem DenL.gx{c:Option Nat}(g:Gx c γ γ'){l:List AA}(hm:zvt zl4 c l=false)(h:All2 (DenA γ) l us):All2 (DenA γ') l us:=
 h.imp λx hx u hu=>DenA.gx g (by cases c with|none=>rfl|some c=>exact z0g hm x hx) hu
theorem DenG.gx{c:Option Nat}(g:Gx c γ γ'){x:AG}(hm:zvt z9j c x=false)(h:DenG γ x u):DenG γ' x u:=by
 cases x with
 |a x=>exact DenA.gx g (by cases c <;> exact hm) h
 |agg l=>obtain⟨us,e,h⟩:=h;exact⟨us,e,DenL.gx g (by cases c <;> exact hm) h⟩
theorem zvu{l:List AG}(h:z0f c l=false):∀x∈l,z9j c x=false:=by
 induction l with
 |nil=>intro x hx;cases hx
 |cons y l ih=>
  intro x hx
  simp only[z0f]at h
  cases hy:z9j c y with
  |true=>simp[hy]at h
  |false=>
   simp only[hy,cond_false]at h
   rcases Af.1 hx with rfl|hx
   ·exact hy
   ·exact ih h x hx
theorem DenV.gx{c:Option Nat}(g:Gx c γ γ'){x:AV}(hm:zvt zvs c x=false)(h:DenV γ x u):DenV γ' x u:=by
 cases x with
 |g x=>exact DenG.gx g (by cases c <;> exact hm) h
 |tup l=>
  obtain⟨us,e,h⟩:=h
  exact⟨us,e,h.imp λx hx u hu=>DenG.gx g (by cases c with|none=>rfl|some c=>exact zvu hm x hx) hu⟩
 |nx b p c=>exact h
def RowC(M:Fr)(t:Ty)(xs:List (El t))(cells:List Value):Prop:=
 cells.length=xs.length*sz t/\∀i (h:i<xs.length),Rd M t xs[i] ((cells.drop (i*sz t)).take (sz t))
theorem RowC.mono(hM:Fr.le M M'){xs:List (El t)}{cells:List Value}(H:RowC M t xs cells):RowC M' t xs cells:=⟨H.1,λi h=>Rd.mono hM (H.2 i h)⟩
theorem RowC.nil(M:Fr)(t:Ty):RowC M t [] []:=⟨by simp,λi h=>absurd h (by simp)⟩
theorem RowC.single{x:El t}{cs:List Value}(h:Rd M t x cs):RowC M t [x] cs:=by
 have hl:=h.len
 refine⟨by simp[hl],λi hi=>?_⟩
 have:i=0:=by simpa using hi
 subst this
 simp only[Db,BQ,List.getElem_cons_zero,<-hl,Bb]
 exact h
theorem RowC.append{xs ys:List (El t)}{c1 c2:List Value}(h1:RowC M t xs c1)(h2:RowC M t ys c2):RowC M t (xs++ys) (c1++c2):=by
 refine⟨by rw[Ap,Ap,h1.1,h2.1,BU],λi hi=>?_⟩
 by_cases Z:i<xs.length
 ·rw[CQ Z]
  have ae:(i+1)*sz t<=c1.length:=by rw[h1.1];exact AK _ Z
  rw[BU,DK]at ae
  rw[List.drop_append_of_le_length (by omega),List.take_append_of_le_length (by rw[AC];omega)]
  exact h1.2 i Z
 ·have aa:xs.length<=i:=by omega
  rw[CH aa]
  have ab:i-xs.length<ys.length:=by rw[Ap]at hi;omega
  have:=h2.2 (i-xs.length) ab
  have e:(c1++c2).drop (i*sz t)=c2.drop ((i-xs.length)*sz t):=by
   rw[List.drop_append]
   have:c1.length<=i*sz t:=by rw[h1.1];exact AK _ aa
   rw[Bj this,Bc,h1.1,<-Nat.sub_mul]
  rw[e];exact this
theorem RowC.one{xs:List (El t)}{cells:List Value}(H:RowC M t xs cells):∀v∈cells,v.oneCell'=true:=by
 intro v hv
 obtain⟨j,hj,rfl⟩:=BD hv
 have hz:0<sz t:=by
  rcases Do (sz t)with h|h
  ·rw[H.1,h,Nat.mul_zero]at hj;omega
  ·exact h
 have hi:j / sz t<xs.length:=by rw[H.1]at hj;exact Nat.div_lt_of_lt_mul (by rw[Cw];exact hj)
 refine Rd.one (H.2 _ hi) _ ?_
 rw[List.mem_iff_getElem?]
 refine⟨j % sz t,?_⟩
 rw[Az,if_pos (Nat.mod_lt _ hz),AE,Cw,Nat.div_add_mod,Ai hj]
theorem RowC.rd{xs:List (El t)}{cells:List Value}(H:RowC M t xs cells){cs:Array Value}(hM:M b=some cs)(hc:(cs.toList.drop o).take (xs.length*sz t)=cells)(hn:xs.length<=140737488355328/\xs.length<=c):
  Rd M (.row t) xs [.slice (some ⟨b,o,none⟩) xs.length c]:=by
 refine⟨_,rfl,_,_,rfl,hn,.inr ⟨b,o,cs,rfl,hM,λi hi=>?_⟩⟩
 have:=H.2 i hi
 rw[<-hc]at this
 have Z:(i+1)*sz t<=xs.length*sz t:=AK _ hi
 rw[BU,DK]at Z
 have e:(((cs.toList.drop o).take (xs.length*sz t)).drop (i*sz t)).take (sz t)=cut cs (o+i*sz t) (sz t):=by
  unfold cut
  rw[C9,CX,BR,CF (by omega)]
 rw[e]at this
 exact this
theorem Rd.rowC(ag:AgM M h){xs:List (El t)}(H:Rd M (.row t) xs [u]):∃s:Sl,u=slV s/\s.len=xs.length/\(xs.length<=140737488355328/\xs.length<=s.cap)/\∃cells,RowC M t xs cells/\Arr h.size h s.a cells:=by
 obtain⟨v,e,a,c,rfl,hn,H⟩:=H
 cases e
 refine⟨⟨a,xs.length,c⟩,rfl,rfl,hn,?_⟩
 rcases H with rfl|⟨b,o,cs,rfl,hM,hi⟩
 ·exact⟨[],RowC.nil _ _,.inl rfl⟩
 ·have Z:xs=[]\/xs.length*sz t<=(cs.toList.drop o).length:=by
   rcases Do xs.length with h0|h0
   ·exact .inl (AJ h0)
   ·right
    have:=(hi (xs.length-1) (by omega)).len
    unfold cut at this
    rw[A1,AC]at this
    rw[AC]
    rcases Do (sz t)with hz|hz
    ·rw[hz];simp
    ·have e:xs.length*sz t=(xs.length-1)*sz t+sz t:=by
      rw[<-C5];congr 1;omega
     rw[e];omega
  rcases Z with rfl|Z
  ·exact⟨[],RowC.nil _ _,.inl rfl⟩
  refine⟨(cs.toList.drop o).take (xs.length*sz t),⟨by rw[A1];omega,λi aa=>?_⟩,.inr ⟨b,o,rfl,ag.lt hM,λi v hv=>?_⟩⟩
  ·have:=hi i aa
   have ab:(i+1)*sz t<=xs.length*sz t:=AK _ aa
   rw[BU,DK]at ab
   unfold cut at this
   rw[C9,CX,BR,CF (by omega)]
   exact this
  ·refine ag.cell hM ?_
   rw[Az]at hv
   split at hv
   ·rw[AE]at hv;simpa using hv
   ·cases hv
def z4v(o:Option Obj)(us:List Value):Prop:=((∃T,o=some (.cells us.toArray T (0,0)))/\∀s p,us≠[xt s p])\/(∃s p,us=[xt s p]/\o=some (.stringIter s p))
def DenC(n0:Nat)(γ:Gh)(h:za)(c:Nat):Ch->Prop
 |.box l=>∃us,z4v h[γ.β c]? us/\All2 (DenA γ) l us
 |.row e t xs=>∃cells,Owns h n0 e (sz t) (γ.σ c) cells/\RowC γ.M t xs cells/\xs.length<=140737488355328/\(γ.σ c).len=xs.length
 |.fz t xs=>Rd γ.M (.row t) xs [slV (γ.σ c)]
def blk(γ:Gh)(c:Nat):Ch->Option Nat
 |.box _=>some (γ.β c)
 |.row _ _ _=>(γ.σ c).a.map (·.block)
 |.fz _ _=>none
structure Inv (h0:za) (W:Nat->Prop) (M0:Fr) (cs:CS) (γ:Gh) (h:za):Prop where
 ag:AgM γ.M h
 frame:∀i,i<h0.size->¬W i->h[i]?=h0[i]?
 size:h0.size<=h.size
 old:∀b,b<h0.size->γ.M b=M0 b
 le:Fr.le M0 γ.M
 den:∀x∈cs,DenC h0.size γ h x.1 x.2
 sep:∀x∈cs,∀b,blk γ x.1 x.2=some b->(h0.size<=b\/W b)/\γ.M b=none
 apart:cs.Pairwise λx y=>∀b,blk γ x.1 x.2=some b->blk γ y.1 y.2≠some b
variable {h0 : za} {W : Nat -> Prop} {M0 : Fr}
theorem DenC.lt{k:Ch}(H:DenC n0 γ h c k):∀b,blk γ c k=some b->b<h.size:=by
 intro b hb
 cases k with
 |box l=>
  obtain⟨us,e,_⟩:=H
  simp only[blk,Aa]at hb
  subst hb
  rcases e with⟨⟨T,e⟩,_⟩|⟨s,p,_,e⟩
  ·exact(Ac.1 e).1
  ·exact(Ac.1 e).1
 |row e t xs=>
  obtain⟨cells,h1,_⟩:=H
  simp only[blk,Cy]at hb
  obtain⟨p,hp,rfl⟩:=hb
  exact(h1.base_le p hp).2
 |fz t xs=>cases hb
theorem DenC.gx{c:Option Nat}(g:Gx c γ γ'){j:Nat}{k:Ch}(hj:c≠some j)(hm:zvt zc6 c k=false)(H:DenC n0 γ h j k)(hb:∀b,blk γ j k=some b->h'[b]?=h[b]?):DenC n0 γ' h' j k:=by
 obtain⟨e1,e2⟩:=g.2 j hj
 cases k with
 |box l=>
  obtain⟨us,e,h1⟩:=H
  exact⟨us,by rw[e1,hb _ rfl];exact e,DenL.gx g (by cases c <;> exact hm) h1⟩
 |row e t xs=>
  obtain⟨cells,h1,h2,h3,h4⟩:=H
  refine⟨cells,?_,h2.mono g.1,h3,by rw[e2];exact h4⟩
  rw[e2]
  exact h1.keep λp hp=>hb _ (by simp[blk,hp])
 |fz t xs=>simp only[DenC,e2];exact Rd.mono g.1 H
theorem zis{c:Option Nat}(g:Gx c γ γ'){j:Nat}(k:Ch)(hj:c≠some j):blk γ' j k=blk γ j k:=by
 obtain⟨e1,e2⟩:=g.2 j hj
 cases k <;> simp[blk,e1,e2]
theorem Inv.rest{cs rest:CS}{γ γ':Gh}{h h':za}(I:Inv h0 W M0 cs γ h)(hsub:rest.Sublist cs){c:Option Nat}(g:Gx c γ γ')
  (hmen:∀x∈rest,c≠some x.1/\zvt zc6 c x.2=false) (hk:∀x∈rest,∀b,blk γ x.1 x.2=some b->h'[b]?=h[b]?/\γ'.M b=none)
  (ag:AgM γ'.M h') (hframe:∀i,i<h0.size->¬W i->h'[i]?=h[i]?) (hsize:h.size<=h'.size) (hold:∀b,b<h0.size->γ'.M b=γ.M b):Inv h0 W M0 rest γ' h' where
 ag:=ag
 frame:=λi hi hw=>(hframe i hi hw).trans (I.frame i hi hw)
 size:=D6 I.size hsize
 old:=λb hb=>(hold b hb).trans (I.old b hb)
 le:=I.le.trans g.1
 den:=λx hx=>(I.den x (hsub.subset hx)).gx g (hmen x hx).1 (hmen x hx).2 λb hb=>(hk x hx b hb).1
 sep:=λx hx b hb=>by
  rw[zis g _ (hmen x hx).1]at hb
  exact⟨(I.sep x (hsub.subset hx) b hb).1,(hk x hx b hb).2⟩
 apart:=by
  refine(I.apart.sublist hsub).imp_of_mem λ {x y} hx hy h=>?_
  intro b hb
  rw[zis g _ (hmen x hx).1]at hb
  rw[zis g _ (hmen y hy).1]
  exact h b hb
theorem Inv.cons{rest:CS}(I:Inv h0 W M0 rest γ h){k:Ch}(hd:DenC h0.size γ h c k)(hs:∀b,blk γ c k=some b->(h0.size<=b\/W b)/\γ.M b=none)
  (ha:∀b,blk γ c k=some b->∀x∈rest,blk γ x.1 x.2≠some b):Inv h0 W M0 ((c,k)::rest) γ h where
 ag:=I.ag
 frame:=I.frame
 size:=I.size
 old:=I.old
 le:=I.le
 den:=λx hx=>by rcases Af.1 hx with rfl|hx;exact hd;exact I.den x hx
 sep:=λx hx=>by rcases Af.1 hx with rfl|hx;exact hs;exact I.sep x hx
 apart:=BI.2 ⟨λy hy b hb=>ha b hb y hy,I.apart⟩
theorem Inv.sub{cs rest:CS}(I:Inv h0 W M0 cs γ h)(hsub:rest.Sublist cs):Inv h0 W M0 rest γ h where
 ag:=I.ag
 frame:=I.frame
 size:=I.size
 old:=I.old
 le:=I.le
 den:=λx hx=>I.den x (hsub.subset hx)
 sep:=λx hx=>I.sep x (hsub.subset hx)
 apart:=I.apart.sublist hsub
theorem Inv.fz(I:Inv h0 W M0 cs γ h):zzy γ cs:=λc t xs hm=>I.den _ hm
theorem Inv.call(I:Inv h0 W M0 cs γ h)(k:Keep h.size h h')(hM:Fr.le γ.M M')(Z:∀b,b<h.size->M' b=γ.M b)(ag:AgM M' h'):Inv h0 W M0 cs { γ with M:=M' } h':=
 I.rest (List.Sublist.refl _) (c:=none) ⟨hM,λ_ _=>⟨rfl,rfl⟩⟩ (λx _=>⟨by simp,rfl⟩)
  (λx hx b hb=>by
   have aa:=(I.den x hx).lt b hb
   exact⟨k.get b aa,(Z b aa).trans (I.sep x hx b hb).2⟩) ag (λi hi _=>k.get i (Dk hi I.size)) k.size (λb hb=>Z b (Dk hb I.size))
def qu(c:Nat):CS->CS
 |[]=>[]
 |(j,k)::l=>bif (bif Nat.beq j c then true else zc6 c k)then qu c l else(j,k)::qu c l
def qp(c:Nat):CS->Bool
 |[]=>true
 |(j,k)::l=>bif (bif Nat.beq j c then true else zc6 c k)then false else qp c l
def Jc(c:Nat):CS->CS
 |[]=>[]
 |(j,k)::l=>bif Nat.beq j c then Jc c l else(j,k)::Jc c l
theorem jq(c:Nat):∀l:CS,(qu c l).Sublist l
 |[]=>.slnil
 |(j,k)::l=>by
  simp only[qu]
  cases(bif Nat.beq j c then true else zc6 c k)with
  |true=>exact(jq c l).cons _
  |false=>exact(jq c l).cons_cons _
theorem j6(c:Nat):∀l:CS,(Jc c l).Sublist l
 |[]=>.slnil
 |(j,k)::l=>by
  simp only[Jc]
  cases Nat.beq j c with
  |true=>exact(j6 c l).cons _
  |false=>exact(j6 c l).cons_cons _
theorem zc7{c:Nat}:∀{l:CS} {x:Nat×Ch},x∈qu c l->some c≠some x.1/\zc6 c x.2=false
 |(j,k)::l,x,h=>by
  simp only[qu]at h
  cases hb:(bif Nat.beq j c then true else zc6 c k)with
  |true=>rw[hb]at h;exact zc7 h
  |false=>
   rw[hb]at h
   rcases Af.1 h with rfl|h
   ·cases hj:Nat.beq j c with
    |true=>simp[hj]at hb
    |false=>simp only[hj,cond_false]at hb;exact⟨zmk hj,hb⟩
   ·exact zc7 h
theorem Qb{c:Nat}:∀{l:CS},qp c l=true->∀x∈l,some c≠some x.1/\zc6 c x.2=false
 |[],_,x,h=>by cases h
 |(j,k)::l,hn,x,h=>by
  simp only[qp]at hn
  cases hb:(bif Nat.beq j c then true else zc6 c k)with
  |true=>rw[hb]at hn;cases hn
  |false=>
   rw[hb]at hn
   rcases Af.1 h with rfl|h
   ·cases hj:Nat.beq j c with
    |true=>simp[hj]at hb
    |false=>simp only[hj,cond_false]at hb;exact⟨zmk hj,hb⟩
   ·exact Qb hn x h
theorem Qy{c:Nat}:∀{l:CS} {x:Nat×Ch},x∈Jc c l->x∈l/\x.1≠c
 |(j,k)::l,x,h=>by
  simp only[Jc]at h
  cases hb:Nat.beq j c with
  |true=>rw[hb]at h;exact⟨Ae _ (Qy h).1,(Qy h).2⟩
  |false=>
   rw[hb]at h
   rcases Af.1 h with rfl|h
   ·refine⟨Aj,λe=>?_⟩
    simp only at e
    subst e
    simp at hb
   ·exact⟨Ae _ (Qy h).1,(Qy h).2⟩
def zu3(γ:Gh)(c b:Nat):Gh:={ γ with β:=λi=>bif Nat.beq i c then b else γ.β i }
def zpg(γ:Gh)(c:Nat)(s:Sl):Gh:={ γ with σ:=λi=>bif Nat.beq i c then s else γ.σ i }
theorem Wq(γ:Gh)(c b:Nat):Gx (some c) γ (zu3 γ c b):=⟨Fr.le.refl _,λi hi=>by
 have:Nat.beq i c=false:=by
  cases h:Nat.beq i c with
  |false=>rfl
  |true=>exact absurd (congrArg some (Ag h).symm) hi
 simp[zu3,this]⟩
theorem Zl(γ:Gh)(c:Nat)(s:Sl):Gx (some c) γ (zpg γ c s):=⟨Fr.le.refl _,λi hi=>by
 have:Nat.beq i c=false:=by
  cases h:Nat.beq i c with
  |false=>rfl
  |true=>exact absurd (congrArg some (Ag h).symm) hi
 simp[zpg,this]⟩
theorem xz(γ:Gh)(c b:Nat):(zu3 γ c b).β c=b:=by simp[zu3]
theorem ya(γ:Gh)(c:Nat)(s:Sl):(zpg γ c s).σ c=s:=by simp[zpg]
theorem zaj(hR:qp c R=true):∀x∈qu c C++R,some c≠some x.1/\zvt zc6 (some c) x.2=false:=by
 intro x hx
 rcases As.1 hx with hx|hx
 ·exact zc7 hx
 ·exact Qb hR x hx
theorem Inv.newBoxO(I:Inv h0 W M0 (C++R) γ h)(hR:qp c R=true){l:List AA}(hd:All2 (DenA γ) l us)(hl:zl4 c l=false){ob:Obj}(aa:z4v (some ob) us):
  Inv h0 W M0 ((c,.box l)::qu c C++R) (zu3 γ c h.size) (h.push ob):=by
 have Z:∀x∈qu c C++R,∀b,blk γ x.1 x.2=some b->b<h.size:=λx hx b hb=>(I.den x (((jq c C).append_right R).subset hx)).lt b hb
 have hI:Inv h0 W M0 (qu c C++R) (zu3 γ c h.size) (h.push ob):=by
  refine I.rest ((jq c C).append_right R) (Wq γ c h.size) (zaj hR) (λx hx b hb=>?_) (λb cc e=>?_) (λi hi _=>?_) (by simp) (λb hb=>rfl)
  ·have:=Z x hx b hb
   exact⟨by rw[BV,if_neg (by omega)],(I.sep x (((jq c C).append_right R).subset hx) b hb).2⟩
  ·have:=I.ag.lt e
   obtain⟨T',m,e'⟩:=I.ag b cc e
   exact⟨T',m,by rw[BV,if_neg (by omega)];exact e'⟩
  ·have:=I.size
   rw[BV,if_neg (by omega)]
 refine hI.cons ⟨us,by rw[xz,j5];exact aa,DenL.gx (Wq γ c h.size) hl hd⟩ (λb hb=>?_) (λb hb x hx e=>?_)
 ·simp only[blk,xz,Aa]at hb
  subst hb
  exact⟨.inl I.size,I.ag.none (Ad _)⟩
 ·simp only[blk,xz,Aa]at hb
  subst hb
  rw[zis (Wq γ c h.size) _ (zaj hR x hx).1]at e
  have:=Z x hx _ e
  omega
theorem Inv.newBox(I:Inv h0 W M0 (C++R) γ h)(hR:qp c R=true){l:List AA}(hd:All2 (DenA γ) l us)(hl:zl4 c l=false)(Z:itB l=false)(T:TypeId):
  Inv h0 W M0 ((c,.box l)::qu c C++R) (zu3 γ c h.size) (h.push (.cells us.toArray T)):=
 Inv.newBoxO I hR hd hl (.inl ⟨⟨T,rfl⟩,λs p=>zrh Z hd s p⟩)
theorem zbv{α:Type}{R:α->α->Prop}(hs:∀x y,R x y->R y x):∀{l:List α},l.Pairwise R->∀{x y:α},x∈l->y∈l->x≠y->R x y
 |[],_,_,_,hx,_,_=>by cases hx
 |z::l,h,x,y,hx,hy,hne=>by
  rw[BI]at h
  rcases Af.1 hx with e1|h1
  ·rcases Af.1 hy with e2|h2
   ·exact absurd (e1.trans e2.symm) hne
   ·rw[e1];exact h.1 _ h2
  ·rcases Af.1 hy with e2|h2
   ·rw[e2];exact hs _ _ (h.1 _ h1)
   ·exact zbv hs h.2 h1 h2 hne
theorem Inv.setBox(I:Inv h0 W M0 (C++R) γ h){l l':List AA}(hc:(c,Ch.box l)∈C)(e:z4v h'[γ.β c]? us)
  (ho:∀i,i≠γ.β c->h'[i]?=h[i]?) (hs:h'.size=h.size) (hd:All2 (DenA γ) l' us) (hR:∀x∈R,x.1≠c):Inv h0 W M0 ((c,.box l')::Jc c C++R) γ h':=by
 have Z:=I.sep _ (Am R hc) _ rfl
 have aa:∀x∈Jc c C++R,blk γ x.1 x.2≠some (γ.β c):=by
  intro x hx
  have ae:x≠(c,Ch.box l):=by
   rintro rfl
   rcases As.1 hx with hx|hx
   ·exact(Qy hx).2 rfl
   ·exact hR _ hx rfl
  have ab:x∈C++R:=((j6 c C).append_right R).subset hx
  have hp:=@zbv _ (λ(x y:Nat×Ch)=>∀b,blk γ x.1 x.2=some b->blk γ y.1 y.2≠some b) (λx y h b hb af=>h b af hb) _ I.apart
  intro hb
  exact hp (Am R hc) ab (λe=>ae e.symm) _ rfl hb
 have hI:Inv h0 W M0 (Jc c C++R) γ h':=by
  refine I.rest ((j6 c C).append_right R) (c:=none) (Gx.refl _ _) (λx _=>⟨by simp,rfl⟩) (λx hx b hb=>?_) (λb cc eM=>?_) (λi hi hw=>?_) (by omega) (λb hb=>rfl)
  ·exact⟨ho b λe'=>aa x hx (e' ▸ hb),(I.sep x (((j6 c C).append_right R).subset hx) b hb).2⟩
  ·obtain⟨T',m,e'⟩:=I.ag b cc eM
   exact⟨T',m,by rw[ho b λe2=>by rw[e2,Z.2]at eM;cases eM];exact e'⟩
  ·refine ho i λe'=>?_
   have h2:=Z.1
   simp only at h2
   rcases h2 with h1|h1
   ·omega
   ·rw[e']at hw;exact hw h1
 refine hI.cons ⟨us,e,hd⟩ (λb hb=>?_) (λb hb x hx=>?_)
 ·simp only[blk,Aa]at hb;subst hb;exact Z
 ·simp only[blk,Aa]at hb;subst hb;exact aa x hx
theorem Inv.newRow(I:Inv h0 W M0 (C++R) γ h)(hR:qp c R=true)(hs:h.size<=h'.size){p:Option Nat}(ho:∀i,i<h.size->p≠some i->h'[i]?=h[i]?)
  (hp:∀b,p=some b->h0.size<=b/\γ.M b=none/\∀x∈C++R,blk γ x.1 x.2≠some b) {s:Sl} {xs:List (El t)} {cells:List Value} (af:Owns h' h0.size e (sz t) s cells)
  (hb:∀q,s.a=some q->p=some q.block\/q.block=h.size) (ab:RowC γ.M t xs cells) (hn:xs.length<=140737488355328) (hl:s.len=xs.length):
  Inv h0 W M0 ((c,.row e t xs)::qu c C++R) (zpg γ c s) h':=by
 have Z:=(jq c C).append_right R
 have ae:∀x∈qu c C++R,∀b,blk γ x.1 x.2=some b->b<h.size:=λx hx b hb=>(I.den x (Z.subset hx)).lt b hb
 have hI:Inv h0 W M0 (qu c C++R) (zpg γ c s) h':=by
  refine I.rest Z (Zl γ c s) (zaj hR) (λx hx b hb=>?_) (λb cc eM=>?_) (λi hi hw=>?_) hs (λb hb=>rfl)
  ·exact⟨ho b (ae x hx b hb) λe'=>(hp b e').2.2 x (Z.subset hx) hb,(I.sep x (Z.subset hx) b hb).2⟩
  ·obtain⟨T',m,e'⟩:=I.ag b cc eM
   exact⟨T',m,by rw[ho b (I.ag.lt eM) λe2=>by have:=(hp b e2).2.1;rw[show γ.M b=some cc from eM]at this;cases this];exact e'⟩
  ·have:=I.size
   refine ho i (by omega) λe'=>?_
   have:=(hp i e').1
   omega
 refine hI.cons ⟨cells,by rw[ya];exact af,ab,hn,by rw[ya];exact hl⟩ (λb aa=>?_) (λb aa x hx e'=>?_)
 ·simp only[blk,ya,Cy]at aa
  obtain⟨q,hq,rfl⟩:=aa
  rcases hb q hq with h1|h1
  ·exact⟨.inl (hp _ h1).1,(hp _ h1).2.1⟩
  ·rw[h1];exact⟨.inl I.size,I.ag.none (Ad _)⟩
 ·simp only[blk,ya,Cy]at aa
  obtain⟨q,hq,rfl⟩:=aa
  rw[zis (Zl γ c s) _ (zaj hR x hx).1]at e'
  rcases hb q hq with h1|h1
  ·exact(hp _ h1).2.2 x (Z.subset hx) e'
  ·rw[h1]at e';have:=ae x hx _ e';omega
def z4w(c:Nat):CS->CS
 |[]=>[]
 |(j,k)::l=>bif Nat.beq j c then(match k with
  |.row _ t xs=>(j,.fz t xs)::z4w c l
  |k=>(j,k)::z4w c l)else(j,k)::z4w c l
def zee(γ:Gh)(b:Nat)(cs:Array Value):Gh:={ γ with M:=λi=>bif Nat.beq i b then some cs else γ.M i }
theorem Inv.freeze1{A C:CS}{xs:List (El t)}(I:Inv h0 W M0 (A++(c,.row e t xs)::C) γ h):∃γ',Inv h0 W M0 (A++(c,.fz t xs)::C) γ' h/\Gx none γ γ':=by
 obtain⟨cells,aj,ae,hn,hl⟩:=I.den (c,.row e t xs) (by simp)
 have ap:=ae.1
 rcases aj.2 with⟨hv,h1⟩|⟨g,cap,aa,hv,ab,hg,ax,au,ay,af⟩
 ·refine⟨γ,?_,Gx.refl _ _⟩
  have an:xs=[]:=AJ (by omega)
  have hd:DenC h0.size γ h c (.fz t xs):=by
   subst an
   simp only[AP]at hv
   exact⟨_,rfl,none,0,by simp[slV,hv],⟨by simp,by simp⟩,.inl rfl⟩
  have Z:∀x,x∈A++(c,Ch.fz t xs)::C->x∈A++(c,Ch.row e t xs)::C\/x=(c,Ch.fz t xs):=by
   intro x hx
   simp only[As,Af]at hx ⊢
   rcases hx with h|h|h
   ·exact .inl (.inl h)
   ·exact .inr h
   ·exact .inl (.inr (.inr h))
  refine⟨I.ag,I.frame,I.size,I.old,I.le,λx hx=>?_,λx hx b hb=>?_,?_⟩
  ·rcases Z x hx with h|rfl
   ·exact I.den x h
   ·exact hd
  ·rcases Z x hx with h|rfl
   ·exact I.sep x h b hb
   ·cases hb
  ·have:=I.apart
   simp only[Ct,BI]at this ⊢
   obtain⟨a1,⟨a2,a3⟩,a4⟩:=this
   refine⟨a1,⟨λy hy b hb=>(by simp[blk]at hb),a3⟩,λx hx y hy b hb=>?_⟩
   rcases Af.1 hy with rfl|hy
   ·simp[blk]
   ·exact a4 x hx y (Ae _ hy) b hb
 ·simp only[AP]at hv
  have ak:γ.M g=none:=(I.sep (c,.row e t xs) (by simp) g (by simp[blk,hv.1])).2
  have ai:Fr.le γ.M (zee γ g aa).M:=by
   intro b cc eM
   have:Nat.beq b g=false:=by
    cases hb:Nat.beq b g with
    |false=>rfl
    |true=>rw[Ag hb,ak]at eM;cases eM
   simp[zee,this,eM]
  have gx:Gx none γ (zee γ g aa):=⟨ai,λ_ _=>⟨rfl,rfl⟩⟩
  have ar:g<h.size:=(Ac.1 hg).1
  have am:∀x,x∈A++C->blk γ x.1 x.2≠some g:=by
   intro x hx
   have:=I.apart
   simp only[Ct,BI]at this
   obtain⟨a1,⟨a2,a3⟩,a4⟩:=this
   rcases As.1 hx with hx|hx
   ·intro hb
    exact a4 x hx (c,.row e t xs) Aj g hb (by simp[blk,hv.1])
   ·exact a2 x hx g (by simp[blk,hv.1])
  have ah:∀b,b≠g->(zee γ g aa).M b=γ.M b:=by
   intro b hb
   have:Nat.beq b g=false:=by
    cases h:Nat.beq b g with
    |false=>rfl
    |true=>exact absurd (Ag h) hb
   simp[zee,this]
  have hI:Inv h0 W M0 (A++C) (zee γ g aa) h:=by
   refine I.rest (by simp) gx (λx _=>⟨by simp,rfl⟩) (λx hx b hb=>?_) (λb cc eM=>?_) (λ_ _ _=>rfl) (Ad _) (λb hb=>ah b (by omega))
   ·have ab:b≠g:=λe'=>am x hx (e' ▸ hb)
    refine⟨rfl,(ah b ab).trans (I.sep x ?_ b hb).2⟩
    simp only[As,Af]at hx ⊢
    rcases hx with h|h
    ·exact .inl h
    ·exact .inr (.inr h)
   ·by_cases ab:b=g
    ·subst ab
     have:cc=aa:=by simp[zee]at eM;exact eM.symm
     subst this
     exact⟨_,_,hg⟩
    ·rw[ah b ab]at eM;exact I.ag b cc eM
  refine⟨zee γ g aa,?_,gx⟩
  have hd:DenC h0.size (zee γ g aa) h c (.fz t xs):=by
   have:=(ae.mono ai).rd (b:=g) (o:=0) (c:=cap) (cs:=aa) (by simp[zee]) (by rw[BQ,<-hl];exact af) ⟨hn,by omega⟩
   show Rd _ _ _ [slV (γ.σ c)]
   have e3:slV (γ.σ c)=.slice (some ⟨g,0,none⟩) xs.length cap:=by
    unfold slV;rw[hv.1,hl,hv.2.2]
   rw[e3];exact this
  have Z:∀x,x∈A++(c,Ch.fz t xs)::C->x∈A++C\/x=(c,Ch.fz t xs):=by
   intro x hx
   simp only[As,Af]at hx ⊢
   rcases hx with h|h|h
   ·exact .inl (.inl h)
   ·exact .inr h
   ·exact .inl (.inr h)
  refine⟨hI.ag,hI.frame,hI.size,hI.old,hI.le,λx hx=>?_,λx hx b hb=>?_,?_⟩
  ·rcases Z x hx with h|rfl
   ·exact hI.den x h
   ·exact hd
  ·rcases Z x hx with h|rfl
   ·exact hI.sep x h b hb
   ·cases hb
  ·have:=hI.apart
   simp only[Ct,BI]at this ⊢
   obtain⟨a1,a3,a4⟩:=this
   refine⟨a1,⟨λy hy b hb=>(by simp[blk]at hb),a3⟩,λx hx y hy b hb=>?_⟩
   rcases Af.1 hy with rfl|hy
   ·simp[blk]
   ·exact a4 x hx y hy b hb
theorem Inv.freeze{R:CS}{h:za}(c:Nat):∀(C A:CS) {γ:Gh},Inv h0 W M0 (A++C++R) γ h->∃γ',Inv h0 W M0 (A++z4w c C++R) γ' h/\Gx none γ γ'
 |[],A,γ,I=>⟨γ,I,Gx.refl _ _⟩
 |(j,k)::l,A,γ,I=>by
  have go:∀(k:Ch) {γ:Gh},Inv h0 W M0 (A++(j,k)::l++R) γ h->∃γ',Inv h0 W M0 (A++(j,k)::z4w c l++R) γ' h/\Gx none γ γ':=by
   intro k γ I
   have:=Inv.freeze c l (A++[(j,k)]) (R:=R) (γ:=γ) (by simpa using I)
   simpa using this
  simp only[z4w]
  cases Nat.beq j c with
  |true=>
   cases k with
   |row e t xs=>
    obtain⟨γ1,I1,g1⟩:=Inv.freeze1 (A:=A) (C:=l++R) (γ:=γ) (by simpa using I)
    obtain⟨γ2,I2,g2⟩:=go (.fz t xs) (γ:=γ1) (by simpa using I1)
    exact⟨γ2,I2,g1.1.trans g2.1,λi hi=>⟨(g2.2 i hi).1.trans (g1.2 i hi).1,(g2.2 i hi).2.trans (g1.2 i hi).2⟩⟩
   |box l'=>exact go _ I
   |fz t xs=>exact go _ I
  |false=>exact go _ I
end
section
variable {i n:Nat} {c:zt} {v:AV} {γ γ':Gh} {a:Act} {u:Value} {o:Oper} {g:Option Bool} {σ:Operand -> Value}
abbrev qo:=List (Nat×zt×AV)
def zke:qo->Nat->Option (zt×AV)
 |[],_=>none
 |(j,c,v)::e,i=>bif Nat.beq i j then some (c,v)else zke e i
def zkf(γ:Gh)(σ:Nat->Value)(x:Nat×zt×AV):Prop:=(valid σ x.2.1->DenV γ x.2.2 (σ x.1))/\(¬valid σ x.2.1->σ x.1=undef)
structure SatA (n:Nat) (e:qo) (γ:Gh) (a:Act):Prop where
 defers:a.defers=[]
 size:a.tmps.size=n
 all:∀x∈e,zkf γ (zl a) x
def z9k:qo->Nat->qo
 |[],_=>[]
 |(j,c,v)::e,i=>bif (bif Nat.beq i j then true else mentions c i)then z9k e i else(j,c,v)::z9k e i
def qd1(e:qo)(i:Nat)(c:zt)(v:AV):qo:=(i,c,v)::z9k e i
def z0h(e:qo):Option Nat->zt->AV->qo
 |none,_,_=>e
 |some d,c,v=>qd1 e d c v
def zef:qo->qo
 |[]=>[]
 |(j,[],v)::e=>(j,[],v)::zef e
 |(_,_::_,_)::e=>zef e
def zml(c:Nat):qo->qo
 |[]=>[]
 |(j,ch,v)::e=>bif zvs c v then zml c e else(j,ch,v)::zml c e
def zri:Option Nat->qo->qo
 |none,e=>e
 |some c,e=>zml c e
theorem x6{e:qo}(h:zke e i=some (c,v)):(i,c,v)∈e:=by
 induction e with
 |nil=>cases h
 |cons x e ih=>
  obtain⟨j,cj,vj⟩:=x
  simp only[zke]at h
  by_cases hb:Nat.beq i j=true
  ·simp only[hb,cond_true,Aa,A9]at h
   obtain⟨rfl,rfl⟩:=h
   rw[Ag hb]
   exact Aj
  ·simp only[hb,cond_false]at h
   exact Ae _ (ih h)
theorem z0i{e:qo}{x:Nat×zt×AV}(h:x∈z9k e i):x∈e/\x.1≠i/\mentions x.2.1 i=false:=by
 induction e with
 |nil=>cases h
 |cons y e ih=>
  obtain⟨j,cj,vj⟩:=y
  simp only[z9k]at h
  by_cases hb:Nat.beq i j=true
  ·simp only[hb,cond_true]at h
   exact⟨Ae _ (ih h).1,(ih h).2⟩
  ·have ab:Nat.beq i j=false:=Bool.eq_false_iff.2 hb
   simp only[ab,cond_false]at h
   by_cases hm:mentions cj i=true
   ·simp only[hm,cond_true]at h
    exact⟨Ae _ (ih h).1,(ih h).2⟩
   ·have aa:mentions cj i=false:=by simpa using hm
    simp only[aa,cond_false]at h
    rcases Af.1 h with rfl|h
    ·refine⟨Aj,λZ=>?_,aa⟩
     simp only at Z
     rw[Z]at hb
     exact hb (by simp)
    ·exact⟨Ae _ (ih h).1,(ih h).2⟩
theorem ztk{e:qo}{x:Nat×zt×AV}(h:x∈zef e):x∈e/\x.2.1=[]:=by
 induction e with
 |nil=>cases h
 |cons y e ih=>
  obtain⟨j,cj,vj⟩:=y
  cases cj with
  |nil=>
   simp only[zef]at h
   rcases Af.1 h with rfl|h
   ·exact⟨Aj,rfl⟩
   ·exact⟨Ae _ (ih h).1,(ih h).2⟩
  |cons c cs=>
   simp only[zef]at h
   exact⟨Ae _ (ih h).1,(ih h).2⟩
theorem ztl{c:Option Nat}{e:qo}{x:Nat×zt×AV}(h:x∈zri c e):x∈e/\zvt zvs c x.2.2=false:=by
 cases c with
 |none=>exact⟨h,rfl⟩
 |some c=>
  have key:∀e:qo,x∈zml c e->x∈e/\zvs c x.2.2=false:=by
   intro e
   induction e with
   |nil=>intro h;cases h
   |cons y e ih=>
    obtain⟨j,cj,vj⟩:=y
    intro h
    simp only[zml]at h
    cases hm:zvs c vj with
    |true=>rw[hm]at h;exact⟨Ae _ (ih h).1,(ih h).2⟩
    |false=>
     rw[hm]at h
     rcases Af.1 h with rfl|h
     ·exact⟨Aj,hm⟩
     ·exact⟨Ae _ (ih h).1,(ih h).2⟩
  exact key e h
theorem SatA.sub{e e':qo}(h:SatA n e γ a)(hs:∀x∈e',x∈e):SatA n e' γ a:=⟨h.defers,h.size,λx hx=>h.all x (hs x hx)⟩
theorem SatA.clean{e:qo}(h:SatA n e γ a):SatA n (zef e) γ a:=h.sub λ_ hx=>(ztk hx).1
theorem SatA.gx{e:qo}{c:Option Nat}(h:SatA n e γ a)(g:Gx c γ γ'):SatA n (zri c e) γ' a:=
 ⟨h.defers,h.size,λx hx=>by
  obtain⟨h1,h2⟩:=ztl hx
  exact⟨λhv=>((h.all x h1).1 hv).gx g h2,(h.all x h1).2⟩⟩
theorem SatA.gx0{e:qo}(h:SatA n e γ a)(g:Gx none γ γ'):SatA n e γ' a:=h.gx g
theorem SatA.put{e:qo}(h:SatA n e γ a)(hi:i<n)(hm:mentions c i=false)
  (hy:valid (zl a) c->DenV γ v u) (hn:¬valid (zl a) c->u=undef):SatA n (qd1 e i c v) γ (a.put (some i) u):=by
 refine⟨by rw[zu];exact h.defers,by rw[size_put];exact h.size,λx hx=>?_⟩
 have aa:i<a.tmps.size:=by rw[h.size];exact hi
 rcases Af.1 hx with rfl|hx
 ·have hv:=xm (σ:=zl (a.put (some i) u)) (τ:=zl a) hm (λj hj=>qb hj)
  refine⟨λhc=>?_,λhc=>?_⟩
  ·simp only;rw[qh aa];exact hy (hv.1 hc)
  ·exact(qh aa).trans (hn (λZ=>hc (hv.2 Z)))
 ·obtain⟨h1,h2,h3⟩:=z0i hx
  have hv:=xm (σ:=zl (a.put (some i) u)) (τ:=zl a) h3 (λj hj=>qb hj)
  have hf:=h.all x h1
  refine⟨λhc=>?_,λhc=>?_⟩
  ·rw[qb h2];exact hf.1 (hv.1 hc)
  ·exact(qb h2).trans (hf.2 (λZ=>hc (hv.2 Z)))
theorem SatA.putO{e:qo}(h:SatA n e γ a){d:Option Nat}(hd:qi n c d=true)
  (hy:valid (zl a) c->DenV γ v u) (hn:¬valid (zl a) c->u=undef):SatA n (z0h e d c v) γ (a.put d u):=by
 cases d with
 |none=>exact h
 |some i=>
  simp only[qi]at hd
  by_cases hm:mentions c i=true
  ·simp[hm]at hd
  ·have Z:mentions c i=false:=by simpa using hm
   simp only[Z,cond_false]at hd
   exact h.put (by simpa[Cs]using hd) Z hy hn
def qci:Value->AG
 |.agg cs=>.agg (cs.toList.map .v)
 |v=>.a (.v v)
def ztm:Value->AV
 |.tuple vs=>.tup (vs.toList.map qci)
 |v=>.g (qci v)
theorem zrj(γ:Gh)(v:Value):DenG γ (qci v) v:=by
 cases v with
 |agg cs=>
  refine⟨cs.toList,by simp,?_⟩
  generalize cs.toList=l
  induction l with
  |nil=>trivial
  |cons x l ih=>exact⟨rfl,ih⟩
 |_=>exact rfl
theorem Yk(γ:Gh)(v:Value):DenV γ (ztm v) v:=by
 cases v with
 |tuple vs=>
  refine⟨vs.toList,by simp,?_⟩
  generalize vs.toList=l
  induction l with
  |nil=>trivial
  |cons x l ih=>exact⟨zrj γ x,ih⟩
 |agg cs=>exact zrj γ (.agg cs)
 |_=>exact rfl
def exL:List AA->Option (List Value)
 |[]=>some []
 |.v x::l=>match exL l with
  |some vs=>some (x::vs)
  |none=>none
 |_::_=>none
def exV:AV->Option Value
 |.g (.a (.v x))=>some x
 |.g (.agg l)=>match exL l with
  |some vs=>some (.agg vs.toArray)
  |none=>none
 |_=>none
theorem zvv{γ:Gh}:∀{l:List AA} {vs us:List Value},exL l=some vs->All2 (DenA γ) l us->us=vs
 |[],vs,[],h,_=>by simp only[exL,Aa]at h;exact h
 |[],_,_::_,_,h=>h.elim
 |.v x::l,vs,u::us,h,hd=>by
  simp only[exL]at h
  split at h
  ·rename_i ws hw
   simp only[Aa]at h
   subst h
   rw[show u=x from hd.1,zvv hw hd.2]
  ·cases h
 |.v _::_,_,[],_,h=>h.elim
 |.d _ _::_,_,_,h,_=>by simp[exL]at h
 |.box _ _::_,_,_,h,_=>by simp[exL]at h
 |.own _::_,_,_,h,_=>by simp[exL]at h
 |.oelt _ _ _ _::_,_,_,h,_=>by simp[exL]at h
 |.elt _ _ _::_,_,_,h,_=>by simp[exL]at h
 |.dc _ _::_,_,_,h,_=>by simp[exL]at h
theorem zph{x:AV}{v u:Value}(h:exV x=some v)(hd:DenV γ x u):u=v:=by
 unfold exV at h
 split at h
 ·simp only[Aa]at h;subst h;exact hd
 ·rename_i l
  split at h
  ·rename_i vs hv
   simp only[Aa]at h
   subst h
   obtain⟨us,rfl,h2⟩:=hd
   rw[zvv hv h2]
  ·cases h
 ·cases h
def zen(e:qo)(c:zt):Operand->Option AV
 |.tmp t=>match zke e t with
  |some (cs,v)=>bif suf cs c then some v else none
  |none=>none
 |.const v=>some (ztm v)
 |.global g=>some (.g (.a (.v (.pointer (some ⟨g,0,none⟩)))))
 |.func f=>some (.g (.a (.v (.func (.func f) #[] #[]))))
theorem zo{e:qo}(h:SatA n e γ a)(hc:valid (zl a) c){x:Operand}(hx:zen e c x=some v):DenV γ v (a.eval x):=by
 cases x with
 |tmp t=>
  simp only[zen]at hx
  split at hx
  ·rename_i cs u hl
   by_cases hs:suf cs c=true
   ·simp only[hs,cond_true,Aa]at hx
    subst hx
    exact(h.all _ (x6 hl)).1 (Yc hs hc)
   ·simp[hs]at hx
  ·cases hx
 |const u=>simp only[zen,Aa]at hx;subst hx;exact Yk γ u
 |global g=>simp only[zen,Aa]at hx;subst hx;exact rfl
 |func f=>simp only[zen,Aa]at hx;subst hx;exact rfl
def ztn:AV->Option Bool
 |.g (.a (.v (.bool b)))=>some b
 |_=>none
theorem zf2{b:Bool}(h:ztn v=some b)(hd:DenV γ v u):u=.bool b:=by
 unfold ztn at h
 split at h
 ·simp only[Aa]at h;subst h;exact hd
 ·cases h
def Qz(ops:Array Oper)(e:qo):Option (Nat×Bool)->Option zt
 |none=>some []
 |some (j,p)=>match yf ops j with
  |some g=>match zke e g with
   |some (cg,v)=>match ztn v with
    |some _=>some ((g,p)::cg)
    |none=>none
   |none=>none
  |none=>none
def zmm(e:qo):zt->Option Bool
 |[]=>some true
 |(g,p)::c=>match zke e g with
  |some (cg,v)=>match ztn v with
   |some b=>bif xn cg c then(match zmm e c with
    |some cb=>some (cb&&(bif p then b else !b))
    |none=>none)else none
   |none=>none
  |none=>none
theorem Wr{n:Nat}{e:qo}{γ:Gh}{a:Act}(h:SatA n e γ a):∀{c:zt} {b:Bool},zmm e c=some b->(b=true↔valid (zl a) c)
 |[],b,hb=>by simp only[zmm,Aa]at hb;simp[<-hb,valid]
 |(g,p)::c,b,hb=>by
  simp only[zmm]at hb
  split at hb
  ·rename_i cg v hl
   split at hb
   ·rename_i bg Z
    by_cases hq:xn cg c=true
    ·simp only[hq,cond_true]at hb
     split at hb
     ·rename_i cb aa
      simp only[Aa]at hb
      have ih:=Wr h aa
      have hf:=h.all _ (x6 hl)
      rw[Yb hq]at hf
      by_cases hv:valid (zl a) c
      ·have h1:zl a g=.bool bg:=zf2 Z (hf.1 hv)
       have h2:=ih.2 hv
       subst hb
       simp only[valid,h1,hv,h2,Cd,and_true,Value.bool.injEq]
       cases p <;> cases bg <;> simp
      ·have h1:cb=false:=by cases cb with|false=>rfl|true=>exact absurd (ih.1 rfl) hv
       subst hb
       simp[valid,hv,h1]
     ·cases hb
    ·simp[hq]at hb
   ·cases hb
  ·cases hb
theorem wv{ops:Array Oper}{e:qo}(h:SatA n e γ a)(hc:Qz ops e o.guard=some c):
  Bo o (yielded ops a.tmps)=true↔valid (zl a) c:=by
 unfold Bo
 cases hg:o.guard with
 |none=>rw[hg]at hc;simp only[Qz,Aa]at hc;simp[<-hc,valid]
 |some jp=>
  obtain⟨j,p⟩:=jp
  rw[hg]at hc
  simp only[Qz]at hc
  split at hc
  ·rename_i g hd
   split at hc
   ·rename_i cg v hl
    split at hc
    ·rename_i b hb
     simp only[Aa]at hc
     subst hc
     have aa:((ops[j]?).bind (·.dst))=some g:=by
      simp only[yf]at hd
      split at hd
      ·rename_i o' Z;simp[Z,hd]
      ·cases hd
     have hf:=h.all _ (x6 hl)
     have hy:yielded ops a.tmps j=some p↔zl a g=.bool p:=by
      unfold yielded zl
      rw[aa]
      simp only[CK]
      cases ht:a.tmps[g]? with
      |none=>simp[A7,ht,undef]
      |some v=>cases v <;> simp[A7,ht]
     simp only[beq_iff_eq,hy,valid]
     constructor
     ·intro h1
      refine⟨h1,?_⟩
      by_cases hv:valid (zl a) cg
      ·exact hv
      ·have:=hf.2 hv
       simp only at this
       rw[h1]at this
       exact absurd this.symm zbl
     ·exact λh1=>h1.1
    ·cases hc
   ·cases hc
  ·cases hc
def Jd(e:qo):zt->Option (Option Bool)
 |[]=>some none
 |c=>match zmm e c with
  |some b=>some (some b)
  |none=>none
theorem wn{e:qo}(hs:SatA n e γ a)(h:Jd e c=some g)(hv:valid (zl a) c):gok g:=by
 unfold Jd at h
 split at h
 ·simp only[Aa]at h;subst h;trivial
 ·split at h
  ·rename_i b hb
   simp only[Aa]at h
   subst h
   exact(Wr hs hb).2 hv
  ·cases h
theorem zak{e:qo}(hs:SatA n e γ a)(h:Jd e c=some g)(hv:¬valid (zl a) c):g=some false:=by
 unfold Jd at h
 split at h
 ·exact absurd trivial hv
 ·split at h
  ·rename_i b hb
   simp only[Aa]at h
   subst h
   cases b with
   |false=>rfl
   |true=>exact absurd ((Wr hs hb).1 rfl) hv
  ·cases h
def qby(ρ:Operand->Option AV)(x:Operand):Value:=match ρ x with
 |some av=>match exV av with
  |some v=>v
  |none=>undef
 |none=>undef
def zf3(ρ:Operand->Option AV):List Operand->Bool
 |[]=>true
 |x::l=>match ρ x with
  |some av=>match exV av with
   |some _=>zf3 ρ l
   |none=>false
  |none=>false
theorem zmn{ρ:Operand->Option AV}(hρ:∀x av,ρ x=some av->DenV γ av (σ x)){l:List Operand}(hk:zf3 ρ l=true):∀x∈l,σ x=qby ρ x:=by
 induction l with
 |nil=>intro x hx;cases hx
 |cons y l ih=>
  intro x hx
  simp only[zf3]at hk
  split at hk
  ·rename_i av hv
   split at hk
   ·rename_i v Z
    rcases Af.1 hx with rfl|hx
    ·rw[zph Z (hρ _ _ hv)];simp[qby,hv,Z]
    ·exact ih hk x hx
   ·cases hk
  ·cases hk
theorem zmo{ρ:Operand->Option AV}(hρ:∀x av,ρ x=some av->DenV γ av (σ x))(hs:jb o.op=true)(hk:zf3 ρ o.op.operands.toList=true):
  execOp σ o=execOp (qby ρ) o:=
 execOp_congr o (λcs b hb=>by rw[hb]at hs;cases hs) λx hx=>zmn hρ hk x (by simpa using hx)
end
section
variable {o n f k:Nat} {h:za} {u:Value} {us:List Value} {cs:CS} {γ:Gh} {t ty:TypeId} {P:Program} {s:Option Nat}
variable {h0 : za} {W : Nat -> Prop} {M0 : Fr}
def takeN(l:List AA)(o n:Nat):Option (List AA):=bif Nat.beq ((l.drop o).take n).length n then some ((l.drop o).take n)else none
theorem Xm{l r:List AA}(h:takeN l o n=some r):r=(l.drop o).take n/\r.length=n:=by
 unfold takeN at h
 cases hb:Nat.beq ((l.drop o).take n).length n with
 |false=>rw[hb]at h;cases h
 |true=>
  rw[hb]at h
  simp only[cond_true,Aa]at h
  subst h
  exact⟨rfl,Ag hb⟩
theorem zmp{h:za}{p:Addr}:∀{us:List Value} {i:Nat},(∀j v,us[j]?=some v->zd h (p.add (i+j))=some v)->ze h p i us
 |[],_,_=>trivial
 |v::us,i,H=>⟨by have:=H 0 v rfl;simpa using this,zmp λj u hu=>by have:=H (j+1) u (by simpa using hu);rwa[show i+(j+1)=i+1+j by omega]at this⟩
def Behind(h:za)(u:Value)(us:List Value):Prop:=∃b o,u=.pointer (some ⟨b,o,none⟩)/\∀j v,us[j]?=some v->zd h ⟨b,o+j,none⟩=some v
theorem Behind.ld(H:Behind h u us):∃p:Addr,u=.pointer (some p)/\ze h p 0 us/\∀v,us=[v]->zd h p=some v:=by
 obtain⟨b,o,e,hc⟩:=H
 refine⟨_,e,zmp λj v hv=>?_,λv hv=>?_⟩
 ·rw[zq,Ay];exact hc j v hv
 ·have:=hc 0 v (by rw[hv];rfl);simpa using this
theorem z4x{cs:Array Value}{f n j:Nat}{v:Value}(h:(cut cs f n)[j]?=some v):cs[f+j]?=some v:=by
 unfold cut at h
 rw[Az]at h
 split at h
 ·rw[AE]at h;simpa using h
 ·cases h
def z0j(cs:CS)(n:Nat):AA->Option (List AA)
 |.box c o=>match Qa cs c with
  |some (.box l)=>bif itB l then none else takeN l o n
  |_=>none
 |.elt t x o=>takeN (Yi t x) o n
 |_=>none
theorem zpi(I:Inv h0 W M0 cs γ h){aa:AA}{r:List AA}(hf:z0j cs n aa=some r)(hd:DenA γ aa u):
  ∃us,Behind h u us/\us.length=n/\All2 (DenA γ) r us:=by
 unfold z0j at hf
 split at hf
 ·rename_i c o
  split at hf
  ·rename_i l hl
   cases hit:itB l with
   |true=>rw[hit]at hf;cases hf
   |false=>
   rw[hit]at hf
   obtain⟨rfl,hn⟩:=Xm hf
   obtain⟨us,e,h2⟩:=I.den _ (zy hl)
   rcases e with⟨⟨T,e⟩,_⟩|⟨s,p,e,_⟩
   case inr=>exact absurd e (zrh hit h2 s p)
   have h3:=(h2.drop o).take n
   refine⟨(us.drop o).take n,⟨_,_,hd,λj v hv=>?_⟩,by rw[<-h3.length];exact hn,h3⟩
   rw[Az]at hv
   split at hv
   ·rw[AE]at hv
    unfold zd;simp only[e];simp;exact hv
   ·cases hv
  ·cases hf
 ·rename_i t x o
  obtain⟨rfl,hn⟩:=Xm hf
  obtain⟨b,f,cc,e,hM,hr⟩:=hd
  have h3:=((wm (γ:=γ) hr).drop o).take n
  refine⟨_,⟨_,_,e,λj v hv=>?_⟩,by rw[<-h3.length];exact hn,h3⟩
  rw[Az]at hv
  split at hv
  ·rw[AE]at hv
   have:=z4x hv
   exact I.ag.cell hM (by rw[show f+o+j=f+(o+j)by omega];exact this)
  ·cases hv
 ·cases hf
theorem z4y(I:Inv h0 W M0 cs γ h){c:Nat}{e:TypeId}{t:Ty}{xs:List (El t)}(hc:Qa cs c=some (.row e t xs)){i:Nat}{y:El t}(hy:xs[i]?=some y){r:List AA}(hr:takeN (Yi t y) o n=some r)(hd:DenA γ (.oelt c (sz t) i o) u):∃us,Behind h u us/\us.length=n/\All2 (DenA γ) r us:=by
 obtain⟨rfl,hn⟩:=Xm hr
 obtain⟨g,hg,rfl⟩:=hd
 obtain⟨cells,aa,ae,_,hl⟩:=I.den _ (zy hc)
 simp only at hl aa
 rcases aa.2 with⟨hv,h1⟩|⟨g',cap,ai,hv,_,af,_,_,_,ab⟩
 ·simp only[AP]at hv;rw[hg]at hv;cases hv.1
 ·simp only[AP]at hv
  rw[hg]at hv
  have aj:g=g':=by have:=hv.1;simp only[Aa,Addr.mk.injEq]at this;exact this.1
  subst aj
  have hi:i<xs.length:=(Av.1 hy).1
  have ah:xs[i]=y:=(Av.1 hy).2
  have h4:=ae.2 i hi
  rw[ah]at h4
  have h3:=((wm (γ:=γ) h4).drop o).take n
  refine⟨_,⟨_,_,rfl,λj v Z=>?_⟩,by rw[<-h3.length];exact hn,h3⟩
  rw[Az]at Z
  split at Z
  ·rw[AE,Az]at Z
   split at Z
   ·rw[AE,<-ab,Az]at Z
    split at Z
    ·have e2:h[g]?=some (.cells ai e (0,0)):=af
     unfold zd
     simp only[e2]
     simp
     rw[show i*sz t+o+j=i*sz t+(o+j)by omega]
     simpa using Z
    ·cases Z
   ·cases Z
  ·cases Z
def zkg:Option Nat->List AA->Option AG
 |none,[x]=>some (.a x)
 |some _,l=>some (.agg l)
 |_,_=>none
def Ws(P:Program)(t:TypeId):Option (Option Nat):=match zu2 P t with
 |some (.one _)=>some none
 |some (.agg l)=>some (some l.length)
 |none=>none
def zzz:Option Nat->Nat
 |none=>1
 |some n=>n
theorem zc8(hs:Ws P t=some s)(hb:Behind h u us)(hn:us.length=zzz s){r:List AA}(hr:All2 (DenA γ) r us){ag:AG}(hp:zkg s r=some ag):
  ∃v,DenG γ ag v/\QExec P (DO t u) h v:=by
 obtain⟨p,e,hl,h1⟩:=hb.ld
 subst e
 have Z:∀v,QExec P (loadVar t p) h v->QExec P (DO t (.pointer (some p))) h v:=λv hq B d=>by
  unfold DO DG
  simp only[Sem.run_bind,Sem.run_pure,Result.andThen_ok]
  exact hq B d
 unfold Ws at hs
 split at hs
 ·rename_i a hv
  simp only[Aa]at hs
  subst hs
  match us,hn,r,hr with
  |[v],_,[x],hr=>
   simp only[zkg,Aa]at hp
   subst hp
   exact⟨v,hr.1,Z v (zbn hv (h1 v rfl))⟩
  |[v],_,[],hr=>exact hr.elim
  |[v],_,_::_::_,hr=>exact hr.2.elim
 ·rename_i l hv
  simp only[Aa]at hs
  subst hs
  simp only[zkg,Aa]at hp
  subst hp
  exact⟨.agg us.toArray,⟨us,rfl,hr⟩,Z _ (zbo hv hn hl)⟩
 ·cases hs
def zto(P:Program)(cs:CS)(t:TypeId)(aa:AA)(g:Option Bool)(K:AV->Prop):Prop:=
 match Ws P t with
 |some s=>match aa with
  |.oelt c z i o=>match Qa cs c with
   |some (.row e ty xs)=>bif Nat.beq z (sz ty)then(∃y:El ty,req g (xs[i]?=some y)/\match takeN (Yi ty y) o (zzz s)with
    |some r=>match zkg s r with
     |some ag=>K (.g ag)
     |none=>False
    |none=>False)else False
   |_=>False
  |aa=>match z0j cs (zzz s) aa with
   |some r=>match zkg s r with
    |some ag=>K (.g ag)
    |none=>False
   |none=>False
 |none=>False
theorem zf4{aa:AA}{g:Option Bool}{K:AV->Prop}(H:zto P cs t aa g K):
  ∃av,K av/\(gok g->∀γ h u,Inv h0 W M0 cs γ h->DenA γ aa u->∃v,DenV γ av v/\QExec P (DO t u) h v):=by
 unfold zto at H
 split at H
 ·rename_i s hs
  split at H
  ·rename_i c z i o
   split at H
   ·rename_i e ty xs hc
    cases hz:Nat.beq z (sz ty)with
    |false=>rw[hz]at H;exact H.elim
    |true=>
     rw[hz]at H
     obtain⟨y,hy,H⟩:=H
     split at H
     ·rename_i r hr
      split at H
      ·rename_i ag hp
       refine⟨_,H,λhg γ h u I hd=>?_⟩
       rw[Ag hz]at hd
       obtain⟨us,h1,h2,h3⟩:=z4y I hc (hy.out hg) hr hd
       exact zc8 hs h1 h2 h3 hp
      ·exact H.elim
     ·exact H.elim
   ·exact H.elim
  ·split at H
   ·rename_i r hr
    split at H
    ·rename_i ag hp
     refine⟨_,H,λhg γ h u I hd=>?_⟩
     obtain⟨us,h1,h2,h3⟩:=zpi I hr hd
     exact zc8 hs h1 h2 h3 hp
    ·exact H.elim
   ·exact H.elim
 ·exact H.elim
def zvw(P:Program)(t:TypeId)(f:Nat):Option (Nat×TypeId):=match P.underlying t with
 |some (.struct fs)=>match fs[f]? with
  |some fl=>match P.info? fl.type with
   |some i=>bif Nat.beq i.size 0 then none else some (fl.offset,fl.type)
   |none=>none
  |none=>none
 |_=>none
def qbz(k:Nat):AA->Option AA
 |.box c o=>some (.box c (o+k))
 |.elt t x o=>some (.elt t x (o+k))
 |.oelt c z i o=>some (.oelt c z i (o+k))
 |_=>none
theorem zvx(hf:zvw P t f=some (k,ty))(b o:Nat):QExec P (Instr.fieldAt t (.pointer (some ⟨b,o,none⟩)) f) h (.pointer (some ⟨b,o+k,none⟩)):=by
 unfold zvw at hf
 split at hf
 ·rename_i fs hu
  split at hf
  ·rename_i fl Z
   split at hf
   ·rename_i i hi
    cases hz:Nat.beq i.size 0 with
    |true=>rw[hz]at hf;cases hf
    |false=>
     rw[hz]at hf
     simp only[cond_false,Aa,A9]at hf
     obtain⟨rfl,rfl⟩:=hf
     intro B d
     have hq:=QExec.underlying (h:=h) hu B d
     have hs:=QExec.sizeOf (h:=h) hi B d
     have aa:¬(qt P fl.type=0):=by
      unfold qt;rw[hi]
      intro e
      simp only at e
      rw[e]at hz;simp at hz
     unfold Instr.fieldAt DG fieldPlace
     simp only[Sem.run_bind,hq,Result.andThen_ok,Z,Sem.run_pure,hs,aa,if_false,zq]
   ·cases hf
  ·cases hf
 ·cases hf
theorem zrk{aa Z:AA}(h:qbz k aa=some Z)(hd:DenA γ aa u):∃b o,u=.pointer (some ⟨b,o,none⟩)/\DenA γ Z (.pointer (some ⟨b,o+k,none⟩)):=by
 unfold qbz at h
 split at h
 ·simp only[Aa]at h;subst h;exact⟨_,_,hd,rfl⟩
 ·simp only[Aa]at h;subst h
  obtain⟨b,f,cs,e,h1,h2⟩:=hd
  exact⟨_,_,e,b,f,cs,by rw[Eg],h1,h2⟩
 ·simp only[Aa]at h;subst h
  obtain⟨g,e1,e2⟩:=hd
  exact⟨_,_,e2,g,e1,by rw[Eg]⟩
 ·cases h
def zvy(P:Program)(ty:TypeId)(l:List AA)(k:Nat):Option AG:=match Ws P ty with
 |some s=>match takeN l k (zzz s)with
  |some r=>zkg s r
  |none=>none
 |none=>none
theorem zmq(hs:Ws P t=some s)(h:za):QExec P (isAgg t) h s.isSome:=by
 unfold Ws at hs
 split at hs
 ·rename_i a hv
  simp only[Aa]at hs;subst hs
  unfold zu2 at hv
  split at hv
  ·exact absurd hv (by split <;> (first|(intro h;cases h;done)|(cases Nat.beq _ _ <;> intro h <;> cases h)))
  ·exact absurd hv (by split <;> (first|(intro h;cases h;done)|(cases Nat.beq _ _ <;> intro h <;> cases h)))
  ·rename_i d aa Z hu
   intro B e
   have hq:=QExec.underlying (h:=h) hu B e
   unfold isAgg
   rw[Sem.run_bind,hq]
   cases d <;> first|rfl|exact(aa _ rfl).elim|exact(Z _ _ rfl).elim
  ·cases hv
 ·rename_i l hv
  simp only[Aa]at hs;subst hs
  unfold zu2 at hv
  have hu:(∃fs,P.underlying t=some (.struct fs))\/∃n e,P.underlying t=some (.array n e):=by
   split at hv
   ·exact .inl ⟨_,by assumption⟩
   ·exact .inr ⟨_,_,by assumption⟩
   ·simp at hv
   ·cases hv
  intro B e
  rcases hu with⟨fs,hu⟩|⟨m,e',hu⟩
  ·have hq:=QExec.underlying (h:=h) hu B e
   unfold isAgg
   rw[Sem.run_bind,hq];rfl
  ·have hq:=QExec.underlying (h:=h) hu B e
   unfold isAgg
   rw[Sem.run_bind,hq];rfl
 ·cases hs
theorem z0k(hs:Ws P t=some (some n)):qt P t=n/\∃i,P.info? t=some i:=by
 unfold Ws at hs
 split at hs
 ·cases hs
 ·rename_i l hv
  simp only[Aa]at hs
  subst hs
  unfold zu2 at hv
  have key:∀x:Option (List Atom),(match x with
    |some l=>bif Nat.beq l.length (qt P t)then some (VT.agg l)else none
    |none=>none)=some (.agg l)->qt P t=l.length:=by
   intro x hx
   split at hx
   ·rename_i l'
    cases hb:Nat.beq l'.length (qt P t)with
    |false=>rw[hb]at hx;cases hx
    |true=>
     rw[hb]at hx
     simp only[cond_true,Aa,VT.agg.injEq]at hx
     rw[<-hx];exact(Ag hb).symm
   ·cases hx
  split at hv
  ·exact⟨key _ hv,info_of_underlying (by assumption)⟩
  ·exact⟨key _ hv,info_of_underlying (by assumption)⟩
  ·simp at hv
  ·cases hv
 ·cases hs
theorem zal{l:List AA}{ag:AG}(hp:zvy P ty l k=some ag)(hd:All2 (DenA γ) l us)(h:za):∃v,DenG γ ag v/\QExec P (part ty us.toArray k) h v:=by
 unfold zvy at hp
 split at hp
 ·rename_i s hs
  split at hp
  ·rename_i r hr
   obtain⟨rfl,hn⟩:=Xm hr
   have h3:=(hd.drop k).take (zzz s)
   have Z:((us.drop k).take (zzz s)).length=zzz s:=by rw[<-h3.length];exact hn
   cases s with
   |none=>
    generalize hq:(us.drop k).take (zzz none)=q at *
    match q,Z,hq with
    |[v],_,hq=>
     generalize aa:(l.drop k).take (zzz none)=r' at *
     match r',h3 with
     |[x],h3=>
      simp only[zkg,Aa]at hp
      subst hp
      refine⟨v,h3.1,λB d=>?_⟩
      have ha:=zmq hs h B d
      have hv:us[k]?=some v:=by
       have:((us.drop k).take 1)[0]?=some v:=by rw[show(us.drop k).take 1=[v]from hq];rfl
       rw[Az,if_pos (by omega),AE]at this
       simpa using this
      unfold part
      rw[Sem.run_bind,ha]
      simp[hv]
     |[],h3=>exact h3.elim
     |_::_::_,h3=>exact h3.2.elim
   |some n=>
    simp only[zkg,Aa]at hp
    subst hp
    refine⟨.agg ((us.drop k).take n).toArray,⟨_,rfl,h3⟩,λB d=>?_⟩
    have ha:=zmq hs h B d
    obtain⟨hz,i,hi⟩:=z0k hs
    have hS:=QExec.sizeOf (h:=h) hi B d
    unfold part
    rw[Sem.run_bind,ha]
    simp only[Option.isSome_some,Result.andThen_ok,if_true]
    rw[Sem.run_bind,hS,hz]
    simp
  ·cases hp
 ·cases hp
end
section
variable {cs:CS} {γ:Gh} {h:za} {u:Value} {t el:TypeId} {a:Option Addr} {n:Int} {av:AV} {P:Program} {cap:Nat} {g:Option Bool} {σ:Operand -> Value} {b:Bool} {o:Oper}
variable {h0 : za} {W : Nat -> Prop} {M0 : Fr}
def rowOf(cs:CS):AA->Option ((t:Ty)×List (El t))
 |.d (.row t) xs=>some ⟨t,xs⟩
 |.dc t xs=>some ⟨t,xs⟩
 |.own c=>match Qa cs c with
  |some (.fz t xs)=>some ⟨t,xs⟩
  |_=>none
 |_=>none
theorem zbw(I:Inv h0 W M0 cs γ h){aa:AA}{r:(t:Ty)×List (El t)}(hr:rowOf cs aa=some r)(hd:DenA γ aa u):Rd γ.M (.row r.1) r.2 [u]:=by
 unfold rowOf at hr
 split at hr
 ·simp only[Aa]at hr;subst hr;exact hd
 ·simp only[Aa]at hr;subst hr;obtain⟨s,_,_,h⟩:=hd;exact h
 ·split at hr
  ·rename_i t xs hc
   simp only[Aa]at hr;subst hr
   rw[show u=_ from hd]
   exact I.den _ (zy hc)
  ·cases hr
 ·cases hr
theorem Rd.sub{M:Fr}{t:Ty}{xs:List (El t)}{n c:Nat}(H:Rd M (.row t) xs [.slice a n c]){l r m:Nat}(h1:l<=r)(h2:r<=xs.length)(h3:r<=m)(h4:m<=c):
  Rd M (.row t) ((xs.take r).drop l) [.slice (zq7 a (sz t) l m) (r-l) (m-l)]:=by
 obtain⟨v,e,a',c',e2,hn,H⟩:=H
 cases e
 simp only[AP]at e2
 obtain⟨rfl,rfl,rfl⟩:=e2
 have Z:((xs.take r).drop l).length=r-l:=by simp;omega
 refine⟨_,rfl,zq7 a (sz t) l m,m-l,by rw[Z],⟨by rw[Z];omega,by rw[Z];omega⟩,?_⟩
 by_cases hr:r=l
 ·left
  apply AJ
  omega
 rcases H with ab|⟨b,o,cs,e1,hM,hi⟩
 ·left;subst ab;simp
 ·right
  have aa:¬(m=l):=by omega
  refine⟨b,o+l*sz t,cs,?_,hM,λi ae=>?_⟩
  ·unfold zq7;rw[if_neg aa,e1];simp[zq]
  ·have:=hi (l+i) (by omega)
   have e3:((xs.take r).drop l)[i]=xs[l+i]:=by simp
   rw[e3]
   have e4:o+l*sz t+i*sz t=o+(l+i)*sz t:=by rw[BU];omega
   rw[e4];exact this
def qb0:AV->Option Int
 |.g (.a (.v (.int _ n)))=>some n
 |_=>none
theorem zrl(h:qb0 av=some n)(hd:DenV γ av u):∃k,u=.int k n:=by
 unfold qb0 at h
 split at h
 ·simp only[Aa]at h;subst h;exact⟨_,hd⟩
 ·cases h
def z0l(P:Program)(t:TypeId):Option TypeId:=match P.underlying t with
 |some (.slice el)=>bif qd P el then some el else none
 |_=>none
theorem Yl(h:z0l P t=some el):P.underlying t=some (.slice el)/\qd P el=true:=by
 unfold z0l at h
 split at h
 ·rename_i e hu
  cases ho:qd P e with
  |false=>rw[ho]at h;cases h
  |true=>rw[ho]at h;simp only[cond_true,Aa]at h;subst h;exact⟨hu,ho⟩
 ·cases h
def zvz(P:Program)(cs:CS)(t:TypeId)(aa:AA)(n:Int)(g:Option Bool)(K:AV->Prop):Prop:=
 match z0l P t with
 |some el=>match rowOf cs aa with
  |some r=>bif Nat.beq (qt P el) (sz r.1)then ∃y:El r.1,req g (0<=n/\r.2[n.toNat]?=some y)/\K (.g (.a (.elt r.1 y 0)))else False
  |none=>match aa with
   |.own c=>match Qa cs c with
    |some (.row e ty xs)=>bif Nat.beq (qt P el) (sz ty)then req g (0<=n/\n.toNat<xs.length)/\K (.g (.a (.oelt c (sz ty) n.toNat 0)))else False
    |_=>False
   |_=>False
 |none=>False
theorem zmr(hu:P.underlying t=some (.slice el))(ho:qd P el=true){a:Addr}{len cap:Nat}{k:IntKind}(h1:0<=n)(h2:n<(len:Int))(h:za):
  QExec P (Ef t (.slice (some a) len cap) (.int k n)) h (.pointer (some (a.add (n.toNat*qt P el)))):=by
 have:=we (P:=P) (t:=t) (x:=.slice (some a) len cap) (i:=.int k n) (g:=none) (K:=λv=>v=.pointer (some (a.add (n.toNat*qt P el))))
  (λaa Z=>by
   rcases Z with Z|⟨m,Z⟩
   ·rw[hu]at Z;cases Z;exact y0 ho
   ·rw[hu]at Z;cases Z) (by unfold zl5;rw[hu];exact⟨a,⟨rfl,h1,h2⟩,rfl⟩)
 obtain⟨v,rfl,hq⟩:=this
 exact hq trivial h
theorem zms{aa:AA}{K:AV->Prop}(H:zvz P cs t aa n g K):
  ∃av,K av/\(gok g->∀γ h u k,Inv h0 W M0 cs γ h->DenA γ aa u->∃v,DenV γ av v/\QExec P (Ef t u (.int k n)) h v):=by
 unfold zvz at H
 split at H
 ·rename_i el ai
  obtain⟨hu,ho⟩:=Yl ai
  split at H
  ·rename_i r hr
   cases hz:Nat.beq (qt P el) (sz r.1)with
   |false=>rw[hz]at H;exact H.elim
   |true=>
    rw[hz]at H
    obtain⟨y,hy,hK⟩:=H
    refine⟨_,hK,λhg γ h u k I hd=>?_⟩
    obtain⟨ab,af⟩:=hy.out hg
    have ae:=Ag hz
    obtain⟨v,e,a,c,e2,hn,H⟩:=zbw I hr hd
    cases e
    subst e2
    have hi:n.toNat<r.2.length:=(Av.1 af).1
    have hx:r.2[n.toNat]=y:=(Av.1 af).2
    rcases H with am|⟨b,o,cc,e1,hM,aj⟩
    ·rw[am]at hi;simp at hi
    ·subst e1
     refine⟨_,?_,zmr hu ho ab (by omega) h⟩
     have:=aj n.toNat hi
     rw[hx]at this
     rw[zq,ae]
     exact⟨b,o+n.toNat*sz r.1,cc,rfl,hM,this⟩
  ·split at H
   ·rename_i c _
    split at H
    ·rename_i e ty xs hc
     cases hz:Nat.beq (qt P el) (sz ty)with
     |false=>rw[hz]at H;exact H.elim
     |true=>
      rw[hz]at H
      obtain⟨hy,hK⟩:=H
      refine⟨_,hK,λhg γ h u k I hd=>?_⟩
      obtain⟨ab,hi⟩:=hy.out hg
      have ae:=Ag hz
      obtain⟨cells,Z,an,_,hl⟩:=I.den _ (zy hc)
      simp only at hl Z
      rcases Z.2 with⟨hv,h1⟩|⟨g',cap,ar,hv,_,ap,_,_,_,ah⟩
      ·omega
      ·simp only[AP]at hv
       have ak:u=slV (γ.σ c):=hd
       subst ak
       unfold slV
       rw[hv.1]
       refine⟨_,?_,zmr hu ho ab (by omega) h⟩
       rw[zq,ae,Ay]
       exact⟨g',hv.1,rfl⟩
    ·exact H.elim
   ·exact H.elim
 ·exact H.elim
def zmt(ρ:Operand->Option AV)(d:Int):Option Operand->Option Int
 |none=>some d
 |some x=>match ρ x with
  |some av=>qb0 av
  |none=>none
theorem Ym{ρ:Operand->Option AV}(hρ:∀x av,ρ x=some av->DenV γ av (σ x)){d n:Int}{x:Option Operand}(h:zmt ρ d x=some n):yq (x.map σ) d=some n:=by
 unfold zmt at h
 split at h
 ·exact h
 ·rename_i y
  split at h
  ·rename_i av Z
   obtain⟨k,e⟩:=zrl h (hρ _ _ Z)
   simp[yq,e]
  ·cases h
def zv0(P:Program)(cs:CS)(ρ:Operand->Option AV)(t:TypeId)(aa:AA)(lo hi mx:Option Operand)(g:Option Bool)(K:AV->Prop):Prop:=
 match z0l P t with
 |some el=>match rowOf cs aa with
  |some r=>bif Nat.beq (qt P el) (sz r.1)then(match zmt ρ 0 lo,zmt ρ (r.2.length:Int) hi with
   |some l,some h=>match mx with
    |none=>req g (0<=l/\l<=h/\h<=(r.2.length:Int))/\K (.g (.a (.d (.row r.1) ((r.2.take h.toNat).drop l.toNat))))
    |some m=>match zmt ρ 0 (some m),hi with
     |some m,some _=>req g (0<=l/\l<=h/\h<=(r.2.length:Int)/\m=h)/\K (.g (.a (.dc r.1 ((r.2.take h.toNat).drop l.toNat))))
     |_,_=>False
   |_,_=>False)else False
  |none=>False
 |none=>False
theorem zmu(hu:P.underlying t=some (.slice el))(ho:qd P el=true){len cap:Nat}{lo hi mx:Option Value}{l r m:Int}(hl:yq lo 0=some l)(hr:yq hi (len:Int)=some r)(hm:yq mx (cap:Int)=some m)
  (h0:mx=none\/∃v,hi=some v) (h1:0<=l) (h2:l<=r) (h3:r<=m) (h4:m<=(cap:Int)) (h:za):
  QExec P (DX t (.slice a len cap) lo hi mx) h (.slice (zq7 a (qt P el) l.toNat m.toNat) (r.toNat-l.toNat) (m.toNat-l.toNat)):=by
 have:=Qs (P:=P) (t:=t) (x:=.slice a len cap) (lo:=lo) (hi:=hi) (mx:=mx) (g:=none) (K:=λv=>v=.slice (zq7 a (qt P el) l.toNat m.toNat) (r.toNat-l.toNat) (m.toNat-l.toNat))
  (λaa Z=>by rcases Z with Z|⟨n',Z⟩ <;> (rw[hu]at Z;cases Z);exact y0 ho) (by unfold zq8;rw[hu];simp only[hl,hr,hm];exact⟨h0,⟨h1,h2,h3,h4⟩,trivial⟩)
 obtain⟨v,rfl,hq⟩:=this
 exact hq trivial h
theorem zmv{ρ:Operand->Option AV}{aa:AA}{lo hi mx:Option Operand}{K:AV->Prop}(H:zv0 P cs ρ t aa lo hi mx g K):
  ∃av,K av/\(gok g->∀γ h u σ,Inv h0 W M0 cs γ h->(∀x av,ρ x=some av->DenV γ av (σ x))->DenA γ aa u->∃v,DenV γ av v/\QExec P (DX t u (lo.map σ) (hi.map σ) (mx.map σ)) h v):=by
 unfold zv0 at H
 split at H
 ·rename_i el aj
  obtain⟨hu,ho⟩:=Yl aj
  split at H
  ·rename_i r hr
   cases hz:Nat.beq (qt P el) (sz r.1)with
   |false=>rw[hz]at H;exact H.elim
   |true=>
    rw[hz]at H
    have af:=Ag hz
    simp only[cond_true]at H
    split at H
    ·rename_i l hh hl ah
     split at H
     ·obtain⟨hy,hK⟩:=H
      refine⟨_,hK,λhg γ h u σ I hρ hd=>?_⟩
      obtain⟨h1,h2,h3⟩:=hy.out hg
      have ab:=zbw I hr hd
      have Z:=ab
      obtain⟨v,e,a,c,e2,hn,_⟩:=Z
      cases e
      subst e2
      refine⟨_,?_,zmu hu ho (Ym hρ hl) (Ym hρ ah) (m:=(c:Int)) rfl (.inl rfl) h1 h2 (by omega) (Int.le_refl _) h⟩
      rw[af]
      exact ab.sub (by omega) (by omega) (by omega) (by omega)
     ·rename_i m
      split at H
      ·rename_i m' hx hm
       obtain⟨hy,hK⟩:=H
       refine⟨_,hK,λhg γ h u σ I hρ hd=>?_⟩
       obtain⟨h1,h2,h3,h4⟩:=hy.out hg
       subst h4
       have ab:=zbw I hr hd
       have Z:=ab
       obtain⟨v,e,a,c,e2,hn,_⟩:=Z
       cases e
       subst e2
       have ae:=Ym hρ hm
       have ai:yq ((some m).map σ) (c:Int)=some m':=by
        unfold yq at ae ⊢
        simp only[Dw]at ae ⊢
        split at ae <;> simp_all
       refine⟨_,?_,zmu hu ho (Ym hρ hl) (Ym hρ ah) ai (.inr ⟨_,rfl⟩) h1 h2 (Int.le_refl _) (by omega) h⟩
       rw[af]
       refine⟨⟨_,_,_⟩,rfl,rfl,ab.sub (by omega) (by omega) (by omega) (by omega)⟩
      ·exact H.elim
    ·exact H.elim
  ·exact H.elim
 ·exact H.elim
def qcj(cs:CS):AA->Option Nat
 |.d (.row _) xs=>some xs.length
 |.dc _ xs=>some xs.length
 |.own c=>match Qa cs c with
  |some (.fz _ xs)=>some xs.length
  |some (.row _ _ xs)=>some xs.length
  |_=>none
 |_=>none
theorem z0m(I:Inv h0 W M0 cs γ h){aa:AA}{n:Nat}(hn:qcj cs aa=some n)(hd:DenA γ aa u):∃a c,u=.slice a n c:=by
 have key:∀{t:Ty} {xs:List (El t)},Rd γ.M (.row t) xs [u]->∃a c,u=.slice a xs.length c:=by
  rintro t xs ⟨v,e,a,c,e2,_⟩
  cases e
  exact⟨a,c,e2⟩
 unfold qcj at hn
 split at hn
 ·simp only[Aa]at hn;subst hn;exact key hd
 ·simp only[Aa]at hn;subst hn;obtain⟨s,_,_,hd⟩:=hd;exact key hd
 ·split at hn
  ·rename_i c t xs hc
   simp only[Aa]at hn;subst hn
   rw[show u=_ from hd]at key ⊢
   exact key (I.den _ (zy hc))
  ·rename_i c e t xs hc
   simp only[Aa]at hn;subst hn
   obtain⟨cells,_,_,_,hl⟩:=I.den _ (zy hc)
   simp only at hl
   rw[show u=_ from hd]
   exact⟨_,_,by unfold slV;rw[hl]⟩
  ·cases hn
 ·cases hn
def z9l:AA->List AA
 |.v x=>x.cells.toList.map .v
 |x=>[x]
def ztp:AV->Option (List AA)
 |.g (.a x)=>some (z9l x)
 |.g (.agg l)=>some l
 |_=>none
theorem z9m(h:u.oneCell'=true):u.cells.toList=[u]:=by
 cases u <;> first|rfl|simp[Value.oneCell']at h
theorem Za(γ:Gh):∀l:List Value,All2 (DenA γ) (l.map .v) l
 |[]=>trivial
 |_::l=>⟨rfl,Za γ l⟩
theorem zv1{x:AA}(hd:DenA γ x u):All2 (DenA γ) (z9l x) u.cells.toList:=by
 have key:u.oneCell'=true->All2 (DenA γ) [x] u.cells.toList:=λh=>by rw[z9m h];exact⟨hd,trivial⟩
 cases x with
 |v y=>rw[show u=y from hd];exact Za γ _
 |d t y=>exact key (Rd.one (show Rd γ.M t y [u]from hd) u (by simp))
 |box c o=>exact key (by rw[show u=_ from hd];rfl)
 |own c=>exact key (by rw[show u=_ from hd];rfl)
 |oelt c z i o=>obtain⟨g,_,e⟩:=hd;exact key (by rw[e];rfl)
 |elt t y o=>obtain⟨b,f,cs,e,_⟩:=hd;exact key (by rw[e];rfl)
 |dc t xs=>obtain⟨s,e,_⟩:=hd;exact key (by rw[e];rfl)
theorem zbx{l:List AA}(h:ztp av=some l)(hd:DenV γ av u):All2 (DenA γ) l u.cells.toList:=by
 unfold ztp at h
 split at h
 ·simp only[Aa]at h;subst h;exact zv1 hd
 ·simp only[Aa]at h;subst h
  obtain⟨us,rfl,h2⟩:=hd
  simpa[Value.cells]using h2
 ·cases h
def zmw(Z:Nat->Option (Nat×Nat))(cells:List AA):List (Nat×AV)->Option (List AA)
 |[]=>some cells
 |(i,av)::rest=>match Z i,ztp av with
  |some (off,size),some l=>bif Nat.beq l.length size then(bif Nat.ble (off+l.length) cells.length then zmw Z (cells.take off++l++cells.drop (off+l.length)) rest else none)else none
  |_,_=>none
theorem z0n(vs:List Value):∀(k off:Nat) (cs:Array Value),off+k+vs.length<=cs.size ->
  ((vs.zipIdx k).foldl (λcs (x:Value×Nat)=>cs.setIfInBounds (off+x.2) x.1) cs).toList=cs.toList.take (off+k)++vs++cs.toList.drop (off+k+vs.length):=by
 induction vs with
 |nil=>intro k off cs h;simp
 |cons v vs ih=>
  intro k off cs h
  simp only[Aw]at h
  rw[List.zipIdx_cons,List.foldl_cons]
  refine(ih (k+1) off (cs.setIfInBounds (off+k) v) (by rw[AU];omega)).trans ?_
  simp only[Array.toList_setIfInBounds,Aw]
  have hi:off+k<cs.toList.length:=by simp;omega
  rw[<-Eg,List.drop_set_of_lt (by omega)]
  have e2:(cs.toList.set (off+k) v).take (off+k+1)=cs.toList.take (off+k)++[v]:=by
   rw[List.take_set,AD hi,List.set_append_right _ _ (by simp;omega)]
   have:off+k-(cs.toList.take (off+k)).length=0:=by simp;omega
   rw[this];rfl
  rw[e2,show off+k+(vs.length+1)=off+k+1+vs.length by omega]
  simp
theorem Je{Z:Nat->Option (Nat×Nat)}{γ:Gh}:∀{aa:List (Nat×AV)} {cells r:List AA} {us:List Value} {ps:List (Nat×Value)},zmw Z cells aa=some r->All2 (DenA γ) cells us->All2 (λ(x:Nat×AV) (y:Nat×Value)=>x.1=y.1/\DenV γ x.2 y.2) aa ps ->
  ∃ws:List Value,Et Z us.toArray ps=some ws.toArray/\All2 (DenA γ) r ws
 |[],cells,r,us,[],h,hc,_=>by
  simp only[zmw,Aa]at h
  subst h
  exact⟨us,rfl,hc⟩
 |[],_,_,_,_::_,_,_,hp=>hp.elim
 |_::_,_,_,_,[],_,_,hp=>hp.elim
 |(i,av)::rest,cells,r,us,(j,v)::ps,h,hc,hp=>by
  obtain⟨⟨ab,hv⟩,hp⟩:=hp
  simp only at ab hv
  subst ab
  simp only[zmw]at h
  split at h
  ·rename_i off size l ak hl
   cases hb:Nat.beq l.length size with
   |false=>rw[hb]at h;cases h
   |true=>
    rw[hb]at h
    simp only[cond_true]at h
    cases hb2:Nat.ble (off+l.length) cells.length with
    |false=>rw[hb2]at h;cases h
    |true=>
     rw[hb2]at h
     simp only[cond_true]at h
     have ae:=zbx hl hv
     have ah:=ae.length
     have am:=hc.length
     have h1:=Ag hb
     have h2:=BG hb2
     have aj:v.cells.size=size:=by rw[<-h1,ah];simp
     have af:All2 (DenA γ) (cells.take off++l++cells.drop (off+l.length)) (us.take off++v.cells.toList++us.drop (off+l.length)):=((hc.take off).append ae).append (hc.drop _)
     obtain⟨ws,e1,e2⟩:=Je h af hp
     refine⟨ws,?_,e2⟩
     simp only[Et,ak]
     have ai:¬((decide (v.cells.size≠size)||decide (off+v.cells.size>us.toArray.size))=true):=by
      rw[aj];simp;omega
     rw[if_neg ai]
     rw[<-e1]
     congr 1
     apply Array.ext'
     have:=z0n v.cells.toList 0 off us.toArray (by simp;omega)
     rw[<-Array.foldl_toList,Array.toList_zipIdx]
     refine this.trans ?_
     simp[<-ah]
  ·cases h
def zby(P:Program):List Field->Bool
 |[]=>true
 |f::l=>bif qd P f.type then zby P l else false
theorem zit{P:Program}{h:za}:∀{l:List Field},zby P l=true->QExec P (l.mapM λf=>do pure (f.offset,<-Go.sizeOf f.type)) h (l.map λf=>(f.offset,qt P f.type))
 |[],_=>λ_ _=>rfl
 |f::l,H=>by
  simp only[zby]at H
  cases ho:qd P f.type with
  |false=>rw[ho]at H;cases H
  |true=>
   rw[ho]at H
   obtain⟨i,hi⟩:=y0 ho
   rw[Ea]
   exact QExec.bind (QExec.bind (QExec.sizeOf hi) (QExec.pure _)) (QExec.bind (zit H) (QExec.pure _))
def placeOf(P:Program)(fs:Array Field)(i:Nat):Option (Nat×Nat):=match fs[i]? with
 |some f=>some (f.offset,qt P f.type)
 |none=>none
def zbz(ρ:Operand->Option AV):List (Nat×Operand)->Option (List (Nat×AV))
 |[]=>some []
 |(i,x)::l=>match ρ x,zbz ρ l with
  |some av,some r=>some ((i,av)::r)
  |_,_=>none
theorem Xn{γ:Gh}{ρ:Operand->Option AV}{σ:Operand->Value}(hρ:∀x av,ρ x=some av->DenV γ av (σ x)):∀{l:List (Nat×Operand)} {r:List (Nat×AV)},zbz ρ l=some r ->
  All2 (λ(x:Nat×AV) (y:Nat×Value)=>x.1=y.1/\DenV γ x.2 y.2) r (l.map λx=>(x.1,σ x.2))
 |[],r,h=>by simp only[zbz,Aa]at h;subst h;trivial
 |(i,x)::l,r,h=>by
  simp only[zbz]at h
  split at h
  ·rename_i av r' h1 h2
   simp only[Aa]at h
   subst h
   exact⟨⟨rfl,hρ _ _ h1⟩,Xn hρ h2⟩
  ·cases h
def zeroOf(P:Program)(t:TypeId):Option Value:=match P.info? t with
 |some i=>i.zero
 |none=>none
theorem Yn{z:Value}(h:zeroOf P t=some z)(hp:za):QExec P (zeroValue t) hp z:=by
 unfold zeroOf at h
 split at h
 ·rename_i i hi
  intro B d
  simp[zeroValue,typeInfo,program,hi,Sem.run,h]
 ·cases h
def zv2(P:Program)(t:TypeId)(Z:List (Nat×AV)):Option (List AA):=match P.underlying t,zeroOf P t with
 |some (.struct fs),some z=>bif zby P fs.toList then zmw (placeOf P fs) (z.cells.toList.map .v) Z else none
 |_,_=>none
theorem zmx{Z:List (Nat×AV)}{r:List AA}(h:zv2 P t Z=some r){ps:List (Nat×Value)}(hp:All2 (λ(x:Nat×AV) (y:Nat×Value)=>x.1=y.1/\DenV γ x.2 y.2) Z ps)(hh:za):
  ∃ws:List Value,QExec P (Instr.build t ps.toArray) hh (.agg ws.toArray)/\All2 (DenA γ) r ws:=by
 unfold zv2 at h
 split at h
 ·rename_i fs z hu hz
  cases hof:zby P fs.toList with
  |false=>rw[hof]at h;cases h
  |true=>
   rw[hof]at h
   simp only[cond_true]at h
   obtain⟨ws,e1,e2⟩:=Je h (Za γ _) hp
   refine⟨ws,?_,e2⟩
   intro B d
   have hq:=QExec.underlying (h:=hh) hu B d
   have aa:=Yn hz hh B d
   have ab:=zit (P:=P) (h:=hh) hof B d
   unfold Instr.build
   rw[Sem.run_bind,aa]
   simp only[Result.andThen_ok]
   rw[Sem.run_bind,hq]
   simp only[Result.andThen_ok]
   rw[Sem.run_bind,Array.mapM_eq_mapM_toList,Sem.run_map,ab]
   simp only[Result.andThen_ok]
   have e3:(λi=>((fs.toList.map λf=>(f.offset,qt P f.type)).toArray)[i]?)=placeOf P fs:=by
    funext i
    unfold placeOf
    cases hi:fs[i]? <;> simp[hi]
   rw[e3]
   have e4:z.cells.toList.toArray=z.cells:=by simp
   rw[e4]at e1
   simp only[e1]
   rfl
 ·cases h
def zv3(P:Program)(t:TypeId)(a b:Value):Option Bool:=match P.underlying t,a,b with
 |some (.int _),.int k x,.int k' y=>if k=k' then some (x==y)else none
 |some .string,.string x,.string y=>some (x.toList==y.toList)
 |some .bool,.bool x,.bool y=>some (x==y)
 |_,_,_=>none
def z4z(P:Program)(xs ys:List AA):List Field->Option Bool
 |[]=>some true
 | f :: fs => if f.name = "_" then none else match zvy P f.type xs f.offset, zvy P f.type ys f.offset with
  |some (.a (.v a)),some (.a (.v b))=>match zv3 P f.type a b,z4z P xs ys fs with
   |some p,some q=>some (p&&q)
   |_,_=>none
  |_,_=>none
def eqA(P:Program)(o:Oper)(ρ:Operand->Option AV):Option Bool:=match o.op with
 |.binOp .eql t x y _=>match ρ x,ρ y with
  |some (.g (.agg xs)),some (.g (.agg ys))=>match P.underlying t with
   |some (.struct _)=>bif P.stoodInHeld t then none else bif P.eqGuardType P.depth t then none else z4z P xs ys (P.fieldsOf t).toList
   |_=>none
  |_,_=>none
 |.binOp .neq t x y _=>match ρ x,ρ y with
  |some (.g (.agg xs)),some (.g (.agg ys))=>match P.underlying t with
   |some (.struct _)=>bif P.stoodInHeld t then none else bif P.eqGuardType P.depth t then none else(match z4z P xs ys (P.fieldsOf t).toList with
    |some b=>some (!b)
    |none=>none)
   |_=>none
  |_,_=>none
 |_=>none
theorem zmy{a b:Value}{r:Bool}(h:zv3 P t a b=some r)(d:Nat)(w:World):(Op.equalIn (d+1) t a b).run P w=.ok r w:=by
 unfold zv3 at h
 split at h
 ·rename_i k0 k x k' y hu
  split at h
  ·rename_i hk
   simp only[Aa]at h
   subst hk;subst h
   exact run_equalIn_int w d t k k0 x y hu
  ·cases h
 ·rename_i x y hu
  simp only[Aa]at h
  subst h
  exact run_equalIn_string w d t x y hu
 ·rename_i x y hu
  simp only[Aa]at h
  subst h
  exact run_equalIn_bool' w d t x y hu
 ·cases h
theorem ziu{P:Program}{γ:Gh}{xs ys:List AA}{us vs:List Value}(hx:All2 (DenA γ) xs us)(hy:All2 (DenA γ) ys vs)(d:Nat)(h:za):∀(fs:List Field) (b:Bool),z4z P xs ys fs=some b->QExec P (Op.eqFields (d+1) us.toArray vs.toArray fs) h b
 |[],b,hb=>by
  simp only[z4z,Aa]at hb
  subst hb
  exact QExec.pure _
 |f::fs,b,hb=>by
  unfold z4z at hb
  split at hb
  ·cases hb
  ·rename_i hn
   split at hb
   ·rename_i a b' ab aa
    split at hb
    ·rename_i p q hp hq
     simp only[Aa]at hb
     subst hb
     obtain⟨v1,e1,r1⟩:=zal ab hx h
     obtain⟨v2,e2,r2⟩:=zal aa hy h
     have Z:v1=a:=e1
     have ae:v2=b':=e2
     subst Z;subst ae
     intro B dd
     unfold Op.eqFields
     rw[if_pos (by exact hn)]
     rw[Sem.run_bind,r1 B dd]
     simp only[Result.andThen_ok]
     rw[Sem.run_bind,r2 B dd]
     simp only[Result.andThen_ok]
     rw[Sem.run_bind,zmy hp d]
     simp only[Result.andThen_ok]
     cases p with
     |false=>rfl
     |true=>simpa using ziu hx hy d h fs q hq B dd
    ·cases hb
   ·cases hb
theorem zmz{ρ:Operand->Option AV}(H:eqA P o ρ=some b)(hρ:∀x av,ρ x=some av->DenV γ av (σ x))(h:za):QExec P (execOp σ o) h (.value (.bool b)):=by
 have key:∀{t:TypeId} {xs ys:List AA} {us vs:List Value} {fs:Array Field} {b:Bool},P.underlying t=some (.struct fs)->P.stoodInHeld t=false->All2 (DenA γ) xs us->All2 (DenA γ) ys vs->z4z P xs ys (P.fieldsOf t).toList=some b->QExec P (Op.equalIn 10000 t (.agg us.toArray) (.agg vs.toArray)) h b:=by
  intro t xs ys us vs fs b hu hs hx hy hb B d
  have hf:P.underlying t=some (.struct (P.fieldsOf t)):=by rw[hu];simp[Program.fieldsOf,hu]
  rw[run_equalIn_struct _ 9999 t us.toArray vs.toArray hf hs]
  exact ziu hx hy 9998 h _ b hb B d
 unfold eqA at H
 split at H
 ·rename_i t x y yt ho
  split at H
  ·rename_i xs ys hx hy
   split at H
   ·rename_i fs hu
    cases hs:P.stoodInHeld t with
    |true=>rw[hs]at H;cases H
    |false=>
     cases hg:P.eqGuardType P.depth t with
     |true=>rw[hs,hg]at H;cases H
     |false=>
      rw[hs,hg]at H
      obtain⟨us,e1,d1⟩:=hρ _ _ hx
      obtain⟨vs,e2,d2⟩:=hρ _ _ hy
      have hk:=key hu hs d1 d2 H
      simp only[execOp,ho,e1,e2]
      refine QExec.val λB d=>?_
      rw[Sem.run_bind,run_eqGuard_agg _ _ _ _ _ _ _ hg]
      simp only[Result.andThen_ok]
      rw[run_eql_struct,hk B d]
      rfl
   ·cases H
  ·cases H
 ·rename_i t x y yt ho
  split at H
  ·rename_i xs ys hx hy
   split at H
   ·rename_i fs hu
    cases hs:P.stoodInHeld t with
    |true=>rw[hs]at H;cases H
    |false=>
     cases hg:P.eqGuardType P.depth t with
     |true=>rw[hs,hg]at H;cases H
     |false=>
      rw[hs,hg]at H
      simp only[cond_false]at H
      split at H
      ·rename_i b' Z
       simp only[Aa]at H
       subst H
       obtain⟨us,e1,d1⟩:=hρ _ _ hx
       obtain⟨vs,e2,d2⟩:=hρ _ _ hy
       have hk:=key hu hs d1 d2 Z
       simp only[execOp,ho,e1,e2]
       refine QExec.val λB d=>?_
       rw[Sem.run_bind,run_eqGuard_agg _ _ _ _ _ _ _ hg]
       simp only[Result.andThen_ok]
       rw[run_neq_struct,hk B d]
       rfl
      ·cases H
   ·cases H
  ·cases H
 ·cases H
def qA0(P:Program)(o:Oper)(ρ:Operand->Option AV)(g:Option Bool)(cs:CS)(K:AV->Prop):Prop:=
 bif (bif zem o then(bif isQ P o then(bif jb o.op then zf3 ρ o.op.operands.toList else false)else false)else false)then w9 P o (qby ρ) g #[] (λv=>K (ztm v))else
 match o.op with
 |.move x=>match ρ x with
  |some av=>K av
  |none=>False
 |.assign x=>match ρ x with
  |some av=>K av
  |none=>False
 |.extract x i=>match ρ x with
  |some (.tup l)=>match l[i]? with
   |some ag=>K (.g ag)
   |none=>False
  |some (.nx b p c)=>match i with
   |0=>K (.g (.a (.v (.bool b))))
   |1=>req g (b=true)/\K (.g (.a (.v (.int .i64 p))))
   |2=>req g (b=true)/\K (.g (.a (.v (.int .i32 c))))
   |_=>False
  |_=>False
 |.field t x f=>match ρ x,zvw P t f with
  |some (.g (.agg l)),some (k,ty)=>match zvy P ty l k with
   |some ag=>K (.g ag)
   |none=>False
  |_,_=>False
 |.fieldAddr t x f=>match ρ x,zvw P t f with
  |some (.g (.a aa)),some (k,_)=>match qbz k aa with
   |some ab=>K (.g (.a ab))
   |none=>False
  |_,_=>False
 |.load t x=>match ρ x with
  |some (.g (.a aa))=>zto P cs t aa g K
  |_=>False
 |.indexAddr t x i=>match ρ x,ρ i with
  |some (.g (.a aa)),some iv=>match qb0 iv with
   |some n=>zvz P cs t aa n g K
   |none=>False
  |_,_=>False
 |.slice t x lo hi mx=>match ρ x with
  |some (.g (.a aa))=>zv0 P cs ρ t aa lo hi mx g K
  |_=>False
 |.nilCheck x=>match ρ x with
  |some (.g (.a aa))=>match qbz 0 aa with
   |some _=>K (.g (.a aa))
   |none=>False
  |_=>False
 |.build t Z=>match zbz ρ Z.toList with
  |some ps=>match zv2 P t ps with
   |some r=>K (.g (.agg r))
   |none=>False
  |none=>False
 |.call c=>match c.callee with
  |.builtin .len=>match c.args.toList,c.argTypes.toList with
   |[x],[t]=>match ρ x,P.underlying t with
    |some (.g (.a (.v (.string s)))),some .string=>K (.g (.a (.v (.int .i64 (s.size:Int)))))
    |some (.g (.a (.v (.slice _ n _)))),some (.slice _)=>K (.g (.a (.v (.int .i64 (n:Int)))))
    |some (.g (.a aa)),some (.slice _)=>match qcj cs aa with
     |some n=>K (.g (.a (.v (.int .i64 (n:Int)))))
     |none=>False
    |_,_=>False
   |_,_=>False
  |_=>False
 |_=>False
theorem zv4{ρ:Operand->Option AV}{K:AV->Prop}(H:qA0 P o ρ g cs K):
  ∃av,K av/\(gok g->∀γ h σ,Inv h0 W M0 cs γ h->(∀x av,ρ x=some av->DenV γ av (σ x))->∃v,DenV γ av v/\QExec P (execOp σ o) h (.value v)):=by
 unfold qA0 at H
 cases hb:(bif zem o then(bif isQ P o then(bif jb o.op then zf3 ρ o.op.operands.toList else false)else false)else false)with
 |true=>
  rw[hb]at H
  cases hfam:zem o with
  |false=>rw[hfam]at hb;cases hb
  |true=>
   cases hq:isQ P o with
   |false=>rw[hfam,hq]at hb;cases hb
   |true=>
    cases hns:jb o.op with
    |false=>rw[hfam,hq,hns]at hb;cases hb
    |true=>
     rw[hfam,hq,hns]at hb
     simp only[cond_true]at hb H
     obtain⟨v,h1,h2⟩:=Xi hfam H
     refine⟨_,h1,λhg γ h σ I hρ=>⟨v,Yk γ v,?_⟩⟩
     rw[zmo hρ hns hb]
     exact h2 hg h ⟨by simp,λi hi=>absurd hi (by simp)⟩
 |false=>
  rw[hb]at H
  simp only[cond_false]at H
  have val:∀{s:Sem Value} {h:za} {v:Value},QExec P s h v->QExec P (s >>= λx=>(Da (Dl x):Sem Next)) h (.value v):=λhq=>QExec.val hq
  split at H
  ·rename_i x ho
   split at H
   ·rename_i av Z
    exact⟨av,H,λ_ γ h σ I hρ=>⟨_,hρ _ _ Z,by simp only[execOp,ho];exact QExec.pure _⟩⟩
   ·exact H.elim
  ·rename_i x ho
   split at H
   ·rename_i av Z
    exact⟨av,H,λ_ γ h σ I hρ=>⟨_,hρ _ _ Z,by simp only[execOp,ho];exact QExec.pure _⟩⟩
   ·exact H.elim
  ·rename_i x i ho
   split at H
   ·rename_i l Z
    split at H
    ·rename_i ag aj
     refine⟨_,H,λ_ γ h σ I hρ=>?_⟩
     obtain⟨us,e,h2⟩:=hρ _ _ Z
     obtain⟨u,hu,hd⟩:=h2.get aj
     refine⟨u,hd,?_⟩
     simp only[execOp,ho,e]
     refine val λB d=>?_
     unfold Instr.extract
     simp[hu]
    ·exact H.elim
   ·rename_i b p c Z
    split at H
    ·refine⟨_,H,λ_ γ h σ I hρ=>⟨_,rfl,?_⟩⟩
     obtain⟨e1,e2⟩:=hρ _ _ Z
     simp only[execOp,ho]
     refine val λB d=>?_
     cases b with
     |true=>rw[e1 rfl];rfl
     |false=>rw[e2 rfl];rfl
    ·refine⟨_,H.2,λhg γ h σ I hρ=>⟨_,rfl,?_⟩⟩
     obtain⟨e1,_⟩:=hρ _ _ Z
     simp only[execOp,ho,e1 (H.1.out hg)]
     exact val λB d=>rfl
    ·refine⟨_,H.2,λhg γ h σ I hρ=>⟨_,rfl,?_⟩⟩
     obtain⟨e1,_⟩:=hρ _ _ Z
     simp only[execOp,ho,e1 (H.1.out hg)]
     exact val λB d=>rfl
    ·exact H.elim
   ·exact H.elim
  ·rename_i t x f ho
   split at H
   ·rename_i l k ty Z hf
    split at H
    ·rename_i ag aj
     refine⟨_,H,λ_ γ h σ I hρ=>?_⟩
     obtain⟨us,e,h2⟩:=hρ _ _ Z
     obtain⟨v,hd,hq⟩:=zal aj h2 h
     refine⟨v,hd,?_⟩
     simp only[execOp,ho,e]
     refine val λB d=>?_
     unfold zvw at hf
     split at hf
     ·rename_i fs hu
      split at hf
      ·rename_i fl am
       split at hf
       ·rename_i i hi
        cases hz:Nat.beq i.size 0 with
        |true=>rw[hz]at hf;cases hf
        |false=>
         rw[hz]at hf
         simp only[cond_false,Aa,A9]at hf
         obtain⟨rfl,rfl⟩:=hf
         have an:=QExec.underlying (h:=h) hu B d
         unfold Instr.field
         rw[Sem.run_bind,an]
         simp only[Result.andThen_ok,am,asAgg,Sem.run_bind,Sem.run_pure]
         exact hq B d
       ·cases hf
      ·cases hf
     ·cases hf
    ·exact H.elim
   ·exact H.elim
  ·rename_i t x f ho
   split at H
   ·rename_i aa k ty Z hf
    split at H
    ·rename_i au af
     refine⟨_,H,λ_ γ h σ I hρ=>?_⟩
     obtain⟨b,o',e,hd⟩:=zrk af (hρ _ _ Z)
     refine⟨_,hd,?_⟩
     simp only[execOp,ho]
     rw[e]
     exact val (zvx hf b o')
    ·exact H.elim
   ·exact H.elim
  ·rename_i t x ho
   split at H
   ·rename_i aa Z
    obtain⟨av,h1,h2⟩:=zf4 (h0:=h0) (W:=W) (M0:=M0) H
    refine⟨av,h1,λhg γ h σ I hρ=>?_⟩
    obtain⟨v,hd,hq⟩:=h2 hg γ h _ I (hρ _ _ Z)
    refine⟨v,hd,?_⟩
    simp only[execOp,ho]
    exact val hq
   ·exact H.elim
  ·rename_i t x i ho
   split at H
   ·rename_i aa iv Z ap
    split at H
    ·rename_i n hn
     obtain⟨av,h1,h2⟩:=zms (h0:=h0) (W:=W) (M0:=M0) H
     refine⟨av,h1,λhg γ h σ I hρ=>?_⟩
     obtain⟨k,e⟩:=zrl hn (hρ _ _ ap)
     obtain⟨v,hd,hq⟩:=h2 hg γ h _ k I (hρ _ _ Z)
     refine⟨v,hd,?_⟩
     simp only[execOp,ho]
     rw[e]
     exact val hq
    ·exact H.elim
   ·exact H.elim
  ·rename_i t x lo hi mx ho
   split at H
   ·rename_i aa Z
    obtain⟨av,h1,h2⟩:=zmv (h0:=h0) (W:=W) (M0:=M0) H
    refine⟨av,h1,λhg γ h σ I hρ=>?_⟩
    obtain⟨v,hd,hq⟩:=h2 hg γ h _ σ I hρ (hρ _ _ Z)
    refine⟨v,hd,?_⟩
    simp only[execOp,ho]
    exact val hq
   ·exact H.elim
  ·rename_i x ho
   split at H
   ·rename_i aa Z
    split at H
    ·rename_i au af
     refine⟨_,H,λ_ γ h σ I hρ=>?_⟩
     obtain⟨b,o',e,hd⟩:=zrk af (hρ _ _ Z)
     have ar:=hρ _ _ Z
     refine⟨σ x,ar,?_⟩
     simp only[execOp,ho]
     rw[e]
     exact QExec.pure _
    ·exact H.elim
   ·exact H.elim
  ·rename_i t ab ho
   split at H
   ·rename_i ps ax
    split at H
    ·rename_i r hr
     refine⟨_,H,λ_ γ h σ I hρ=>?_⟩
     obtain⟨ws,hq,hd⟩:=zmx hr (Xn hρ ax) h
     refine⟨.agg ws.toArray,⟨ws,rfl,hd⟩,?_⟩
     simp only[execOp,ho]
     have e:(ab.map λx=>(x.1,σ x.2))=(ab.toList.map λx=>(x.1,σ x.2)).toArray:=by rw[<-C8]
     have:=val hq
     rw[<-e]at this
     exact this
    ·exact H.elim
   ·exact H.elim
  ·rename_i c ho
   split at H
   ·rename_i hc
    split at H
    ·rename_i x t ah ak
     have ae:c.args=#[x]:=by
      have:=congrArg List.toArray ah;simp at this;exact this
     have ai:c.argTypes=#[t]:=by
      have:=congrArg List.toArray ak;simp at this;exact this
     have key:∀(σ:Operand->Value) (h:za) (n:Int),(QExec P (DR #[t] o.type #[σ x]) h (.int .i64 n))->QExec P (execOp σ o) h (.value (.int .i64 n)):=by
      intro σ h n hq
      have e:execOp σ o=(DR c.argTypes o.type (c.args.map σ) >>= λx=>(Da (Dl x):Sem Next)):=by
       simp only[execOp,ho,resolve,hc]
       rfl
      rw[e,ae,ai]
      refine val ?_
      simpa using hq
     split at H
     ·rename_i s Z hu
      refine⟨_,H,λ_ γ h σ I hρ=>⟨_,rfl,key σ h _ λB d=>?_⟩⟩
      have hq:=QExec.underlying (h:=h) hu B d
      have e:σ x=.string s:=hρ _ _ Z
      unfold DR
      simp only[List.getElem?_toArray,List.getElem?_cons_zero,e,Sem.run_bind,hq,Result.andThen_ok,Sem.run_pure]
      rfl
     ·rename_i a n cp el Z hu
      refine⟨_,H,λ_ γ h σ I hρ=>⟨_,rfl,key σ h _ λB d=>?_⟩⟩
      have hq:=QExec.underlying (h:=h) hu B d
      have e:σ x=.slice a n cp:=hρ _ _ Z
      unfold DR
      simp only[List.getElem?_toArray,List.getElem?_cons_zero,e,Sem.run_bind,hq,Result.andThen_ok,Sem.run_pure]
      rfl
     ·rename_i aa el _ _ Z hu
      split at H
      ·rename_i n hn
       refine⟨_,H,λ_ γ h σ I hρ=>⟨_,rfl,key σ h _ λB d=>?_⟩⟩
       have hq:=QExec.underlying (h:=h) hu B d
       obtain⟨a,cp,e⟩:=z0m I hn (hρ _ _ Z)
       unfold DR
       simp only[List.getElem?_toArray,List.getElem?_cons_zero,e,Sem.run_bind,hq,Result.andThen_ok,Sem.run_pure]
       rfl
      ·exact H.elim
     ·exact H.elim
    ·exact H.elim
   ·exact H.elim
  ·exact H.elim
def qck(P:Program)(o:Oper)(ρ:Operand->Option AV):Option Bool:=match o.op with
 |.binOp op t x (.const .nilIface) _=>match ρ x,ρ (.const .nilIface),P.underlying t with
  |some (.g (.a (.d .err b))),some (.g (.a (.v .nilIface))),some (.interface _)=>match op with
   |.eql=>some b
   |.neq=>some (!b)
   |_=>none
  |_,_,_=>none
 |_=>none
theorem ziv{ρ:Operand->Option AV}(H:qck P o ρ=some b)(hρ:∀x av,ρ x=some av->DenV γ av (σ x))(h:za):QExec P (execOp σ o) h (.value (.bool b)):=by
 have key:∀{t:TypeId} {ms:Array (String×TypeId)} {b:Bool} {u:Value},P.underlying t=some (.interface ms)->((b=true/\u=.nilIface)\/(b=false/\∃t u',u=.iface t u'))->QExec P (Er t u .nilIface) h b:=by
  intro t ms b u hu hb B d
  have hq:=QExec.underlying (h:=h) hu B d
  unfold Er Op.maxDepth
  rcases hb with⟨rfl,rfl⟩|⟨rfl,t',u',rfl⟩
  ·unfold Op.equalIn;rw[Sem.run_bind,hq];rfl
  ·unfold Op.equalIn;rw[Sem.run_bind,hq];rfl
 unfold qck at H
 split at H
 ·rename_i op t x yt ho
  split at H
  ·rename_i b0 ms hx hy hu
   have hσ:σ (.const .nilIface)=.nilIface:=hρ _ _ hy
   obtain⟨u,e,hb⟩:=(show Rd γ.M .err b0 [σ x]from hρ _ _ hx)
   have eu:u=σ x:=by simpa using e.symm
   subst eu
   have hk:=key hu hb
   have hg:∀op,QExec P (eqGuard op t x (.const .nilIface) (σ x) .nilIface) h ():=by
    intro op B d
    unfold eqGuard
    rcases hb with⟨_,e2⟩|⟨_,t',u',e2⟩
    ·rw[e2];cases op <;> simp
    ·rw[e2];cases op <;> simp
   have Z:∀op,(binOp op t (σ x) .nilIface=match op with | .eql=>(do pure (.bool (<-Er t (σ x) .nilIface))) | .neq=>(do pure (.bool (!(<-Er t (σ x) .nilIface))))|_=>binOp op t (σ x) .nilIface):=by
    intro op
    rcases hb with⟨_,e2⟩|⟨_,t',u',e2⟩
    ·rw[e2];cases op <;> rfl
    ·rw[e2];cases op <;> rfl
   simp only[execOp,ho,hσ]
   refine QExec.val ((hg op).bind ?_)
   split at H
   ·simp only[Aa]at H;subst H
    rw[Z]
    exact hk.bind (QExec.pure _)
   ·simp only[Aa]at H;subst H
    rw[Z]
    exact hk.bind (QExec.pure _)
   ·cases H
  ·cases H
 ·cases H
def z5a(o:Oper)(ρ:Operand->Option AV):Option (TypeId×Nat×Nat):=match o.op with
 |.load t x=>match ρ x with
  |some (.g (.a (.v (.pointer (some ⟨b,off,none⟩)))))=>some (t,b,off)
  |_=>none
 |_=>none
def zf5(gl:Fr)(b off:Nat)(v:Value):Prop:=∃cs,gl b=some cs/\cs[off]?=some v
def ziw(gl:Fr)(b:Nat)(g:Option Bool):List Atom->Nat->(List AA->Prop)->Prop
 |[],_,K=>K []
 |.int k::l,o,K=>∃x:Int,req g (zf5 gl b o (.int k x))/\ziw gl b g l (o+1) λr=>K (.v (.int k x)::r)
 |.str::l,o,K=>∃x:Bt,req g (zf5 gl b o (.string x))/\ziw gl b g l (o+1) λr=>K (.v (.string x)::r)
 |.bool::l,o,K=>∃x:Bool,req g (zf5 gl b o (.bool x))/\ziw gl b g l (o+1) λr=>K (.v (.bool x)::r)
 |_::_,_,_=>False
theorem Zb{gl:Fr}{b:Nat}{g:Option Bool}:∀{l:List Atom} {o:Nat} {K:List AA->Prop},ziw gl b g l o K->∃vs:List Value,vs.length=l.length/\K (vs.map .v)/\(gok g->∀(j:Nat) (v:Value),vs[j]?=some v->zf5 gl b (o+j) v)
 |[],o,K,H=>⟨[],rfl,H,λ_ j v h=>by simp at h⟩
 |.int k::l,o,K,⟨x,h1,h2⟩=>by
  obtain⟨vs,e1,e2,e3⟩:=Zb h2
  refine⟨.int k x::vs,by simp[e1],e2,λhg j v hv=>?_⟩
  cases j with
  |zero=>simp at hv;subst hv;exact h1.out hg
  |succ j=>have:=e3 hg j v (by simpa using hv);rwa[show o+1+j=o+(j+1)by omega]at this
 |.str::l,o,K,⟨x,h1,h2⟩=>by
  obtain⟨vs,e1,e2,e3⟩:=Zb h2
  refine⟨.string x::vs,by simp[e1],e2,λhg j v hv=>?_⟩
  cases j with
  |zero=>simp at hv;subst hv;exact h1.out hg
  |succ j=>have:=e3 hg j v (by simpa using hv);rwa[show o+1+j=o+(j+1)by omega]at this
 |.bool::l,o,K,⟨x,h1,h2⟩=>by
  obtain⟨vs,e1,e2,e3⟩:=Zb h2
  refine⟨.bool x::vs,by simp[e1],e2,λhg j v hv=>?_⟩
  cases j with
  |zero=>simp at hv;subst hv;exact h1.out hg
  |succ j=>have:=e3 hg j v (by simpa using hv);rwa[show o+1+j=o+(j+1)by omega]at this
 |.sl::_,_,_,H=>H.elim
 |.mp::_,_,_,H=>H.elim
 |.ptr::_,_,_,H=>H.elim
 |.raw::_,_,_,H=>H.elim
def z9n(P:Program)(gl:Fr)(t:TypeId)(b off:Nat)(g:Option Bool)(K:AV->Prop):Prop:=match zu2 P t with
 |some (.one a)=>ziw gl b g [a] off λr=>match r with
  |[x]=>K (.g (.a x))
  |_=>False
 |some (.agg l)=>ziw gl b g l off λr=>K (.g (.agg r))
 |none=>False
def z5b(P:Program)(o:Oper)(ρ:Operand->Option AV):Option (Nat×Nat×Int×Nat×Nat):=match o.op with
 |.indexAddr t x i=>match ρ x,ρ i,P.underlying t with
  |some (.g (.a (.v (.pointer (some ⟨b,off,none⟩))))),some (.g (.a (.v (.int _ n)))),some (.array len el)=>bif qd P el then some (b,off,n,len,qt P el)else none
  |_,_,_=>none
 |_=>none
def qA(P:Program)(gl:Fr)(o:Oper)(ρ:Operand->Option AV)(g:Option Bool)(cs:CS)(K:AV->Prop):Prop:=match eqA P o ρ with
 |some b=>K (.g (.a (.v (.bool b))))
 |none=>match qck P o ρ with
  |some b=>K (.g (.a (.v (.bool b))))
  |none=>match z5a o ρ with
   |some (t,b,off)=>z9n P gl t b off g K
   |none=>match z5b P o ρ with
    |some (b,off,n,len,z)=>req g (0<=n/\n<(len:Int))/\K (.g (.a (.v (.pointer (some ⟨b,off+n.toNat*z,none⟩)))))
    |none=>qA0 P o ρ g cs K
theorem ze8{gl:Fr}(ah:Fr.le gl M0){ρ:Operand->Option AV}{K:AV->Prop}(H:qA P gl o ρ g cs K):
  ∃av,K av/\(gok g->∀γ h σ,Inv h0 W M0 cs γ h->(∀x av,ρ x=some av->DenV γ av (σ x))->∃v,DenV γ av v/\QExec P (execOp σ o) h (.value v)):=by
 unfold qA at H
 split at H
 ·rename_i b hb
  exact⟨_,H,λ_ γ h σ _ hρ=>⟨_,rfl,zmz hb hρ h⟩⟩
 ·split at H
  ·rename_i b hb
   exact⟨_,H,λ_ γ h σ _ hρ=>⟨_,rfl,ziv hb hρ h⟩⟩
  ·split at H
   ·rename_i t b off hg
    unfold z5a at hg
    split at hg
    ·rename_i t' x ho
     split at hg
     ·rename_i b' Z hx
      simp only[Aa,A9]at hg
      obtain⟨rfl,rfl,rfl⟩:=hg
      have key:∀{s:Option Nat} {vs:List Value} {ag:AG},Ws P t'=some s->vs.length=zzz s->zkg s (vs.map .v)=some ag->(gok g->∀(j:Nat) (v:Value),vs[j]?=some v->zf5 gl b' (Z+j) v)->gok g->∀γ h σ,Inv h0 W M0 cs γ h->(∀x av,ρ x=some av->DenV γ av (σ x))->∃u,DenV γ (.g ag) u/\QExec P (execOp σ o) h (.value u):=by
       intro s vs ag hs hn hp hc hg γ h σ I hρ
       have hu:σ x=.pointer (some ⟨b',Z,none⟩):=hρ _ _ hx
       obtain⟨u,hd,hq⟩:=zc8 (γ:=γ) hs (u:=σ x) (us:=vs) ⟨_,_,hu,λj w hw=>by
        obtain⟨cc,e1,e2⟩:=hc hg j w hw
        exact I.ag.cell (I.le _ _ (ah _ _ e1)) e2⟩ hn (Za γ vs) hp
       exact⟨u,hd,by simp only[execOp,ho];exact QExec.val hq⟩
      unfold z9n at H
      split at H
      ·rename_i a hv
       obtain⟨vs,e1,e2,e3⟩:=Zb H
       match vs,e1,e2,e3 with
       |[v],e1,e2,e3=>exact⟨_,e2,key (s:=none) (by unfold Ws;rw[hv]) rfl rfl e3⟩
      ·rename_i l hv
       obtain⟨vs,e1,e2,e3⟩:=Zb H
       exact⟨_,e2,key (s:=some l.length) (by unfold Ws;rw[hv]) e1 rfl e3⟩
      ·exact H.elim
     ·cases hg
    ·cases hg
   ·split at H
    ·rename_i b off n len z hg
     unfold z5b at hg
     split at hg
     ·rename_i t x i ho
      split at hg
      ·rename_i b' Z k n' ai el hx hi hu
       cases hok:qd P el with
       |false=>rw[hok]at hg;cases hg
       |true=>
        rw[hok]at hg
        simp only[cond_true,Aa,A9]at hg
        obtain⟨rfl,rfl,rfl,rfl,rfl⟩:=hg
        refine⟨_,H.2,λae γ h σ I hρ=>⟨_,rfl,?_⟩⟩
        have af:σ x=.pointer (some ⟨b',Z,none⟩):=hρ _ _ hx
        have ab:σ i=.int k n':=hρ _ _ hi
        obtain⟨h1,h2⟩:=H.1.out ae
        obtain⟨v,rfl,hq⟩:=we (P:=P) (t:=t) (x:=.pointer (some ⟨b',Z,none⟩)) (i:=.int k n') (g:=none) (K:=λv=>v=.pointer (some (Al ⟨b',Z,none⟩ (n'.toNat*qt P el))))
         (λaj aa=>by
          rcases aa with aa|⟨m,aa⟩
          ·rw[hu]at aa;cases aa
          ·rw[hu]at aa;cases aa;exact y0 hok) (by unfold zl5;rw[hu];exact⟨_,⟨rfl,h1,h2⟩,rfl⟩)
        have:=hq trivial h
        rw[zq]at this
        simp only[execOp,ho,af,ab]
        exact QExec.val this
      ·cases hg
     ·cases hg
    ·exact zv4 H
end
section
variable {M gl:Fr} {u:Value} {P:Program} {f:FuncId} {γ:Gh} {cs C R:CS} {o:Oper} {σ:Operand -> Value} {h:za} {Post:Value -> za -> Prop} {tr:TypeId}
variable {h0 : za} {W : Nat -> Prop} {M0 : Fr}
def zhf:Ty->Bool
 |.tree=>true
 |.unit=>true
 |.pair _ _=>true
 |_=>false
def RdV(M:Fr)(t:Ty)(x:El t)(u:Value):Prop:=if zhf t=true then ∃cs:List Value,u=.agg cs.toArray/\Rd M t x cs else Rd M t x [u]
theorem RdV.mono{M M':Fr}(hM:Fr.le M M'){t:Ty}{x:El t}(h:RdV M t x u):RdV M' t x u:=by
 unfold RdV at *
 by_cases ha:zhf t=true
 ·rw[if_pos ha]at *
  obtain⟨cs,e,h⟩:=h;exact⟨cs,e,Rd.mono hM h⟩
 ·rw[if_neg ha]at *
  exact Rd.mono hM h
structure Arg where
 t:Ty
 x:El t
def Wt(M:Fr)(l:List Arg)(vs:List Value):Prop:=All2 (λ(a:Arg) u=>RdV M a.t a.x u) l vs
@[reducible] def Els:List Ty->Type
 |[]=>Unit
 |[t]=>El t
 |t::t'::l=>El t×Els (t'::l)
def z9o:(l:List Ty)->Els l
 |[]=>()
 |[t]=>z9i t
 |t::t'::l=>(z9i t,z9o (t'::l))
def RdL(M:Fr):(l:List Ty)->Els l->List Value->Prop
 |[],_,us=>us=[]
 |[t],x,us=>∃u,us=[u]/\RdV M t x u
 |t::t'::l,x,us=>∃u Z,us=u::Z/\RdV M t x.1 u/\RdL M (t'::l) x.2 Z
def zcu(M:Fr)(l:List Ty)(x:Els l)(v:Value):Prop:=∃us,RdL M l x us/\v=zc3 us
theorem RdL.length{M:Fr}:∀{l:List Ty} {x:Els l} {us:List Value},RdL M l x us->us.length=l.length
 |[],_,_,h=>by rw[h];rfl
 |[_],_,_,⟨u,e,_⟩=>by rw[e];rfl
 |_::t'::l,x,_,⟨u,us,e,_,h⟩=>by rw[e,Aw,RdL.length h];rfl
def PC(P:Program)(gl:Fr)(f:FuncId)(args:List Arg)(rt:List Ty)(R:Els rt->Prop):Prop:=
 ∀(h:za) (M:Fr) (vs:List Value),Fr.le gl M->AgM M h->Wt M args vs->XC P f vs.toArray h λv h'=>
  Keep h.size h h'/\∃M' r,Fr.le M M'/\(∀b,b<h.size->M' b=M b)/\AgM M' h'/\zcu M' rt r v/\R r
theorem PC.mono{args:List Arg}{rt:List Ty}{R R':Els rt->Prop}(H:PC P gl f args rt R)(hR:∀r,R r->R' r):PC P gl f args rt R':=
 λh M vs h1 h2 h3=>(H h M vs h1 h2 h3).mono λv h' ⟨k,M',r,e1,e2,e3,e4,e5⟩=>⟨k,M',r,e1,e2,e3,e4,hR r e5⟩
def BdL:(l:List Ty)->Els l->Prop
 |[],_=>True
 |[t],x=>Bd t x
 |t::t'::l,x=>Bd t x.1/\BdL (t'::l) x.2
theorem RdV.bd{t:Ty}{x:El t}(h:RdV M t x u):Bd t x:=by
 unfold RdV at h
 split at h
 ·obtain⟨cs,_,h⟩:=h;exact h.bd
 ·exact h.bd
theorem RdL.bd{M:Fr}:∀{l:List Ty} {x:Els l} {us:List Value},RdL M l x us->BdL l x
 |[],_,_,_=>trivial
 |[_],_,_,⟨u,_,h⟩=>h.bd
 |_::_::_,_,_,⟨_,_,_,h,h'⟩=>⟨h.bd,RdL.bd h'⟩
theorem PC.bd{args:List Arg}{rt:List Ty}{R:Els rt->Prop}(H:(∀a∈args,Bd a.t a.x)->PC P gl f args rt R):PC P gl f args rt R:=by
 intro h M vs h1 h2 h3
 refine H ?_ h M vs h1 h2 h3
 clear H h1 h2
 induction args generalizing vs with
 |nil=>intro a ha;cases ha
 |cons a args ih=>
  cases vs with
  |nil=>exact h3.elim
  |cons u us=>
   intro b hb
   rcases Af.1 hb with rfl|hb
   ·exact RdV.bd h3.1
   ·exact ih us h3.2 b hb
def gOf(t:Ty)(x:El t):AG:=bif zhf t then .agg (Yi t x)else(match Yi t x with
 |[y]=>.a y
 |l=>.agg l)
theorem zpj{t:Ty}{x:El t}(h:RdV γ.M t x u):DenG γ (gOf t x) u:=by
 unfold RdV at h
 unfold gOf
 split at h
 ·rename_i ha
  rw[ha]
  obtain⟨cs,e,h⟩:=h
  exact⟨cs,e,wm h⟩
 ·rename_i ha
  have Z:zhf t=false:=by simpa using ha
  rw[Z]
  simp only[cond_false]
  have hd:=wm (γ:=γ) h
  match hx:Yi t x,hd with
  |[y],hd=>exact hd.1
  |[],hd=>exact hd.elim
  |_::_::_,hd=>exact hd.2.elim
def qb1:(l:List Ty)->Els l->List AG
 |[],_=>[]
 |[t],x=>[gOf t x]
 |t::t'::l,x=>gOf t x.1::qb1 (t'::l) x.2
theorem zrm{γ:Gh}:∀{l:List Ty} {x:Els l} {us:List Value},RdL γ.M l x us->All2 (DenG γ) (qb1 l x) us
 |[],_,_,h=>by rw[h];trivial
 |[_],_,_,⟨u,e,h⟩=>by rw[e];exact⟨zpj h,trivial⟩
 |_::_::_,_,_,⟨u,us,e,h,h'⟩=>by rw[e];exact⟨zpj h,zrm h'⟩
def z8s(l:List Ty)(x:Els l):AV:=match qb1 l x with
 |[g]=>.g g
 |gs=>.tup gs
theorem z0o{l:List Ty}{x:Els l}{v:Value}(h:zcu γ.M l x v):DenV γ (z8s l x) v:=by
 obtain⟨us,h,rfl⟩:=h
 have hd:=zrm (γ:=γ) h
 unfold z8s
 generalize qb1 l x=gs at *
 match gs,us,hd with
 |[],[],_=>exact⟨[],rfl,trivial⟩
 |[g],[u],hd=>exact hd.1
 |g::g'::gs,u::u'::us,hd=>exact⟨_,rfl,hd⟩
 |[],_::_,hd=>exact hd.elim
 |_::_,[],hd=>exact hd.elim
 |[_],_::_::_,hd=>exact hd.2.elim
 |_::_::_,[_],hd=>exact hd.2.elim
def z3c(P:Program)(tr:TypeId):Nat->TypeId->Option Ty
 |0,_=>none
 |n+1,t=>bif Nat.beq t tr then some .tree else match P.underlying t with
  |some (.int k)=>some (.int k)
  |some .bool=>some .bool
  |some .string=>some .str
  |some (.slice e)=>match z3c P tr n e with
   |some x=>some (.row x)
   |none=>none
  |some (.struct fs)=>tysOf P (λt=>z3c P tr n t) fs.toList
  |some (.interface _)=>some .err
  |_=>none
where tysOf (P:Program) (f:TypeId->Option Ty):List Field->Option Ty
 |[]=>some .unit
 |[x]=>f x.type
 |x::y::l=>match f x.type,tysOf P f (y::l)with
  |some a,some b=>some (.pair a b)
  |_,_=>none
def tyL(P:Program)(tr:TypeId):List TypeId->Option (List Ty)
 |[]=>some []
 |t::l=>match z3c P tr 8 t,tyL P tr l with
  |some a,some b=>some (a::b)
  |_,_=>none
def z9p:AA->List Nat
 |.own c=>[c]
 |_=>[]
def ztq:List AA->List Nat
 |[]=>[]
 |x::l=>z9p x++ztq l
def qcl:AV->List Nat
 |.g (.a x)=>z9p x
 |.g (.agg l)=>ztq l
 |_=>[]
def J3:List AV->List Nat
 |[]=>[]
 |v::l=>qcl v++J3 l
def frzL:List Nat->CS->CS
 |[],C=>C
 |c::l,C=>frzL l (z4w c C)
theorem Inv.frzL{C R:CS}{γ:Gh}{h:za}:∀(l:List Nat) {C:CS} {γ:Gh},Inv h0 W M0 (C++R) γ h->∃γ',Inv h0 W M0 (frzL l C++R) γ' h/\Gx none γ γ'
 |[],C,γ,I=>⟨γ,I,Gx.refl _ _⟩
 |c::l,C,γ,I=>by
  obtain⟨γ1,I1,g1⟩:=Inv.freeze c C [] I
  obtain⟨γ2,I2,g2⟩:=Inv.frzL (C:=C) (γ:=γ) l I1
  exact⟨γ2,I2,g1.1.trans g2.1,λi hi=>⟨(g2.2 i hi).1.trans (g1.2 i hi).1,(g2.2 i hi).2.trans (g1.2 i hi).2⟩⟩
def zb0(cs:CS)(t:Ty):AV->Option (El t)
 |.g (.agg l)=>bif zhf t then(match collect cs t l with
  |some (y,[])=>some y
  |_=>none)else none
 |.g (.a x)=>bif zhf t then none else zhk cs t x
 |_=>none
theorem zam(hf:zzy γ cs){t:Ty}{av:AV}{y:El t}(h:zb0 cs t av=some y)(hd:DenV γ av u):RdV γ.M t y u:=by
 unfold zb0 at h
 unfold RdV
 split at h
 ·rename_i l
  cases ha:zhf t with
  |false=>rw[ha]at h;cases h
  |true=>
   rw[ha]at h
   simp only[cond_true]at h
   split at h
   ·rename_i y' hc
    simp only[Aa]at h
    subst h
    obtain⟨us,e,h2⟩:=hd
    obtain⟨c1,c2,rfl,r1,r2⟩:=Yj hf hc h2
    cases c2 with
    |nil=>simp only[if_true];exact⟨c1,by rw[e,AW],r1⟩
    |cons _ _=>exact r2.elim
   ·cases h
 ·rename_i x
  cases ha:zhf t with
  |true=>rw[ha]at h;cases h
  |false=>
   rw[ha]at h
   simp only[A3,if_false]
   exact ji hf h hd
 ·cases h
def y8(cs:CS):List Ty->List AV->Option (List Arg)
 |[],[]=>some []
 |t::ts,v::vs=>match zb0 cs t v,y8 cs ts vs with
  |some x,some l=>some (⟨t,x⟩::l)
  |_,_=>none
 |_,_=>none
theorem jv{γ:Gh}{cs:CS}(hf:zzy γ cs):∀{ts:List Ty} {vs:List AV} {l:List Arg},y8 cs ts vs=some l->∀{us:List Value},All2 (DenV γ) vs us->Wt γ.M l us
 |[],[],l,h,[],_=>by simp only[y8,Aa]at h;subst h;trivial
 |[],[],_,_,_::_,hd=>hd.elim
 |t::ts,v::vs,l,h,[],hd=>hd.elim
 |t::ts,v::vs,l,h,u::us,hd=>by
  simp only[y8]at h
  split at h
  ·rename_i x l' h1 h2
   simp only[Aa]at h
   subst h
   exact⟨zam hf h1 hd.1,jv hf h2 hd.2⟩
  ·cases h
 |[],_::_,_,h,_,_=>by simp[y8]at h
 |_::_,[],_,h,_,_=>by simp[y8]at h
def zpk(ρ:Operand->Option AV):List Operand->Option (List AV)
 |[]=>some []
 |x::l=>match ρ x,zpk ρ l with
  |some v,some vs=>some (v::vs)
  |_,_=>none
theorem Wu{γ:Gh}{ρ:Operand->Option AV}{σ:Operand->Value}(hρ:∀x av,ρ x=some av->DenV γ av (σ x)):∀{l:List Operand} {vs:List AV},zpk ρ l=some vs->All2 (DenV γ) vs (l.map σ)
 |[],vs,h=>by simp only[zpk,Aa]at h;subst h;trivial
 |x::l,vs,h=>by
  simp only[zpk]at h
  split at h
  ·rename_i v Z h1 h2
   simp only[Aa]at h
   subst h
   exact⟨hρ _ _ h1,Wu hρ h2⟩
  ·cases h
def ExA(P:Program)(s:Sem Next)(h:za)(Post:Value->za->Prop):Prop:=∀B d,
 (∃v d' h',s.run P (mk B d h)=.ok (.value v) (mk B d' h')/\Post v h') \/
 (∃d' h',s.run P (mk B d h)=.ok .skip (mk B d' h')/\Post undef h') \/
 (∃f args,s.run P (mk B d h)=.ok (.enter f args) (mk B d h)/\XC P f args h Post)
theorem ExA.upon(H:ExA P (execOp σ o) h Post)(B:World)(d:Nat){a:Act}{next:Act->World->Prop}{Q:Exit->Act->World->Prop}
  (hn:∀v d' h',Post v h'->next (a.put o.dst v) (mk B d' h')):o.upon P a next Q ((execOp σ o).run P (mk B d h)):=by
 rcases H B d with⟨v,d',h',e,hp⟩|⟨d',h',e,hp⟩|⟨f,args,e,hx⟩
 ·exact upon_value e (hn _ _ _ hp)
 ·exact upon_skip e (hn _ _ _ hp)
 ·rw[e]
  refine(hx B d).mono ?_
  rintro e' w' ⟨v,d',Z,rfl,rfl,h3⟩
  exact hn _ _ _ h3
theorem ExA.mono{s:Sem Next}{Post Z:Value->za->Prop}(H:ExA P s h Post)(hp:∀v h',Post v h'->Z v h'):ExA P s h Z:=λB d=>by
 rcases H B d with⟨v,d',h',e,q⟩|⟨d',h',e,q⟩|⟨f,args,e,hx⟩
 ·exact .inl ⟨v,d',h',e,hp _ _ q⟩
 ·exact .inr (.inl ⟨d',h',e,hp _ _ q⟩)
 ·exact .inr (.inr ⟨f,args,e,hx.mono hp⟩)
def zan(h0:za)(W:Nat->Prop)(M0:Fr)(R:CS)(γ:Gh)(K:AV->CS->Option Nat->Prop)(v:Value)(h':za):Prop:=
 ∃av C' c γ',K av C' c/\DenV γ' av v/\Inv h0 W M0 (C'++R) γ' h'/\Gx c γ γ'
theorem z5c(Z:Fr.le gl M0){ρ:Operand->Option AV}{K:AV->CS->Option Nat->Prop}(H:qA P gl o ρ none (C++R) λav=>K av C none)(I:Inv h0 W M0 (C++R) γ h)
  (hρ:∀x av,ρ x=some av->DenV γ av (σ x)):ExA P (execOp σ o) h (zan h0 W M0 R γ K):=by
 obtain⟨av,h1,h2⟩:=ze8 (h0:=h0) (W:=W) (M0:=M0) Z H
 obtain⟨v,hd,hq⟩:=h2 trivial γ h σ I hρ
 exact λB d=>.inl ⟨v,d,h,hq B d,av,C,none,γ,h1,hd,I,Gx.refl _ _⟩
def z9q:Operand->Option FuncId
 |.func f=>some f
 |_=>none
def z5d(P:Program)(tr:TypeId)(f:FuncId):Option (List Ty×List Ty):=match P.funcs[f]? with
 |some fn=>match tyL P tr fn.params.toList,tyL P tr fn.resultTypes.toList with
  |some a,some b=>some (a,b)
  |_,_=>none
 |none=>none
def z5e(P:Program)(gl:Fr)(tr:TypeId)(o:Oper)(ρ:Operand->Option AV)(C R:CS)(K:AV->CS->Prop):Prop:=
 match o.op with
 |.call c=>match c.callee with
  |.value x=>match z9q x with
   |some f=>bif zp P f then(match z5d P tr f,zpk ρ c.args.toList with
    |some (ts,rt),some vs=>match y8 (frzL (J3 vs) C++R) ts vs with
     |some args=>PC P gl f args rt λr=>K (z8s rt r) (frzL (J3 vs) C)
     |none=>False
    |_,_=>False)else False
   |none=>False
  |_=>False
 |_=>False
def ztr(P:Program)(gl:Fr)(tr:TypeId)(o:Oper)(ρ:Operand->Option AV)(b:Bool)(cs:CS)(K:AV->Prop):Prop:=
 match o.op with
 |.call c=>match c.callee with
  |.value x=>match z9q x with
   |some f=>bif zp P f then(match z5d P tr f,zpk ρ c.args.toList with
    |some (ts,rt),some vs=>match y8 cs ts vs with
     |some args=>∃J:Els rt->Prop,(b=true->PC P gl f args rt J)/\∀r,(b=true->J r)->K (z8s rt r)
     |none=>False
    |_,_=>False)else False
   |none=>False
  |_=>False
 |_=>False
theorem zkh{x:Operand}(h:z9q x=some f):x=.func f:=by
 unfold z9q at h
 split at h
 ·simp only[Aa]at h;rw[h]
 ·cases h
theorem zb1{c:Call}(ho:o.op=.call c)(hc:c.callee=.value (.func f))(hf:zp P f=true)(hσ:σ (.func f)=.func (.func f) #[] #[])(w:World):
  (execOp σ o).run P w=.ok (.enter f (c.args.map σ)) w:=by
 simp only[execOp,ho,resolve,hc,hσ,Df,Sem.run_bind,Sem.run_pure,Result.andThen_ok,invoke]
 rw[Qt hf]
 simp
theorem zki(Z:Fr.le gl M0){args:List Arg}{rt:List Ty}{Rr:Els rt->Prop}(H:PC P gl f args rt Rr)(I:Inv h0 W M0 cs γ h){us:List Value}(ha:Wt γ.M args us):
  XC P f us.toArray h λv h'=>∃r γ',Rr r/\DenV γ' (z8s rt r) v/\Inv h0 W M0 cs γ' h'/\Gx none γ γ'/\Keep h.size h h':=
 (H h γ.M us (Z.trans I.le) I.ag ha).mono λv h' ⟨k,M',r,e1,e2,e3,e4,e5⟩=>
  ⟨r,{ γ with M:=M' },e5,z0o (γ:={ γ with M:=M' }) e4,I.call k e1 e2 e3,⟨e1,λ_ _=>⟨rfl,rfl⟩⟩,k⟩
theorem z0p(ab:Fr.le gl M0){ρ:Operand->Option AV}{K:AV->CS->Option Nat->Prop}(H:z5e P gl tr o ρ C R λav C'=>K av C' none)(I:Inv h0 W M0 (C++R) γ h)
  (hσ:∀f,σ (.func f)=.func (.func f) #[] #[]) (hρ:∀x av,ρ x=some av->DenV γ av (σ x)):ExA P (execOp σ o) h (zan h0 W M0 R γ K):=by
 unfold z5e at H
 split at H
 ·rename_i c ho
  split at H
  ·rename_i x hx
   split at H
   ·rename_i f hf
    cases hcal:zp P f with
    |false=>rw[hcal]at H;exact H.elim
    |true=>
     rw[hcal]at H
     simp only[cond_true]at H
     split at H
     ·rename_i ts rt vs hs aa
      split at H
      ·rename_i args Z
       intro B d
       have e:=zkh hf
       subst e
       obtain⟨γ1,I1,g1⟩:=Inv.frzL (C:=C) (γ:=γ) (J3 vs) I
       have ha:=jv I1.fz Z ((Wu hρ aa).imp λv _ u hu=>hu.gx g1 rfl)
       refine .inr (.inr ⟨f,c.args.map σ,zb1 ho hx hcal (hσ f) _,?_⟩)
       have e2:c.args.map σ=(c.args.toList.map σ).toArray:=by rw[<-C8]
       rw[e2]
       refine(zki ab H I1 ha).mono ?_
       rintro v h' ⟨r,γ',h1,h2,h3,h4,_⟩
       exact⟨_,_,none,γ',h1,h2,h3,g1.1.trans h4.1,λi hi=>⟨(h4.2 i hi).1.trans (g1.2 i hi).1,(h4.2 i hi).2.trans (g1.2 i hi).2⟩⟩
      ·exact H.elim
     ·exact H.elim
   ·exact H.elim
  ·exact H.elim
 ·exact H.elim
theorem zao{ρ:Operand->Option AV}{b:Bool}{K:AV->Prop}(H:ztr P gl tr o ρ b cs K):(b=false->∃av,K av) /\
  (b=true->Fr.le gl M0->∀γ h σ,Inv h0 W M0 cs γ h->(∀f,σ (.func f)=.func (.func f) #[] #[])->(∀x av,ρ x=some av->DenV γ av (σ x))->∃f args,(∀w,(execOp σ o).run P w=.ok (.enter f args) w) /\
   XC P f args h λv h'=>∃av γ',K av/\DenV γ' av v/\Inv h0 W M0 cs γ' h'/\Gx none γ γ'/\Keep h.size h h'):=by
 unfold ztr at H
 split at H
 ·rename_i c ho
  split at H
  ·rename_i x hx
   split at H
   ·rename_i f hf
    cases hcal:zp P f with
    |false=>rw[hcal]at H;exact H.elim
    |true=>
     rw[hcal]at H
     simp only[cond_true]at H
     split at H
     ·rename_i ts rt vs hs aa
      split at H
      ·rename_i args Z
       obtain⟨J,h1,h2⟩:=H
       refine⟨λhb=>⟨_,h2 (z9o rt) (λh=>by rw[hb]at h;cases h)⟩,λhb ab γ h σ I hσ hρ=>?_⟩
       have e:=zkh hf
       subst e
       refine⟨f,c.args.map σ,λw=>zb1 ho hx hcal (hσ f) w,?_⟩
       have e2:c.args.map σ=(c.args.toList.map σ).toArray:=by rw[<-C8]
       rw[e2]
       refine(zki ab (h1 hb) I (jv I.fz Z (Wu hρ aa))).mono ?_
       rintro v h' ⟨r,γ',g1,g2,g3,g4,g5⟩
       exact⟨_,γ',h2 r (λ_=>g1),g2,g3,g4,g5⟩
      ·exact H.elim
     ·exact H.elim
   ·exact H.elim
  ·exact H.elim
 ·exact H.elim
end
section
variable {P:Program} {t:TypeId} {o:Oper} {d:Nat} {C R:CS} {γ:Gh} {h:za} {σ:Operand -> Value} {av:AV}
variable {h0 : za} {W : Nat -> Prop} {M0 : Fr}
def zv5(P:Program)(t:TypeId)(d:Nat)(C R:CS)(K:AV->CS->Option Nat->Prop):Prop:=match zeroOf P t with
 |some z=>bif qp d R then(bif itB (z.cells.toList.map .v)then False else K (.g (.a (.box d 0))) ((d,.box (z.cells.toList.map .v))::qu d C) (some d))else False
 |none=>False
theorem zc9(c:Nat):∀l:List Value,zl4 c (l.map .v)=false
 |[]=>rfl
 |_::l=>by simp only[A4,zl4,ztj,cond_false,zc9 c l]
theorem Xo(t:TypeId)(v:Value)(B:World)(d:Nat)(h:za):(newVar t v).run P (mk B d h)=.ok ⟨h.size,0,none⟩ (mk B d (h.push (.cells v.cells t))):=rfl
theorem zv6(ho:o.op=.alloc t){K:AV->CS->Option Nat->Prop}(H:zv5 P t d C R K)(I:Inv h0 W M0 (C++R) γ h):ExA P (execOp σ o) h (zan h0 W M0 R γ K):=by
 unfold zv5 at H
 split at H
 ·rename_i z hz
  cases hR:qp d R with
  |false=>rw[hR]at H;exact H.elim
  |true=>
   rw[hR]at H
   cases hit:itB (z.cells.toList.map .v)with
   |true=>rw[hit]at H;exact H.elim
   |false=>
   rw[hit]at H
   intro B e
   refine .inl ⟨.pointer (some ⟨h.size,0,none⟩),e,h.push (.cells z.cells t),?_,_,_,_,zu3 γ d h.size,H,?_,?_,Wq _ _ _⟩
   ·have Z:=Yn hz h B e
    simp only[execOp,ho]
    refine Qo ?_
    unfold Instr.alloc
    rw[Sem.run_bind,Z]
    simp only[Result.andThen_ok]
    rw[Sem.run_bind,Xo]
    rfl
   ·simp only[DenV,DenG,DenA,xz]
   ·have:=I.newBox (c:=d) hR (Za γ z.cells.toList) (zc9 d _) hit t
    simpa using this
 ·exact H.elim
def qcm(t:TypeId)(d:Nat)(l:List AA)(C R:CS)(K:AV->CS->Option Nat->Prop):Prop:=
 bif qp d R then(bif zl4 d l then False else(bif itB l then False else K (.g (.a (.box d 0))) ((d,.box l)::qu d C) (some d)))else False
theorem z5f{x:Operand}(ho:o.op=.box t x){l:List AA}{K:AV->CS->Option Nat->Prop}(H:qcm t d l C R K)(I:Inv h0 W M0 (C++R) γ h)
  (hl:All2 (DenA γ) l (σ x).cells.toList):ExA P (execOp σ o) h (zan h0 W M0 R γ K):=by
 unfold qcm at H
 cases hR:qp d R with
 |false=>rw[hR]at H;exact H.elim
 |true=>
  rw[hR]at H
  cases hm:zl4 d l with
  |true=>rw[hm]at H;exact H.elim
  |false=>
   rw[hm]at H
   cases hit:itB l with
   |true=>rw[hit]at H;exact H.elim
   |false=>
   rw[hit]at H
   intro B e
   refine .inl ⟨.pointer (some ⟨h.size,0,none⟩),e,h.push (.cells (σ x).cells t),?_,_,_,_,zu3 γ d h.size,H,?_,?_,Wq _ _ _⟩
   ·simp only[execOp,ho]
    refine Qo ?_
    unfold Instr.box
    rw[Sem.run_bind,Xo]
    rfl
   ·simp only[DenV,DenG,DenA,xz]
   ·have:=I.newBox (c:=d) hR hl hm hit t
    simpa using this
def zv7:AA->Bool
 |.v x=>x.oneCell'
 |_=>true
def zf6:List AA->Bool
 |[]=>true
 |x::l=>bif zv7 x then zf6 l else false
theorem zts{x:AA}{u:Value}(h:zv7 x=true)(hd:DenA γ x u):u.oneCell'=true:=by
 cases x with
 |v y=>rw[show u=y from hd];exact h
 |d t y=>exact Rd.one (show Rd γ.M t y [u]from hd) u (by simp)
 |box c o=>rw[show u=_ from hd];rfl
 |own c=>rw[show u=_ from hd];rfl
 |oelt c z i o=>obtain⟨g,_,e⟩:=hd;rw[e];rfl
 |elt t y o=>obtain⟨b,f,cs,e,_⟩:=hd;rw[e];rfl
 |dc t xs=>obtain⟨s,e,_⟩:=hd;rw[e];rfl
theorem zf7{γ:Gh}:∀{l:List AA} {us:List Value},zf6 l=true->All2 (DenA γ) l us->∀u∈us,u.oneCell'=true
 |[],[],_,_,u,hu=>by cases hu
 |[],_::_,_,h,_,_=>h.elim
 |_::_,[],_,h,_,_=>h.elim
 |x::l,v::us,h,hd,u,hu=>by
  simp only[zf6]at h
  cases hx:zv7 x with
  |false=>rw[hx]at h;cases h
  |true=>
   rw[hx]at h
   rcases Af.1 hu with rfl|hu
   ·exact zts hx hd.1
   ·exact zf7 h hd.2 u hu
def zv8(c:Nat):CS->Bool
 |[]=>true
 |(j,_)::l=>bif Nat.beq j c then false else zv8 c l
theorem Xp{c:Nat}:∀{l:CS},zv8 c l=true->∀x∈l,x.1≠c
 |[],_,x,hx=>by cases hx
 |(j,k)::l,h,x,hx=>by
  simp only[zv8]at h
  cases hb:Nat.beq j c with
  |true=>rw[hb]at h;cases h
  |false=>
   rw[hb]at h
   rcases Af.1 hx with rfl|hx
   ·intro e;simp only at e;subst e;simp at hb
   ·exact Xp h x hx
theorem zap{P:Program}{g o:Nat}:∀(vs:List Value) (i:Nat) (w:World),(storeCells ⟨g,o,none⟩ vs i).run P w=(storeCells ⟨g,0,none⟩ vs (o+i)).run P w
 |[],i,w=>rfl
 |v::vs,i,w=>by
  unfold storeCells
  rw[Sem.run_bind,Sem.run_bind,zq,zq,Ay]
  congr 1
  funext a w'
  exact zap vs (i+1) w'
theorem Jf{n:Nat}(hi:qd P t=true)(hs:qt P t=n){b o:Nat}{cs:Array Value}{T:TypeId}(e:h[b]?=some (.cells cs T (0,0))){v:Value}(hv:v.cells.size=n)(hl:o+n<=cs.size)(h1:∀u∈v.cells.toList,u.oneCell'=true)(B:World)(d:Nat):
  ∃h',(An t (.pointer (some ⟨b,o,none⟩)) v).run P (mk B d h)=.ok () (mk B d h')/\h'[b]?=some (.cells (cs.toList.take o++v.cells.toList++cs.toList.drop (o+n)).toArray T (0,0))/\h'.size=h.size/\∀j,j≠b->h'[j]?=h[j]?:=by
 obtain⟨h',r1,r2,r3,r4⟩:=Q7 (P:=P) B d v.cells.toList (o+0) h cs e (by simp;omega) h1
 refine⟨h',?_,by rw[r2];simp[hv],r3,r4⟩
 have hz:=QExec.sizeOf (P:=P) (h:=h) (y0 hi).choose_spec B d
 unfold An DG
 simp only[Sem.run_bind,Sem.run_pure,Result.andThen_ok]
 unfold storeVar
 rw[Sem.run_bind,hz]
 simp only[Result.andThen_ok]
 rw[hs,hv]
 simp only[ne_eq,not_true_eq_false,if_false]
 rw[zap]
 exact r1
theorem Z2{α:Type}{L vs:List α}{p:Nat}(h:p+vs.length<=L.length)(q:Nat):(L.take p++vs++L.drop (p+vs.length))[q]?=if q<p then L[q]? else if q<p+vs.length then vs[q-p]? else L[q]?:=by
 have h1:(L.take p).length=p:=by simp;omega
 by_cases h2:q<p
 ·rw[if_pos h2,AQ,Bq (by omega),Az,if_pos h2]
 ·rw[if_neg h2]
  by_cases h3:q<p+vs.length
  ·rw[if_pos h3,Bq (by rw[Ap,h1];omega),A5 (by omega),h1]
  ·rw[if_neg h3,A5 (by rw[Ap,h1];omega),AE,Ap,h1]
   congr 1;omega
theorem RowC.set{M:Fr}{t:Ty}{xs:List (El t)}{cells:List Value}(H:RowC M t xs cells){i:Nat}(hi:i<xs.length){y:El t}{o:Nat}{vs:List Value}(hl:o+vs.length<=sz t)
  (hy:Rd M t y ((((cells.drop (i*sz t)).take (sz t)).take o)++vs++(((cells.drop (i*sz t)).take (sz t)).drop (o+vs.length)))):
  RowC M t (xs.set i y) (cells.take (i*sz t+o)++vs++cells.drop (i*sz t+o+vs.length)):=by
 have aa:(i+1)*sz t<=cells.length:=by rw[H.1];exact AK _ hi
 rw[BU,DK]at aa
 have hE:((cells.drop (i*sz t)).take (sz t)).length=sz t:=by rw[A1,AC];omega
 refine⟨?_,λj hj=>?_⟩
 ·rw[List.length_set,<-H.1]
  simp only[Ap,A1,AC];omega
 ·rw[List.length_set]at hj
  by_cases Z:i=j
  ·subst Z
   rw[List.getElem_set_self]
   have e:(((cells.take (i*sz t+o)++vs++cells.drop (i*sz t+o+vs.length)).drop (i*sz t)).take (sz t))=(((cells.drop (i*sz t)).take (sz t)).take o)++vs++(((cells.drop (i*sz t)).take (sz t)).drop (o+vs.length)):=by
    apply Bm
    intro k
    rw[Z2 (by rw[hE];exact hl),Az,Az,AE,AE,Z2 (by omega)]
    by_cases hk:k<sz t
    ·simp only[hk,if_true]
     by_cases h1:k<o
     ·rw[if_pos (by omega),if_pos h1]
     ·rw[if_neg (by omega),if_neg h1]
      by_cases h2:k<o+vs.length
      ·rw[if_pos (by omega),if_pos h2];congr 1;omega
      ·rw[if_neg (by omega),if_neg h2]
    ·simp only[hk,if_false]
     rw[if_neg (by omega),if_neg (by omega)]
   rw[e];exact hy
  ·rw[List.getElem_set_ne Z]
   have e:(((cells.take (i*sz t+o)++vs++cells.drop (i*sz t+o+vs.length)).drop (j*sz t)).take (sz t))=(cells.drop (j*sz t)).take (sz t):=by
    apply Bm
    intro k
    rw[Az,Az,AE,AE,Z2 (by omega)]
    by_cases hk:k<sz t
    ·simp only[hk,if_true]
     rcases AR j i with h1|h1
     ·have:(j+1)*sz t<=i*sz t:=AK _ h1
      rw[BU,DK]at this
      rw[if_pos (by omega)]
     ·have h2:i+1<=j:=by omega
      have:(i+1)*sz t<=j*sz t:=AK _ h2
      rw[BU,DK]at this
      rw[if_neg (by omega),if_neg (by omega)]
    ·simp only[hk,if_false]
   rw[e];exact H.2 j hj
theorem Inv.setRow{h h':za}(I:Inv h0 W M0 (C++R) γ h){c:Nat}{e:TypeId}{t:Ty}{xs aa:List (El t)}(hc:(c,Ch.row e t xs)∈C){g:Nat}(hg:(γ.σ c).a.map (·.block)=some g)
  (ho:∀i,i≠g->h'[i]?=h[i]?) (hs:h'.size=h.size) (hd:DenC h0.size γ h' c (.row e t aa)) (hR:∀x∈R,x.1≠c):Inv h0 W M0 ((c,.row e t aa)::Jc c C++R) γ h':=by
 have Z:=I.sep _ (Am R hc) g hg
 have ab:∀x∈Jc c C++R,blk γ x.1 x.2≠some g:=by
  intro x hx
  have ah:x≠(c,Ch.row e t xs):=by
   rintro rfl
   rcases As.1 hx with hx|hx
   ·exact(Qy hx).2 rfl
   ·exact hR _ hx rfl
  have af:x∈C++R:=((j6 c C).append_right R).subset hx
  have hp:=@zbv _ (λ(x y:Nat×Ch)=>∀b,blk γ x.1 x.2=some b->blk γ y.1 y.2≠some b) (λx y h b hb ae=>h b ae hb) _ I.apart
  intro hb
  exact hp (Am R hc) af (λe=>ah e.symm) _ hg hb
 have hI:Inv h0 W M0 (Jc c C++R) γ h':=by
  refine I.rest ((j6 c C).append_right R) (c:=none) (Gx.refl _ _) (λx _=>⟨by simp,rfl⟩) (λx hx b hb=>?_) (λb cc eM=>?_) (λi hi hw=>?_) (by omega) (λb hb=>rfl)
  ·exact⟨ho b λe'=>ab x hx (e' ▸ hb),(I.sep x (((j6 c C).append_right R).subset hx) b hb).2⟩
  ·obtain⟨T',m,e'⟩:=I.ag b cc eM
   exact⟨T',m,by rw[ho b λe2=>by rw[e2,Z.2]at eM;cases eM];exact e'⟩
  ·refine ho i λe'=>?_
   have h2:=Z.1
   rcases h2 with h1|h1
   ·omega
   ·rw[e']at hw;exact hw h1
 refine hI.cons hd (λb hb=>?_) (λb hb x hx=>?_)
 ·simp only[blk,hg,Aa]at hb;subst hb;exact Z
 ·simp only[blk,hg,Aa]at hb;subst hb;exact ab x hx
def zv9(P:Program)(t:TypeId)(aa:AA)(l2:List AA)(C R:CS)(K:AV->CS->Option Nat->Prop):Prop:=
 bif qd P t then(bif Nat.beq l2.length (qt P t)then(bif zf6 l2 then(match aa with
 |.box c o=>match Qa C c with
  |some (.box l)=>bif zv8 c R then(bif (bif itB l then true else itB (l.take o++l2++l.drop (o+l2.length)))then False else(bif Nat.ble (o+l2.length) l.length then K (ztm undef) ((c,.box (l.take o++l2++l.drop (o+l2.length)))::Jc c C) none else False))else False
  |_=>False
 |.oelt c z i o=>match Qa (frzL (ztq l2) C) c with
  |some (.row e ty xs)=>bif zv8 c R then(bif Nat.beq z (sz ty)then(bif Nat.ble (o+l2.length) (sz ty)then ∃y:El ty,xs[i]?=some y/\(match collect (frzL (ztq l2) C++R) ty ((Yi ty y).take o++l2++(Yi ty y).drop (o+l2.length))with
   |some (y',[])=>K (ztm undef) ((c,.row e ty (xs.set i y'))::Jc c (frzL (ztq l2) C)) none
   |_=>False)else False)else False)else False
  |_=>False
 |_=>False)else False)else False)else False
theorem zwa{a x:Operand}(ho:o.op=.store t a x){aa:AA}{l2:List AA}{K:AV->CS->Option Nat->Prop}(H:zv9 P t aa l2 C R K)(I:Inv h0 W M0 (C++R) γ h)
  (hl:All2 (DenA γ) l2 (σ x).cells.toList) (ha:DenA γ aa (σ a)):ExA P (execOp σ o) h (zan h0 W M0 R γ K):=by
 unfold zv9 at H
 cases hi:qd P t with
 |false=>rw[hi]at H;exact H.elim
 |true=>
  rw[hi]at H
  cases hn:Nat.beq l2.length (qt P t)with
  |false=>rw[hn]at H;exact H.elim
  |true=>
   rw[hn]at H
   cases hok:zf6 l2 with
   |false=>rw[hok]at H;exact H.elim
   |true=>
    rw[hok]at H
    have aB:l2.length=qt P t:=Ag hn
    have ah:(σ x).cells.size=qt P t:=by rw[<-aB,hl.length];simp
    have h1:=zf7 hok hl
    simp only[cond_true]at H
    split at H
    ·rename_i c off
     split at H
     ·rename_i l hc
      cases hR:zv8 c R with
      |false=>rw[hR]at H;exact H.elim
      |true=>
       rw[hR]at H
       cases hit:itB l with
       |true=>rw[hit]at H;exact H.elim
       |false=>
       rw[hit]at H
       cases hit2:itB (l.take off++l2++l.drop (off+l2.length))with
       |true=>rw[hit2]at H;exact H.elim
       |false=>
       rw[hit2]at H
       simp only[cond_true,cond_false]at H
       cases hble:Nat.ble (off+l2.length) l.length with
       |false=>rw[hble]at H;exact H.elim
       |true=>
        rw[hble]at H
        have ax:=BG hble
        obtain⟨us,e,h2⟩:=I.den _ (Am R (zy hc))
        rcases e with⟨⟨T,e⟩,_⟩|⟨s,p,e,_⟩
        case inr=>exact absurd e (zrh hit h2 s p)
        have aT:=h2.length
        intro B d
        obtain⟨h',r1,r2,r3,r4⟩:=Jf (P:=P) hi rfl e (o:=off) ah (by simp;omega) h1 B d
        refine .inr (.inl ⟨d,h',?_,_,_,_,γ,H,Yk _ _,?_,Gx.refl _ _⟩)
        ·simp only[execOp,ho]
         rw[show σ a=_ from ha]
         exact zs8 r1
        ·refine I.setBox (zy hc) (us:=us.take off++(σ x).cells.toList++us.drop (off+l2.length)) (.inl ⟨⟨T,?_⟩,λs p=>zrh hit2 (((h2.take off).append hl).append (h2.drop _)) s p⟩) r4 r3 ?_ (Xp hR)
         ·rw[r2,aB]
         ·exact((h2.take off).append hl).append (h2.drop _)
     ·exact H.elim
    ·rename_i c z i off
     split at H
     ·rename_i e ty xs hc
      cases hR:zv8 c R with
      |false=>rw[hR]at H;exact H.elim
      |true=>
       rw[hR]at H
       cases hz:Nat.beq z (sz ty)with
       |false=>rw[hz]at H;exact H.elim
       |true=>
        rw[hz]at H
        cases hble:Nat.ble (off+l2.length) (sz ty)with
        |false=>rw[hble]at H;exact H.elim
        |true=>
         rw[hble]at H
         simp only[cond_true]at H
         obtain⟨y,hy,H⟩:=H
         split at H
         ·rename_i y' az
          have ax:=BG hble
          obtain⟨γ1,I1,g1⟩:=Inv.frzL (C:=C) (γ:=γ) (ztq l2) I
          have aC:=ha.gx g1 rfl
          have aN:=DenL.gx (c:=none) g1 rfl hl
          rw[Ag hz]at aC
          obtain⟨g,hg,aO⟩:=aC
          have ai:=zy hc
          obtain⟨cells,ak,ab,ae,Z⟩:=I1.den _ (Am R ai)
          simp only at ak ab ae Z
          have an:i<xs.length:=(Av.1 hy).1
          have aM:xs[i]=y:=(Av.1 hy).2
          rcases ak.2 with⟨hv,aS⟩|⟨g',cap,aF,hv,aL,aI,aP,aG,ap,am⟩
          ·omega
          simp only[AP]at hv
          have aQ:g'=g:=by
           have:=hv.1;rw[hg]at this;simp only[Aa,Addr.mk.injEq]at this;exact this.1.symm
          subst aQ
          have af:cells.length=xs.length*sz ty:=ab.1
          have ay:(i+1)*sz ty<=xs.length*sz ty:=AK _ an
          rw[BU,DK]at ay
          have aH:xs.length*sz ty<=cap*sz ty:=AK _ (by omega)
          have ar:(σ x).cells.toList.length=l2.length:=hl.length.symm
          intro B d
          obtain⟨h',r1,r2,r3,r4⟩:=Jf (P:=P) hi rfl aI (o:=i*sz ty+off) ah (by rw[ap];omega) h1 B d
          refine .inr (.inl ⟨d,h',?_,_,_,_,γ1,H,Yk _ _,?_,g1⟩)
          ·simp only[execOp,ho]
           rw[aO]
           exact zs8 r1
          ·refine I1.setRow ai (g:=g') (by rw[hg];rfl) r4 r3 ?_ (Xp hR)
           have hE:=ab.2 i an
           rw[aM]at hE
           have aE:=wm (γ:=γ1) hE
           have au:=((aE.take off).append aN).append (aE.drop (off+l2.length))
           obtain⟨c1,c2,e1,r5,r6⟩:=Yj I1.fz az au
           cases c2 with
           |cons _ _=>exact r6.elim
           |nil=>
            rw[AW]at e1
            rw[<-e1]at r5
            have aj:=ab.set an (o:=off) (vs:=(σ x).cells.toList) (by rw[ar];exact ax) (by rw[ar];exact r5)
            refine⟨_,⟨?_,.inr ⟨g',cap,_,by simp[hv],aL,r2,aP,aG,?_,?_⟩⟩,aj,by simpa using ae,by simpa using Z⟩
            ·rw[aj.1,Z,List.length_set]
            ·simp only[List.size_toArray,Ap,A1,AC,CE]
             have:(σ x).cells.toList.length=qt P t:=by simpa using ah
             simp only[CE]at this
             rw[this,ap];omega
            ·apply Bm
             intro k
             have aA:(σ x).cells.toList.length=qt P t:=by simpa using ah
             rw[Az,<-aA]
             simp only
             rw[Z2 (L:=cells) (by rw[af];omega)]
             have aJ:cells=aF.toList.take (xs.length*sz ty):=by rw[<-am,Z]
             rw[Z2 (L:=aF.toList) (by simp only[CE];rw[ap];simp only[CE]at ar;omega),aJ,Z]
             by_cases hk:k<xs.length*sz ty
             ·rw[if_pos hk,Az,if_pos hk]
             ·rw[if_neg hk,Az,if_neg hk]
              rw[if_neg (by omega),if_neg (by omega)]
         ·exact H.elim
     ·exact H.elim
    ·exact H.elim
def nxB(s:Bt)(p:Nat):Bool:=Nat.blt p s.size
def nxP(s:Bt)(p:Nat):Nat:=bif Nat.blt p s.size then p+(Utf8.decode s p).2 else p
def nxR(s:Bt)(p:Nat):Int:=((Utf8.decode s p).1:Int)
def zwb(P:Program)(t:TypeId)(av:AV)(d:Nat)(C R:CS)(K:AV->CS->Option Nat->Prop):Prop:=match av,P.underlying t with
 |.g (.a (.v (.string s))),some .string=>bif qp d R then K (.g (.a (.box d 0))) ((d,.box [.d .iter (s,0)])::qu d C) (some d)else False
 |_,_=>False
theorem zwc{x:Operand}(ho:o.op=.range t x){K:AV->CS->Option Nat->Prop}(H:zwb P t av d C R K)(I:Inv h0 W M0 (C++R) γ h)
  (hd:DenV γ av (σ x)):ExA P (execOp σ o) h (zan h0 W M0 R γ K):=by
 unfold zwb at H
 split at H
 ·rename_i s hu
  cases hR:qp d R with
  |false=>rw[hR]at H;exact H.elim
  |true=>
   rw[hR]at H
   intro B e
   refine .inl ⟨.pointer (some ⟨h.size,0,none⟩),e,h.push (.stringIter s 0),?_,_,_,_,zu3 γ d h.size,H,?_,?_,Wq _ _ _⟩
   ·simp only[execOp,ho,show σ x=.string s from hd]
    refine Qo ?_
    have hq:=QExec.underlying (h:=h) hu B e
    unfold Instr.range
    rw[Sem.run_bind,hq]
    rfl
   ·simp only[DenV,DenG,DenA,xz]
   ·exact Inv.newBoxO (c:=d) I hR (l:=[.d .iter (s,0)]) (us:=[xt s 0]) ⟨rfl,trivial⟩ rfl (.inr ⟨s,0,rfl,rfl⟩)
 ·exact H.elim
def z5g(av:AV)(C R:CS)(K:AV->CS->Option Nat->Prop):Prop:=match av with
 |.g (.a (.box c 0))=>match Qa C c with
  |some (.box [.d .iter x])=>bif zv8 c R then K (.nx (nxB x.1 x.2) (x.2:Int) (nxR x.1 x.2)) ((c,.box [.d .iter (x.1,nxP x.1 x.2)])::Jc c C) none else False
  |_=>False
 |_=>False
theorem z0q{x:Operand}(ho:o.op=.next x true){K:AV->CS->Option Nat->Prop}(H:z5g av C R K)(I:Inv h0 W M0 (C++R) γ h)
  (hd:DenV γ av (σ x)):ExA P (execOp σ o) h (zan h0 W M0 R γ K):=by
 unfold z5g at H
 split at H
 ·rename_i c
  split at H
  ·rename_i y hc
   cases hR:zv8 c R with
   |false=>rw[hR]at H;exact H.elim
   |true=>
    rw[hR]at H
    simp only[cond_true]at H
    obtain⟨us,ob,h2⟩:=I.den _ (Am R (zy hc))
    have aa:us=[xt y.1 y.2]:=by
     match us,h2 with
     |[u],h2=>
      have h3:Rd γ.M .iter y [u]:=h2.1
      simpa[Rd]using h3
    subst aa
    have Z:h[γ.β c]?=some (.stringIter y.1 y.2):=by
     rcases ob with⟨_,e⟩|⟨s,p,e1,e2⟩
     ·exact absurd rfl (e _ _)
     ·have e3:y.1=s/\y.2=p:=by
       simp only[xt,Bu,Value.iface.injEq,Value.agg.injEq,Array.mk.injEq,Value.string.injEq,Value.int.injEq,and_true,true_and]at e1
       exact⟨e1.1,by omega⟩
      rw[e2,e3.1,e3.2]
    have ab:γ.β c<h.size:=(Ac.1 Z).1
    intro B d
    have hg:∀(w:World),w.heap[γ.β c]?=some (.stringIter y.1 y.2)->(getObj (γ.β c)).run P w=.ok (.stringIter y.1 y.2) w:=λw e=>by simp[getObj,Sem.run,e]
    have hs:∀(w:World) (o':Obj),w.heap[γ.β c]?=some (.stringIter y.1 y.2)->(setObj (γ.β c) o').run P w=.ok () { w with heap:=w.heap.setIfInBounds (γ.β c) o' }:=λw o' e=>by simp[setObj,Sem.run,e]
    have hx:σ x=.pointer (some ⟨γ.β c,0,none⟩):=hd
    by_cases hb:y.2<y.1.size
    ·have eb:nxB y.1 y.2=true:=by simpa[nxB,Cs]using hb
     have ep:nxP y.1 y.2=y.2+(Utf8.decode y.1 y.2).2:=by unfold nxP;rw[show Nat.blt y.2 y.1.size=true from eb];rfl
     refine .inl ⟨.tuple #[.bool true,.int .i64 y.2,.int .i32 (nxR y.1 y.2)],d,h.setIfInBounds (γ.β c) (.stringIter y.1 (nxP y.1 y.2)),?_,_,_,_,γ,H,⟨λ_=>rfl,λhc=>by rw[eb]at hc;cases hc⟩,?_,Gx.refl _ _⟩
     ·simp only[execOp,ho,hx]
      refine Qo ?_
      unfold Instr.next
      simp only
      rw[Sem.run_bind,hg _ Z]
      simp only[Result.andThen_ok,hb,if_true]
      rw[Sem.run_bind,hs _ _ Z,ep]
      rfl
     ·refine I.setBox (zy hc) (us:=[xt y.1 (nxP y.1 y.2)]) (.inr ⟨_,_,rfl,by simp[ab]⟩) (λi hi=>by simp[AN (Ne.symm hi)]) (by simp) ⟨rfl,trivial⟩ (Xp hR)
    ·have eb:nxB y.1 y.2=false:=by
      cases h:nxB y.1 y.2 with
      |false=>rfl
      |true=>exact absurd (by simpa[nxB,Cs]using h) hb
     have ep:nxP y.1 y.2=y.2:=by unfold nxP;rw[show Nat.blt y.2 y.1.size=false from eb];rfl
     refine .inl ⟨.tuple #[.bool false],d,h,?_,_,_,_,γ,H,⟨λhc=>(by rw[eb]at hc;cases hc),λ_=>rfl⟩,?_,Gx.refl _ _⟩
     ·simp only[execOp,ho,hx]
      refine Qo ?_
      unfold Instr.next
      simp only
      rw[Sem.run_bind,hg _ Z]
      simp only[Result.andThen_ok,hb,if_false]
      rfl
     ·refine I.setBox (zy hc) (us:=[xt y.1 (nxP y.1 y.2)]) (.inr ⟨_,_,rfl,by rw[ep];exact Z⟩) (λi hi=>rfl) rfl ⟨rfl,trivial⟩ (Xp hR)
  ·exact H.elim
 ·exact H.elim
end
section
variable {P:Program} {tr t tx e ty:TypeId} {n d m b:Nat} {C R:CS} {γ:Gh} {h:za} {s:Sl} {z x u:Value} {xs news:List Value}
variable {h0 : za} {W : Nat -> Prop} {M0 : Fr}
def Jg(cs:CS)(t:Ty):Nat->List AA->Option (List (El t)×List AA)
 |0,l=>some ([],l)
 |n+1,l=>match collect cs t l with
  |some (y,l')=>match Jg cs t n l' with
   |some (ys,l'')=>some (y::ys,l'')
   |none=>none
  |none=>none
theorem zaq{γ:Gh}{cs:CS}(hf:zzy γ cs){t:Ty}:∀{n:Nat} {l l':List AA} {ys:List (El t)},Jg cs t n l=some (ys,l')->∀{us:List Value},All2 (DenA γ) l us->∃c1 c2,us=c1++c2/\RowC γ.M t ys c1/\ys.length=n/\All2 (DenA γ) l' c2
 |0,l,l',ys,h,us,hu=>by
  simp only[Jg,Aa,A9]at h
  obtain⟨rfl,rfl⟩:=h
  exact⟨[],us,rfl,RowC.nil _ _,rfl,hu⟩
 |n+1,l,l',ys,h,us,hu=>by
  simp only[Jg]at h
  split at h
  ·rename_i y l1 h1
   split at h
   ·rename_i Z l2 h2
    simp only[Aa,A9]at h
    obtain⟨rfl,rfl⟩:=h
    obtain⟨c1,c2,rfl,r1,r2⟩:=Yj hf h1 hu
    obtain⟨c3,c4,rfl,r3,r4,r5⟩:=zaq hf h2 r2
    exact⟨c1++c3,c4,by simp,by simpa using (RowC.single r1).append r3,by simp[r4],r5⟩
   ·cases h
  ·cases h
def zda(P:Program)(el:TypeId)(k:Nat):Option (List Value):=bif Nat.beq k 0 then some []else(match zeroOf P el with
 |some z=>some ((Es k).map (z.cells[· % z.cells.size]!)).toList
 |none=>none)
def z9r:List (Nat×AV)->List AV
 |[]=>[]
 |(_,v)::l=>v::z9r l
def Jh(P:Program)(tr:TypeId)(t:TypeId)(n:Nat)(ps:List (Nat×AV))(d:Nat)(C R:CS)(K:AV->CS->Option Nat->Prop):Prop:=
 match z0l P t with
 |some el=>match z3c P tr 8 el,zda P el (n*qt P el)with
  |some ty,some zs=>bif Nat.beq (qt P el) (sz ty)then(bif Nat.ble (n*qt P el) 16777216 then(bif Nat.blt 0 (qt P el)then(bif qp d R then(match zmw (λi=>some (i*qt P el,qt P el)) (zs.map .v) ps with
   |some r=>match Jg (frzL (J3 (z9r ps)) C++R) ty n r with
    |some (ys,[])=>K (.g (.a (.own d))) ((d,.row el ty ys)::qu d (frzL (J3 (z9r ps)) C)) (some d)
    |_=>False
   |none=>False)else False)else False)else False)else False
  |_,_=>False
 |none=>False
theorem X6{Z:Array (Nat×Operand)}{o:Oper}(ho:o.op=.buildSlice t n Z){ps:List (Nat×AV)}{ρ:Operand->Option AV}(an:zbz ρ Z.toList=some ps){K:AV->CS->Option Nat->Prop}
  (H:Jh P tr t n ps d C R K) {σ:Operand->Value} (I:Inv h0 W M0 (C++R) γ h) (hρ:∀x av,ρ x=some av->DenV γ av (σ x)):ExA P (execOp σ o) h (zan h0 W M0 R γ K):=by
 unfold Jh at H
 split at H
 ·rename_i el ap
  obtain⟨hu,ai⟩:=Yl ap
  split at H
  ·rename_i ty zs ax aa
   cases hz:Nat.beq (qt P el) (sz ty)with
   |false=>rw[hz]at H;exact H.elim
   |true=>
   rw[hz]at H
   cases hb1:Nat.ble (n*qt P el) 16777216 with
   |false=>rw[hb1]at H;exact H.elim
   |true=>
   rw[hb1]at H
   cases hb2:Nat.blt 0 (qt P el)with
   |false=>rw[hb2]at H;exact H.elim
   |true=>
   rw[hb2]at H
   cases hR:qp d R with
   |false=>rw[hR]at H;exact H.elim
   |true=>
   rw[hR]at H
   simp only[cond_true]at H
   split at H
   ·rename_i r hr
    split at H
    ·rename_i ys aj
     obtain⟨γ1,I1,g1⟩:=Inv.frzL (C:=C) (γ:=γ) (J3 (z9r ps)) I
     have ak:∀x av,ρ x=some av->DenV γ1 av (σ x):=λx av hx=>(hρ x av hx).gx g1 rfl
     obtain⟨ws,e1,e2⟩:=Je hr (Za γ1 zs) (Xn ak an)
     obtain⟨c1,c2,rfl,r3,r4,r5⟩:=zaq I1.fz aj e2
     cases c2 with
     |cons _ _=>exact r5.elim
     |nil=>
     rw[AW]at *
     have ab:=Ag hz
     have af:0<qt P el:=by simpa[Cs]using hb2
     have au:n*qt P el<=16777216:=BG hb1
     have hn:n<=n*qt P el:=Dj _ af
     have ah:c1.length=n*qt P el:=by rw[r3.1,r4,ab]
     intro B e
     refine .inl ⟨.slice (some ⟨h.size,0,none⟩) n n,e,h.push (.cells c1.toArray el),?_,_,_,_,zpg γ1 d ⟨some ⟨h.size,0,none⟩,n,n⟩,H,?_,?_,?_⟩
     ·have hq:=QExec.underlying (h:=h) hu B e
      have hs:=QExec.sizeOf (P:=P) (h:=h) (y0 ai).choose_spec B e
      have e5:(Z.map λx=>(x.1,σ x.2)).toList=Z.toList.map λx=>(x.1,σ x.2):=by rw[C8]
      have e6:Et (λi=>some (i*qt P el,qt P el)) zs.toArray (Z.map λx=>(x.1,σ x.2)).toList=some c1.toArray:=by rw[e5];exact e1
      simp only[execOp,ho]
      refine Qo ?_
      unfold Instr.buildSlice
      rw[Sem.run_bind,hq]
      simp only[Result.andThen_ok]
      rw[Sem.run_bind,hs]
      simp only[Result.andThen_ok]
      rw[if_neg (by omega)]
      unfold zda at aa
      by_cases ae:n*qt P el=0
      ·rw[if_pos ae]
       rw[ae]at aa ⊢
       simp at aa
       subst aa
       simp only[Sem.run_bind,Sem.run_pure,Result.andThen_ok]
       have e7:Array.map (λx=>(#[]:Array Value)[x % (#[]:Array Value).size]!) (Es 0)=([]:List Value).toArray:=by simp
       rw[e7,e6]
       rfl
      ·rw[if_neg ae]
       have hb:Nat.beq (n*qt P el) 0=false:=by
        cases hh:Nat.beq (n*qt P el) 0 with
        |false=>rfl
        |true=>exact absurd (Ag hh) ae
       rw[hb]at aa
       simp only[cond_false]at aa
       split at aa
       ·rename_i z am
        have ar:=Yn am h B e
        simp only[Aa]at aa
        rw[Sem.run_bind,ar]
        simp only[Result.andThen_ok,Sem.run_bind,Sem.run_pure]
        have e7:Array.map (λx=>z.cells[x % z.cells.size]!) (Es (n*qt P el))=zs.toArray:=by
         rw[<-aa]
        rw[e7,e6]
        rfl
       ·cases aa
     ·simp only[DenV,DenG,DenA,ya];rfl
     ·refine I1.newRow hR (by simp) (p:=none) (λi hi _=>by rw[BV,if_neg (by omega)]) (λb hb=>by cases hb) (cells:=c1) ⟨by rw[ah,<-ab],.inr ⟨h.size,n,c1.toArray,rfl,I.size,j5 _ _,Ad _,by unfold maxLen;omega,by rw[<-ab];simpa using ah,?_⟩⟩ (λq hq=>.inr (by cases hq;rfl)) r3 (by omega) r4.symm
      rw[Co]
      rw[<-ab];simp;omega
     ·exact⟨g1.1,λi hi=>⟨((Zl γ1 d _).2 i hi).1.trans (g1.2 i (by simp)).1,((Zl γ1 d _).2 i hi).2.trans (g1.2 i (by simp)).2⟩⟩
    ·exact H.elim
   ·exact H.elim
  ·exact H.elim
 ·exact H.elim
theorem Qc{n sz:Nat}{cells:List Value}(ha:Arr n h s.a cells)(hl:cells.length=s.len*sz)(Z:0<sz)(B:World)(d:Nat):
  (CM sz s.len (.slice s.a s.len s.cap)).run P (mk B d h)=.ok cells.toArray (mk B d h):=by
 rcases ha with rfl|⟨b,o,e,_,hc⟩
 ·have h0:s.len=0:=by
   rcases Do s.len with h0|h0
   ·exact h0
   ·have:=Nat.mul_pos h0 Z;simp at hl;omega
  rw[h0]
  cases s.a with
  |none=>simp[CM]
  |some p=>simp[CM,loadCells,loadCellsFrom]
 ·rw[e]
  exact run_firstCells_some (mk B d h) sz s.len ⟨b,o,none⟩ s.len s.cap cells hl λj u hu=>by rw[zq];exact hc j u hu
theorem zm0{n sz:Nat}{cells:List Value}(ha:Arr n h s.a cells)(hl:cells.length=s.len*sz)(Z:0<sz)(h1:∀u∈cells,u.oneCell'=true){tx e':TypeId}(hk:P.underlying tx=some (.slice e'))(B:World)(d:Nat):
  Src P sz tx (slV s) s.len cells (mk B d h):=
 ⟨.inl ⟨e',hk⟩,λ_=>rfl,Qc ha hl Z B d,Qc ha hl Z B (d+1),hl,h1⟩
theorem zm1{g o:Nat}{Z:Array Value}{T:TypeId}(hg:h[g]?=some (.cells Z T (0,0))){vs:List Value}(hl:o+vs.length<=Z.size)(h1:∀u∈vs,u.oneCell'=true)(B:World)(d:Nat):
  ∃h',(storeCells ⟨g,o,none⟩ vs 0).run P (mk B d h)=.ok () (mk B d h')/\h'[g]?=some (.cells (Z.toList.take o++vs++Z.toList.drop (o+vs.length)).toArray T (0,0))/\h'.size=h.size/\∀j,j≠g->h'[j]?=h[j]?:=by
 obtain⟨h',r1,r2,r3,r4⟩:=Q7 (P:=P) B d vs (o+0) h Z hg (by omega) h1
 exact⟨h',by rw[zap];exact r1,r2,r3,r4⟩
theorem Ji{sz bytes:Nat}(T:ElemT P t e z sz bytes){base:Nat}(ae:xs.length=s.len*sz)(aa:∀B d,(CM sz s.len (slV s)).run P (mk B d h)=.ok xs.toArray (mk B d h))(hs:∀B d,Src P sz tx x m news (mk B d h))(Z:(s.len+m)*bytes<=140737488355328)(am:s.len+m<=140737488355328)(ah:base<=h.size)(hg:s.cap<s.len+m)(B:World)(d:Nat):
  ∃c blk,(AB #[t,tx] ty #[slV s,x]).run P (mk B d h)=.ok (.slice (some ⟨h.size,0,none⟩) (s.len+m) c) (mk B (d+1) (h.push (.cells blk e)))/\s.len+m<=c/\c<=maxLen/\blk.size=c*sz/\blk.toList.take ((s.len+m)*sz)=xs++news:=by
 obtain⟨i,hi,hz,aj,ai⟩:=T.info
 subst aj
 subst ai
 have hS:=hs B d
 have ab:=hS.newsLen
 have hr:=run_append_grow_src (P:=P) (mk B d h) t tx ty e i z T.slice hi hz s.a s.len s.cap xs (aa B (d+1)) x m news hS hg (by omega) (growslice_fits (by omega) Z)
 have af:=grownCap_ge (mk B d h) (s.len+m) s.cap e
 have ak:=grownCap_le_maxLen (mk B d h) (s.len+m) s.cap e (by unfold maxLen;omega)
 generalize grownCap (mk B d h) (s.len+m) s.cap e=c at *
 refine⟨c,_,hr,af,ak,?_,?_⟩
 ·simp only[Array.size_append,List.size_toArray,size_zeroCells,Ap,T.zero,ae,ab,<-BU]
  congr 1
  omega
 ·simp only[Array.toList_append]
  have:(xs++news).length=(s.len+m)*i.size:=by rw[Ap,ae,ab,BU]
  rw[<-this]
  exact DJ
theorem Qd{sz bytes:Nat}(T:ElemT P t e z sz bytes){h h':za}{B:World}(hS:Src P sz tx x m news (mk B d h))(Z:s.len+m<=s.cap)
  (ab:∀p,s.a=some p->(storeCells (p.add (s.len*sz)) news 0).run P (mk B d h)=.ok () (mk B d h')) (aa:s.a=none->h'=h):(AB #[t,tx] ty #[slV s,x]).run P (mk B d h)=.ok (.slice s.a (s.len+m) s.cap) (mk B d h'):=by
 obtain⟨i,hi,hz,ae,af⟩:=T.info
 subst ae
 have ht:=T.slice
 unfold slV
 rcases hS.kind with⟨e',hk⟩|hk
 ·cases ha:s.a with
  |none=>rw[aa ha];simp[AB,run_underlying ht,run_underlying hk,sizeOf,typeInfo,hi,hS.len,Z,hS.cells]
  |some p=>simp[AB,run_underlying ht,run_underlying hk,sizeOf,typeInfo,hi,hS.len,Z,hS.cells,ab p ha]
 ·cases ha:s.a with
  |none=>rw[aa ha];simp[AB,run_underlying ht,run_underlying hk,sizeOf,typeInfo,hi,hS.len,Z,hS.cells]
  |some p=>simp[AB,run_underlying ht,run_underlying hk,sizeOf,typeInfo,hi,hS.len,Z,hS.cells,ab p ha]
theorem zix{sz bytes:Nat}(T:ElemT P t e z sz bytes){base:Nat}(H:Owns h base e sz s xs)(hs:∀B d,Src P sz tx x m news (mk B d h))
  (ah:(s.len+m)*bytes<=140737488355328) (aj:s.len+m<=140737488355328) (aa:base<=h.size) {K:Value->za->Prop}
  (hK:∀(s':Sl) (h':za),s'.len=s.len+m->Owns h' base e sz s' (xs++news)->(∀i,i<h.size->(∀p,s.a=some p->i≠p.block)->h'[i]?=h[i]?)->h.size<=h'.size->(∀p',s'.a=some p'->(∃p,s.a=some p/\p'.block=p.block)\/p'.block=h.size)->K (slV s') h'):
  XRun P (AB #[t,tx] ty #[slV s,x]) h K:=by
 intro B d
 have hS:=hs B d
 have ae:=hS.newsLen
 have ab:=H.1
 have ak:=H.arr
 by_cases af:s.len+m<=s.cap
 ·rcases H.2 with⟨hv,aE⟩|⟨g,cap,ay,hv,ax,hg,aF,au,am,ai⟩
  ·simp only[AP]at hv
   obtain⟨e1,e2,e3⟩:=hv
   have hm:m=0:=by omega
   subst hm
   have hn:news=[]:=AJ (by simpa using ae)
   subst hn
   have hr:=Qd (P:=P) (ty:=ty) T (s:=s) (h':=h) hS af (λp hp=>by rw[e1]at hp;cases hp) (λ_=>rfl)
   refine⟨_,d,h,hr,hK ⟨s.a,s.len+0,s.cap⟩ h rfl ?_ (λ_ _ _=>rfl) (Ad _) (λp' Z=>by rw[show s.a=none from e1]at Z;cases Z)⟩
   rw[AW]
   exact H
  ·simp only[AP]at hv
   obtain⟨e1,_,e3⟩:=hv
   have ap:h[g]?=some (.cells ay e (0,0)):=hg
   have aC:(s.len+m)*sz<=cap*sz:=AK _ (by omega)
   rw[BU]at aC
   obtain⟨h',r1,r2,r3,r4⟩:=zm1 (P:=P) ap (o:=s.len*sz) (vs:=news) (by rw[am];omega) hS.one B d
   have hr:=Qd (P:=P) (ty:=ty) T (s:=s) (h':=h') hS af (λp hp=>by
    rw[e1]at hp;cases hp;rw[zq,Ay];exact r1) (λhn=>by rw[e1]at hn;cases hn)
   refine⟨_,d,h',hr,hK ⟨s.a,s.len+m,s.cap⟩ h' rfl ⟨?_,.inr ⟨g,cap,_,?_,ax,r2,(by show s.len+m<=cap;omega),au,?_,?_⟩⟩ (λi hi aA=>r4 i λe'=>aA _ e1 e') (by omega) (λp' Z=>.inl ⟨p',Z,rfl⟩)⟩
   ·rw[Ap,ab,ae,BU]
   ·simp[e1,e3]
   ·simp only[List.size_toArray,Ap,A1,AC,CE]
    rw[ae,am]at *;omega
   ·simp only
    rw[ai]
    have:(xs++news).length=(s.len+m)*sz:=by rw[Ap,ab,ae,BU]
    rw[<-this]
    exact DJ
 ·obtain⟨c,blk,hr,az,ar,aB,an⟩:=Ji (P:=P) (ty:=ty) (base:=base) T ab (λB d=>Qc ak ab T.pos B d) hs ah aj aa (by omega) B d
  refine⟨_,d+1,_,hr,hK ⟨some ⟨h.size,0,none⟩,s.len+m,c⟩ _ rfl ⟨?_,.inr ⟨h.size,c,blk,rfl,aa,j5 _ _,az,ar,aB,an⟩⟩ (λi hi _=>by rw[BV,if_neg (by omega)]) (by simp) (λp' Z=>.inr (by cases Z;rfl))⟩
  rw[Ap,ab,ae,BU]
def zb2(s:Bt):List Int:=s.data.toList.map λb=>(b.toNat:Int)
def z3d:(ty:Ty)->Bt->Option (List (El ty))
 |.int .u8,s=>some (zb2 s)
 |_,_=>none
def z5h(P:Program)(cs:CS)(tx:TypeId)(ty:Ty):AV->Option (List (El ty))
 |.g (.a (.v (.string s)))=>match P.underlying tx with
  |some .string=>z3d ty s
  |_=>none
 |.g (.a (.v (.slice none 0 0)))=>match P.underlying tx with
  |some (.slice _)=>some []
  |_=>none
 |.g (.a aa)=>match P.underlying tx with
  |some (.slice _)=>match rowOf cs aa with
   |some r=>Zk (.row r.1) (.row ty) r.2
   |none=>match aa with
    |.own c=>match Qa cs c with
     |some (.row _ t xs)=>Zk (.row t) (.row ty) xs
     |_=>none
    |_=>none
  |_=>none
 |_=>none
theorem RowC.bytes(M:Fr)(s:Bt):RowC M (.int .u8) (zb2 s) (byteCells s):=by
 have hl:(byteCells s).length=(zb2 s).length:=by unfold byteCells zb2;simp
 refine⟨by rw[hl];simp[sz],λi hi=>?_⟩
 have Z:i<(byteCells s).length:=by rw[hl];exact hi
 have e:(byteCells s)[i]=.int .u8 (zb2 s)[i]:=by simp only[byteCells,zb2,List.getElem_map]
 have e2:((byteCells s).drop (i*1)).take 1=[(byteCells s)[i]]:=by
  rw[Dc,AF Z];rfl
 show((byteCells s).drop (i*1)).take 1=[.int .u8 (zb2 s)[i]]
 rw[e2,e]
theorem Qe{t t':Ty}{xs:List (El t)}{ys:List (El t')}(h:Zk (.row t) (.row t') xs=some ys):∃e:t=t',ys=e ▸ xs:=by
 unfold Zk at h
 split at h
 ·rename_i e
  have e':t=t':=by injection e
  subst e'
  simp only[Aa]at h
  exact⟨rfl,h.symm⟩
 ·cases h
theorem zrn{cs:CS}(I:Inv h0 W M0 cs γ h){ty:Ty}{av:AV}{ys:List (El ty)}(hs:z5h P cs tx ty av=some ys)(af:0<sz ty)(hd:DenV γ av u):
  ∃news,RowC γ.M ty ys news/\∀B d,Src P (sz ty) tx u ys.length news (mk B d h):=by
 have row:∀{t:Ty} {xs:List (El t)} {n:Nat} {s:Sl} {cells:List Value} {e':TypeId},Zk (.row t) (.row ty) xs=some ys->P.underlying tx=some (.slice e')->u=slV s->s.len=xs.length->RowC γ.M t xs cells->Arr n h s.a cells ->
   ∃news,RowC γ.M ty ys news/\∀B d,Src P (sz ty) tx u ys.length news (mk B d h):=by
  intro t xs n s cells e' hc hu e hl hr ha
  obtain⟨e1,e2⟩:=Qe hc
  subst e1
  simp only at e2
  subst e2
  refine⟨cells,hr,λB d=>?_⟩
  rw[e,<-hl]
  exact zm0 ha (by rw[hl];exact hr.1) af hr.one hu B d
 unfold z5h at hs
 split at hs
 ·rename_i s
  split at hs
  ·rename_i hu
   unfold z3d at hs
   split at hs
   case h_2=>cases hs
   simp only[Aa]at hs
   subst hs
   refine⟨byteCells s,RowC.bytes _ s,λB d=>?_⟩
   rw[show u=.string s from hd]
   have:=Src.ofString (P:=P) (mk B d h) hu s
   have e:(zb2 s).length=s.size:=by unfold zb2;rw[A0,CE];rfl
   rw[e];exact this
  ·cases hs
 ·split at hs
  ·rename_i e' hu
   simp only[Aa]at hs
   subst hs
   refine⟨[],RowC.nil _ _,λB d=>?_⟩
   rw[show u=.slice none 0 0 from hd]
   exact Src.ofNil (mk B d h) hu 0
  ·cases hs
 ·rename_i aa _ _
  split at hs
  ·rename_i e' hu
   split at hs
   ·rename_i r hr
    obtain⟨s,e,hl,hn,cells,Z,ab⟩:=(zbw I hr hd).rowC I.ag
    exact row hs hu e hl Z ab
   ·split at hs
    ·rename_i c _ _ _
     split at hs
     ·rename_i e t xs hc
      obtain⟨cells,ae,Z,hn,hl⟩:=I.den _ (zy hc)
      exact row hs hu (show u=slV _ from hd) hl Z ae.arr
     ·cases hs
    ·cases hs
  ·cases hs
 ·cases hs
def ze9(P:Program)(el:TypeId)(ty:Ty):Option Nat:=match P.info? el with
 |some i=>match i.zero with
  |some z=>bif (bif Nat.beq i.size (sz ty)then(bif Nat.beq z.cells.size i.size then(bif Nat.blt 0 i.size then Nat.blt 0 i.bytes else false)else false)else false)then some i.bytes else none
  |none=>none
 |none=>none
theorem ziy{t el:TypeId}{ty:Ty}(hu:P.underlying t=some (.slice el))(h:ze9 P el ty=some b):(∃z,ElemT P t el z (sz ty) b)/\0<b:=by
 unfold ze9 at h
 split at h
 ·rename_i i hi
  split at h
  ·rename_i z hz
   cases h1:Nat.beq i.size (sz ty)with
   |false=>rw[h1]at h;cases h
   |true=>
   cases h2:Nat.beq z.cells.size i.size with
   |false=>rw[h1,h2]at h;cases h
   |true=>
   cases h3:Nat.blt 0 i.size with
   |false=>rw[h1,h2,h3]at h;cases h
   |true=>
   cases h4:Nat.blt 0 i.bytes with
   |false=>rw[h1,h2,h3,h4]at h;cases h
   |true=>
   rw[h1,h2,h3,h4]at h
   simp only[cond_true,Aa]at h
   have e1:=Ag h1
   have e2:=Ag h2
   have e3:0<i.size:=by simpa[Cs]using h3
   have e4:0<i.bytes:=by simpa[Cs]using h4
   exact⟨⟨z,hu,⟨i,hi,hz,e1,h⟩,by rw[e2,e1],by rw[<-e1];exact e3⟩,by rw[<-h];exact e4⟩
  ·cases h
 ·cases h
def Wv(P:Program)(tr:TypeId)(t tx:TypeId)(bv sv:AV)(d:Nat)(C R:CS)(K:AV->CS->Option Nat->Prop):Prop:=
 match z0l P t with
 |some el=>match z3c P tr 8 el with
  |some ty=>match ze9 P el ty,z5h P (C++R) tx ty sv with
   |some b,some ys=>match bv with
    |.g (.a (.v (.slice none 0 0)))=>bif qp d R then(ys.length*b<=140737488355328/\K (.g (.a (.own d))) ((d,.row el ty ys)::qu d C) (some d))else False
    |.g (.a (.own c))=>match Qa C c with
     |some (.row e t' xs)=>match Zk (.row t') (.row ty) xs with
      |some xs=>bif Nat.beq e el then(bif qp d R then((xs.length+ys.length)*b<=140737488355328/\K (.g (.a (.own d))) ((d,.row el ty (xs++ys))::qu d (Jc c C)) (some d))else False)else False
      |none=>False
     |_=>False
    |.g (.a (.dc t' xs))=>match Zk (.row t') (.row ty) xs with
     |some xs=>(xs.length+ys.length)*b<=140737488355328/\K (.g (.a (.d (.row ty) (xs++ys)))) C none
     |none=>False
    |_=>False
   |_,_=>False
  |none=>False
 |none=>False
theorem zb3{n b k:Nat}(hb:0<b)(h:n*b<=k):n<=k:=D6 (Dj _ hb) h
theorem ziz{tr t tx ty':TypeId}{bv sv:AV}{K:AV->CS->Option Nat->Prop}(H:Wv P tr t tx bv sv d C R K)(I:Inv h0 W M0 (C++R) γ h)
  {u v:Value} (ax:DenV γ bv u) (aH:DenV γ sv v):XRun P (AB #[t,tx] ty' #[u,v]) h (zan h0 W M0 R γ K):=by
 unfold Wv at H
 split at H
 ·rename_i el aN
  obtain⟨hu,aZ⟩:=Yl aN
  split at H
  ·rename_i ty ba
   split at H
   ·rename_i b ys hb aS
    obtain⟨⟨z,T⟩,ap⟩:=ziy hu hb
    obtain⟨news,ak,an⟩:=zrn I aS T.pos aH
    split at H
    ·cases hR:qp d R with
     |false=>rw[hR]at H;exact H.elim
     |true=>
     rw[hR]at H
     obtain⟨ae,hK⟩:=H
     rw[show u=slV ⟨none,0,0⟩from ax]
     have af:=zb3 ap ae
     refine zix T (Owns.nil h h0.size el (sz ty)) an (by simpa using ae) (by simpa using af) I.size λs' h' hl am hk hs hp=>?_
     rw[Bc]at am
     simp only[Ay]at hl
     refine⟨_,_,_,zpg γ d s',hK,?_,I.newRow hR hs (p:=none) (λi hi _=>hk i hi (by simp)) (λb hb=>by cases hb) am (λq hq=>?_) ak af hl,Zl _ _ _⟩
     ·simp only[DenV,DenG,DenA,ya]
     ·rcases hp q hq with⟨p,hp,_⟩|hp
      ·simp at hp
      ·exact .inr hp
    ·rename_i c
     split at H
     ·rename_i e t' aI hc
      split at H
      ·rename_i xs ai
       cases hee:Nat.beq e el with
       |false=>rw[hee]at H;exact H.elim
       |true=>
       rw[hee]at H
       cases hR:qp d R with
       |false=>rw[hR]at H;exact H.elim
       |true=>
       rw[hR]at H
       obtain⟨ae,hK⟩:=H
       have af:=zb3 ap ae
       have aj:=zy hc
       obtain⟨e1,e2⟩:=Qe ai
       subst e1
       simp only at e2
       subst e2
       have e3:=Ag hee
       subst e3
       have aC:=I.den _ (Am R aj)
       obtain⟨cells,ah,aa,aQ,Z⟩:=aC
       simp only at ah aa Z
       rw[show u=slV (γ.σ c)from ax]
       refine zix T ah an (by rw[Z];exact ae) (by rw[Z];exact af) I.size λs' h' hl am hk hs hp=>?_
       have aF:=I.sep _ (Am R aj)
       have a7:=Qb hR
       have aM:Inv h0 W M0 (Jc c C++R) γ h:=I.sub ((j6 c C).append_right R)
       refine⟨_,_,_,zpg γ d s',hK,?_,aM.newRow hR hs (p:=(γ.σ c).a.map (·.block)) (λi hi ay=>hk i hi λp hp e=>ay (by rw[hp,e];rfl)) (λb hb=>?_) am (λq hq=>?_) (aa.append ak) (by rw[Ap];exact af) (by rw[hl,Z,Ap]),Zl _ _ _⟩
       ·simp only[DenV,DenG,DenA,ya]
       ·obtain⟨h1,h2⟩:=aF b hb
        refine⟨?_,h2,λx hx aP=>?_⟩
        ·simp only[Cy]at hb
         obtain⟨p,hp,rfl⟩:=hb
         exact(ah.base_le p hp).1
        ·have aL:x∈C++R:=((j6 c C).append_right R).subset hx
         have ay:x≠(c,Ch.row e t' xs):=by
          rintro rfl
          rcases As.1 hx with hx|hx
          ·exact(Qy hx).2 rfl
          ·have aA:=I.apart
           rw[Ct]at aA
           exact aA.2.2 _ aj _ hx b hb hb
         have hp:=@zbv _ (λ(x y:Nat×Ch)=>∀b,blk γ x.1 x.2=some b->blk γ y.1 y.2≠some b) (λx y h b hb ar=>h b ar hb) _ I.apart
         exact hp aL (Am R aj) ay b aP hb
       ·rcases hp q hq with⟨p,hp,aT⟩|hp
        ·exact .inl (by rw[hp,aT];rfl)
        ·exact .inr hp
      ·exact H.elim
     ·exact H.elim
    ·rename_i t' aI
     split at H
     ·rename_i xs ai
      obtain⟨ae,hK⟩:=H
      have af:=zb3 ap ae
      obtain⟨e1,e2⟩:=Qe ai
      subst e1
      simp only at e2
      subst e2
      obtain⟨s,e,a6,aB⟩:=(show ∃s:Sl,u=slV s/\s.cap=s.len/\Rd γ.M (.row t') xs [u]from ax)
      subst e
      obtain⟨s2,e,Z,aQ,cells,aa,az⟩:=aB.rowC I.ag
      have e':s=s2:=by cases s;cases s2;simp only[slV,AP]at e;simp[e]
      subst e'
      have au:cells.length=s.len*sz t':=by rw[Z];exact aa.1
      intro B dr
      by_cases hm:ys.length=0
      ·have aG:ys=[]:=AJ hm
       subst aG
       have aY:news=[]:=AJ (by rw[ak.1];simp)
       subst aY
       have hr:=Qd (P:=P) (ty:=ty') T (s:=s) (h':=h) (an B dr) (by simp;omega) (λp hp=>by simp[storeCells]) (λ_=>rfl)
       refine⟨_,dr,h,hr,_,C,none,γ,hK,?_,I,Gx.refl _ _⟩
       rw[AW]
       exact aB
      ·obtain⟨c,ab,hr,aV,a1,a8,aO⟩:=Ji (P:=P) (ty:=ty') (base:=0) T au (λB d=>Qc az au T.pos B d) an (by rw[Z];exact ae) (by rw[Z];exact af) (CV _) (by omega) B dr
       have aJ:γ.M h.size=none:=I.ag.none (Ad _)
       have hM:Fr.le γ.M (zee γ h.size ab).M:=by
        intro b cc eM
        have:Nat.beq b h.size=false:=by
         cases hb:Nat.beq b h.size with
         |false=>rfl
         |true=>rw[Ag hb,aJ]at eM;cases eM
        simp[zee,this,eM]
       have aU:AgM (zee γ h.size ab).M (h.push (.cells ab el)):=by
        intro b cc eM
        by_cases hb:b=h.size
        ·subst hb
         have:cc=ab:=by simp[zee]at eM;exact eM.symm
         subst this
         exact⟨_,_,j5 _ _⟩
        ·have:Nat.beq b h.size=false:=by
          cases ar:Nat.beq b h.size with
          |false=>rfl
          |true=>exact absurd (Ag ar) hb
         simp only[zee,this,cond_false]at eM
         obtain⟨T',m,e'⟩:=I.ag b cc eM
         exact⟨T',m,by rw[BV,if_neg hb];exact e'⟩
       refine⟨_,dr+1,_,hr,_,C,none,zee γ h.size ab,hK,?_,I.call (Keep.push h _ (Ad _)) hM (λb hb=>?_) aU,⟨hM,λ_ _=>⟨rfl,rfl⟩⟩⟩
       ·have aE:=((aa.append ak).mono hM).rd (b:=h.size) (o:=0) (c:=c) (cs:=ab) (by simp[zee]) (by rw[BQ,Ap,<-Z];exact aO) (by rw[Ap,<-Z];exact⟨by rw[Z];exact af,aV⟩)
        rw[Ap,<-Z]at aE
        exact aE
       ·have:Nat.beq b h.size=false:=by
         cases ar:Nat.beq b h.size with
         |false=>rfl
         |true=>have:=Ag ar;omega
        simp[this]
     ·exact H.elim
    ·exact H.elim
   ·exact H.elim
  ·exact H.elim
 ·exact H.elim
end
section
variable {cs C R:CS} {γ b:Gh} {h:za} {u:Value} {P:Program} {o:Oper} {σ:Operand -> Value} {n:Nat} {gl:Fr} {tr:TypeId} {c:zt} {a:Act} {S:List Nat}
variable {h0 : za} {W : Nat -> Prop} {M0 : Fr}
def qb2(ns:List Int):Bt:=ns.foldl (λr n=>r.push (BX n.toNat)) DZ
def qcn(t:Ty)(xs:List (El t)):Option (List Int):=Zk (.row t) (.row (.int .u8)) xs
def zro(cs:CS):AA->Option ((t:Ty)×List (El t))
 |.own c=>match Qa cs c with
  |some (.row _ t xs)=>some ⟨t,xs⟩
  |some (.fz t xs)=>some ⟨t,xs⟩
  |_=>none
 |aa=>rowOf cs aa
theorem zi0(I:Inv h0 W M0 cs γ h){aa:AA}{r:(t:Ty)×List (El t)}(hr:zro cs aa=some r)(hd:DenA γ aa u):
  ∃s:Sl,u=slV s/\s.len=r.2.length/\∃cells,RowC γ.M r.1 r.2 cells/\Arr h.size h s.a cells:=by
 unfold zro at hr
 split at hr
 ·split at hr
  ·rename_i c e t xs hc
   simp only[Aa]at hr
   subst hr
   obtain⟨cells,ab,Z,hn,hl⟩:=I.den _ (zy hc)
   exact⟨_,hd,hl,cells,Z,ab.arr⟩
  ·rename_i c t xs hc
   simp only[Aa]at hr
   subst hr
   have:Rd γ.M (.row t) xs [u]:=by rw[show u=_ from hd];exact I.den _ (zy hc)
   obtain⟨s,e,hl,hn,cells,h1,h2⟩:=this.rowC I.ag
   exact⟨s,e,hl,cells,h1,h2⟩
  ·cases hr
 ·obtain⟨s,e,hl,hn,cells,h1,h2⟩:=(zbw I hr hd).rowC I.ag
  exact⟨s,e,hl,cells,h1,h2⟩
def zkj(P:Program)(s t:TypeId)(av:AV)(cs:CS)(K:AV->Prop):Prop:=
 match P.underlying s,P.underlying t with
 |some (.slice e),some .string=>match P.underlying e,av with
  |some (.int .u8),.g (.a aa)=>match zro cs aa with
   |some r=>match qcn r.1 r.2 with
    |some ns=>K (.g (.a (.v (.string (qb2 ns)))))
    |none=>False
   |none=>False
  |_,_=>False
 |some (.int _),some .string=>match av with
  |.g (.a (.v (.int _ n)))=>K (.g (.a (.v (.string (Ej n)))))
  |_=>False
 |_,_=>False
theorem zwd{M:Fr}{k:IntKind}:∀{ns:List Int} {cells:List Value},RowC M (.int k) ns cells->cells=ns.map (Ep k)
 |ns,cells,H=>by
  apply Bm
  intro i
  have hl:cells.length=ns.length:=by rw[H.1];simp[sz]
  rw[BS]
  by_cases hi:i<ns.length
  ·have:((cells.drop (i*1)).take 1)=[.int k ns[i]]:=H.2 i hi
   have e:cells[i]?=some (.int k ns[i]):=by
    have h2:((cells.drop (i*1)).take 1)[0]?=some (.int k ns[i]):=by rw[this];rfl
    rw[Az,if_pos (by omega),AE]at h2
    simpa using h2
   rw[e,Ai hi];rfl
  ·rw[BH (by omega),BH (by omega)];rfl
theorem zpl{s t:TypeId}{x:Operand}(ho:o.op=.convert s t x){av:AV}{K:AV->Prop}(H:zkj P s t av cs K)(I:Inv h0 W M0 cs γ h)(hd:DenV γ av (σ x)):
  ∃af v,K af/\DenV γ af v/\QExec P (execOp σ o) h (.value v):=by
 have val:∀{v:Value},QExec P (convert s t (σ x)) h v->QExec P (execOp σ o) h (.value v):=λhq=>by
  simp only[execOp,ho];exact QExec.val hq
 unfold zkj at H
 split at H
 ·rename_i e hs ht
  split at H
  ·rename_i aa he
   split at H
   ·rename_i r hr
    split at H
    ·rename_i ns ah
     refine⟨_,.string (qb2 ns),H,rfl,val λB d=>?_⟩
     obtain⟨sl,e1,hl,cells,ab,ae⟩:=zi0 I hr hd
     obtain⟨tt,xs⟩:=r
     obtain⟨e2,e3⟩:=Qe ah
     simp only at e2
     subst e2
     simp only at e3 hl ab
     subst e3
     have hc:=zwd ab
     subst hc
     have h1:=QExec.underlying (h:=h) hs B d
     have h2:=QExec.underlying (h:=h) ht B d
     have h3:=QExec.underlying (h:=h) he B d
     have Z:(Conv.bytesToString (σ x)).run P (mk B d h)=.ok (.string (qb2 ns)) (mk B d h):=by
      rw[e1]
      unfold slV
      rcases ae with ak|⟨b,o',e4,_,aj⟩
      ·have ai:ns=[]:=by simpa using ak
       subst ai
       simp only[BE]at hl
       cases ha:sl.a with
       |none=>simp[Conv.bytesToString,qb2]
       |some p=>
        have:=run_bytesToString (P:=P) (mk B d h) p sl.len sl.cap [] (by rw[hl];simp[loadCells,loadCellsFrom])
        exact this
      ·rw[e4]
       refine run_bytesToString (mk B d h) ⟨b,o',none⟩ sl.len sl.cap ns ?_
       have:=Qc (P:=P) (h:=h) (n:=b+1) (sz:=1) (s:=sl) (cells:=ns.map (Ep .u8)) (.inr ⟨b,o',e4,by omega,aj⟩) (by rw[hl];simp) (by omega) B d
       rw[e4]at this
       simpa[CM]using this
     unfold convert
     rw[Sem.run_bind,h1]
     simp only[Result.andThen_ok]
     rw[Sem.run_bind,h2]
     simp only[Result.andThen_ok]
     rw[e1]at Z ⊢
     unfold slV at Z ⊢
     simp only[Sem.run_bind,h3,Result.andThen_ok]
     exact Z
    ·exact H.elim
   ·exact H.elim
  ·exact H.elim
 ·rename_i k hs ht
  split at H
  ·rename_i k' n
   refine⟨_,.string (Ej n),H,rfl,val λB d=>?_⟩
   have h1:=QExec.underlying (h:=h) hs B d
   have h2:=QExec.underlying (h:=h) ht B d
   have e:σ x=.int k' n:=hd
   unfold convert
   rw[Sem.run_bind,h1]
   simp only[Result.andThen_ok]
   rw[Sem.run_bind,h2,e]
   rfl
  ·exact H.elim
 ·exact H.elim
def z9s:BinOp->Option Bool
 |.eql=>some true
 |.neq=>some false
 |_=>none
def qco(P:Program)(o:Oper)(ρ:Operand->Option AV)(cs:CS):Option (Bool×Nat):=match o.op with
 |.binOp op t x y _=>match z9s op,ρ x,ρ y with
  |some pol,some (.g (.a aa)),some (.g (.a (.v (.slice none 0 0))))=>match zro cs aa,P.underlying t with
   |some ⟨ty,xs⟩,some (.slice _)=>bif Nat.blt 0 (sz ty)then some (pol,xs.length)else none
   |_,_=>none
  |_,_,_=>none
 |_=>none
theorem zkk(op:BinOp)(t:TypeId)(x y:Operand)(a b:Option Addr)(l c l' c':Nat)(w:World):(eqGuard op t x y (.slice a l c) (.slice b l' c')).run P w=.ok () w:=by
 unfold eqGuard;cases op <;> rfl
theorem z5i{ρ:Operand->Option AV}{ah:Bool}(hn:qco P o ρ (C++R)=some (ah,n)){K:AV->CS->Option Nat->Prop}(H:∀b:Bool,(b=true->n=0)->K (.g (.a (.v (.bool (bif ah then b else !b))))) C none)
  (I:Inv h0 W M0 (C++R) γ h) (hρ:∀x av,ρ x=some av->DenV γ av (σ x)):ExA P (execOp σ o) h (zan h0 W M0 R γ K):=by
 unfold qco at hn
 split at hn
 ·rename_i op t x y yt ho
  split at hn
  ·rename_i ai aa Z hx hy
   split at hn
   ·rename_i ty xs e hr hu
    cases hz:Nat.blt 0 (sz ty)with
    |false=>rw[hz]at hn;cases hn
    |true=>
     rw[hz]at hn
     simp only[cond_true,Aa,A9]at hn
     obtain⟨rfl,rfl⟩:=hn
     have aj:0<sz ty:=by simpa[Cs]using hz
     obtain⟨s,e1,hl,cells,af,ab⟩:=zi0 I hr (hρ _ _ hx)
     have e2:σ y=.slice none 0 0:=hρ _ _ hy
     have ae:s.a.isNone=true->xs.length=0:=by
      intro hs
      have hc:cells=[]:=by
       rcases ab with hc|⟨b,o,ha,_⟩
       ·exact hc
       ·rw[ha]at hs;cases hs
      have:=af.1
      rw[hc]at this
      simp only[BE]at this
      rcases Nat.mul_eq_zero.1 this.symm with h1|h1
      ·exact h1
      ·omega
     have hK:=H s.a.isNone ae
     intro B d
     refine .inl ⟨_,d,h,?_,_,C,none,γ,hK,rfl,I,Gx.refl _ _⟩
     simp only[execOp,ho]
     refine Qo ?_
     rw[e1,e2]
     simp only[slV]
     rw[Sem.run_bind,zkk]
     simp only[Result.andThen_ok]
     cases op <;> simp only[z9s,Aa]at Z <;> (try (cases Z;done)) <;> subst Z
     ·simp only[binOp,Sem.run_bind,run_equal_slice_nil _ t _ _ _ _ hu];rfl
     ·simp only[binOp,Sem.run_bind,run_equal_slice_nil _ t _ _ _ _ hu];rfl
   ·cases hn
  ·cases hn
 ·cases hn
def hA0(P:Program)(gl:Fr)(tr:TypeId)(o:Oper)(ρ:Operand->Option AV)(C R:CS)(K:AV->CS->Option Nat->Prop):Prop:=
 match o.op with
 |.alloc t=>match o.dst with
  |some d=>zv5 P t d C R K
  |none=>False
 |.box t x=>match o.dst,ρ x with
  |some d,some av=>match ztp av with
   |some l=>qcm t d l C R K
   |none=>False
  |_,_=>False
 |.store t a x=>match ρ a,ρ x with
  |some (.g (.a aa)),some xv=>match ztp xv with
   |some l2=>zv9 P t aa l2 C R K
   |none=>False
  |_,_=>False
 |.buildSlice t n Z=>match o.dst,zbz ρ Z.toList with
  |some d,some ps=>Jh P tr t n ps d C R K
  |_,_=>False
 |.convert s t x=>bif isQ P o then qA P gl o ρ none (C++R) (λav=>K av C none)else(match ρ x with
  |some av=>zkj P s t av (C++R) λab=>K ab C none
  |none=>False)
 |.call c=>match c.callee with
  |.builtin .append=>match c.args.toList,c.argTypes.toList,o.dst with
   |[s,x],[t,tx],some d=>match ρ s,ρ x with
    |some bv,some sv=>Wv P tr t tx bv sv d C R K
    |_,_=>False
   |_,_,_=>False
  |.builtin _=>qA P gl o ρ none (C++R) λav=>K av C none
  |_=>z5e P gl tr o ρ C R λav C'=>K av C' none
 |.range t x=>match o.dst,ρ x with
  |some d,some av=>zwb P t av d C R K
  |_,_=>False
 |.next x true=>match ρ x with
  |some av=>z5g av C R K
  |none=>False
 |_=>qA P gl o ρ none (C++R) λav=>K av C none
theorem toList_eq{α:Type}{x:Array α}{l:List α}(h:x.toList=l):x=l.toArray:=by
 have:=congrArg List.toArray h;simpa using this
theorem z9t(ab:Fr.le gl M0){ρ:Operand->Option AV}{K:AV->CS->Option Nat->Prop}(H:hA0 P gl tr o ρ C R K)(I:Inv h0 W M0 (C++R) γ h)
  (hσ:∀f,σ (.func f)=.func (.func f) #[] #[]) (hρ:∀x av,ρ x=some av->DenV γ av (σ x)):ExA P (execOp σ o) h (zan h0 W M0 R γ K):=by
 unfold hA0 at H
 split at H
 ·rename_i t ho
  split at H
  ·exact zv6 ho H I
  ·exact H.elim
 ·rename_i t x ho
  split at H
  ·rename_i d av hd Z
   split at H
   ·rename_i l hl
    exact z5f ho H I (zbx hl (hρ _ _ Z))
   ·exact H.elim
  ·exact H.elim
 ·rename_i t a x ho
  split at H
  ·rename_i aa xv ha hx
   split at H
   ·rename_i l hl
    exact zwa ho H I (zbx hl (hρ _ _ hx)) (hρ _ _ ha)
   ·exact H.elim
  ·exact H.elim
 ·rename_i t n aj ho
  split at H
  ·rename_i d ps hd ai
   exact X6 ho ai H I hρ
  ·exact H.elim
 ·rename_i s t x ho
  cases hq:isQ P o with
  |true=>rw[hq]at H;exact z5c ab H I hρ
  |false=>
   rw[hq]at H
   simp only[cond_false]at H
   split at H
   ·rename_i av Z
    obtain⟨ah,v,h1,h2,h3⟩:=zpl ho H I (hρ _ _ Z)
    exact λB d=>.inl ⟨v,d,h,h3 B d,ah,C,none,γ,h1,h2,I,Gx.refl _ _⟩
   ·exact H.elim
 ·rename_i c ho
  split at H
  ·rename_i hc
   split at H
   ·rename_i s x t tx d ae af hd
    split at H
    ·rename_i bv sv hs hx
     have ak:=ziz (ty':=o.type) H I (hρ _ _ hs) (hρ _ _ hx)
     intro B e
     obtain⟨v,d',h',r,hp⟩:=ak B e
     refine .inl ⟨v,d',h',?_,hp⟩
     have ee:execOp σ o=(AB c.argTypes o.type (c.args.map σ) >>= λx=>(Da (Dl x):Sem Next)):=by
      simp only[execOp,ho,resolve,hc]
      rfl
     rw[ee,toList_eq ae,toList_eq af]
     refine Qo ?_
     simpa using r
    ·exact H.elim
   ·exact H.elim
  ·exact z5c ab H I hρ
  ·exact z0p ab H I hσ hρ
 ·rename_i t x ho
  split at H
  ·rename_i d av hd Z
   exact zwc ho H I (hρ _ _ Z)
  ·exact H.elim
 ·rename_i x ho
  split at H
  ·rename_i av Z
   exact z0q ho H I (hρ _ _ Z)
  ·exact H.elim
 ·exact z5c ab H I hρ
def hA(P:Program)(gl:Fr)(tr:TypeId)(o:Oper)(ρ:Operand->Option AV)(C R:CS)(K:AV->CS->Option Nat->Prop):Prop:=match qco P o ρ (C++R)with
 |some (pol,n)=>∀b:Bool,(b=true->n=0)->K (.g (.a (.v (.bool (bif pol then b else !b))))) C none
 |none=>hA0 P gl tr o ρ C R K
theorem qcp(Z:Fr.le gl M0){ρ:Operand->Option AV}{K:AV->CS->Option Nat->Prop}(H:hA P gl tr o ρ C R K)(I:Inv h0 W M0 (C++R) γ h)
  (hσ:∀f,σ (.func f)=.func (.func f) #[] #[]) (hρ:∀x av,ρ x=some av->DenV γ av (σ x)):ExA P (execOp σ o) h (zan h0 W M0 R γ K):=by
 unfold hA at H
 split at H
 ·rename_i aa n hn
  exact z5i hn H I hρ
 ·exact z9t Z H I hσ hρ
def orA:Option AV->Option AV->Option AV
 |some v,_=>some v
 |none,w=>w
def qcq(b:Bool)(x y:AV):Option AV:=match exV x,exV y with
 |some u,some v=>some (ztm (zvf b u v))
 |_,_=>match x,y with
  |.g (.a (.d t xs)),.g (.a (.d t' ys))=>match Zk t' t ys with
   |some ys=>some (.g (.a (.d t (bif b then xs else ys))))
   |none=>none
  |_,_=>none
theorem z0r{b:Bool}{x y z:AV}(h:qcq b x y=some z){u v:Value}(hx:b=true->DenV γ x u)(hy:b=false->DenV γ y v):DenV γ z (if b=true then u else v):=by
 unfold qcq at h
 split at h
 ·rename_i p q hp hq
  simp only[Aa]at h
  subst h
  have e:(if b=true then u else v)=zvf b p q:=by
   rw[zrc]
   cases b with
   |true=>simp only[if_true];exact zph hp (hx rfl)
   |false=>simp only[A3,if_false];exact zph hq (hy rfl)
  rw[e];exact Yk γ _
 ·split at h
  ·rename_i t xs t' ys _
   split at h
   ·rename_i Z hc
    simp only[Aa]at h
    subst h
    cases b with
    |true=>exact hx rfl
    |false=>exact Jb hc (hy rfl)
   ·cases h
  ·cases h
def z0s(e:qo)(c:zt)(x a b:Operand)(K:AV->Prop):Prop:=
 match x with
 |.tmp s=>match zke e s with
  |some (cs,v)=>match ztn v with
   |some t=>bif suf cs c then(match orA (zen e c a) (zen e ((s,true)::cs) a),orA (zen e c b) (zen e ((s,false)::cs) b)with
    |some va,some vb=>match qcq t va vb with
     |some z=>K z
     |none=>False
    |_,_=>False)else False
   |none=>False
  |none=>False
 |_=>False
theorem Jj{e:qo}{x a b:Operand}{K:AV->Prop}(H:z0s e c x a b K):
  ∃z,K z/\∀(n:Nat) (γ:Gh) (Z:Act),SatA n e γ Z->valid (zl Z) c->∃t,Z.eval x=.bool t/\DenV γ z (if t=true then Z.eval a else Z.eval b):=by
 unfold z0s at H
 split at H
 ·rename_i s
  split at H
  ·rename_i cs v hl
   split at H
   ·rename_i t ht
    cases hsf:suf cs c with
    |false=>rw[hsf]at H;exact H.elim
    |true=>
     rw[hsf]at H
     simp only[cond_true]at H
     split at H
     ·rename_i va vb ha hb
      split at H
      ·rename_i z hz
       refine⟨z,H,λn γ Z hs hv=>?_⟩
       have aa:=Yc hsf hv
       have hx:zl Z s=.bool t:=zf2 ht ((hs.all _ (x6 hl)).1 aa)
       refine⟨t,hx,z0r hz (λab=>?_) (λae=>?_)⟩
       ·unfold orA at ha
        split at ha
        ·rename_i w _ h1
         simp only[Aa]at ha;subst ha
         exact zo hs hv h1
        ·exact zo hs (c:=(s,true)::cs) ⟨by rw[hx,ab],aa⟩ ha
       ·unfold orA at hb
        split at hb
        ·rename_i w _ h1
         simp only[Aa]at hb;subst hb
         exact zo hs hv h1
        ·exact zo hs (c:=(s,false)::cs) ⟨by rw[hx,ae],aa⟩ hb
      ·exact H.elim
     ·exact H.elim
   ·exact H.elim
  ·exact H.elim
 ·exact H.elim
def opA(P:Program)(gl:Fr)(tr:TypeId)(o:Oper)(e:qo)(c:zt)(C R:CS)(K:AV->CS->Option Nat->Prop):Prop:=
 match o.op with
 |.pick x a b=>z0s e c x a b λav=>K av C none
 |_=>match Jd e c with
  |some none=>hA P gl tr o (zen e c) C R K
  |some (some b)=>bif zfq o then ztr P gl tr o (zen e c) b (C++R) (λav=>K av C none)else qA P gl o (zen e c) (some b) (C++R) (λav=>K av C none)
  |none=>False
theorem z5j(Z:Fr.le gl M0){e:qo}{K:AV->CS->Option Nat->Prop}(H:opA P gl tr o e c C R K)(hs:SatA n e γ a)(I:Inv h0 W M0 (C++R) γ h)(hv:valid (zl a) c):
  ExA P (execOp a.eval o) h (zan h0 W M0 R γ K):=by
 have hσ:∀f,a.eval (.func f)=.func (.func f) #[] #[]:=λ_=>rfl
 have hρ:∀x av,zen e c x=some av->DenV γ av (a.eval x):=λx av hx=>zo hs hv hx
 unfold opA at H
 split at H
 ·rename_i x y z ho
  obtain⟨av,h1,h2⟩:=Jj H
  obtain⟨t,h3,h4⟩:=h2 n γ a hs hv
  refine λB d=>.inl ⟨_,d,h,?_,av,C,none,γ,h1,h4,I,Gx.refl _ _⟩
  simp only[execOp,ho,h3,asBool,Sem.run_bind,Sem.run_pure,Result.andThen_ok]
 ·split at H
  ·exact qcp Z H I hσ hρ
  ·rename_i b hb
   have hg:=wn hs hb hv
   cases hic:zfq o with
   |true=>
    rw[hic]at H
    simp only[cond_true]at H
    obtain⟨f,args,h1,h2⟩:=(zao (h0:=h0) (W:=W) (M0:=M0) H).2 hg Z γ h a.eval I hσ hρ
    refine λB d=>.inr (.inr ⟨f,args,h1 _,h2.mono ?_⟩)
    rintro v h' ⟨av,γ',g1,g2,g3,g4,_⟩
    exact⟨av,C,none,γ',g1,g2,g3,g4⟩
   |false=>
    rw[hic]at H
    simp only[cond_false]at H
    obtain⟨av,h1,h2⟩:=ze8 (h0:=h0) (W:=W) (M0:=M0) Z H
    obtain⟨v,hd,hq⟩:=h2 hg γ h a.eval I hρ
    exact λB d=>.inl ⟨v,d,h,hq B d,av,C,none,γ,h1,hd,I,Gx.refl _ _⟩
  ·exact H.elim
theorem z9u{e:qo}{K:AV->CS->Option Nat->Prop}(H:opA P gl tr o e c C R K)(hs:SatA n e γ a)(hv:¬valid (zl a) c):∃av,K av C none:=by
 unfold opA at H
 split at H
 ·obtain⟨av,h1,_⟩:=Jj H
  exact⟨av,h1⟩
 ·split at H
  ·rename_i hg
   have:=zak hs hg hv
   cases this
  ·rename_i b hb
   have Z:=zak hs hb hv
   simp only[Aa]at Z
   cases hic:zfq o with
   |true=>rw[hic]at H;simp only[cond_true]at H;exact(zao (h0:=#[]) (W:=λ_=>False) (M0:=λ_=>none) H).1 Z
   |false=>
    rw[hic]at H
    simp only[cond_false]at H
    obtain⟨av,h1,_⟩:=ze8 (h0:=#[]) (W:=λ_=>False) (M0:=gl) (Fr.le.refl _) H
    exact⟨av,h1⟩
  ·exact H.elim
def GxS(S:List Nat)(γ γ':Gh):Prop:=Fr.le γ.M γ'.M/\∀i,i∉S->γ'.β i=γ.β i/\γ'.σ i=γ.σ i
theorem GxS.refl(S:List Nat)(γ:Gh):GxS S γ γ:=⟨Fr.le.refl _,λ_ _=>⟨rfl,rfl⟩⟩
theorem GxS.trans{a b c:Gh}(h:GxS S a b)(k:GxS S b c):GxS S a c:=⟨h.1.trans k.1,λi hi=>⟨(k.2 i hi).1.trans (h.2 i hi).1,(k.2 i hi).2.trans (h.2 i hi).2⟩⟩
theorem GxS.mono{S S':List Nat}{a b:Gh}(h:GxS S a b)(hs:∀x∈S,x∈S'):GxS S' a b:=⟨h.1,λi hi=>h.2 i λhm=>hi (hs i hm)⟩
def qb3(c:Option Nat)(d:Option Nat):Bool:=match c,d with
 |none,_=>true
 |some x,some y=>Nat.beq x y
 |some _,none=>false
theorem Gx.toS{c d:Option Nat}{γ γ':Gh}(g:Gx c γ γ')(h:qb3 c d=true)(hS:∀i,d=some i->i∈S):GxS S γ γ':=by
 refine⟨g.1,λi hi=>g.2 i λe=>?_⟩
 subst e
 cases d with
 |none=>cases h
 |some y=>
  have:i=y:=Ag h
  subst this
  exact hi (hS _ rfl)
def wRA(P:Program)(gl:Fr)(tr:TypeId)(n:Nat)(ops:Array Oper)(R:CS)(K:qo->CS->Prop):List Oper->qo->CS->Prop
 |[],e,C=>K (zef e) C
 |o::rest,e,C=>match Qz ops e o.guard with
  |some c=>bif qi n c o.dst then opA P gl tr o e c C R (λav C' i=>bif qb3 i o.dst then wRA P gl tr n ops R K rest (z0h (zri i e) o.dst c av) C' else False)else False
  |none=>False
theorem zb4{P:Program}{gl:Fr}(af:Fr.le gl M0){tr:TypeId}{n:Nat}{ops:Array Oper}{R:CS}{K:qo->CS->Prop}{Q:Exit->Act->World->Prop}(B:World):
  ∀(l:List Oper) (e:qo) (C:CS) (γ:Gh) (h:za) (a:Act) (d:Nat),wRA P gl tr n ops R K l e C->SatA n e γ a->Inv h0 W M0 (C++R) γ h ->
   (∀e' C' γ' a' d' h',SatA n e' γ' a'->Inv h0 W M0 (C'++R) γ' h'->Same (yn l) a a'->GxS (yn l) γ γ'->K e' C'->Q .normal a' (mk B d' h'))->wpList P ops Q l a (mk B d h)
 |[],e,C,γ,h,a,d,H,hs,I,hQ=>hQ _ _ _ _ _ _ hs.clean I (Same.refl _ _) (GxS.refl _ _) H
 |o::rest,e,C,γ,h,a,d,H,hs,I,hQ=>by
  unfold wRA at H
  split at H
  ·rename_i c hc
   cases hd:qi n c o.dst with
   |false=>rw[hd]at H;exact H.elim
   |true=>
    rw[hd]at H
    simp only[cond_true]at H
    have hw:=wv hs hc
    have aa:∀i,o.dst=some i->i∈yn (o::rest):=λi hi=>by simp[yn,hi]
    have Z:∀x∈yn rest,x∈yn (o::rest):=λx hx=>by
     unfold yn
     split
     ·exact Ae _ hx
     ·exact hx
    have ab:∀av u d' h' C' i γ',(valid (zl a) c->DenV γ' av u)->(¬valid (zl a) c->u=undef)->Inv h0 W M0 (C'++R) γ' h'->Gx i γ γ'->(bif qb3 i o.dst then wRA P gl tr n ops R K rest (z0h (zri i e) o.dst c av) C' else False) ->
      wpList P ops Q rest (a.put o.dst u) (mk B d' h'):=λav u d' h' C' i γ' h1 h2 I' g h3=>by
     cases hid:qb3 i o.dst with
     |false=>rw[hid]at h3;exact h3.elim
     |true=>
      rw[hid]at h3
      exact zb4 af B rest _ _ _ _ _ _ h3 ((hs.gx g).putO hd h1 h2) I' λe' ai ak a' aj ah q1 q2 q3 q4 q5=>
       hQ e' ai ak a' aj ah q1 q2 ((Same.put a o.dst u aa).trans (q3.mono Z)) ((g.toS hid aa).trans (q4.mono Z)) q5
    unfold wpList
    by_cases hv:valid (zl a) c
    ·rw[if_pos (hw.2 hv)]
     refine .inl ((z5j af H hs I hv).upon B d ?_)
     rintro v d' h' ⟨av,C',i,γ',g1,g2,g3,g4⟩
     exact ab av v d' h' C' i γ' (λ_=>g2) (λae=>absurd hv ae) g3 g4 g1
    ·rw[if_neg (λhx=>hv (hw.1 hx))]
     obtain⟨av,hK⟩:=z9u H hs hv
     exact ab av undef d h C none γ (λae=>absurd ae hv) (λ_=>rfl) I (Gx.refl _ _) hK
  ·exact H.elim
end
section
variable {cs C R:CS} {γ:Gh} {h:za} {i:Nat} {e:TypeId} {t:Ty}
variable {h0 : za} {W : Nat -> Prop} {M0 : Fr}
inductive Shp where
 |dat (t:Ty)
 |own (e:TypeId) (t:Ty)
 deriving DecidableEq
@[reducible] def DS:Shp->Type
 |.dat t=>El t
 |.own _ t=>List (El t)
inductive SG where
 |one (s:Shp)
 |agg (l:List Shp)
structure AnnA where
 slots:List (Nat×SG)
 boxes:List (Nat×List Shp)
 ro:List Nat
 ids:List Nat
abbrev Dy:=(s:Shp)×DS s
@[reducible] def ztt:List Shp->Type->Type
 |[],X=>X
 |s::l,X=>DS s->ztt l X
def z5k(s s':Shp)(x:DS s):Option (DS s'):=if h:s=s' then some (h ▸ x)else none
def zwe{X:Type}:(l:List Shp)->ztt l X->(List Dy->X->Prop)->Prop
 |[],f,k=>k [] f
 |s::l,f,k=>∀x:DS s,zwe l (f x) λvs y=>k (⟨s,x⟩::vs) y
def zeo{X:Type}:(l:List Shp)->List Dy->ztt l X->Option X
 |[],[],f=>some f
 |s::l,d::ds,f=>match z5k d.1 s d.2 with
  |some x=>zeo l ds (f x)
  |none=>none
 |_,_,_=>none
def z9v{X:Type}:(l:List Shp)->(List Dy->X)->ztt l X
 |[],f=>f []
 |s::l,f=>λx=>z9v l λvs=>f (⟨s,x⟩::vs)
def zm2{X Y:Type}:(l:List Shp)->ztt l X->ztt l Y->ztt l (X×Y)
 |[],f,g=>(f,g)
 |_::l,f,g=>λx=>zm2 l (f x) (g x)
theorem zrp{s s':Shp}{x:DS s}{y:DS s'}(h:z5k s s' x=some y):(⟨s',y⟩:Dy)=⟨s,x⟩:=by
 unfold z5k at h
 split at h
 ·rename_i e
  subst e
  have h:=Aq h
  rw[<-h]
 ·cases h
theorem zi1{X:Type}:∀{l:List Shp} {vs:List Dy} {f:ztt l X} {x:X} {k:List Dy->X->Prop},zeo l vs f=some x->zwe l f k->k vs x
 |[],[],f,x,k,h,g=>by have h:=Aq h;subst h;exact g
 |[],_::_,f,x,k,h,g=>by simp[zeo]at h
 |_::_,[],f,x,k,h,g=>by simp[zeo]at h
 |s::l,d::ds,f,x,k,h,g=>by
  simp only[zeo]at h
  split at h
  ·rename_i y hy
   have:=zi1 h (g y)
   rw[zrp hy]at this
   exact this
  ·cases h
theorem zm3{X:Type}:∀{l:List Shp} {vs:List Dy} {f:List Dy->X} {x:X},zeo l vs (z9v l f)=some x->x=f vs
 |[],[],f,x,h=>(Aq h).symm
 |[],_::_,f,x,h=>by simp[zeo]at h
 |_::_,[],f,x,h=>by simp[zeo]at h
 |s::l,d::ds,f,x,h=>by
  simp only[zeo,z9v]at h
  split at h
  ·rename_i y hy
   have:=zm3 h
   rw[zrp hy]at this
   exact this
  ·cases h
theorem zm4{X:Type}:∀{l:List Shp} {f:List Dy->X} {k:List Dy->X->Prop},(∀vs,k vs (f vs))->zwe l (z9v l f) k
 |[],_,_,h=>h []
 |_::_,_,_,h=>λ_=>zm4 λ_=>h _
structure Pl where
 id:Nat
 s:Shp
 a:AA
def plL(base:Nat):List Shp->List AA->Option (List Pl)
 |[],[]=>some []
 |s::ss,a::as=>match plL (base+1) ss as with
  |some l=>some (⟨base,s,a⟩::l)
  |none=>none
 |_,_=>none
def zf8(e:qo):List (Nat×SG)->Option (List Pl)
 |[]=>some []
 |(i,sg)::l=>match zke e i,zf8 e l with
  |some ([],.g x),some r=>match sg,x with
   |.one s,.a a=>some (⟨100000+64*i,s,a⟩::r)
   |.agg ss,.agg as=>match plL (100000+64*i) ss as with
    |some q=>some (q++r)
    |none=>none
   |_,_=>none
  |_,_=>none
def zf9(C:CS):List (Nat×List Shp)->Option (List Pl)
 |[]=>some []
 |(c,ss)::l=>match Qa C c,zf9 C l with
  |some (.box as),some r=>match plL (1000000+64*c) ss as with
   |some q=>some (q++r)
   |none=>none
  |_,_=>none
def z9w:SG->List Shp
 |.one s=>[s]
 |.agg l=>l
def zrq:List (Nat×SG)->List Shp
 |[]=>[]
 |(_,sg)::l=>z9w sg++zrq l
def zwf:List (Nat×List Shp)->List Shp
 |[]=>[]
 |(_,ss)::l=>ss++zwf l
def zar(J:AnnA):List Shp:=zrq J.slots++zwf J.boxes
def ztu:List Pl->List Nat
 |[]=>[]
 |⟨_,.dat _,.own c⟩::l=>c::ztu l
 |_::l=>ztu l
def z9x(c:Nat):List Pl->Bool
 |[]=>false
 |p::l=>bif (bif Nat.beq p.id c then true else ztj c p.a)then true else z9x c l
def zkl(R:CS):List Pl->CS->Option CS
 |[],C=>some C
 |p::l,C=>match p.s with
  |.dat _=>zkl R l C
  |.own e t=>bif z9x p.id l then none else(match p.a with
   |.own c=>match Qa C c with
    |some (.row e' t' xs)=>match Zk (.row t') (.row t) xs with
     |some ys=>bif Nat.beq e e' then(bif Nat.beq c p.id then zkl R l C else(bif qp p.id R then zkl R l ((p.id,.row e t ys)::qu p.id (Jc c C))else none))else none
     |none=>none
    |_=>none
   |.v (.slice none 0 0)=>bif qp p.id R then zkl R l ((p.id,.row e t [])::qu p.id C)else none
   |_=>none)
theorem zi2(I:Inv h0 W M0 cs γ h){x y:Nat×Ch}(hx:x∈cs)(hy:y∈cs)(Z:x≠y):∀b,blk γ x.1 x.2=some b->blk γ y.1 y.2≠some b:=
 @zbv _ (λ(x y:Nat×Ch)=>∀b,blk γ x.1 x.2=some b->blk γ y.1 y.2≠some b) (λx y h b hb aa=>h b aa hb) _ I.apart _ _ hx hy Z
theorem Inv.rename(I:Inv h0 W M0 (C++R) γ h){c i:Nat}(hR:qp i R=true){xs:List (El t)}(hc:(c,Ch.row e t xs)∈C):
  Inv h0 W M0 ((i,.row e t xs)::qu i (Jc c C)++R) (zpg γ i (γ.σ c)) h:=by
 have Z:(qu i (Jc c C)++R).Sublist (C++R):=(((jq i _).trans (j6 c C))).append_right R
 have aa:(c,Ch.row e t xs)∈C++R:=Am R hc
 have ah:∀x∈qu i (Jc c C)++R,∀b,blk γ c (.row e t xs)=some b->blk γ x.1 x.2≠some b:=by
  intro x hx b hb ae
  have af:x≠(c,Ch.row e t xs):=by
   rintro rfl
   rcases As.1 hx with hx|hx
   ·exact(Qy ((jq i _).subset hx)).2 rfl
   ·have ab:=I.apart
    rw[Ct]at ab
    exact ab.2.2 _ hc _ hx b hb hb
  exact zi2 I (Z.subset hx) aa af b ae hb
 have hI:Inv h0 W M0 (qu i (Jc c C)++R) (zpg γ i (γ.σ c)) h:=
  I.rest Z (Zl γ i _) (zaj hR) (λx hx b hb=>⟨rfl,(I.sep x (Z.subset hx) b hb).2⟩) I.ag (λ_ _ _=>rfl) (Ad _) (λ_ _=>rfl)
 obtain⟨cells,h1,h2,h3,h4⟩:=I.den _ aa
 have eb:∀b,blk (zpg γ i (γ.σ c)) i (.row e t xs)=some b->blk γ c (.row e t xs)=some b:=λb hb=>by simpa[blk,ya]using hb
 refine hI.cons ⟨cells,by rw[ya];exact h1,h2,h3,by rw[ya];exact h4⟩ (λb hb=>I.sep _ aa b (eb b hb)) (λb hb x hx e'=>?_)
 rw[zis (Zl γ i _) _ (zaj hR x hx).1]at e'
 exact ah x hx b (eb b hb) e'
theorem Inv.nilRow(I:Inv h0 W M0 (C++R) γ h)(hR:qp i R=true)(e:TypeId)(t:Ty):
  Inv h0 W M0 ((i,.row e t [])::qu i C++R) (zpg γ i ⟨none,0,0⟩) h:=by
 have Z:=(jq i C).append_right R
 have hI:Inv h0 W M0 (qu i C++R) (zpg γ i ⟨none,0,0⟩) h:=
  I.rest Z (Zl γ i _) (zaj hR) (λx hx b hb=>⟨rfl,(I.sep x (Z.subset hx) b hb).2⟩) I.ag (λ_ _ _=>rfl) (Ad _) (λ_ _=>rfl)
 refine hI.cons ⟨[],by rw[ya];exact Owns.nil _ _ _ _,RowC.nil _ _,by simp,by rw[ya];rfl⟩ (λb hb=>by simp[blk,ya]at hb) (λb hb=>by simp[blk,ya]at hb)
theorem zrr{c:Nat}:∀{l:List Pl},z9x c l=false->∀p∈l,p.id≠c/\ztj c p.a=false
 |[],_,p,hp=>by cases hp
 |q::l,h,p,hp=>by
  simp only[z9x]at h
  cases hq:(bif Nat.beq q.id c then true else ztj c q.a)with
  |true=>rw[hq]at h;cases h
  |false=>
   rw[hq]at h
   rcases Af.1 hp with rfl|hp
   ·cases hb:Nat.beq p.id c with
    |true=>rw[hb]at hq;cases hq
    |false=>rw[hb]at hq;exact⟨λe=>by rw[e]at hb;simp at hb,hq⟩
   ·exact zrr h p hp
def ztv:List Pl->List Nat
 |[]=>[]
 |p::l=>p.id::ztv l
theorem zas{R:CS}{h:za}:∀{l:List Pl} {C C1:CS} {γ:Gh},zkl R l C=some C1->Inv h0 W M0 (C++R) γ h ->
  ∃γ1,Inv h0 W M0 (C1++R) γ1 h/\GxS (ztv l) γ γ1/\(γ1.M=γ.M/\γ1.β=γ.β)/\∀p∈l,∀e t,p.s=.own e t->∀u,DenA γ p.a u->DenA γ1 (.own p.id) u
 |[],C,C1,γ,hn,I=>by
  simp only[zkl,Aa]at hn
  subst hn
  exact⟨γ,I,GxS.refl _ _,⟨rfl,rfl⟩,λp hp=>by cases hp⟩
 |p::l,C,C1,γ,hn,I=>by
  have tl:∀{S:List Nat} {a b:Gh},GxS (ztv l) a b->GxS (ztv (p::l)) a b:=λg=>g.mono λx hx=>Ae _ hx
  have Z:∀s,GxS (ztv (p::l)) γ (zpg γ p.id s):=λs=>⟨Fr.le.refl _,λi hi=>(Zl γ p.id s).2 i (by
   simp only[ztv,Af,not_or]at hi;intro e;simp only[Aa]at e;exact hi.1 e.symm)⟩
  simp only[zkl]at hn
  split at hn
  ·rename_i t hs
   obtain⟨γ1,I1,g1,m1,h1⟩:=zas hn I
   exact⟨γ1,I1,tl (S:=[]) g1,m1,λq hq e t' aa=>by
    rcases Af.1 hq with rfl|hq
    ·rw[hs]at aa;cases aa
    ·exact h1 q hq e t' aa⟩
  ·rename_i e t hs
   cases hm:z9x p.id l with
   |true=>rw[hm]at hn;cases hn
   |false=>
    rw[hm]at hn
    simp only[cond_false]at hn
    have ah:=zrr hm
    have ae:∀{C2:CS} {γ2:Gh},zkl R l C2=some C1->Inv h0 W M0 (C2++R) γ2 h->GxS (ztv (p::l)) γ γ2->(γ2.M=γ.M/\γ2.β=γ.β)->(∀i,i≠p.id->γ2.σ i=γ.σ i/\γ2.β i=γ.β i)->(∀u,DenA γ p.a u->DenA γ2 (.own p.id) u) ->
      ∃γ1,Inv h0 W M0 (C1++R) γ1 h/\GxS (ztv (p::l)) γ γ1/\(γ1.M=γ.M/\γ1.β=γ.β)/\∀q∈p::l,∀e t,q.s=.own e t->∀u,DenA γ q.a u->DenA γ1 (.own q.id) u:=by
     intro C2 γ2 am I2 g2 m2 ab ak
     obtain⟨γ1,I1,g1,m1,h1⟩:=zas am I2
     refine⟨γ1,I1,g2.trans (tl (S:=[]) g1),⟨m1.1.trans m2.1,m1.2.trans m2.2⟩,λq hq e' t' aa u hu=>?_⟩
     rcases Af.1 hq with rfl|hq
     ·have h2:=ak u hu
      have aj:q.id∉ztv l:=by
       intro hi
       have:∀{l:List Pl},q.id∈ztv l->∃p∈l,p.id=q.id:=by
        intro l
        induction l with
        |nil=>intro h;cases h
        |cons x l ih=>
         intro h
         simp only[ztv,Af]at h
         rcases h with h|h
         ·exact⟨x,Aj,h.symm⟩
         ·obtain⟨y,hy,e⟩:=ih h;exact⟨y,Ae _ hy,e⟩
       obtain⟨y,hy,e⟩:=this hi
       exact(ah y hy).1 e
      rw[show u=_ from h2]
      simp only[DenA,(g1.2 _ aj).2]
     ·refine h1 q hq e' t' aa u ?_
      have gx:Gx (some p.id) γ γ2:=⟨by rw[m2.1];exact Fr.le.refl _,λi hi=>by
       have:=ab i (λe=>hi (by rw[e]))
       exact⟨this.2,this.1⟩⟩
      exact hu.gx gx (ah q hq).2
    split at hn
    ·rename_i c ha
     split at hn
     ·rename_i e' t' xs hc
      split at hn
      ·rename_i ys af
       obtain⟨e1,e2⟩:=Qe af
       subst e1
       simp only at e2
       subst e2
       cases hee:Nat.beq e e' with
       |false=>rw[hee]at hn;cases hn
       |true=>
        rw[hee]at hn
        have:=Ag hee
        subst this
        simp only[cond_true]at hn
        cases hci:Nat.beq c p.id with
        |true=>
         rw[hci]at hn
         simp only[cond_true]at hn
         have ai:=Ag hci
         exact ae hn I (GxS.refl _ _) ⟨rfl,rfl⟩ (λ_ _=>⟨rfl,rfl⟩) (λu hu=>by rw[ha,ai]at hu;exact hu)
        |false=>
         rw[hci]at hn
         simp only[cond_false]at hn
         cases hR:qp p.id R with
         |false=>rw[hR]at hn;cases hn
         |true=>
          rw[hR]at hn
          simp only[cond_true]at hn
          refine ae hn (I.rename hR (zy hc)) (Z _) ⟨rfl,rfl⟩ (λi hi=>?_) (λu hu=>?_)
          ·have:=(Zl γ p.id (γ.σ c)).2 i (by simp;exact λe=>hi e.symm)
           exact⟨this.2,this.1⟩
          ·rw[ha]at hu
           rw[show u=_ from hu]
           simp only[DenA,ya]
      ·cases hn
     ·cases hn
    ·rename_i ha
     cases hR:qp p.id R with
     |false=>rw[hR]at hn;cases hn
     |true=>
      rw[hR]at hn
      simp only[cond_true]at hn
      refine ae hn (I.nilRow hR e t) (Z _) ⟨rfl,rfl⟩ (λi hi=>?_) (λu hu=>?_)
      ·have:=(Zl γ p.id ⟨none,0,0⟩).2 i (by simp;exact λe=>hi e.symm)
       exact⟨this.2,this.1⟩
      ·rw[ha]at hu
       rw[show u=_ from hu]
       simp only[DenA,ya]
       rfl
    ·cases hn
def z9y(Z cs:CS)(p:Pl):Option Dy:=match p.s with
 |.dat t=>match zhk Z t p.a with
  |some x=>some ⟨.dat t,x⟩
  |none=>none
 |.own e t=>match Qa cs p.id with
  |some (.row e' t' xs)=>match Zk (.row t') (.row t) xs with
   |some ys=>bif Nat.beq e e' then some ⟨.own e t,ys⟩else none
   |none=>none
  |_=>none
def ztw(Z cs:CS):List Pl->Option (List Dy)
 |[]=>some []
 |p::l=>match z9y Z cs p,ztw Z cs l with
  |some d,some v=>some (d::v)
  |_,_=>none
def qb4(i:Nat):Dy->AA
 |⟨.dat t,x⟩=>match Yi t x with
  |[a]=>a
  |_=>.v undef
 |⟨.own _ _,_⟩=>.own i
def qb5:Nat->List Dy->List AA
 |_,[]=>[]
 |i,d::l=>qb4 i d::qb5 (i+1) l
def z8t(i:Nat):Dy->CS
 |⟨.own e t,xs⟩=>[(i,.row e t xs)]
 |_=>[]
def ztx:Nat->List Dy->CS
 |_,[]=>[]
 |i,d::l=>z8t i d++ztx (i+1) l
theorem zrs{x:El t}{u:Value}(h:Rd γ.M t x [u]):DenA γ (qb4 i ⟨.dat t,x⟩) u:=by
 have hd:=wm (γ:=γ) h
 unfold qb4
 match hx:Yi t x,hd with
 |[a],hd=>simp only[hx];exact hd.1
 |[],hd=>exact hd.elim
 |_::_::_,hd=>exact hd.2.elim
theorem zty{t':Ty}{xs:List (El t')}{ys:List (El t)}(h:Zk (.row t') (.row t) xs=some ys):Ch.row e t' xs=Ch.row e t ys:=by
 obtain⟨e1,e2⟩:=Qe h
 subst e1
 simp only at e2
 rw[e2]
theorem zm5{Z cs:CS}{p:Pl}{l:List Pl}{v:List Dy}(h:ztw Z cs (p::l)=some v):∃d w,v=d::w/\ztw Z cs l=some w /\
  ((∃t x,p.s=.dat t/\d=⟨.dat t,x⟩/\zhk Z t p.a=some x)\/(∃e t xs,p.s=.own e t/\d=⟨.own e t,xs⟩/\(p.id,Ch.row e t xs)∈cs)):=by
 simp only[ztw]at h
 split at h
 ·rename_i d w h1 h2
  have h:=Aq h
  refine⟨d,w,h.symm,h2,?_⟩
  unfold z9y at h1
  split at h1
  ·rename_i t hs
   split at h1
   ·rename_i y hy
    exact .inl ⟨t,y,hs,(Aq h1).symm,hy⟩
   ·cases h1
  ·rename_i e t hs
   split at h1
   ·rename_i e' t' xs hf
    split at h1
    ·rename_i ys hc
     cases he:Nat.beq e e' with
     |false=>rw[he]at h1;cases h1
     |true=>
      rw[he]at h1
      refine .inr ⟨e,t,ys,hs,(Aq (show some (⟨.own e t,ys⟩:Dy)=some d from h1)).symm,?_⟩
      have:=zy hf
      rw[zty hc,<-Ag he]at this
      exact this
    ·cases h1
   ·cases h1
 ·cases h
theorem Jk{Z cs:CS}:∀{q r:List Pl} {v:List Dy},ztw Z cs (q++r)=some v->∃v1 v2,v=v1++v2/\v1.length=q.length/\ztw Z cs q=some v1/\ztw Z cs r=some v2
 |[],r,v,h=>⟨[],v,rfl,rfl,rfl,h⟩
 |p::q,r,v,h=>by
  simp only[AO,ztw]at h
  split at h
  ·rename_i d w h1 h2
   have h:=Aq h
   obtain⟨v1,v2,rfl,e1,e2,e3⟩:=Jk h2
   exact⟨d::v1,v2,by rw[<-h];rfl,by simp[e1],by simp only[ztw,h1,e2],e3⟩
  ·cases h
theorem zm6{base:Nat}:∀{ss:List Shp} {as:List AA} {l:List Pl},plL base ss as=some l->l.length=ss.length/\∀{γ γ1:Gh} {Z aa:CS} {v:List Dy} {us:List Value},zzy γ Z->γ1.M=γ.M->ztw Z aa l=some v ->
   (∀p∈l,∀e t,p.s=.own e t->∀u,DenA γ p.a u->DenA γ1 (.own p.id) u)->All2 (DenA γ) as us->All2 (DenA γ1) (qb5 base v) us/\∀x∈ztx base v,x∈aa:=by
 intro ss
 induction ss generalizing base with
 |nil=>
  intro as l h
  cases as with
  |nil=>
   simp only[plL,Aa]at h
   subst h
   refine⟨rfl,λhf hM hd ho hu=>?_⟩
   have hd:=Aq hd
   subst hd
   refine⟨?_,λx hx=>by cases hx⟩
   rename_i us
   cases us with
   |nil=>trivial
   |cons _ _=>exact hu.elim
  |cons a as=>simp[plL]at h
 |cons s ss ih=>
  intro as l h
  cases as with
  |nil=>simp[plL]at h
  |cons a as=>
   simp only[plL]at h
   split at h
   ·rename_i l' hl
    simp only[Aa]at h
    subst h
    obtain⟨e1,ih⟩:=ih hl
    refine⟨by simp[e1],λ {γ γ1 Z aa v us} hf hM hd ho hu=>?_⟩
    obtain⟨d,w,rfl,h2,h3⟩:=zm5 hd
    cases us with
    |nil=>exact hu.elim
    |cons u us=>
     obtain⟨i1,i2⟩:=ih hf hM h2 (λp hp=>ho p (Ae _ hp)) hu.2
     rcases h3 with⟨t,x,hs,rfl,hc⟩|⟨e,t,xs,hs,rfl,hm⟩
     ·have:=ji hf hc hu.1
      rw[<-hM]at this
      refine⟨⟨zrs this,i1⟩,λy hy=>i2 y ?_⟩
      simpa[ztx,z8t]using hy
     ·refine⟨⟨ho _ Aj e t hs u hu.1,i1⟩,λy hy=>?_⟩
      simp only[ztx,z8t,AO,Bc,Af]at hy
      rcases hy with rfl|hy
      ·exact hm
      ·exact i2 y hy
   ·cases h
def zat:List (Nat×SG)->List Dy->qo
 |[],_=>[]
 |(i,.one _)::l,d::ds=>(i,[],.g (.a (qb4 (100000+64*i) d)))::zat l ds
 |(_,.one _)::_,[]=>[]
 |(i,.agg ss)::l,ds=>(i,[],.g (.agg (qb5 (100000+64*i) (ds.take ss.length))))::zat l (ds.drop ss.length)
def Jl:List (Nat×SG)->List Dy->CS
 |[],_=>[]
 |(i,.one _)::l,d::ds=>z8t (100000+64*i) d++Jl l ds
 |(_,.one _)::_,[]=>[]
 |(i,.agg ss)::l,ds=>ztx (100000+64*i) (ds.take ss.length)++Jl l (ds.drop ss.length)
def zkm:List (Nat×List Shp)->List Dy->CS
 |[],_=>[]
 |(c,ss)::l,ds=>(c,.box (qb5 (1000000+64*c) (ds.take ss.length)))::(ztx (1000000+64*c) (ds.take ss.length)++zkm l (ds.drop ss.length))
def zpm:List (Nat×SG)->Nat
 |[]=>0
 |(_,.one _)::l=>1+zpm l
 |(_,.agg ss)::l=>ss.length+zpm l
def z3e(J:AnnA)(ds:List Dy):qo:=zat J.slots ds
def chJ(J:AnnA)(ds:List Dy):CS:=Jl J.slots ds++zkm J.boxes (ds.drop (zpm J.slots))
theorem Jm{e:qo}{n:Nat}{a:Act}:∀{ss:List (Nat×SG)} {l:List Pl},zf8 e ss=some l->l.length=zpm ss/\∀{γ γ1:Gh} {ab ae:CS} {v w:List Dy},SatA n e γ a->zzy γ ab->γ1.M=γ.M->ztw ab ae l=some v ->
   (∀p∈l,∀e t,p.s=.own e t->∀u,DenA γ p.a u->DenA γ1 (.own p.id) u)->(∀x∈zat ss (v++w),zkf γ1 (zl a) x)/\∀x∈Jl ss (v++w),x∈ae
 |[],l,h=>by
  simp only[zf8,Aa]at h
  subst h
  refine⟨rfl,λ_ _ _ hd _=>?_⟩
  have hd:=Aq hd
  subst hd
  exact⟨λx hx=>(by cases hx),λx hx=>(by cases hx)⟩
 |(i,sg)::ss,l,h=>by
  simp only[zf8]at h
  split at h
  ·rename_i x r hl hr
   split at h
   ·rename_i s aa
    simp only[Aa]at h
    subst h
    obtain⟨e1,ih⟩:=Jm (n:=n) (a:=a) hr
    refine⟨by simp[e1,zpm];omega,λ {γ γ1 ab ae v w} hs hf hM hd ho=>?_⟩
    obtain⟨d,v',rfl,h2,h3⟩:=zm5 hd
    obtain⟨i1,i2⟩:=ih (w:=w) hs hf hM h2 (λp hp=>ho p (Ae _ hp))
    have Z:DenA γ aa (zl a i):=(hs.all _ (x6 hl)).1 trivial
    rcases h3 with⟨t,x,af,rfl,hc⟩|⟨e',t,xs,af,rfl,hm⟩
    ·have:=ji hf hc Z
     rw[<-hM]at this
     refine⟨λy hy=>?_,λy hy=>?_⟩
     ·simp only[AO,zat,Af]at hy
      rcases hy with rfl|hy
      ·exact⟨λ_=>zrs this,λhn=>absurd trivial hn⟩
      ·exact i1 y hy
     ·simp only[AO,Jl,z8t,Bc]at hy
      exact i2 y hy
    ·refine⟨λy hy=>?_,λy hy=>?_⟩
     ·simp only[AO,zat,Af]at hy
      rcases hy with rfl|hy
      ·exact⟨λ_=>ho _ Aj e' t af _ Z,λhn=>absurd trivial hn⟩
      ·exact i1 y hy
     ·simp only[AO,Jl,z8t,Bc,Af]at hy
      rcases hy with rfl|hy
      ·exact hm
      ·exact i2 y hy
   ·rename_i ah as
    split at h
    ·rename_i q hq
     simp only[Aa]at h
     subst h
     obtain⟨e1,ih⟩:=Jm (n:=n) (a:=a) hr
     obtain⟨e2,hp⟩:=zm6 hq
     refine⟨by simp[e1,e2,zpm],λ {γ γ1 ab ae v w} hs hf hM hd ho=>?_⟩
     obtain⟨v1,v2,rfl,l1,d1,d2⟩:=Jk hd
     obtain⟨i1,i2⟩:=ih (w:=w) hs hf hM d2 (λp hp=>ho p (Au _ hp))
     obtain⟨us,hu,Z⟩:=(show ∃us,zl a i=.agg us.toArray/\All2 (DenA γ) as us from(hs.all _ (x6 hl)).1 trivial)
     obtain⟨p1,p2⟩:=hp hf hM d1 (λp hp=>ho p (Am _ hp)) Z
     have et:(v1++v2++w).take ah.length=v1:=by rw[<-e2,<-l1,AQ,DJ]
     have ed:(v1++v2++w).drop ah.length=v2++w:=by rw[<-e2,<-l1,AQ,List.drop_left]
     refine⟨λy hy=>?_,λy hy=>?_⟩
     ·simp only[zat,et,ed,Af]at hy
      rcases hy with rfl|hy
      ·exact⟨λ_=>⟨us,hu,p1⟩,λhn=>absurd trivial hn⟩
      ·exact i1 y hy
     ·simp only[Jl,et,ed,As]at hy
      rcases hy with hy|hy
      ·exact p2 y hy
      ·exact i2 y hy
    ·cases h
   ·cases h
  ·cases h
theorem zb5{C0:CS}:∀{bs:List (Nat×List Shp)} {l:List Pl},zf9 C0 bs=some l->∀{R:CS} {γ γ1:Gh} {Z aa:CS} {v:List Dy} {h:za},Inv h0 W M0 (C0++R) γ h->zzy γ Z->γ1.M=γ.M->γ1.β=γ.β->ztw Z aa l=some v ->
   (∀p∈l,∀e t,p.s=.own e t->∀u,DenA γ p.a u->DenA γ1 (.own p.id) u) ->
   ∀x∈zkm bs v,x∈aa\/(DenC h0.size γ1 h x.1 x.2/\(∃as,(x.1,Ch.box as)∈C0)/\(∃as,x.2=Ch.box as)/\∃ss,(x.1,ss)∈bs)
 |[],l,hp,R,γ,γ1,Z,aa,v,h,I,hf,hM,hβ,hd,ho,x,hx=>by cases hx
 |(c,ss)::bs,l,hp,R,γ,γ1,Z,aa,v,h,I,hf,hM,hβ,hd,ho,x,hx=>by
  simp only[zf9]at hp
  split at hp
  ·rename_i as r hc hr
   split at hp
   ·rename_i q hq
    simp only[Aa]at hp
    subst hp
    obtain⟨e2,ae⟩:=zm6 hq
    obtain⟨v1,v2,rfl,l1,d1,d2⟩:=Jk hd
    obtain⟨us,eb,ab⟩:=I.den _ (Am R (zy hc))
    obtain⟨p1,p2⟩:=ae hf hM d1 (λp hp=>ho p (Am _ hp)) ab
    have et:(v1++v2).take ss.length=v1:=by rw[<-e2,<-l1,DJ]
    have ed:(v1++v2).drop ss.length=v2:=by rw[<-e2,<-l1,List.drop_left]
    simp only[zkm,et,ed,Af,As]at hx
    rcases hx with rfl|hx|hx
    ·exact .inr ⟨⟨us,by rw[hβ];exact eb,p1⟩,⟨as,zy hc⟩,⟨_,rfl⟩,ss,Aj⟩
    ·exact .inl (p2 x hx)
    ·rcases zb5 hr I hf hM hβ d2 (λp hp=>ho p (Au _ hp)) x hx with h1|⟨h1,h2,h3,s',h4⟩
     ·exact .inl h1
     ·exact .inr ⟨h1,h2,h3,s',Ae _ h4⟩
   ·cases hp
  ·cases hp
def zga(C:CS):List (Nat×List Shp)->Bool
 |[]=>true
 |(c,_)::l=>match Qa C c with
  |some (.box _)=>zga C l
  |_=>false
theorem zgb{C:CS}:∀{l:List (Nat×List Shp)},zga C l=true->∀c ss,(c,ss)∈l->∃as,(c,Ch.box as)∈C
 |[],_,c,ss,h=>by cases h
 |(c',ss')::l,hb,c,ss,h=>by
  simp only[zga]at hb
  split at hb
  ·rename_i as hf
   rcases Af.1 h with h|h
   ·cases h;exact⟨as,zy hf⟩
   ·exact zgb hb c ss h
  ·cases hb
def ztz:CS->Bool
 |[]=>true
 |(c,_)::l=>bif zv8 c l then ztz l else false
theorem zi3:∀{l:CS},ztz l=true->l.Pairwise λx y=>x.1≠y.1
 |[],_=>.nil
 |(c,k)::l,h=>by
  simp only[ztz]at h
  cases hn:zv8 c l with
  |false=>rw[hn]at h;cases h
  |true=>
   rw[hn]at h
   exact BI.2 ⟨λy hy e=>Xp hn y hy e.symm,zi3 h⟩
def allIn(S:List Nat):List Nat->Bool
 |[]=>true
 |i::l=>bif memN S i then allIn S l else false
theorem zm7{l:List Nat}(h:memN l i=true):i∈l:=by
 induction l with
 |nil=>cases h
 |cons j l ih=>
  simp only[memN]at h
  cases hb:Nat.beq i j with
  |true=>rw[Ag hb];exact Aj
  |false=>rw[hb]at h;exact Ae _ (ih h)
theorem zm8{S:List Nat}:∀{l:List Nat},allIn S l=true->∀i∈l,i∈S
 |[],_,i,h=>by cases h
 |j::l,hl,i,h=>by
  simp only[allIn]at hl
  cases hm:memN S j with
  |false=>rw[hm]at hl;cases hl
  |true=>
   rw[hm]at hl
   rcases Af.1 h with rfl|h
   ·exact zm7 hm
   ·exact zm8 hl i h
theorem Inv.pick{C F R:CS}(I:Inv h0 W M0 (C++R) γ h)(hnd:ztz F=true)(hsrc:∀x∈F,DenC h0.size γ h x.1 x.2/\∃k,(x.1,k)∈C/\blk γ x.1 k=blk γ x.1 x.2):Inv h0 W M0 (F++R) γ h where
 ag:=I.ag
 frame:=I.frame
 size:=I.size
 old:=I.old
 le:=I.le
 den:=λx hx=>by
  rcases As.1 hx with hx|hx
  ·exact(hsrc x hx).1
  ·exact I.den x (Au _ hx)
 sep:=λx hx b hb=>by
  rcases As.1 hx with hx|hx
  ·obtain⟨_,k,hk,e⟩:=hsrc x hx
   exact I.sep _ (Am _ hk) b (by rw[e];exact hb)
  ·exact I.sep x (Au _ hx) b hb
 apart:=by
  have hI:=I.apart
  rw[Ct]at hI ⊢
  refine⟨(zi3 hnd).imp_of_mem λ {x y} hx hy hne b hb hb'=>?_,hI.2.1,λx hx y hy b hb=>?_⟩
  ·obtain⟨_,k,hk,e⟩:=hsrc x hx
   obtain⟨_,k',hk',e'⟩:=hsrc y hy
   exact zi2 I (Am R hk) (Am R hk') (λe2=>hne (Prod.mk.inj e2).1) b (by rw[e];exact hb) (by rw[e'];exact hb')
  ·obtain⟨_,k,hk,e⟩:=hsrc x hx
   exact hI.2.2 _ hk y hy b (by rw[e];exact hb)
def xtr(J:AnnA)(R:CS)(e:qo)(C:CS):Option (List Dy):=
 match zf8 e J.slots,zf9 C J.boxes with
 |some ps,some pb=>match zf9 (frzL (ztu (ps++pb)) C) J.boxes with
  |some Z=>match zkl R (ps++Z) (frzL (ztu (ps++pb)) C)with
   |some C1=>bif zga C1 J.boxes then(bif allIn J.ids (ztv (ps++Z))then(match ztw (frzL (ztu (ps++pb)) C++R) C1 (ps++Z)with
    |some ds=>bif ztz (chJ J ds)then some ds else none
    |none=>none)else none)else none
   |none=>none
  |none=>none
 |_,_=>none
theorem zgc{J:AnnA}{e:qo}{ds:List Dy}(hx:xtr J R e C=some ds){n:Nat}{a:Act}(hs:SatA n e γ a)(I:Inv h0 W M0 (C++R) γ h):
  ∃γ1,Inv h0 W M0 (chJ J ds++R) γ1 h/\GxS J.ids γ γ1/\∀x∈z3e J ds,zkf γ1 (zl a) x:=by
 unfold xtr at hx
 split at hx
 ·rename_i ps pb ai am
  split at hx
  ·rename_i ab Z
   split at hx
   ·rename_i C1 aj
    cases hbi:zga C1 J.boxes with
    |false=>rw[hbi]at hx;cases hx
    |true=>
    rw[hbi]at hx
    cases hai:allIn J.ids (ztv (ps++ab))with
    |false=>rw[hai]at hx;cases hx
    |true=>
    rw[hai]at hx
    simp only[cond_true]at hx
    split at hx
    ·rename_i aa ak
     cases hnd:ztz (chJ J aa)with
     |false=>rw[hnd]at hx;cases hx
     |true=>
     rw[hnd]at hx
     have hx:=Aq (show some aa=some ds from hx)
     subst hx
     obtain⟨γ0,I0,g0⟩:=Inv.frzL (C:=C) (γ:=γ) (ztu (ps++pb)) I
     have af:=hs.gx0 g0
     obtain⟨γ1,I1,g1,⟨hM,hβ⟩,ho⟩:=zas aj I0
     obtain⟨v1,v2,rfl,l1,d1,d2⟩:=Jk ak
     obtain⟨e1,ah⟩:=Jm (n:=n) (a:=a) ai
     obtain⟨f1,f2⟩:=ah (w:=v2) af I0.fz hM d1 (λp hp=>ho p (Am _ hp))
     have ae:=zb5 Z I0 I0.fz hM hβ d2 (λp hp=>ho p (Au _ hp))
     have ed:(v1++v2).drop (zpm J.slots)=v2:=by rw[<-e1,<-l1,List.drop_left]
     have gS:GxS J.ids γ γ1:=⟨g0.1.trans g1.1,λi hi=>by
      have h2:=g1.2 i (λhm=>hi (zm8 hai i hm))
      have h1:=g0.2 i (by simp)
      exact⟨h2.1.trans h1.1,h2.2.trans h1.2⟩⟩
     refine⟨γ1,I1.pick hnd λx hx=>?_,gS,f1⟩
     unfold chJ at hx
     rw[ed]at hx
     rcases As.1 hx with hx|hx
     ·have:=f2 x hx
      exact⟨I1.den x (Am _ this),x.2,this,rfl⟩
     ·rcases ae x hx with h1|⟨h1,_,⟨as,h2⟩,ss,h3⟩
      ·exact⟨I1.den x (Am _ h1),x.2,h1,rfl⟩
      ·obtain⟨an,h4⟩:=zgb hbi _ _ h3
       exact⟨h1,_,h4,by rw[h2];rfl⟩
    ·cases hx
   ·cases hx
  ·cases hx
 ·cases hx
theorem zwg{α:Type}{R:α->α->Prop}(hs:∀x y,R x y->R y x){l l':List α}(p:l.Perm l'):l.Pairwise R->l'.Pairwise R:=by
 induction p with
 |nil=>exact id
 |cons x p ih=>intro h;rw[BI]at h ⊢;exact⟨λy hy=>h.1 y (p.symm.subset hy),ih h.2⟩
 |swap x y l=>
  intro h
  simp only[BI,Af]at h ⊢
  obtain⟨h1,h2,h3⟩:=h
  exact⟨λz hz=>by rcases hz with rfl|hz;exact hs _ _ (h1 _ (.inl rfl));exact h2 z hz,λz hz=>h1 z (.inr hz),h3⟩
 |trans _ _ Z aa=>exact λh=>aa (Z h)
theorem Inv.perm{cs cs':CS}(I:Inv h0 W M0 cs γ h)(p:cs.Perm cs'):Inv h0 W M0 cs' γ h where
 ag:=I.ag
 frame:=I.frame
 size:=I.size
 old:=I.old
 le:=I.le
 den:=λx hx=>I.den x (p.symm.subset hx)
 sep:=λx hx=>I.sep x (p.symm.subset hx)
 apart:=zwg (λx y h b hb hb'=>h b hb' hb) p I.apart
end
section
variable {P:Program} {gl:Fr}
variable {h0 : za} {W : Nat -> Prop} {M0 : Fr}
def z0t(P:Program)(gl:Fr)(o:Oper)(e:qo)(c:zt)(cs:CS)(K:AV->Prop):Prop:=
 match o.op with
 |.pick x a b=>z0s e c x a b K
 |_=>match Jd e c with
  |some g=>qA P gl o (zen e c) g cs K
  |none=>False
def wQA(P:Program)(gl:Fr)(n:Nat)(ops:Array Oper)(cs:CS)(K:qo->Prop):List Oper->qo->Prop
 |[],e=>K e
 |o::rest,e=>match Qz ops e o.guard with
  |some c=>bif qi n c o.dst then z0t P gl o e c cs λv=>wQA P gl n ops cs K rest (z0h e o.dst c v)else False
  |none=>False
theorem zi4(Z:Fr.le gl M0){o:Oper}{e:qo}{c:zt}{cs:CS}{K:AV->Prop}(H:z0t P gl o e c cs K):∃av,K av/\∀(n:Nat) (γ:Gh) (a:Act) (h:za),SatA n e γ a->Inv h0 W M0 cs γ h->valid (zl a) c->∃v,DenV γ av v/\QExec P (execOp a.eval o) h (.value v):=by
 unfold z0t at H
 split at H
 ·rename_i x y z ho
  obtain⟨av,h1,h2⟩:=Jj H
  refine⟨av,h1,λn γ a h hs I hv=>?_⟩
  obtain⟨t,h3,h4⟩:=h2 n γ a hs hv
  refine⟨_,h4,λB d=>?_⟩
  simp only[execOp,ho,h3,asBool,Sem.run_bind,Sem.run_pure,Result.andThen_ok]
 ·split at H
  ·rename_i g hg
   obtain⟨av,h1,h2⟩:=ze8 (h0:=h0) (W:=W) (M0:=M0) Z H
   exact⟨av,h1,λn γ a h hs I hv=>h2 (wn hs hg hv) γ h a.eval I λx av hx=>zo hs hv hx⟩
  ·exact H.elim
theorem zgd{P:Program}{gl:Fr}(af:Fr.le gl M0){n:Nat}{ops:Array Oper}{cs:CS}{K:qo->Prop}{Q:Act->Prop}{γ:Gh}{h:za}(I:Inv h0 W M0 cs γ h)(B:World)(d:Nat):
  ∀(l:List Oper) (e:qo) (a:Act),wQA P gl n ops cs K l e->SatA n e γ a->(∀e' a',SatA n e' γ a'->Same (yn l) a a'->K e'->Q a')->wpStill P ops (mk B d h) Q l a
 |[],e,a,H,hs,hQ=>hQ _ _ hs (Same.refl _ _) H
 |o::rest,e,a,H,hs,hQ=>by
  unfold wQA at H
  split at H
  ·rename_i c hc
   cases hd:qi n c o.dst with
   |false=>rw[hd]at H;exact H.elim
   |true=>
    rw[hd]at H
    simp only[cond_true]at H
    have hw:=wv hs hc
    have ae:∀i,o.dst=some i->i∈yn (o::rest):=λi hi=>by simp[yn,hi]
    have ab:∀x∈yn rest,x∈yn (o::rest):=λx hx=>by
     unfold yn
     split
     ·exact Ae _ hx
     ·exact hx
    obtain⟨av,hK,hy⟩:=zi4 (h0:=h0) (W:=W) (M0:=M0) af H
    have Z:∀u,(valid (zl a) c->DenV γ av u)->(¬valid (zl a) c->u=undef)->wpStill P ops (mk B d h) Q rest (a.put o.dst u):=λu h1 h2=>
     zgd af I B d rest _ _ hK (hs.putO hd h1 h2) λe' a' q1 q2 q3=>hQ e' a' q1 ((Same.put a o.dst u ae).trans (q2.mono ab)) q3
    unfold wpStill
    by_cases hv:valid (zl a) c
    ·rw[if_pos (hw.2 hv)]
     unfold Oper.still
     obtain⟨v,h1,h2⟩:=hy n γ a h hs I hv
     rw[h2 B d,Oper.stillUpon_value]
     exact Z v (λ_=>h1) (λaa=>absurd hv aa)
    ·rw[if_neg (λhx=>hv (hw.1 hx))]
     exact Z undef (λaa=>absurd aa hv) (λ_=>rfl)
  ·exact H.elim
abbrev zwh:=List (Nat×Nat)
def zpn(P:Program)(gl:Fr)(tr:TypeId)(n:Nat)(tl:zwh)(id:Nat)(ops:Array Oper)(Z:Bool)(R:CS)(K:qo->CS->Prop)(e:qo)(C:CS):Prop:=
 bif Z then(match zvp tl id with
  |none=>bif Region.lexB .any ops then wQA P gl n ops (C++R) (λe'=>K (zef e') C) ops.toList e else False
  |some m=>bif Region.lexTailB .any ops m then wQA P gl n ops (C++R) (λe'=>wRA P gl tr n ops R K (ops.toList.drop m) e' C) (ops.toList.take m) e else False)
 else wRA P gl tr n ops R K ops.toList e C
theorem zkn(hm:P.follows .mixedOrders=true)(ab:Fr.le gl M0){tr:TypeId}{n:Nat}{tl:zwh}{id:Nat}{ops:Array Oper}{aa:Bool}{R C:CS}{K:qo->CS->Prop}{e:qo}
  (H:zpn P gl tr n tl id ops aa R K e C) {γ:Gh} {h:za} (B:World) (d:Nat) {a:Act} (hs:SatA n e γ a) (I:Inv h0 W M0 (C++R) γ h) {Q:Exit->Act->World->Prop}
  (hQ:∀e' C' γ' a' d' h',SatA n e' γ' a'->Inv h0 W M0 (C'++R) γ' h'->Same (yn ops.toList) a a'->GxS (yn ops.toList) γ γ'->K e' C'->Q .normal a' (mk B d' h')):(CW id ops aa).wp P Q a (mk B d h):=by
 unfold zpn at H
 cases aa with
 |false=>exact wp_region_list (zb4 ab B _ _ _ _ _ _ _ H hs I hQ)
 |true=>
  simp only[cond_true]at H
  split at H
  ·cases hB:Region.lexB .any ops with
   |false=>rw[hB]at H;exact H.elim
   |true=>
    rw[hB]at H
    refine wp_region_still hm hB ?_
    exact zgd ab I B (d+1) _ _ _ H hs λe' a' q1 q2 q3=>hQ _ _ _ _ _ _ q1.clean I q2 (GxS.refl _ _) q3
  ·rename_i m _
   cases hB:Region.lexTailB .any ops m with
   |false=>rw[hB]at H;exact H.elim
   |true=>
    rw[hB]at H
    have Z:yn ops.toList=yn (ops.toList.take m)++yn (ops.toList.drop m):=by rw[<-xq,Cf]
    have:=wp_region_still_tail (id:=id) (Q:=Q) (a:=a) (w:=mk B d h) (l:=ops.toList) m hm (by simpa using hB) (by
     simp only[Array.toArray_toList]
     refine zgd ab I B (d+1) _ _ _ H hs λe' a' q1 q2 q3=>?_
     refine zb4 ab B _ _ _ _ _ _ (d+1) q3 q1 I λaj af ak ah ai ae q4 q5 q6 q7 q8=>hQ aj af ak ah ai ae q4 q5 ?_ ?_ q8
     ·rw[Z]
      exact(q2.mono λx hx=>Am _ hx).trans (q6.mono λx hx=>Au _ hx)
     ·rw[Z]
      exact q7.mono λx hx=>Au _ hx)
    simpa using this
end
end Go.X
end
