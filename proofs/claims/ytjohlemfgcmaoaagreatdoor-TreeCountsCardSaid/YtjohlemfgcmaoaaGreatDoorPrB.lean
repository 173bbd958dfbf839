/- A part of the proof: nothing is stated here for its own sake. -/
import Derived.Test.YtjohlemfgcmaoaaGreatDoorPrA
import Derived.Laws.StructEq
import Derived.Deep.AppendSrc
import Derived.Laws.BytesString
import Derived.Deep.LoopGhost
import Derived.Below
open _root_.Go.Addr renaming add->Ad
open _root_.Array renaming getD_eq_getD_getElem?->BM,getElem?_append_left->CU,getElem?_eq_getElem->Bo,getElem?_eq_some_iff->An,getElem?_push->Cd,getElem?_setIfInBounds_ne->AB,length_toList->CW,range->Et,replicate->BN,size_setIfInBounds->AW,toList_map->De
open _root_.Bool renaming false_eq_true->Bc,or_eq_true->BO
open _root_.Go.Builtin renaming append_->Au,firstCells->C3,len_->C5
open _root_.Go.Code renaming cond->Ei,region->Ek
open _root_.Go.Deferred renaming ofValue->DX
open _root_.Go.Instr renaming fill->Ew,indexAt->Ej,next->Di,range->D9,sliceAt->D5,storeAt->Af,sureAddr->DN
open _root_.Int renaming le_refl->Em
open _root_.List.Pairwise renaming nil->Ed
open _root_.List renaming all_eq_true->Av,append_assoc->AF,append_nil->AQ,cons_append->AD,drop_eq_getElem_cons->Bw,drop_left->DR,drop_zero->BZ,eq_nil_of_length_eq_zero->AN,ext_getElem?->Bu,getElem?_append_left->BK,getElem?_append_right->BF,getElem?_drop->A9,getElem?_eq_getElem->Al,getElem?_eq_none->BL,getElem?_eq_some_iff->AY,getElem?_map->Bn,getElem?_take->AJ,getElem_map->C4,getElem_set_self->DK,length_append->Ag,length_cons->Aq,length_drop->AH,length_eq_zero_iff->Bi,length_map->Ao,length_nil->AR,length_range->Dp,length_set->CY,length_take->AK,mapM_cons->Ea,map_cons->Ar,mem_append->Ay,mem_append_left->As,mem_append_right->AC,mem_cons->Ah,mem_cons_of_mem->Ae,mem_cons_self->Am,mem_map->AL,mem_range->A1,mem_singleton->A4,nil_append->A5,pairwise_append->CO,pairwise_cons->Be,range->Bl,take_append_drop->Cb,take_left->CQ,take_of_length_le->BG,take_succ_eq_append_getElem->Aw
open _root_.List.cons renaming injEq->BV
open _root_.Nat renaming add_assoc->CP,add_mul->Cg,blt_eq->CG,eq_of_beq_eq_true->Ak,eq_zero_or_pos->Dj,le_mul_of_pos_right->Du,le_of_ble_eq_true->Ca,le_refl->Ab,le_trans->Ck,lt_or_ge->A6,mul_le_mul_right->AP,mul_one->Ci,one_mul->DU,strongRecOn->DF,zero_add->AI,zero_le->AX
open _root_.Go.Next renaming value->Dr
open _root_.Go.Op renaming equal->Er
open _root_.Option renaming map_eq_some_iff->CF,map_some->Ep
open _root_.Option.some renaming inj->Az,injEq->Ac
open _root_.Prod.mk renaming injEq->Bh
open _root_.Pure renaming pure->Dn
open _root_.UInt8 renaming ofNat->Bb
open _root_.Go.Utf8 renaming decode->Es,encode->En
open _root_.Go.Value renaming int->Bm
open _root_.Go.Value.slice renaming injEq->AO
set_option linter.unusedVariables false
set_option maxRecDepth 100000
namespace Go.X
end Go.X
namespace Go.Proofs
end Go.Proofs
open Go Go.X Go.Proofs
open _root_.Bool renaming true->Ta,false->Tc
open _root_.Option renaming some->Td,none->Te
section
namespace Go.X
section
variable {cs:CS} {γ:Gh} {h:zb} {u:Value} {t el:TypeId} {a:Option Addr} {n:Int} {av:AV} {P:Program} {cap:Nat} {g:Option Bool} {σ:Operand -> Value} {b:Bool} {o:Oper}
variable {h0 : zb} {W : Nat -> Prop} {M0 : Fr}
def rowOf(cs:CS):AA->Option ((t:Ty)×List (El t))
 |.d (.row t) xs=>Td ⟨t,xs⟩
 |.dc t xs=>Td ⟨t,xs⟩
 |.own c=>match Qv cs c with
  |some (.fz t xs)=>Td ⟨t,xs⟩
  |_=>Te
 |_=>Te
theorem zdt(I:Inv h0 W M0 cs γ h){e:AA}{r:(t:Ty)×List (El t)}(b:rowOf cs e=Td r)(c:DenA γ e u):Rd γ.M (.row r.1) r.2 [u]:=by unfold rowOf at b;split at b;simp only[Ac]at b;subst b;exact c;simp only[Ac]at b;subst b;obtain⟨s,_,_,h⟩:=c;exact h;split at b;rename_i t xs f;simp only[Ac]at b;subst b;rw[show u=_ from c];exact I.den _ (zz f);cases b;cases b
theorem Rd.sub{M:Fr}{t:Ty}{xs:List (El t)}{n c:Nat}(H:Rd M (.row t) xs [.slice a n c]){l r m:Nat}(h1:l<=r)(z:r<=xs.length)(B:r<=m)(A:m<=c):
  Rd M (.row t) ((xs.take r).drop l) [.slice (zfb a (sz t) l m) (r-l) (m-l)]:=by
 obtain⟨v,e,a',C,p,D,H⟩:=H;cases e;simp only[AO]at p;obtain⟨rfl,rfl,rfl⟩:=p;have f:((xs.take r).drop l).length=r-l:=by simp;omega
 refine⟨_,rfl,zfb a (sz t) l m,m-l,by rw[f],⟨by rw[f];omega,by rw[f];omega⟩,?_⟩;by_cases y:r=l;left;apply AN;omega;rcases H with k|⟨b,o,cs,w,s,hi⟩;left;subst k;simp;right;have h:¬(m=l):=by omega
 refine⟨b,o+l*sz t,cs,?_,s,λi u=>?_⟩;unfold zfb;rw[if_neg h,w];simp[zi];have:=hi (l+i) (by omega);have x:((xs.take r).drop l)[i]=xs[l+i]:=by simp
 rw[x];have q:o+l*sz t+i*sz t=o+(l+i)*sz t:=by rw[Cg];omega
 rw[q];exact this
def qjs:AV->Option Int
 |.g (.a (.v (.int _ n)))=>Td n
 |_=>Te
theorem zwi(h:qjs av=Td n)(b:DenV γ av u):∃k,u=.int k n:=by unfold qjs at h;split at h;simp only[Ac]at h;subst h;exact⟨_,b⟩;cases h
def z9x(P:Program)(t:TypeId):Option TypeId:=match P.underlying t with
 |some (.slice el)=>bif qb P el then Td el else Te
 |_=>Te
theorem Jb(h:z9x P t=Td el):P.underlying t=Td (.slice el)/\qb P el=Ta:=by
 unfold z9x at h;split at h;rename_i e b;cases ho:qb P e with
 |false=>rw[ho]at h;cases h
 |true=>rw[ho]at h;simp only[cond_true,Ac]at h;subst h;exact⟨b,ho⟩
 cases h
def z2d(P:Program)(cs:CS)(t:TypeId)(b:AA)(n:Int)(g:Option Bool)(K:AV->Prop):Prop:=
 match z9x P t with
 |some el=>match rowOf cs b with
  |some r=>bif Nat.beq (qi P el) (sz r.1)then ∃y:El r.1,req g (0<=n/\r.2[n.toNat]?=Td y)/\K (.g (.a (.elt r.1 y 0)))else False
  |none=>match b with
   |.own c=>match Qv cs c with
    |some (.row e ty xs)=>bif Nat.beq (qi P el) (sz ty)then req g (0<=n/\n.toNat<xs.length)/\K (.g (.a (.oelt c (sz ty) n.toNat 0)))else False
    |_=>False
   |_=>False
 |none=>False
theorem zqi(c:P.underlying t=Td (.slice el))(o:qb P el=Ta){a:Addr}{len cap:Nat}{k:IntKind}(h1:0<=n)(e:n<(len:Int))(h:zb):
  QExec P (Ej t (.slice (Td a) len cap) (.int k n)) h (.pointer (Td (a.add (n.toNat*qi P el)))):=by
 have:=Zq (P:=P) (t:=t) (x:=.slice (Td a) len cap) (i:=.int k n) (g:=Te) (K:=λv=>v=.pointer (Td (a.add (n.toNat*qi P el)))) (λl b=>by rcases b with b|⟨m,b⟩;rw[c]at b;cases b;exact jc o;rw[c]at b;cases b) (by unfold zpz;rw[c];exact⟨a,⟨rfl,h1,e⟩,rfl⟩);obtain⟨v,rfl,f⟩:=this;exact f trivial h
theorem zqj{G:AA}{K:AV->Prop}(H:z2d P cs t G n g K):
  ∃av,K av/\(gok g->∀γ h u k,Inv h0 W M0 cs γ h->DenA γ G u->∃v,DenV γ av v/\QExec P (Ej t u (.int k n)) h v):=by
 unfold z2d at H;split at H;rename_i el x;obtain⟨F,J⟩:=Jb x;split at H;rename_i r M;cases hz:Nat.beq (qi P el) (sz r.1)with
 |false=>rw[hz]at H;exact H.elim
 |true=>rw[hz]at H;obtain⟨y,s,w⟩:=H;refine⟨_,w,λA γ h u k I z=>?_⟩;obtain⟨i,m⟩:=s.out A;have l:=Ak hz;obtain⟨v,e,a,c,L,hn,H⟩:=zdt I M z;cases e;subst L;have hi:n.toNat<r.2.length:=(AY.1 m).1;have U:r.2[n.toNat]=y:=(AY.1 m).2;rcases H with q|⟨b,o,O,Y,N,B⟩;rw[q]at hi;simp at hi;subst Y;refine⟨_,?_,zqi F J i (by omega) h⟩;have:=B n.toNat hi;rw[U]at this;rw[zi,l];exact⟨b,o+n.toNat*sz r.1,O,rfl,N,this⟩
 split at H;rename_i c _;split at H;rename_i e ty xs Q;cases hz:Nat.beq (qi P el) (sz ty)with
 |false=>rw[hz]at H;exact H.elim
 |true=>rw[hz]at H;obtain⟨s,w⟩:=H;refine⟨_,w,λA γ h u k I z=>?_⟩;obtain⟨i,hi⟩:=s.out A;have l:=Ak hz;obtain⟨cells,f,E,_,V⟩:=I.den _ (zz Q);simp only at V f;rcases f.2 with⟨p,h1⟩|⟨g',cap,S,p,_,Z,_,_,_,C⟩;omega;simp only[AO]at p;have D:u=slV (γ.σ c):=z;subst D;unfold slV;rw[p.1];refine⟨_,?_,zqi F J i (by omega) h⟩;rw[zi,l,AI];exact⟨g',p.1,rfl⟩
 exact H.elim;exact H.elim;exact H.elim
def zqk(ρ:Operand->Option AV)(d:Int):Option Operand->Option Int
 |none=>Td d
 |some x=>match ρ x with
  |some av=>qjs av
  |none=>Te
theorem Jc{ρ:Operand->Option AV}(c:∀x av,ρ x=Td av->DenV γ av (σ x)){d n:Int}{x:Option Operand}(h:zqk ρ d x=Td n):ym (x.map σ) d=Td n:=by unfold zqk at h;split at h;exact h;rename_i y;split at h;rename_i av b;obtain⟨k,e⟩:=zwi h (c _ _ b);simp[ym,e];cases h
def z2e(P:Program)(cs:CS)(ρ:Operand->Option AV)(t:TypeId)(b:AA)(lo hi mx:Option Operand)(g:Option Bool)(K:AV->Prop):Prop:=
 match z9x P t with
 |some el=>match rowOf cs b with
  |some r=>bif Nat.beq (qi P el) (sz r.1)then(match zqk ρ 0 lo,zqk ρ (r.2.length:Int) hi with
   |some l,some h=>match mx with
    |none=>req g (0<=l/\l<=h/\h<=(r.2.length:Int))/\K (.g (.a (.d (.row r.1) ((r.2.take h.toNat).drop l.toNat))))
    |some m=>match zqk ρ 0 (Td m),hi with
     |some m,some _=>req g (0<=l/\l<=h/\h<=(r.2.length:Int)/\m=h)/\K (.g (.a (.dc r.1 ((r.2.take h.toNat).drop l.toNat))))
     |_,_=>False
   |_,_=>False)else False
  |none=>False
 |none=>False
theorem zql(c:P.underlying t=Td (.slice el))(s:qb P el=Ta){len cap:Nat}{lo hi mx:Option Value}{l r m:Int}(o:ym lo 0=Td l)(i:ym hi (len:Int)=Td r)(p:ym mx (cap:Int)=Td m) (h0:mx=Te\/∃v,hi=Td v) (h1:0<=l) (q:l<=r) (f:r<=m) (e:m<=(cap:Int)) (h:zb):
  QExec P (D5 t (.slice a len cap) lo hi mx) h (.slice (zfb a (qi P el) l.toNat m.toNat) (r.toNat-l.toNat) (m.toNat-l.toNat)):=by
 have:=Yh (P:=P) (t:=t) (x:=.slice a len cap) (lo:=lo) (hi:=hi) (mx:=mx) (g:=Te) (K:=λv=>v=.slice (zfb a (qi P el) l.toNat m.toNat) (r.toNat-l.toNat) (m.toNat-l.toNat)) (λn b=>by rcases b with b|⟨u,b⟩ <;> (rw[c]at b;cases b);exact jc s) (by unfold zv3;rw[c];simp only[o,i,p];exact⟨h0,⟨h1,q,f,e⟩,trivial⟩);obtain⟨v,rfl,k⟩:=this;exact k trivial h
theorem zqm{ρ:Operand->Option AV}{E:AA}{lo hi mx:Option Operand}{K:AV->Prop}(H:z2e P cs ρ t E lo hi mx g K):
  ∃av,K av/\(gok g->∀γ h u σ,Inv h0 W M0 cs γ h->(∀x av,ρ x=Td av->DenV γ av (σ x))->DenA γ E u->∃v,DenV γ av v/\QExec P (D5 t u (lo.map σ) (hi.map σ) (mx.map σ)) h v):=by
 unfold z2e at H;split at H;rename_i el w;obtain⟨D,G⟩:=Jb w;split at H;rename_i r C;cases hz:Nat.beq (qi P el) (sz r.1)with
 |false=>rw[hz]at H;exact H.elim
 |true=>
  rw[hz]at H;have o:=Ak hz;simp only[cond_true]at H;split at H;rename_i l O F n;split at H;obtain⟨q,s⟩:=H;refine⟨_,s,λA γ h u σ I k z=>?_⟩;obtain⟨h1,y,M⟩:=q.out A;have b:=zdt I C z;have f:=b;obtain⟨v,e,a,c,p,N,_⟩:=f;cases e;subst p;refine⟨_,?_,zql D G (Jc k F) (Jc k n) (m:=(c:Int)) rfl (.inl rfl) h1 y (by omega) (Em _) h⟩;rw[o];exact b.sub (by omega) (by omega) (by omega) (by omega);rename_i m;split at H;rename_i m' Q J;obtain⟨q,s⟩:=H;refine⟨_,s,λA γ h u σ I k z=>?_⟩;obtain⟨h1,y,M,L⟩:=q.out A;subst L;have b:=zdt I C z;have f:=b;obtain⟨v,e,a,c,p,N,_⟩:=f;cases e;subst p;have i:=Jc k J;have B:ym ((Td m).map σ) (c:Int)=Td m':=by unfold ym at i ⊢;simp only[Ep]at i ⊢;split at i <;> simp_all
  refine⟨_,?_,zql D G (Jc k F) (Jc k n) B (.inr ⟨_,rfl⟩) h1 y (Em _) (by omega) h⟩;rw[o];refine⟨⟨_,_,_⟩,rfl,rfl,b.sub (by omega) (by omega) (by omega) (by omega)⟩;exact H.elim;exact H.elim
 exact H.elim;exact H.elim
def qkh(cs:CS):AA->Option Nat
 |.d (.row _) xs=>Td xs.length
 |.dc _ xs=>Td xs.length
 |.own c=>match Qv cs c with
  |some (.fz _ xs)=>Td xs.length
  |some (.row _ _ xs)=>Td xs.length
  |_=>Te
 |_=>Te
theorem z9y(I:Inv h0 W M0 cs γ h){k:AA}{n:Nat}(b:qkh cs k=Td n)(f:DenA γ k u):∃a c,u=.slice a n c:=by
 have key:∀{t:Ty} {xs:List (El t)},Rd γ.M (.row t) xs [u]->∃a c,u=.slice a xs.length c:=by rintro t xs ⟨v,e,a,c,m,_⟩;cases e;exact⟨a,c,m⟩
 unfold qkh at b;split at b;simp only[Ac]at b;subst b;exact key f;simp only[Ac]at b;subst b;obtain⟨s,_,_,f⟩:=f;exact key f;split at b;rename_i c t xs i;simp only[Ac]at b;subst b;rw[show u=_ from f]at key ⊢;exact key (I.den _ (zz i));rename_i c e t xs i;simp only[Ac]at b;subst b;obtain⟨cells,_,_,_,l⟩:=I.den _ (zz i);simp only at l;rw[show u=_ from f];exact⟨_,_,by unfold slV;rw[l]⟩;cases b;cases b
def qg9:AA->List AA
 |.v x=>x.cells.toList.map .v
 |x=>[x]
def zza:AV->Option (List AA)
 |.g (.a x)=>Td (qg9 x)
 |.g (.agg l)=>Td l
 |_=>Te
theorem qha(h:u.oneCell'=Ta):u.cells.toList=[u]:=by cases u <;> first|rfl|simp[Value.oneCell']at h
theorem Zt(γ:Gh):∀l:List Value,All2 (DenA γ) (l.map .v) l
 |[]=>trivial
 |_::l=>⟨rfl,Zt γ l⟩
theorem z2f{x:AA}(k:DenA γ x u):All2 (DenA γ) (qg9 x) u.cells.toList:=by
 have key:u.oneCell'=Ta->All2 (DenA γ) [x] u.cells.toList:=λh=>by rw[qha h];exact⟨k,trivial⟩
 cases x with
 |v y=>rw[show u=y from k];exact Zt γ _
 |d t y=>exact key (Rd.one (show Rd γ.M t y [u]from k) u (by simp))
 |box c o=>exact key (by rw[show u=_ from k];rfl)
 |own c=>exact key (by rw[show u=_ from k];rfl)
 |oelt c z i o=>obtain⟨g,_,e⟩:=k;exact key (by rw[e];rfl)
 |elt t y o=>obtain⟨b,f,cs,e,_⟩:=k;exact key (by rw[e];rfl)
 |dc t xs=>obtain⟨s,e,_⟩:=k;exact key (by rw[e];rfl)
theorem zdu{l:List AA}(h:zza av=Td l)(b:DenV γ av u):All2 (DenA γ) l u.cells.toList:=by unfold zza at h;split at h;simp only[Ac]at h;subst h;exact z2f b;simp only[Ac]at h;subst h;obtain⟨us,rfl,c⟩:=b;simpa[Value.cells]using c;cases h
def zqn(b:Nat->Option (Nat×Nat))(cells:List AA):List (Nat×AV)->Option (List AA)
 |[]=>Td cells
 |(i,av)::rest=>match b i,zza av with
  |some (off,size),some l=>bif Nat.beq l.length size then(bif Nat.ble (off+l.length) cells.length then zqn b (cells.take off++l++cells.drop (off+l.length)) rest else Te)else Te
  |_,_=>Te
theorem z9z(vs:List Value):∀(k off:Nat) (cs:Array Value),off+k+vs.length<=cs.size ->
  ((vs.zipIdx k).foldl (λcs (x:Value×Nat)=>cs.setIfInBounds (off+x.2) x.1) cs).toList=cs.toList.take (off+k)++vs++cs.toList.drop (off+k+vs.length):=by
 induction vs with
 |nil=>intro k off cs h;simp
 |cons v vs c=>
  intro k off cs h;simp only[Aq]at h;rw[List.zipIdx_cons,List.foldl_cons];refine(c (k+1) off (cs.setIfInBounds (off+k) v) (by rw[AW];omega)).trans ?_;simp only[Array.toList_setIfInBounds,Aq];have hi:off+k<cs.toList.length:=by simp;omega
  rw[<-CP,List.drop_set_of_lt (by omega)];have b:(cs.toList.set (off+k) v).take (off+k+1)=cs.toList.take (off+k)++[v]:=by
   rw[List.take_set,Aw hi,List.set_append_right _ _ (by simp;omega)];have:off+k-(cs.toList.take (off+k)).length=0:=by simp;omega
   rw[this];rfl
  rw[b,show off+k+(vs.length+1)=off+k+1+vs.length by omega];simp
theorem Wc{c:Nat->Option (Nat×Nat)}{γ:Gh}:∀{b:List (Nat×AV)} {cells r:List AA} {us:List Value} {ps:List (Nat×Value)},zqn c cells b=Td r->All2 (DenA γ) cells us->All2 (λ(x:Nat×AV) (y:Nat×Value)=>x.1=y.1/\DenV γ x.2 y.2) b ps ->
  ∃o:List Value,Ew c us.toArray ps=Td o.toArray/\All2 (DenA γ) r o
 |[],cells,r,us,[],h,hc,_=>by simp only[zqn,Ac]at h;subst h;exact⟨us,rfl,hc⟩
 |[],_,_,_,_::_,_,_,e=>e.elim
 |_::_,_,_,_,[],_,_,e=>e.elim
 |(i,av)::rest,cells,r,us,(j,v)::ps,h,hc,e=>by
  obtain⟨⟨f,t⟩,e⟩:=e;simp only at f t;subst f;simp only[zqn]at h;split at h;rename_i off size l p z;cases hb:Nat.beq l.length size with
  |false=>rw[hb]at h;cases h
  |true=>
   rw[hb]at h;simp only[cond_true]at h;cases hb2:Nat.ble (off+l.length) cells.length with
   |false=>rw[hb2]at h;cases h
   |true=>
    rw[hb2]at h;simp only[cond_true]at h;have m:=zdu z t;have k:=m.length;have w:=hc.length;have h1:=Ak hb;have B:=Ca hb2;have s:v.cells.size=size:=by rw[<-h1,k];simp
    have n:All2 (DenA γ) (cells.take off++l++cells.drop (off+l.length)) (us.take off++v.cells.toList++us.drop (off+l.length)):=((hc.take off).append m).append (hc.drop _);obtain⟨o,A,u⟩:=Wc h n e;refine⟨o,?_,u⟩;simp only[Ew,p];have q:¬((decide (v.cells.size≠size)||decide (off+v.cells.size>us.toArray.size))=Ta):=by rw[s];simp;omega
    rw[if_neg q];rw[<-A];congr 1;apply Array.ext';have:=z9z v.cells.toList 0 off us.toArray (by simp;omega);rw[<-Array.foldl_toList,Array.toList_zipIdx];refine this.trans ?_;simp[<-k]
  cases h
def zdv(P:Program):List Field->Bool
 |[]=>Ta
 |f::l=>bif qb P f.type then zdv P l else Tc
theorem zlr{P:Program}{h:zb}:∀{l:List Field},zdv P l=Ta->QExec P (l.mapM λf=>do pure (f.offset,<-Go.sizeOf f.type)) h (l.map λf=>(f.offset,qi P f.type))
 |[],_=>λ_ _=>rfl
 |f::l,H=>by
  simp only[zdv]at H;cases ho:qb P f.type with
  |false=>rw[ho]at H;cases H
  |true=>rw[ho]at H;obtain⟨i,hi⟩:=jc ho;rw[Ea];exact QExec.bind (QExec.bind (QExec.sizeOf hi) (QExec.pure _)) (QExec.bind (zlr H) (QExec.pure _))
def placeOf(P:Program)(b:Array Field)(i:Nat):Option (Nat×Nat):=match b[i]? with
 |some f=>Td (f.offset,qi P f.type)
 |none=>Te
def zdw(ρ:Operand->Option AV):List (Nat×Operand)->Option (List (Nat×AV))
 |[]=>Td []
 |(i,x)::l=>match ρ x,zdw ρ l with
  |some av,some r=>Td ((i,av)::r)
  |_,_=>Te
theorem za4{γ:Gh}{ρ:Operand->Option AV}{σ:Operand->Value}(b:∀x av,ρ x=Td av->DenV γ av (σ x)):∀{l:List (Nat×Operand)} {r:List (Nat×AV)},zdw ρ l=Td r ->
  All2 (λ(x:Nat×AV) (y:Nat×Value)=>x.1=y.1/\DenV γ x.2 y.2) r (l.map λx=>(x.1,σ x.2))
 |[],r,h=>by simp only[zdw,Ac]at h;subst h;trivial
 |(i,x)::l,r,h=>by simp only[zdw]at h;split at h;rename_i av e h1 c;simp only[Ac]at h;subst h;exact⟨⟨rfl,b _ _ h1⟩,za4 b c⟩;cases h
def zeroOf(P:Program)(t:TypeId):Option Value:=match P.info? t with
 |some i=>i.zero
 |none=>Te
theorem Jd{z:Value}(h:zeroOf P t=Td z)(b:zb):QExec P (zeroValue t) b z:=by unfold zeroOf at h;split at h;rename_i i hi;intro B d;simp[zeroValue,typeInfo,program,hi,Sem.run,h];cases h
def z2g(P:Program)(t:TypeId)(b:List (Nat×AV)):Option (List AA):=match P.underlying t,zeroOf P t with
 |some (.struct fs),some z=>bif zdv P fs.toList then zqn (placeOf P fs) (z.cells.toList.map .v) b else Te
 |_,_=>Te
theorem zqo{b:List (Nat×AV)}{r:List AA}(h:z2g P t b=Td r){ps:List (Nat×Value)}(u:All2 (λ(x:Nat×AV) (y:Nat×Value)=>x.1=y.1/\DenV γ x.2 y.2) b ps)(c:zb):
  ∃k:List Value,QExec P (Instr.build t ps.toArray) c (.agg k.toArray)/\All2 (DenA γ) r k:=by
 unfold z2g at h;split at h;rename_i e z w p;cases hof:zdv P e.toList with
 |false=>rw[hof]at h;cases h
 |true=>
  rw[hof]at h;simp only[cond_true]at h;obtain⟨k,n,o⟩:=Wc h (Zt γ _) u;refine⟨k,?_,o⟩;intro B d;have q:=QExec.underlying (h:=c) w B d;have l:=Jd p c B d;have m:=zlr (P:=P) (h:=c) hof B d;unfold Instr.build;rw[Sem.run_bind,l];simp only[Result.andThen_ok];rw[Sem.run_bind,q];simp only[Result.andThen_ok];rw[Sem.run_bind,Array.mapM_eq_mapM_toList,Sem.run_map,m];simp only[Result.andThen_ok];have A:(λi=>((e.toList.map λf=>(f.offset,qi P f.type)).toArray)[i]?)=placeOf P e:=by funext i;unfold placeOf;cases hi:e[i]? <;> simp[hi]
  rw[A];have s:z.cells.toList.toArray=z.cells:=by simp
  rw[s]at n;simp only[n];rfl
 cases h
def z2h(P:Program)(t:TypeId)(a b:Value):Option Bool:=match P.underlying t,a,b with
 |some (.int _),.int k x,.int k' y=>if k=k' then Td (x==y)else Te
 |some .string,.string x,.string y=>Td (x.toList==y.toList)
 |some .bool,.bool x,.bool y=>Td (x==y)
 |_,_,_=>Te
def qdx(P:Program)(xs ys:List AA):List Field->Option Bool
 |[]=>Td Ta
 | f :: fs => if f.name = "_" then none else match z2c P f.type xs f.offset, z2c P f.type ys f.offset with
  |some (.a (.v a)),Td (.a (.v b))=>match z2h P f.type a b,qdx P xs ys fs with
   |some p,some q=>Td (p&&q)
   |_,_=>Te
  |_,_=>Te
def eqA(P:Program)(o:Oper)(ρ:Operand->Option AV):Option Bool:=match o.op with
 |.binOp .eql t x y _=>match ρ x,ρ y with
  |some (.g (.agg xs)),Td (.g (.agg ys))=>match P.underlying t with
   |some (.struct _)=>bif P.stoodInHeld t then Te else bif P.eqGuardType P.depth t then Te else qdx P xs ys (P.fieldsOf t).toList
   |_=>Te
  |_,_=>Te
 |.binOp .neq t x y _=>match ρ x,ρ y with
  |some (.g (.agg xs)),Td (.g (.agg ys))=>match P.underlying t with
   |some (.struct _)=>bif P.stoodInHeld t then Te else bif P.eqGuardType P.depth t then Te else(match qdx P xs ys (P.fieldsOf t).toList with
    |some b=>Td (!b)
    |none=>Te)
   |_=>Te
  |_,_=>Te
 |_=>Te
theorem zqp{a b:Value}{r:Bool}(h:z2h P t a b=Td r)(d:Nat)(w:World):(Op.equalIn (d+1) t a b).run P w=.ok r w:=by unfold z2h at h;split at h;rename_i e k x i y c;split at h;rename_i f;simp only[Ac]at h;subst f;subst h;exact run_equalIn_int w d t k e x y c;cases h;rename_i x y c;simp only[Ac]at h;subst h;exact run_equalIn_string w d t x y c;rename_i x y c;simp only[Ac]at h;subst h;exact run_equalIn_bool' w d t x y c;cases h
theorem zls{P:Program}{γ:Gh}{xs ys:List AA}{us vs:List Value}(o:All2 (DenA γ) xs us)(n:All2 (DenA γ) ys vs)(d:Nat)(h:zb):∀(c:List Field) (b:Bool),qdx P xs ys c=Td b->QExec P (Op.eqFields (d+1) us.toArray vs.toArray c) h b
 |[],b,hb=>by simp only[qdx,Ac]at hb;subst hb;exact QExec.pure _
 |f::c,b,hb=>by
  unfold qdx at hb;split at hb;cases hb;rename_i y;split at hb;rename_i a t i e;split at hb;rename_i p q C s;simp only[Ac]at hb;subst hb;obtain⟨A,z,w⟩:=zb5 i o h;obtain⟨u,r,x⟩:=zb5 e n h;have m:A=a:=z;have k:u=t:=r;subst m;subst k;intro B l;unfold Op.eqFields;rw[if_pos (by exact y)];rw[Sem.run_bind,w B l];simp only[Result.andThen_ok];rw[Sem.run_bind,x B l];simp only[Result.andThen_ok];rw[Sem.run_bind,zqp C d];simp only[Result.andThen_ok];cases p with
  |false=>rfl
  |true=>simpa using zls o n d h c q s B l
  cases hb;cases hb
theorem zqq{ρ:Operand->Option AV}(H:eqA P o ρ=Td b)(l:∀x av,ρ x=Td av->DenV γ av (σ x))(h:zb):QExec P (execOp σ o) h (.value (.bool b)):=by
 have key:∀{t:TypeId} {xs ys:List AA} {us vs:List Value} {k:Array Field} {b:Bool},P.underlying t=Td (.struct k)->P.stoodInHeld t=Tc->All2 (DenA γ) xs us->All2 (DenA γ) ys vs->qdx P xs ys (P.fieldsOf t).toList=Td b->QExec P (Op.equalIn 10000 t (.agg us.toArray) (.agg vs.toArray)) h b:=by
  intro t xs ys us vs k b e c i f w B d;have u:P.underlying t=Td (.struct (P.fieldsOf t)):=by rw[e];simp[Program.fieldsOf,e]
  rw[run_equalIn_struct _ 9999 t us.toArray vs.toArray u c];exact zls i f 9998 h _ b w B d
 unfold eqA at H;split at H;rename_i t x y z s;split at H;rename_i xs ys i f;split at H;rename_i k e;cases c:P.stoodInHeld t with
 |true=>rw[c]at H;cases H
 |false=>
  cases hg:P.eqGuardType P.depth t with
  |true=>rw[c,hg]at H;cases H
  |false=>rw[c,hg]at H;obtain⟨us,r,n⟩:=l _ _ i;obtain⟨vs,m,d2⟩:=l _ _ f;have q:=key e c n d2 H;simp only[execOp,s,r,m];refine QExec.val λB d=>?_;rw[Sem.run_bind,run_eqGuard_agg _ _ _ _ _ _ _ hg];simp only[Result.andThen_ok];rw[run_eql_struct,q B d];rfl
 cases H;cases H;rename_i t x y z s;split at H;rename_i xs ys i f;split at H;rename_i k e;cases c:P.stoodInHeld t with
 |true=>rw[c]at H;cases H
 |false=>
  cases hg:P.eqGuardType P.depth t with
  |true=>rw[c,hg]at H;cases H
  |false=>rw[c,hg]at H;simp only[cond_false]at H;split at H;rename_i A p;simp only[Ac]at H;subst H;obtain⟨us,r,n⟩:=l _ _ i;obtain⟨vs,m,d2⟩:=l _ _ f;have q:=key e c n d2 p;simp only[execOp,s,r,m];refine QExec.val λB d=>?_;rw[Sem.run_bind,run_eqGuard_agg _ _ _ _ _ _ _ hg];simp only[Result.andThen_ok];rw[run_neq_struct,q B d];rfl;cases H
 cases H;cases H;cases H
def qA0(P:Program)(o:Oper)(ρ:Operand->Option AV)(g:Option Bool)(cs:CS)(K:AV->Prop):Prop:=
 bif (bif zkq o then(bif isQ P o then(bif Yb o.op then zil ρ o.op.operands.toList else Tc)else Tc)else Tc)then J0 P o (qjq ρ) g #[] (λv=>K (zy7 v))else
 match o.op with
 |.move x=>match ρ x with
  |some av=>K av
  |none=>False
 |.assign x=>match ρ x with
  |some av=>K av
  |none=>False
 |.extract x i=>match ρ x with
  |some (.tup l)=>match l[i]? with
   |some ag=>K (.g ag)
   |none=>False
  |some (.nx b p c)=>match i with
   |0=>K (.g (.a (.v (.bool b))))
   |1=>req g (b=Ta)/\K (.g (.a (.v (.int .i64 p))))
   |2=>req g (b=Ta)/\K (.g (.a (.v (.int .i32 c))))
   |_=>False
  |_=>False
 |.field t x f=>match ρ x,z2a P t f with
  |some (.g (.agg l)),Td (k,ty)=>match z2c P ty l k with
   |some ag=>K (.g ag)
   |none=>False
  |_,_=>False
 |.fieldAddr t x f=>match ρ x,z2a P t f with
  |some (.g (.a aa)),Td (k,_)=>match qjr k aa with
   |some h=>K (.g (.a h))
   |none=>False
  |_,_=>False
 |.load t x=>match ρ x with
  |some (.g (.a aa))=>zy9 P cs t aa g K
  |_=>False
 |.indexAddr t x i=>match ρ x,ρ i with
  |some (.g (.a aa)),some iv=>match qjs iv with
   |some n=>z2d P cs t aa n g K
   |none=>False
  |_,_=>False
 |.slice t x lo hi mx=>match ρ x with
  |some (.g (.a aa))=>z2e P cs ρ t aa lo hi mx g K
  |_=>False
 |.nilCheck x=>match ρ x with
  |some (.g (.a aa))=>match qjr 0 aa with
   |some _=>K (.g (.a aa))
   |none=>False
  |_=>False
 |.build t e=>match zdw ρ e.toList with
  |some ps=>match z2g P t ps with
   |some r=>K (.g (.agg r))
   |none=>False
  |none=>False
 |.call c=>match c.callee with
  |.builtin .len=>match c.args.toList,c.argTypes.toList with
   |[x],[t]=>match ρ x,P.underlying t with
    |some (.g (.a (.v (.string s)))),Td .string=>K (.g (.a (.v (.int .i64 (s.size:Int)))))
    |some (.g (.a (.v (.slice _ n _)))),Td (.slice _)=>K (.g (.a (.v (.int .i64 (n:Int)))))
    |some (.g (.a aa)),Td (.slice _)=>match qkh cs aa with
     |some n=>K (.g (.a (.v (.int .i64 (n:Int)))))
     |none=>False
    |_,_=>False
   |_,_=>False
  |_=>False
 |_=>False
theorem z2i{ρ:Operand->Option AV}{K:AV->Prop}(H:qA0 P o ρ g cs K):
  ∃av,K av/\(gok g->∀γ h σ,Inv h0 W M0 cs γ h->(∀x av,ρ x=Td av->DenV γ av (σ x))->∃v,DenV γ av v/\QExec P (execOp σ o) h (.value v)):=by
 unfold qA0 at H;cases hb:(bif zkq o then(bif isQ P o then(bif Yb o.op then zil ρ o.op.operands.toList else Tc)else Tc)else Tc)with
 |true=>
  rw[hb]at H;cases hfam:zkq o with
  |false=>rw[hfam]at hb;cases hb
  |true=>
   cases y:isQ P o with
   |false=>rw[hfam,y]at hb;cases hb
   |true=>
    cases hns:Yb o.op with
    |false=>rw[hfam,y,hns]at hb;cases hb
    |true=>rw[hfam,y,hns]at hb;simp only[cond_true]at hb H;obtain⟨v,h1,D⟩:=zfd hfam H;refine⟨_,h1,λE γ h σ I q=>⟨v,Ja γ v,?_⟩⟩;rw[zqf q hns hb];exact D E h ⟨by simp,λi hi=>absurd hi (by simp)⟩
 |false=>
  rw[hb]at H;simp only[cond_false]at H;have val:∀{s:Sem Value} {h:zb} {v:Value},QExec P s h v->QExec P (s >>= λx=>(Dn (Dr x):Sem Next)) h (.value v):=λy=>QExec.val y;split at H;rename_i x w;split at H;rename_i av m;exact⟨av,H,λ_ γ h σ I q=>⟨_,q _ _ m,by simp only[execOp,w];exact QExec.pure _⟩⟩;exact H.elim;rename_i x w;split at H;rename_i av m;exact⟨av,H,λ_ γ h σ I q=>⟨_,q _ _ m,by simp only[execOp,w];exact QExec.pure _⟩⟩;exact H.elim;rename_i x i w;split at H;rename_i l m;split at H;rename_i ag J;refine⟨_,H,λ_ γ h σ I q=>?_⟩;obtain⟨us,e,D⟩:=q _ _ m;obtain⟨u,G,z⟩:=D.get J;refine⟨u,z,?_⟩;simp only[execOp,w,e];refine val λB d=>?_;unfold Instr.extract;simp[G];exact H.elim;rename_i b p c m;split at H;refine⟨_,H,λ_ γ h σ I q=>⟨_,rfl,?_⟩⟩;obtain⟨S,e2⟩:=q _ _ m;simp only[execOp,w];refine val λB d=>?_;cases b with
  |true=>rw[S rfl];rfl
  |false=>rw[e2 rfl];rfl
  refine⟨_,H.2,λE γ h σ I q=>⟨_,rfl,?_⟩⟩;obtain⟨S,_⟩:=q _ _ m;simp only[execOp,w,S (H.1.out E)];exact val λB d=>rfl;refine⟨_,H.2,λE γ h σ I q=>⟨_,rfl,?_⟩⟩;obtain⟨S,_⟩:=q _ _ m;simp only[execOp,w,S (H.1.out E)];exact val λB d=>rfl;exact H.elim;exact H.elim;rename_i t x f w;split at H;rename_i l k ty m A;split at H;rename_i ag J;refine⟨_,H,λ_ γ h σ I q=>?_⟩;obtain⟨us,e,D⟩:=q _ _ m;obtain⟨v,z,y⟩:=zb5 J D h;refine⟨v,z,?_⟩;simp only[execOp,w,e];refine val λB d=>?_;unfold z2a at A;split at A;rename_i fs G;split at A;rename_i fl ab;split at A;rename_i i hi;cases hz:Nat.beq i.size 0 with
  |true=>rw[hz]at A;cases A
  |false=>rw[hz]at A;simp only[cond_false,Ac,Bh]at A;obtain⟨rfl,rfl⟩:=A;have ae:=QExec.underlying (h:=h) G B d;unfold Instr.field;rw[Sem.run_bind,ae];simp only[Result.andThen_ok,ab,asAgg,Sem.run_bind,Sem.run_pure];exact y B d
  cases A;cases A;cases A;exact H.elim;exact H.elim;rename_i t x f w;split at H;rename_i Q k ty m A;split at H;rename_i V N;refine⟨_,H,λ_ γ h σ I q=>?_⟩;obtain⟨b,o',e,z⟩:=zwh N (q _ _ m);refine⟨_,z,?_⟩;simp only[execOp,w];rw[e];exact val (z2b A b o');exact H.elim;exact H.elim;rename_i t x w;split at H;rename_i Q m;obtain⟨av,h1,D⟩:=zim (h0:=h0) (W:=W) (M0:=M0) H;refine⟨av,h1,λE γ h σ I q=>?_⟩;obtain⟨v,z,y⟩:=D E γ h _ I (q _ _ m);refine⟨v,z,?_⟩;simp only[execOp,w];exact val y;exact H.elim;rename_i t x i w;split at H;rename_i Q iv m Y;split at H;rename_i n hn;obtain⟨av,h1,D⟩:=zqj (h0:=h0) (W:=W) (M0:=M0) H;refine⟨av,h1,λE γ h σ I q=>?_⟩;obtain⟨k,e⟩:=zwi hn (q _ _ Y);obtain⟨v,z,y⟩:=D E γ h _ k I (q _ _ m);refine⟨v,z,?_⟩;simp only[execOp,w];rw[e];exact val y;exact H.elim;exact H.elim;rename_i t x lo hi mx w;split at H;rename_i Q m;obtain⟨av,h1,D⟩:=zqm (h0:=h0) (W:=W) (M0:=M0) H;refine⟨av,h1,λE γ h σ I q=>?_⟩;obtain⟨v,z,y⟩:=D E γ h _ σ I q (q _ _ m);refine⟨v,z,?_⟩;simp only[execOp,w];exact val y;exact H.elim;rename_i x w;split at H;rename_i Q m;split at H;rename_i V N;refine⟨_,H,λ_ γ h σ I q=>?_⟩;obtain⟨b,o',e,z⟩:=zwh N (q _ _ m);have Z:=q _ _ m;refine⟨σ x,Z,?_⟩;simp only[execOp,w];rw[e];exact QExec.pure _;exact H.elim;exact H.elim;rename_i t C w;split at H;rename_i ps U;split at H;rename_i r hr;refine⟨_,H,λ_ γ h σ I q=>?_⟩;obtain⟨ws,y,z⟩:=zqo hr (za4 q U) h;refine⟨.agg ws.toArray,⟨ws,rfl,z⟩,?_⟩;simp only[execOp,w];have e:(C.map λx=>(x.1,σ x.2))=(C.toList.map λx=>(x.1,σ x.2)).toArray:=by rw[<-De]
  have:=val y;rw[<-e]at this;exact this;exact H.elim;exact H.elim;rename_i c w;split at H;rename_i hc;split at H;rename_i x t L O;have F:c.args=#[x]:=by have:=congrArg List.toArray L;simp at this;exact this
  have M:c.argTypes=#[t]:=by have:=congrArg List.toArray O;simp at this;exact this
  have key:∀(σ:Operand->Value) (h:zb) (n:Int),(QExec P (C5 #[t] o.type #[σ x]) h (.int .i64 n))->QExec P (execOp σ o) h (.value (.int .i64 n)):=by
   intro σ h n y;have e:execOp σ o=(C5 c.argTypes o.type (c.args.map σ) >>= λx=>(Dn (Dr x):Sem Next)):=by simp only[execOp,w,resolve,hc];rfl
   rw[e,F,M];refine val ?_;simpa using y
  split at H;rename_i s m G;refine⟨_,H,λ_ γ h σ I q=>⟨_,rfl,key σ h _ λB d=>?_⟩⟩;have y:=QExec.underlying (h:=h) G B d;have e:σ x=.string s:=q _ _ m;unfold C5;simp only[List.getElem?_toArray,List.getElem?_cons_zero,e,Sem.run_bind,y,Result.andThen_ok,Sem.run_pure];rfl;rename_i a n cp el m G;refine⟨_,H,λ_ γ h σ I q=>⟨_,rfl,key σ h _ λB d=>?_⟩⟩;have y:=QExec.underlying (h:=h) G B d;have e:σ x=.slice a n cp:=q _ _ m;unfold C5;simp only[List.getElem?_toArray,List.getElem?_cons_zero,e,Sem.run_bind,y,Result.andThen_ok,Sem.run_pure];rfl;rename_i Q el _ _ m G;split at H;rename_i n hn;refine⟨_,H,λ_ γ h σ I q=>⟨_,rfl,key σ h _ λB d=>?_⟩⟩;have y:=QExec.underlying (h:=h) G B d;obtain⟨a,cp,e⟩:=z9y I hn (q _ _ m);unfold C5;simp only[List.getElem?_toArray,List.getElem?_cons_zero,e,Sem.run_bind,y,Result.andThen_ok,Sem.run_pure];rfl;exact H.elim;exact H.elim;exact H.elim;exact H.elim;exact H.elim
def qki(P:Program)(o:Oper)(ρ:Operand->Option AV):Option Bool:=match o.op with
 |.binOp op t x (.const .nilIface) _=>match ρ x,ρ (.const .nilIface),P.underlying t with
  |some (.g (.a (.d .err b))),Td (.g (.a (.v .nilIface))),Td (.interface _)=>match op with
   |.eql=>Td b
   |.neq=>Td (!b)
   |_=>Te
  |_,_,_=>Te
 |_=>Te
theorem zlt{ρ:Operand->Option AV}(H:qki P o ρ=Td b)(q:∀x av,ρ x=Td av->DenV γ av (σ x))(h:zb):QExec P (execOp σ o) h (.value (.bool b)):=by
 have key:∀{t:TypeId} {ms:Array (String×TypeId)} {b:Bool} {u:Value},P.underlying t=Td (.interface ms)->((b=Ta/\u=.nilIface)\/(b=Tc/\∃t l,u=.iface t l))->QExec P (Er t u .nilIface) h b:=by intro t ms b u m k B d;have n:=QExec.underlying (h:=h) m B d;unfold Er Op.maxDepth;rcases k with⟨rfl,rfl⟩|⟨rfl,t',l,rfl⟩;unfold Op.equalIn;rw[Sem.run_bind,n];rfl;unfold Op.equalIn;rw[Sem.run_bind,n];rfl
 unfold qki at H;split at H;rename_i c t x C z;split at H;rename_i b0 ms w s m;have r:σ (.const .nilIface)=.nilIface:=q _ _ s;obtain⟨u,e,k⟩:=(show Rd γ.M .err b0 [σ x]from q _ _ w);have A:u=σ x:=by simpa using e.symm
 subst A;have p:=key m k;have y:∀c,QExec P (eqGuard c t x (.const .nilIface) (σ x) .nilIface) h ():=by intro c B d;unfold eqGuard;rcases k with⟨_,i⟩|⟨_,t',l,i⟩;rw[i];cases c <;> simp;rw[i];cases c <;> simp
 have f:∀c,(binOp c t (σ x) .nilIface=match c with | .eql=>(do pure (.bool (<-Er t (σ x) .nilIface))) | .neq=>(do pure (.bool (!(<-Er t (σ x) .nilIface))))|_=>binOp c t (σ x) .nilIface):=by intro c;rcases k with⟨_,i⟩|⟨_,t',l,i⟩;rw[i];cases c <;> rfl;rw[i];cases c <;> rfl
 simp only[execOp,z,r];refine QExec.val ((y c).bind ?_);split at H;simp only[Ac]at H;subst H;rw[f];exact p.bind (QExec.pure _);simp only[Ac]at H;subst H;rw[f];exact p.bind (QExec.pure _);cases H;cases H;cases H
def qdy(o:Oper)(ρ:Operand->Option AV):Option (TypeId×Nat×Nat):=match o.op with
 |.load t x=>match ρ x with
  |some (.g (.a (.v (.pointer (Td ⟨b,off,Te⟩)))))=>Td (t,b,off)
  |_=>Te
 |_=>Te
def z2j(gl:Fr)(b off:Nat)(v:Value):Prop:=∃cs,gl b=Td cs/\cs[off]?=Td v
def zlu(gl:Fr)(b:Nat)(g:Option Bool):List Atom->Nat->(List AA->Prop)->Prop
 |[],_,K=>K []
 |.int k::l,o,K=>∃x:Int,req g (z2j gl b o (.int k x))/\zlu gl b g l (o+1) λr=>K (.v (.int k x)::r)
 |.str::l,o,K=>∃x:Bt,req g (z2j gl b o (.string x))/\zlu gl b g l (o+1) λr=>K (.v (.string x)::r)
 |.bool::l,o,K=>∃x:Bool,req g (z2j gl b o (.bool x))/\zlu gl b g l (o+1) λr=>K (.v (.bool x)::r)
 |_::_,_,_=>False
theorem Zu{gl:Fr}{b:Nat}{g:Option Bool}:∀{l:List Atom} {o:Nat} {K:List AA->Prop},zlu gl b g l o K->∃vs:List Value,vs.length=l.length/\K (vs.map .v)/\(gok g->∀(j:Nat) (v:Value),vs[j]?=Td v->z2j gl b (o+j) v)
 |[],o,K,H=>⟨[],rfl,H,λ_ j v h=>by simp at h⟩
 |.int k::l,o,K,⟨x,h1,h2⟩=>by
  obtain⟨vs,m,f,i⟩:=Zu h2;refine⟨.int k x::vs,by simp[m],f,λe j v c=>?_⟩;cases j with
  |zero=>simp at c;subst c;exact h1.out e
  |succ j=>have:=i e j v (by simpa using c);rwa[show o+1+j=o+(j+1)by omega]at this
 |.str::l,o,K,⟨x,h1,h2⟩=>by
  obtain⟨vs,m,f,i⟩:=Zu h2;refine⟨.string x::vs,by simp[m],f,λe j v c=>?_⟩;cases j with
  |zero=>simp at c;subst c;exact h1.out e
  |succ j=>have:=i e j v (by simpa using c);rwa[show o+1+j=o+(j+1)by omega]at this
 |.bool::l,o,K,⟨x,h1,h2⟩=>by
  obtain⟨vs,m,f,i⟩:=Zu h2;refine⟨.bool x::vs,by simp[m],f,λe j v c=>?_⟩;cases j with
  |zero=>simp at c;subst c;exact h1.out e
  |succ j=>have:=i e j v (by simpa using c);rwa[show o+1+j=o+(j+1)by omega]at this
 |.sl::_,_,_,H=>H.elim
 |.mp::_,_,_,H=>H.elim
 |.ptr::_,_,_,H=>H.elim
 |.raw::_,_,_,H=>H.elim
def qhb(P:Program)(gl:Fr)(t:TypeId)(b off:Nat)(g:Option Bool)(K:AV->Prop):Prop:=match z06 P t with
 |some (.one a)=>zlu gl b g [a] off λr=>match r with
  |[x]=>K (.g (.a x))
  |_=>False
 |some (.agg l)=>zlu gl b g l off λr=>K (.g (.agg r))
 |none=>False
def qdz(P:Program)(o:Oper)(ρ:Operand->Option AV):Option (Nat×Nat×Int×Nat×Nat):=match o.op with
 |.indexAddr t x i=>match ρ x,ρ i,P.underlying t with
  |some (.g (.a (.v (.pointer (Td ⟨b,off,Te⟩))))),Td (.g (.a (.v (.int _ n)))),Td (.array len el)=>bif qb P el then Td (b,off,n,len,qi P el)else Te
  |_,_,_=>Te
 |_=>Te
def qA(P:Program)(gl:Fr)(o:Oper)(ρ:Operand->Option AV)(g:Option Bool)(cs:CS)(K:AV->Prop):Prop:=match eqA P o ρ with
 |some b=>K (.g (.a (.v (.bool b))))
 |none=>match qki P o ρ with
  |some b=>K (.g (.a (.v (.bool b))))
  |none=>match qdy o ρ with
   |some (t,b,off)=>qhb P gl t b off g K
   |none=>match qdz P o ρ with
    |some (b,off,n,len,z)=>req g (0<=n/\n<(len:Int))/\K (.g (.a (.v (.pointer (Td ⟨b,off+n.toNat*z,Te⟩)))))
    |none=>qA0 P o ρ g cs K
theorem zhm{gl:Fr}(J:Fr.le gl M0){ρ:Operand->Option AV}{K:AV->Prop}(H:qA P gl o ρ g cs K):
  ∃av,K av/\(gok g->∀γ h σ,Inv h0 W M0 cs γ h->(∀x av,ρ x=Td av->DenV γ av (σ x))->∃v,DenV γ av v/\QExec P (execOp σ o) h (.value v)):=by
 unfold qA at H;split at H;rename_i b M;exact⟨_,H,λ_ γ h σ _ p=>⟨_,rfl,zqq M p h⟩⟩;split at H;rename_i b M;exact⟨_,H,λ_ γ h σ _ p=>⟨_,rfl,zlt M p h⟩⟩;split at H;rename_i t b off c;unfold qdy at c;split at c;rename_i t' x N;split at c;rename_i r e L;simp only[Ac,Bh]at c;obtain⟨rfl,rfl,rfl⟩:=c;have key:∀{s:Option Nat} {vs:List Value} {ag:AG},X4 P t'=Td s->vs.length=z9f s->znc s (vs.map .v)=Td ag->(gok g->∀(j:Nat) (v:Value),vs[j]?=Td v->z2j gl r (e+j) v)->gok g->∀γ h σ,Inv h0 W M0 cs γ h->(∀x av,ρ x=Td av->DenV γ av (σ x))->∃u,DenV γ (.g ag) u/\QExec P (execOp σ o) h (.value u):=by intro s vs ag Y hn hp V c γ h σ I p;have A:σ x=.pointer (Td ⟨r,e,Te⟩):=p _ _ L;obtain⟨u,Z,D⟩:=zfn (γ:=γ) Y (u:=σ x) (us:=vs) ⟨_,_,A,λj w S=>by obtain⟨cc,y,q⟩:=V c j w S;exact I.ag.cell (I.le _ _ (J _ _ y)) q⟩ hn (Zt γ vs) hp;exact⟨u,Z,by simp only[execOp,N];exact QExec.val D⟩
 unfold qhb at H;split at H;rename_i a O;obtain⟨vs,y,q,B⟩:=Zu H
 match vs,y,q,B with
 |[v],y,q,B=>exact⟨_,q,key (s:=Te) (by unfold X4;rw[O]) rfl rfl B⟩
 rename_i l O;obtain⟨vs,y,q,B⟩:=Zu H;exact⟨_,q,key (s:=Td l.length) (by unfold X4;rw[O]) y rfl B⟩;exact H.elim;cases c;cases c;split at H;rename_i b off n len z c;unfold qdz at c;split at c;rename_i t x i N;split at c;rename_i r e k G Q el L hi A;cases hok:qb P el with
 |false=>rw[hok]at c;cases c
 |true=>rw[hok]at c;simp only[cond_true,Ac,Bh]at c;obtain⟨rfl,rfl,rfl,rfl,rfl⟩:=c;refine⟨_,H.2,λF γ h σ I p=>⟨_,rfl,?_⟩⟩;have C:σ x=.pointer (Td ⟨r,e,Te⟩):=p _ _ L;have E:σ i=.int k G:=p _ _ hi;obtain⟨h1,U⟩:=H.1.out F;obtain⟨v,rfl,D⟩:=Zq (P:=P) (t:=t) (x:=.pointer (Td ⟨r,e,Te⟩)) (i:=.int k G) (g:=Te) (K:=λv=>v=.pointer (Td (Ad ⟨r,e,Te⟩ (G.toNat*qi P el)))) (λaa f=>by rcases f with f|⟨m,f⟩;rw[A]at f;cases f;rw[A]at f;cases f;exact jc hok) (by unfold zpz;rw[A];exact⟨_,⟨rfl,h1,U⟩,rfl⟩);have:=D trivial h;rw[zi]at this;simp only[execOp,N,C,E];exact QExec.val this
 cases c;cases c;exact z2i H
end
section
variable {M gl:Fr} {u:Value} {P:Program} {f:FuncId} {γ:Gh} {cs C R:CS} {o:Oper} {σ:Operand -> Value} {h:zb} {Post:Value -> zb -> Prop} {tr:TypeId}
variable {h0 : zb} {W : Nat -> Prop} {M0 : Fr}
def zhn:Ty->Bool
 |.tree=>Ta
 |.unit=>Ta
 |.pair _ _=>Ta
 |_=>Tc
def RdV(M:Fr)(t:Ty)(x:El t)(u:Value):Prop:=if zhn t=Ta then ∃cs:List Value,u=.agg cs.toArray/\Rd M t x cs else Rd M t x [u]
theorem RdV.mono{M M':Fr}(b:Fr.le M M'){t:Ty}{x:El t}(h:RdV M t x u):RdV M' t x u:=by unfold RdV at *;by_cases c:zhn t=Ta;rw[if_pos c]at *;obtain⟨cs,e,h⟩:=h;exact⟨cs,e,Rd.mono b h⟩;rw[if_neg c]at *;exact Rd.mono b h
structure Arg where
 t:Ty
 x:El t
def X5(M:Fr)(l:List Arg)(vs:List Value):Prop:=All2 (λ(a:Arg) u=>RdV M a.t a.x u) l vs
@[reducible] def Els:List Ty->Type
 |[]=>Unit
 |[t]=>El t
 |t::t'::l=>El t×Els (t'::l)
def qhc:(l:List Ty)->Els l
 |[]=>()
 |[t]=>qg6 t
 |t::t'::l=>(qg6 t,qhc (t'::l))
def RdL(M:Fr):(l:List Ty)->Els l->List Value->Prop
 |[],_,us=>us=[]
 |[t],x,us=>∃u,us=[u]/\RdV M t x u
 |t::t'::l,x,us=>∃u b,us=u::b/\RdV M t x.1 u/\RdL M (t'::l) x.2 b
def Yv(M:Fr)(l:List Ty)(x:Els l)(v:Value):Prop:=∃us,RdL M l x us/\v=zii us
def PC(P:Program)(gl:Fr)(f:FuncId)(args:List Arg)(rt:List Ty)(R:Els rt->Prop):Prop:=
 ∀(h:zb) (M:Fr) (vs:List Value),Fr.le gl M->AgM M h->X5 M args vs->XC P f vs.toArray h λv h'=>
  Keep h.size h h'/\∃M' r,Fr.le M M'/\(∀b,b<h.size->M' b=M b)/\AgM M' h'/\Yv M' rt r v/\R r
theorem PC.mono{args:List Arg}{rt:List Ty}{R b:Els rt->Prop}(H:PC P gl f args rt R)(i:∀r,R r->b r):PC P gl f args rt b:= λh M vs h1 n e=>(H h M vs h1 n e).mono λv h' ⟨k,M',r,o,c,p,l,m⟩=>⟨k,M',r,o,c,p,l,i r m⟩
def BdL:(l:List Ty)->Els l->Prop
 |[],_=>True
 |[t],x=>Bd t x
 |t::t'::l,x=>Bd t x.1/\BdL (t'::l) x.2
theorem RdV.bd{t:Ty}{x:El t}(h:RdV M t x u):Bd t x:=by unfold RdV at h;split at h;obtain⟨cs,_,h⟩:=h;exact h.bd;exact h.bd
theorem PC.bd{args:List Arg}{rt:List Ty}{R:Els rt->Prop}(H:(∀a∈args,Bd a.t a.x)->PC P gl f args rt R):PC P gl f args rt R:=by
 intro h M vs h1 i c;refine H ?_ h M vs h1 i c;clear H h1 i;induction args generalizing vs with
 |nil=>intro a k;cases k
 |cons a args l=>
  cases vs with
  |nil=>exact c.elim
  |cons u us=>intro b e;rcases Ah.1 e with rfl|e;exact RdV.bd c.1;exact l us c.2 b e
def gOf(t:Ty)(x:El t):AG:=bif zhn t then .agg (Y8 t x)else(match Y8 t x with
 |[y]=>.a y
 |l=>.agg l)
theorem zt4{t:Ty}{x:El t}(h:RdV γ.M t x u):DenG γ (gOf t x) u:=by
 unfold RdV at h;unfold gOf;split at h;rename_i c;rw[c];obtain⟨cs,e,h⟩:=h;exact⟨cs,e,xg h⟩;rename_i c;have f:zhn t=Tc:=by simpa using c
 rw[f];simp only[cond_false];have b:=xg (γ:=γ) h
 match hx:Y8 t x,b with
 |[y],b=>exact b.1
 |[],b=>exact b.elim
 |_::_::_,b=>exact b.2.elim
def qjt:(l:List Ty)->Els l->List AG
 |[],_=>[]
 |[t],x=>[gOf t x]
 |t::t'::l,x=>gOf t x.1::qjt (t'::l) x.2
theorem zwj{γ:Gh}:∀{l:List Ty} {x:Els l} {us:List Value},RdL γ.M l x us->All2 (DenG γ) (qjt l x) us
 |[],_,_,h=>by rw[h];trivial
 |[_],_,_,⟨u,e,h⟩=>by rw[e];exact⟨zt4 h,trivial⟩
 |_::_::_,_,_,⟨u,us,e,h,h'⟩=>by rw[e];exact⟨zt4 h,zwj h'⟩
def qgm(l:List Ty)(x:Els l):AV:=match qjt l x with
 |[g]=>.g g
 |gs=>.tup gs
theorem z90{l:List Ty}{x:Els l}{v:Value}(h:Yv γ.M l x v):DenV γ (qgm l x) v:=by
 obtain⟨us,h,rfl⟩:=h;have b:=zwj (γ:=γ) h;unfold qgm;generalize qjt l x=gs at *
 match gs,us,b with
 |[],[],_=>exact⟨[],rfl,trivial⟩
 |[g],[u],b=>exact b.1
 |g::g'::gs,u::u'::us,b=>exact⟨_,rfl,b⟩
 |[],_::_,b=>exact b.elim
 |_::_,[],b=>exact b.elim
 |[_],_::_::_,b=>exact b.2.elim
 |_::_::_,[_],b=>exact b.2.elim
def qcc(P:Program)(tr:TypeId):Nat->TypeId->Option Ty
 |0,_=>Te
 |n+1,t=>bif Nat.beq t tr then Td .tree else match P.underlying t with
  |some (.int k)=>Td (.int k)
  |some .bool=>Td .bool
  |some .string=>Td .str
  |some (.slice e)=>match qcc P tr n e with
   |some x=>Td (.row x)
   |none=>Te
  |some (.struct fs)=>tysOf P (λt=>qcc P tr n t) fs.toList
  |some (.interface _)=>Td .err
  |_=>Te
where tysOf (P:Program) (f:TypeId->Option Ty):List Field->Option Ty
 |[]=>Td .unit
 |[x]=>f x.type
 |x::y::l=>match f x.type,tysOf P f (y::l)with
  |some a,some b=>Td (.pair a b)
  |_,_=>Te
def tyL(P:Program)(tr:TypeId):List TypeId->Option (List Ty)
 |[]=>Td []
 |t::l=>match qcc P tr 8 t,tyL P tr l with
  |some a,some b=>Td (a::b)
  |_,_=>Te
def qhd:AA->List Nat
 |.own c=>[c]
 |_=>[]
def zzb:List AA->List Nat
 |[]=>[]
 |x::l=>qhd x++zzb l
def qkj:AV->List Nat
 |.g (.a x)=>qhd x
 |.g (.agg l)=>zzb l
 |_=>[]
def Xc:List AV->List Nat
 |[]=>[]
 |v::l=>qkj v++Xc l
def frzL:List Nat->CS->CS
 |[],C=>C
 |c::l,C=>frzL l (qdu c C)
theorem Inv.frzL{C R:CS}{γ:Gh}{h:zb}:∀(l:List Nat) {C:CS} {γ:Gh},Inv h0 W M0 (C++R) γ h->∃γ',Inv h0 W M0 (frzL l C++R) γ' h/\Gx Te γ γ'
 |[],C,γ,I=>⟨γ,I,Gx.refl _ _⟩
 |c::l,C,γ,I=>by obtain⟨n,m,e⟩:=Inv.freeze c C [] I;obtain⟨f,k,b⟩:=Inv.frzL (C:=C) (γ:=γ) l m;exact⟨f,k,e.1.trans b.1,λi hi=>⟨(b.2 i hi).1.trans (e.2 i hi).1,(b.2 i hi).2.trans (e.2 i hi).2⟩⟩
def zdx(cs:CS)(t:Ty):AV->Option (El t)
 |.g (.agg l)=>bif zhn t then(match collect cs t l with
  |some (y,[])=>Td y
  |_=>Te)else Te
 |.g (.a x)=>bif zhn t then Te else zkr cs t x
 |_=>Te
theorem zb6(b:z9e γ cs){t:Ty}{av:AV}{y:El t}(h:zdx cs t av=Td y)(c:DenV γ av u):RdV γ.M t y u:=by
 unfold zdx at h;unfold RdV;split at h;rename_i l;cases ha:zhn t with
 |false=>rw[ha]at h;cases h
 |true=>
  rw[ha]at h;simp only[cond_true]at h;split at h;rename_i n i;simp only[Ac]at h;subst h;obtain⟨us,e,f⟩:=c;obtain⟨c1,c2,rfl,k,m⟩:=Y9 b i f;cases c2 with
  |nil=>simp only[if_true];exact⟨c1,by rw[e,AQ],k⟩
  |cons _ _=>exact m.elim
  cases h
 rename_i x;cases ha:zhn t with
 |true=>rw[ha]at h;cases h
 |false=>rw[ha]at h;simp only[Bc,if_false];exact jz b h c
 cases h
def je(cs:CS):List Ty->List AV->Option (List Arg)
 |[],[]=>Td []
 |t::ts,v::vs=>match zdx cs t v,je cs ts vs with
  |some x,some l=>Td (⟨t,x⟩::l)
  |_,_=>Te
 |_,_=>Te
theorem wm{γ:Gh}{cs:CS}(b:z9e γ cs):∀{ts:List Ty} {vs:List AV} {l:List Arg},je cs ts vs=Td l->∀{us:List Value},All2 (DenV γ) vs us->X5 γ.M l us
 |[],[],l,h,[],_=>by simp only[je,Ac]at h;subst h;trivial
 |[],[],_,_,_::_,hd=>hd.elim
 |t::ts,v::vs,l,h,[],hd=>hd.elim
 |t::ts,v::vs,l,h,u::us,hd=>by simp only[je]at h;split at h;rename_i x e h1 c;simp only[Ac]at h;subst h;exact⟨zb6 b h1 hd.1,wm b c hd.2⟩;cases h
 |[],_::_,_,h,_,_=>by simp[je]at h
 |_::_,[],_,h,_,_=>by simp[je]at h
def zt5(ρ:Operand->Option AV):List Operand->Option (List AV)
 |[]=>Td []
 |x::l=>match ρ x,zt5 ρ l with
  |some v,some vs=>Td (v::vs)
  |_,_=>Te
theorem X6{γ:Gh}{ρ:Operand->Option AV}{σ:Operand->Value}(b:∀x av,ρ x=Td av->DenV γ av (σ x)):∀{l:List Operand} {vs:List AV},zt5 ρ l=Td vs->All2 (DenV γ) vs (l.map σ)
 |[],vs,h=>by simp only[zt5,Ac]at h;subst h;trivial
 |x::l,vs,h=>by simp only[zt5]at h;split at h;rename_i v c h1 e;simp only[Ac]at h;subst h;exact⟨b _ _ h1,X6 b e⟩;cases h
def ExA(P:Program)(s:Sem Next)(h:zb)(Post:Value->zb->Prop):Prop:=∀B d,
 (∃v b h',s.run P (mk B d h)=.ok (.value v) (mk B b h')/\Post v h') \/
 (∃b h',s.run P (mk B d h)=.ok .skip (mk B b h')/\Post undef h') \/
 (∃f args,s.run P (mk B d h)=.ok (.enter f args) (mk B d h)/\XC P f args h Post)
theorem ExA.upon(H:ExA P (execOp σ o) h Post)(B:World)(d:Nat){a:Act}{next:Act->World->Prop}{Q:Exit->Act->World->Prop}
  (c:∀v b h',Post v h'->next (a.put o.dst v) (mk B b h')):o.upon P a next Q ((execOp σ o).run P (mk B d h)):=by
 rcases H B d with⟨v,b,h',e,i⟩|⟨b,h',e,i⟩|⟨f,args,e,l⟩;exact upon_value e (c _ _ _ i);exact upon_skip e (c _ _ _ i);rw[e];refine(l B d).mono ?_;rintro e' w' ⟨v,b,h'',rfl,rfl,k⟩;exact c _ _ _ k
theorem ExA.mono{s:Sem Next}{Post b:Value->zb->Prop}(H:ExA P s h Post)(c:∀v h',Post v h'->b v h'):ExA P s h b:=λB d=>by rcases H B d with⟨v,i,h',e,q⟩|⟨i,h',e,q⟩|⟨f,args,e,k⟩;exact .inl ⟨v,i,h',e,c _ _ q⟩;exact .inr (.inl ⟨i,h',e,c _ _ q⟩);exact .inr (.inr ⟨f,args,e,k.mono c⟩)
def zb7(h0:zb)(W:Nat->Prop)(M0:Fr)(R:CS)(γ:Gh)(K:AV->CS->Option Nat->Prop)(v:Value)(h':zb):Prop:=
 ∃av b c γ',K av b c/\DenV γ' av v/\Inv h0 W M0 (b++R) γ' h'/\Gx c γ γ'
theorem qd0(b:Fr.le gl M0){ρ:Operand->Option AV}{K:AV->CS->Option Nat->Prop}(H:qA P gl o ρ Te (C++R) λav=>K av C Te)(I:Inv h0 W M0 (C++R) γ h)
  (c:∀x av,ρ x=Td av->DenV γ av (σ x)):ExA P (execOp σ o) h (zb7 h0 W M0 R γ K):=by
 obtain⟨av,h1,i⟩:=zhm (h0:=h0) (W:=W) (M0:=M0) b H;obtain⟨v,f,e⟩:=i trivial γ h σ I c;exact λB d=>.inl ⟨v,d,h,e B d,av,C,Te,γ,h1,f,I,Gx.refl _ _⟩
def qhe:Operand->Option FuncId
 |.func f=>Td f
 |_=>Te
def qd1(P:Program)(tr:TypeId)(f:FuncId):Option (List Ty×List Ty):=match P.funcs[f]? with
 |some fn=>match tyL P tr fn.params.toList,tyL P tr fn.resultTypes.toList with
  |some a,some b=>Td (a,b)
  |_,_=>Te
 |none=>Te
def qd2(P:Program)(gl:Fr)(tr:TypeId)(o:Oper)(ρ:Operand->Option AV)(C R:CS)(K:AV->CS->Prop):Prop:=
 match o.op with
 |.call c=>match c.callee with
  |.value x=>match qhe x with
   |some f=>bif zh P f then(match qd1 P tr f,zt5 ρ c.args.toList with
    |some (ts,rt),some vs=>match je (frzL (Xc vs) C++R) ts vs with
     |some args=>PC P gl f args rt λr=>K (qgm rt r) (frzL (Xc vs) C)
     |none=>False
    |_,_=>False)else False
   |none=>False
  |_=>False
 |_=>False
def zzc(P:Program)(gl:Fr)(tr:TypeId)(o:Oper)(ρ:Operand->Option AV)(b:Bool)(cs:CS)(K:AV->Prop):Prop:=
 match o.op with
 |.call c=>match c.callee with
  |.value x=>match qhe x with
   |some f=>bif zh P f then(match qd1 P tr f,zt5 ρ c.args.toList with
    |some (ts,rt),some vs=>match je cs ts vs with
     |some args=>∃J:Els rt->Prop,(b=Ta->PC P gl f args rt J)/\∀r,(b=Ta->J r)->K (qgm rt r)
     |none=>False
    |_,_=>False)else False
   |none=>False
  |_=>False
 |_=>False
theorem znd{x:Operand}(h:qhe x=Td f):x=.func f:=by unfold qhe at h;split at h;simp only[Ac]at h;rw[h];cases h
theorem zdy{c:Call}(i:o.op=.call c)(e:c.callee=.value (.func f))(b:zh P f=Ta)(h:σ (.func f)=.func (.func f) #[] #[])(w:World):
  (execOp σ o).run P w=.ok (.enter f (c.args.map σ)) w:=by
 simp only[execOp,i,resolve,e,h,DX,Sem.run_bind,Sem.run_pure,Result.andThen_ok,invoke];rw[Xx b];simp
theorem zne(b:Fr.le gl M0){args:List Arg}{rt:List Ty}{c:Els rt->Prop}(H:PC P gl f args rt c)(I:Inv h0 W M0 cs γ h){us:List Value}(l:X5 γ.M args us):
  XC P f us.toArray h λv h'=>∃r γ',c r/\DenV γ' (qgm rt r) v/\Inv h0 W M0 cs γ' h'/\Gx Te γ γ'/\Keep h.size h h':=
 (H h γ.M us (b.trans I.le) I.ag l).mono λv h' ⟨k,M',r,e,i,o,m,n⟩=>
  ⟨r,{ γ with M:=M' },n,z90 (γ:={ γ with M:=M' }) m,I.call k e i o,⟨e,λ_ _=>⟨rfl,rfl⟩⟩,k⟩
theorem z94(m:Fr.le gl M0){ρ:Operand->Option AV}{K:AV->CS->Option Nat->Prop}(H:qd2 P gl tr o ρ C R λav F=>K av F Te)(I:Inv h0 W M0 (C++R) γ h)
  (A:∀f,σ (.func f)=.func (.func f) #[] #[]) (s:∀x av,ρ x=Td av->DenV γ av (σ x)):ExA P (execOp σ o) h (zb7 h0 W M0 R γ K):=by
 unfold qd2 at H;split at H;rename_i c G;split at H;rename_i x E;split at H;rename_i f D;cases hcal:zh P f with
 |false=>rw[hcal]at H;exact H.elim
 |true=>
  rw[hcal]at H;simp only[cond_true]at H;split at H;rename_i ts rt vs L l;split at H;rename_i args b;intro B d;have e:=znd D;subst e;obtain⟨J,p,k⟩:=Inv.frzL (C:=C) (γ:=γ) (Xc vs) I;have y:=wm p.fz b ((X6 s l).imp λv _ u w=>w.gx k rfl);refine .inr (.inr ⟨f,c.args.map σ,zdy G E hcal (A f) _,?_⟩);have q:c.args.map σ=(c.args.toList.map σ).toArray:=by rw[<-De]
  rw[q];refine(zne m H p y).mono ?_;rintro v h' ⟨r,γ',h1,t,z,n,_⟩;exact⟨_,_,Te,γ',h1,t,z,k.1.trans n.1,λi hi=>⟨(n.2 i hi).1.trans (k.2 i hi).1,(n.2 i hi).2.trans (k.2 i hi).2⟩⟩;exact H.elim;exact H.elim
 exact H.elim;exact H.elim;exact H.elim
theorem zb8{ρ:Operand->Option AV}{b:Bool}{K:AV->Prop}(H:zzc P gl tr o ρ b cs K):(b=Tc->∃av,K av) /\
  (b=Ta->Fr.le gl M0->∀γ h σ,Inv h0 W M0 cs γ h->(∀f,σ (.func f)=.func (.func f) #[] #[])->(∀x av,ρ x=Td av->DenV γ av (σ x))->∃f args,(∀w,(execOp σ o).run P w=.ok (.enter f args) w) /\ XC P f args h λv h'=>∃av γ',K av/\DenV γ' av v/\Inv h0 W M0 cs γ' h'/\Gx Te γ γ'/\Keep h.size h h'):=by
 unfold zzc at H;split at H;rename_i c t;split at H;rename_i x s;split at H;rename_i f C;cases hcal:zh P f with
 |false=>rw[hcal]at H;exact H.elim
 |true=>
  rw[hcal]at H;simp only[cond_true]at H;split at H;rename_i ts rt vs E k;split at H;rename_i args i;obtain⟨J,h1,n⟩:=H;refine⟨λm=>⟨_,n (qhc rt) (λh=>by rw[m]at h;cases h)⟩,λm l γ h σ I q A=>?_⟩;have e:=znd C;subst e;refine⟨f,c.args.map σ,λw=>zdy t s hcal (q f) w,?_⟩;have y:c.args.map σ=(c.args.toList.map σ).toArray:=by rw[<-De]
  rw[y];refine(zne l (h1 m) I (wm I.fz i (X6 A k))).mono ?_;rintro v h' ⟨r,γ',u,D,p,B,z⟩;exact⟨_,γ',n r (λ_=>u),D,p,B,z⟩;exact H.elim;exact H.elim
 exact H.elim;exact H.elim;exact H.elim
end
section
variable {P:Program} {t:TypeId} {o:Oper} {d:Nat} {C R:CS} {γ:Gh} {h:zb} {σ:Operand -> Value} {av:AV}
variable {h0 : zb} {W : Nat -> Prop} {M0 : Fr}
def z2k(P:Program)(t:TypeId)(d:Nat)(C R:CS)(K:AV->CS->Option Nat->Prop):Prop:=match zeroOf P t with
 |some z=>bif qh d R then(bif itB (z.cells.toList.map .v)then False else K (.g (.a (.box d 0))) ((d,.box (z.cells.toList.map .v))::qk d C) (Td d))else False
 |none=>False
theorem zfo(c:Nat):∀l:List Value,zpv c (l.map .v)=Tc
 |[]=>rfl
 |_::l=>by simp only[Ar,zpv,zy4,cond_false,zfo c l]
theorem za5(t:TypeId)(v:Value)(B:World)(d:Nat)(h:zb):(newVar t v).run P (mk B d h)=.ok ⟨h.size,0,Te⟩ (mk B d (h.push (.cells v.cells t))):=rfl
theorem z2l(i:o.op=.alloc t){K:AV->CS->Option Nat->Prop}(H:z2k P t d C R K)(I:Inv h0 W M0 (C++R) γ h):ExA P (execOp σ o) h (zb7 h0 W M0 R γ K):=by
 unfold z2k at H;split at H
 ·rename_i z f;cases hR:qh d R with
  |false=>rw[hR]at H;exact H.elim
  |true=>
   rw[hR]at H;cases hit:itB (z.cells.toList.map .v)with
   |true=>rw[hit]at H;exact H.elim
   |false=>
   rw[hit]at H;intro B e;refine .inl ⟨.pointer (Td ⟨h.size,0,Te⟩),e,h.push (.cells z.cells t),?_,_,_,_,z07 γ d h.size,H,?_,?_,X1 _ _ _⟩;have b:=Jd f h B e;simp only[execOp,i];refine Yc ?_;unfold Instr.alloc;rw[Sem.run_bind,b];simp only[Result.andThen_ok];rw[Sem.run_bind,za5];rfl;simp only[DenV,DenG,DenA,Zr];have:=I.newBox (c:=d) hR (Zt γ z.cells.toList) (zfo d _) hit t;simpa using this
 exact H.elim
def qkk(t:TypeId)(d:Nat)(l:List AA)(C R:CS)(K:AV->CS->Option Nat->Prop):Prop:=
 bif qh d R then(bif zpv d l then False else(bif itB l then False else K (.g (.a (.box d 0))) ((d,.box l)::qk d C) (Td d)))else False
theorem qd3{x:Operand}(b:o.op=.box t x){l:List AA}{K:AV->CS->Option Nat->Prop}(H:qkk t d l C R K)(I:Inv h0 W M0 (C++R) γ h)
  (f:All2 (DenA γ) l (σ x).cells.toList):ExA P (execOp σ o) h (zb7 h0 W M0 R γ K):=by
 unfold qkk at H;cases hR:qh d R with
 |false=>rw[hR]at H;exact H.elim
 |true=>
  rw[hR]at H;cases hm:zpv d l with
  |true=>rw[hm]at H;exact H.elim
  |false=>
   rw[hm]at H;cases hit:itB l with
   |true=>rw[hit]at H;exact H.elim
   |false=>
   rw[hit]at H;intro B e;refine .inl ⟨.pointer (Td ⟨h.size,0,Te⟩),e,h.push (.cells (σ x).cells t),?_,_,_,_,z07 γ d h.size,H,?_,?_,X1 _ _ _⟩;simp only[execOp,b];refine Yc ?_;unfold Instr.box;rw[Sem.run_bind,za5];rfl;simp only[DenV,DenG,DenA,Zr];have:=I.newBox (c:=d) hR f hm hit t;simpa using this
def z2m:AA->Bool
 |.v x=>x.oneCell'
 |_=>Ta
def zin:List AA->Bool
 |[]=>Ta
 |x::l=>bif z2m x then zin l else Tc
theorem zzd{x:AA}{u:Value}(h:z2m x=Ta)(k:DenA γ x u):u.oneCell'=Ta:=by
 cases x with
 |v y=>rw[show u=y from k];exact h
 |d t y=>exact Rd.one (show Rd γ.M t y [u]from k) u (by simp)
 |box c o=>rw[show u=_ from k];rfl
 |own c=>rw[show u=_ from k];rfl
 |oelt c z i o=>obtain⟨g,_,e⟩:=k;rw[e];rfl
 |elt t y o=>obtain⟨b,f,cs,e,_⟩:=k;rw[e];rfl
 |dc t xs=>obtain⟨s,e,_⟩:=k;rw[e];rfl
theorem zio{γ:Gh}:∀{l:List AA} {us:List Value},zin l=Ta->All2 (DenA γ) l us->∀u∈us,u.oneCell'=Ta
 |[],[],_,_,u,b=>by cases b
 |[],_::_,_,h,_,_=>h.elim
 |_::_,[],_,h,_,_=>h.elim
 |x::l,v::us,h,hd,u,b=>by
  simp only[zin]at h;cases hx:z2m x with
  |false=>rw[hx]at h;cases h
  |true=>rw[hx]at h;rcases Ah.1 b with rfl|b;exact zzd hx hd.1;exact zio h hd.2 u b
def z2n(c:Nat):CS->Bool
 |[]=>Ta
 |(j,_)::l=>bif Nat.beq j c then Tc else z2n c l
theorem za6{c:Nat}:∀{l:CS},z2n c l=Ta->∀x∈l,x.1≠c
 |[],_,x,b=>by cases b
 |(j,k)::l,h,x,b=>by
  simp only[z2n]at h;cases hb:Nat.beq j c with
  |true=>rw[hb]at h;cases h
  |false=>rw[hb]at h;rcases Ah.1 b with rfl|b;intro e;simp only at e;subst e;simp at hb;exact za6 h x b
theorem zb9{P:Program}{g o:Nat}:∀(vs:List Value) (i:Nat) (w:World),(storeCells ⟨g,o,Te⟩ vs i).run P w=(storeCells ⟨g,0,Te⟩ vs (o+i)).run P w
 |[],i,w=>rfl
 |v::vs,i,w=>by unfold storeCells;rw[Sem.run_bind,Sem.run_bind,zi,zi,AI];congr 1;funext a w';exact zb9 vs (i+1) w'
theorem Qx{n:Nat}(hi:qb P t=Ta)(l:qi P t=n){b o:Nat}{cs:Array Value}{T:TypeId}(e:h[b]?=Td (.cells cs T (0,0))){v:Value}(c:v.cells.size=n)(q:o+n<=cs.size)(h1:∀u∈v.cells.toList,u.oneCell'=Ta)(B:World)(d:Nat):
  ∃h',(Af t (.pointer (Td ⟨b,o,Te⟩)) v).run P (mk B d h)=.ok () (mk B d h')/\h'[b]?=Td (.cells (cs.toList.take o++v.cells.toList++cs.toList.drop (o+n)).toArray T (0,0))/\h'.size=h.size/\∀j,j≠b->h'[j]?=h[j]?:=by
 obtain⟨h',m,f,p,k⟩:=Yu (P:=P) B d v.cells.toList (o+0) h cs e (by simp;omega) h1;refine⟨h',?_,by rw[f];simp[c],p,k⟩;have i:=QExec.sizeOf (P:=P) (h:=h) (jc hi).choose_spec B d;unfold Af DN;simp only[Sem.run_bind,Sem.run_pure,Result.andThen_ok];unfold storeVar;rw[Sem.run_bind,i];simp only[Result.andThen_ok];rw[l,c];simp only[ne_eq,not_true_eq_false,if_false];rw[zb9];exact m
theorem Qo{α:Type}{L vs:List α}{p:Nat}(h:p+vs.length<=L.length)(q:Nat):(L.take p++vs++L.drop (p+vs.length))[q]?=if q<p then L[q]? else if q<p+vs.length then vs[q-p]? else L[q]?:=by
 have h1:(L.take p).length=p:=by simp;omega
 by_cases b:q<p;rw[if_pos b,AF,BK (by omega),AJ,if_pos b];rw[if_neg b];by_cases c:q<p+vs.length;rw[if_pos c,BK (by rw[Ag,h1];omega),BF (by omega),h1];rw[if_neg c,BF (by rw[Ag,h1];omega),A9,Ag,h1];congr 1;omega
theorem RowC.set{M:Fr}{t:Ty}{xs:List (El t)}{cells:List Value}(H:RowC M t xs cells){i:Nat}(hi:i<xs.length){y:El t}{o:Nat}{vs:List Value}(n:o+vs.length<=sz t) (m:Rd M t y ((((cells.drop (i*sz t)).take (sz t)).take o)++vs++(((cells.drop (i*sz t)).take (sz t)).drop (o+vs.length)))):
  RowC M t (xs.set i y) (cells.take (i*sz t+o)++vs++cells.drop (i*sz t+o+vs.length)):=by
 have h:(i+1)*sz t<=cells.length:=by rw[H.1];exact AP _ hi
 rw[Cg,DU]at h;have p:((cells.drop (i*sz t)).take (sz t)).length=sz t:=by rw[AK,AH];omega
 refine⟨?_,λj l=>?_⟩;rw[CY,<-H.1];simp only[Ag,AK,AH];omega;rw[CY]at l;by_cases b:i=j;subst b;rw[DK];have e:(((cells.take (i*sz t+o)++vs++cells.drop (i*sz t+o+vs.length)).drop (i*sz t)).take (sz t))=(((cells.drop (i*sz t)).take (sz t)).take o)++vs++(((cells.drop (i*sz t)).take (sz t)).drop (o+vs.length)):=by apply Bu;intro k;rw[Qo (by rw[p];exact n),AJ,AJ,A9,A9,Qo (by omega)];by_cases c:k<sz t;simp only[c,if_true];by_cases h1:k<o;rw[if_pos (by omega),if_pos h1];rw[if_neg (by omega),if_neg h1];by_cases f:k<o+vs.length;rw[if_pos (by omega),if_pos f];congr 1;omega;rw[if_neg (by omega),if_neg f];simp only[c,if_false];rw[if_neg (by omega),if_neg (by omega)]
 rw[e];exact m;rw[List.getElem_set_ne b];have e:(((cells.take (i*sz t+o)++vs++cells.drop (i*sz t+o+vs.length)).drop (j*sz t)).take (sz t))=(cells.drop (j*sz t)).take (sz t):=by
  apply Bu;intro k;rw[AJ,AJ,A9,A9,Qo (by omega)];by_cases c:k<sz t;simp only[c,if_true];rcases A6 j i with h1|h1;have:(j+1)*sz t<=i*sz t:=AP _ h1;rw[Cg,DU]at this;rw[if_pos (by omega)];have f:i+1<=j:=by omega
  have:(i+1)*sz t<=j*sz t:=AP _ f;rw[Cg,DU]at this;rw[if_neg (by omega),if_neg (by omega)];simp only[c,if_false]
 rw[e];exact H.2 j l
theorem Inv.setRow{h h':zb}(I:Inv h0 W M0 (C++R) γ h){c:Nat}{e:TypeId}{t:Ty}{xs n:List (El t)}(A:(c,Ch.row e t xs)∈C){g:Nat}(p:(γ.σ c).a.map (·.block)=Td g)
  (w:∀i,i≠g->h'[i]?=h[i]?) (M:h'.size=h.size) (F:DenC h0.size γ h' c (.row e t n)) (H:∀x∈R,x.1≠c):Inv h0 W M0 ((c,.row e t n)::Wa c C++R) γ h':=by
 have k:=I.sep _ (As R A) g p;have o:∀x∈Wa c C++R,blk γ x.1 x.2≠Td g:=by
  intro x l;have s:x≠(c,Ch.row e t xs):=by rintro rfl;rcases Ay.1 l with l|l;exact(Ym l).2 rfl;exact H _ l rfl
  have u:x∈C++R:=((wy c C).append_right R).subset l;have L:=@zds _ (λ(x y:Nat×Ch)=>∀b,blk γ x.1 x.2=Td b->blk γ y.1 y.2≠Td b) (λx y h b f q=>h b q f) _ I.apart;intro f;exact L (As R A) u (λe=>s e.symm) _ p f
 have J:Inv h0 W M0 (Wa c C++R) γ h':=by refine I.rest ((wy c C).append_right R) (c:=Te) (Gx.refl _ _) (λx _=>⟨by simp,rfl⟩) (λx l b f=>?_) (λb E r=>?_) (λi hi z=>?_) (by omega) (λb f=>rfl);exact⟨w b λe'=>o x l (e' ▸ f),(I.sep x (((wy c C).append_right R).subset l) b f).2⟩;obtain⟨G,m,e'⟩:=I.ag b E r;exact⟨G,m,by rw[w b λB=>by rw[B,k.2]at r;cases r];exact e'⟩;refine w i λe'=>?_;have D:=k.1;rcases D with h1|h1;omega;rw[e']at z;exact z h1
 refine J.cons F (λb f=>?_) (λb f x l=>?_);simp only[blk,p,Ac]at f;subst f;exact k;simp only[blk,p,Ac]at f;subst f;exact o x l
def z2o(P:Program)(t:TypeId)(f:AA)(b:List AA)(C R:CS)(K:AV->CS->Option Nat->Prop):Prop:=
 bif qb P t then(bif Nat.beq b.length (qi P t)then(bif zin b then(match f with
 |.box c o=>match Qv C c with
  |some (.box l)=>bif z2n c R then(bif (bif itB l then Ta else itB (l.take o++b++l.drop (o+b.length)))then False else(bif Nat.ble (o+b.length) l.length then K (zy7 undef) ((c,.box (l.take o++b++l.drop (o+b.length)))::Wa c C) Te else False))else False
  |_=>False
 |.oelt c z i o=>match Qv (frzL (zzb b) C) c with
  |some (.row e ty xs)=>bif z2n c R then(bif Nat.beq z (sz ty)then(bif Nat.ble (o+b.length) (sz ty)then ∃y:El ty,xs[i]?=Td y/\(match collect (frzL (zzb b) C++R) ty ((Y8 ty y).take o++b++(Y8 ty y).drop (o+b.length))with
   |some (y',[])=>K (zy7 undef) ((c,.row e ty (xs.set i y'))::Wa c (frzL (zzb b) C)) Te
   |_=>False)else False)else False)else False
  |_=>False
 |_=>False)else False)else False)else False
theorem z2p{a x:Operand}(ho:o.op=.store t a x){aa:AA}{n:List AA}{K:AV->CS->Option Nat->Prop}(H:z2o P t aa n C R K)(I:Inv h0 W M0 (C++R) γ h)
  (J:All2 (DenA γ) n (σ x).cells.toList) (ha:DenA γ aa (σ a)):ExA P (execOp σ o) h (zb7 h0 W M0 R γ K):=by
 unfold z2o at H;cases hi:qb P t with
 |false=>rw[hi]at H;exact H.elim
 |true=>
  rw[hi]at H;cases hn:Nat.beq n.length (qi P t)with
  |false=>rw[hn]at H;exact H.elim
  |true=>
   rw[hn]at H;cases hok:zin n with
   |false=>rw[hok]at H;exact H.elim
   |true=>
    rw[hok]at H;have N:n.length=qi P t:=Ak hn;have r:(σ x).cells.size=qi P t:=by rw[<-N,J.length];simp
    have h1:=zio hok J;simp only[cond_true]at H;split at H
    ·rename_i c off;split at H
     ·rename_i l hc;cases hR:z2n c R with
      |false=>rw[hR]at H;exact H.elim
      |true=>
       rw[hR]at H;cases hit:itB l with
       |true=>rw[hit]at H;exact H.elim
       |false=>
       rw[hit]at H;cases hit2:itB (l.take off++n++l.drop (off+n.length))with
       |true=>rw[hit2]at H;exact H.elim
       |false=>
       rw[hit2]at H;simp only[cond_true,cond_false]at H;cases hble:Nat.ble (off+n.length) l.length with
       |false=>rw[hble]at H;exact H.elim
       |true=>
        rw[hble]at H;have ab:=Ca hble;obtain⟨us,e,M⟩:=I.den _ (As R (zz hc));rcases e with⟨⟨T,e⟩,_⟩|⟨s,p,e,_⟩;case inr=>exact absurd e (zwe hit M s p)
        have ax:=M.length;intro B d;obtain⟨h',r1,r2,r3,r4⟩:=Qx (P:=P) hi rfl e (o:=off) r (by simp;omega) h1 B d;refine .inr (.inl ⟨d,h',?_,_,_,_,γ,H,Ja _ _,?_,Gx.refl _ _⟩);simp only[execOp,ho];rw[show σ a=_ from ha];exact zyv r1;refine I.setBox (zz hc) (us:=us.take off++(σ x).cells.toList++us.drop (off+n.length)) (.inl ⟨⟨T,?_⟩,λs p=>zwe hit2 (((M.take off).append J).append (M.drop _)) s p⟩) r4 r3 ?_ (za6 hR);rw[r2,N];exact((M.take off).append J).append (M.drop _)
     exact H.elim
    rename_i c z i off;split at H;rename_i e ty xs hc;cases hR:z2n c R with
    |false=>rw[hR]at H;exact H.elim
    |true=>
     rw[hR]at H;cases hz:Nat.beq z (sz ty)with
     |false=>rw[hz]at H;exact H.elim
     |true=>
      rw[hz]at H;cases hble:Nat.ble (off+n.length) (sz ty)with
      |false=>rw[hble]at H;exact H.elim
      |true=>
       rw[hble]at H;simp only[cond_true]at H;obtain⟨y,hy,H⟩:=H;split at H;rename_i y' V;have ab:=Ca hble;obtain⟨γ1,I1,g1⟩:=Inv.frzL (C:=C) (γ:=γ) (zzb n) I;have O:=ha.gx g1 rfl;have ah:=DenL.gx (c:=Te) g1 rfl J;rw[Ak hz]at O;obtain⟨g,hg,aj⟩:=O;have A:=zz hc;obtain⟨cells,u,m,f,b⟩:=I1.den _ (As R A);simp only at u m f b;have G:i<xs.length:=(AY.1 hy).1;have ar:xs[i]=y:=(AY.1 hy).2;rcases u.2 with⟨hv,au⟩|⟨g',cap,U,hv,ap,am,ak,Q,E,D⟩;omega;simp only[AO]at hv;have an:g'=g:=by have:=hv.1;rw[hg]at this;simp only[Ac,Addr.mk.injEq]at this;exact this.1.symm
       subst an;have q:cells.length=xs.length*sz ty:=m.1;have Y:(i+1)*sz ty<=xs.length*sz ty:=AP _ G;rw[Cg,DU]at Y;have af:xs.length*sz ty<=cap*sz ty:=AP _ (by omega);have F:(σ x).cells.toList.length=n.length:=J.length.symm;intro B d;obtain⟨h',r1,r2,r3,r4⟩:=Qx (P:=P) hi rfl am (o:=i*sz ty+off) r (by rw[E];omega) h1 B d;refine .inr (.inl ⟨d,h',?_,_,_,_,γ1,H,Ja _ _,?_,g1⟩);simp only[execOp,ho];rw[aj];exact zyv r1;refine I1.setRow A (g:=g') (by rw[hg];rfl) r4 r3 ?_ (za6 hR);have hE:=m.2 i G;rw[ar]at hE;have S:=xg (γ:=γ1) hE;have Z:=((S.take off).append ah).append (S.drop (off+n.length));obtain⟨c1,c2,e1,r5,r6⟩:=Y9 I1.fz V Z;cases c2 with
       |cons _ _=>exact r6.elim
       |nil=>
        rw[AQ]at e1;rw[<-e1]at r5;have w:=m.set G (o:=off) (vs:=(σ x).cells.toList) (by rw[F];exact ab) (by rw[F];exact r5);refine⟨_,⟨?_,.inr ⟨g',cap,_,by simp[hv],ap,r2,ak,Q,?_,?_⟩⟩,w,by simpa using f,by simpa using b⟩;rw[w.1,b,CY];simp only[List.size_toArray,Ag,AK,AH,CW];have:(σ x).cells.toList.length=qi P t:=by simpa using r
        simp only[CW]at this;rw[this,E];omega;apply Bu;intro k;have ae:(σ x).cells.toList.length=qi P t:=by simpa using r
        rw[AJ,<-ae];simp only;rw[Qo (L:=cells) (by rw[q];omega)];have ai:cells=U.toList.take (xs.length*sz ty):=by rw[<-D,b]
        rw[Qo (L:=U.toList) (by simp only[CW];rw[E];simp only[CW]at F;omega),ai,b];by_cases hk:k<xs.length*sz ty;rw[if_pos hk,AJ,if_pos hk];rw[if_neg hk,AJ,if_neg hk];rw[if_neg (by omega),if_neg (by omega)]
       exact H.elim
    exact H.elim;exact H.elim
def nxB(s:Bt)(p:Nat):Bool:=Nat.blt p s.size
def nxP(s:Bt)(p:Nat):Nat:=bif Nat.blt p s.size then p+(Es s p).2 else p
def nxR(s:Bt)(p:Nat):Int:=((Es s p).1:Int)
def z2q(P:Program)(t:TypeId)(av:AV)(d:Nat)(C R:CS)(K:AV->CS->Option Nat->Prop):Prop:=match av,P.underlying t with
 |.g (.a (.v (.string s))),Td .string=>bif qh d R then K (.g (.a (.box d 0))) ((d,.box [.d .iter (s,0)])::qk d C) (Td d)else False
 |_,_=>False
theorem z2r{x:Operand}(k:o.op=.range t x){K:AV->CS->Option Nat->Prop}(H:z2q P t av d C R K)(I:Inv h0 W M0 (C++R) γ h)
  (i:DenV γ av (σ x)):ExA P (execOp σ o) h (zb7 h0 W M0 R γ K):=by
 unfold z2q at H;split at H;rename_i s b;cases hR:qh d R with
 |false=>rw[hR]at H;exact H.elim
 |true=>rw[hR]at H;intro B e;refine .inl ⟨.pointer (Td ⟨h.size,0,Te⟩),e,h.push (.stringIter s 0),?_,_,_,_,z07 γ d h.size,H,?_,?_,X1 _ _ _⟩;simp only[execOp,k,show σ x=.string s from i];refine Yc ?_;have f:=QExec.underlying (h:=h) b B e;unfold D9;rw[Sem.run_bind,f];rfl;simp only[DenV,DenG,DenA,Zr];exact Inv.newBoxO (c:=d) I hR (l:=[.d .iter (s,0)]) (us:=[Zm s 0]) ⟨rfl,trivial⟩ rfl (.inr ⟨s,0,rfl,rfl⟩)
 exact H.elim
def qd4(av:AV)(C R:CS)(K:AV->CS->Option Nat->Prop):Prop:=match av with
 |.g (.a (.box c 0))=>match Qv C c with
  |some (.box [.d .iter x])=>bif z2n c R then K (.nx (nxB x.1 x.2) (x.2:Int) (nxR x.1 x.2)) ((c,.box [.d .iter (x.1,nxP x.1 x.2)])::Wa c C) Te else False
  |_=>False
 |_=>False
theorem z96{x:Operand}(F:o.op=.next x Ta){K:AV->CS->Option Nat->Prop}(H:qd4 av C R K)(I:Inv h0 W M0 (C++R) γ h)
  (N:DenV γ av (σ x)):ExA P (execOp σ o) h (zb7 h0 W M0 R γ K):=by
 unfold qd4 at H;split at H;rename_i c;split at H;rename_i y f;cases hR:z2n c R with
 |false=>rw[hR]at H;exact H.elim
 |true=>
  rw[hR]at H;simp only[cond_true]at H;obtain⟨us,J,n⟩:=I.den _ (As R (zz f));have r:us=[Zm y.1 y.2]:=by
   match us,n with
   |[u],n=>have O:Rd γ.M .iter y [u]:=n.1;simpa[Rd]using O
  subst r;have b:h[γ.β c]?=Td (.stringIter y.1 y.2):=by
   rcases J with⟨_,e⟩|⟨s,p,D,G⟩;exact absurd rfl (e _ _);have E:y.1=s/\y.2=p:=by simp only[Zm,BV,Value.iface.injEq,Value.agg.injEq,Array.mk.injEq,Value.string.injEq,Value.int.injEq,and_true,true_and]at D;exact⟨D.1,by omega⟩
   rw[G,E.1,E.2]
  have q:γ.β c<h.size:=(An.1 b).1;intro B d;have z:∀(w:World),w.heap[γ.β c]?=Td (.stringIter y.1 y.2)->(getObj (γ.β c)).run P w=.ok (.stringIter y.1 y.2) w:=λw e=>by simp[getObj,Sem.run,e]
  have L:∀(w:World) (m:Obj),w.heap[γ.β c]?=Td (.stringIter y.1 y.2)->(setObj (γ.β c) m).run P w=.ok () { w with heap:=w.heap.setIfInBounds (γ.β c) m }:=λw m e=>by simp[setObj,Sem.run,e]
  have A:σ x=.pointer (Td ⟨γ.β c,0,Te⟩):=N;by_cases l:y.2<y.1.size;have k:nxB y.1 y.2=Ta:=by simpa[nxB,CG]using l
  have t:nxP y.1 y.2=y.2+(Es y.1 y.2).2:=by unfold nxP;rw[show Nat.blt y.2 y.1.size=Ta from k];rfl
  refine .inl ⟨.tuple #[.bool Ta,.int .i64 y.2,.int .i32 (nxR y.1 y.2)],d,h.setIfInBounds (γ.β c) (.stringIter y.1 (nxP y.1 y.2)),?_,_,_,_,γ,H,⟨λ_=>rfl,λf=>by rw[k]at f;cases f⟩,?_,Gx.refl _ _⟩;simp only[execOp,F,A];refine Yc ?_;unfold Di;simp only;rw[Sem.run_bind,z _ b];simp only[Result.andThen_ok,l,if_true];rw[Sem.run_bind,L _ _ b,t];rfl;refine I.setBox (zz f) (us:=[Zm y.1 (nxP y.1 y.2)]) (.inr ⟨_,_,rfl,by simp[q]⟩) (λi hi=>by simp[AB (Ne.symm hi)]) (by simp) ⟨rfl,trivial⟩ (za6 hR);have k:nxB y.1 y.2=Tc:=by
   cases h:nxB y.1 y.2 with
   |false=>rfl
   |true=>exact absurd (by simpa[nxB,CG]using h) l
  have t:nxP y.1 y.2=y.2:=by unfold nxP;rw[show Nat.blt y.2 y.1.size=Tc from k];rfl
  refine .inl ⟨.tuple #[.bool Tc],d,h,?_,_,_,_,γ,H,⟨λf=>(by rw[k]at f;cases f),λ_=>rfl⟩,?_,Gx.refl _ _⟩;simp only[execOp,F,A];refine Yc ?_;unfold Di;simp only;rw[Sem.run_bind,z _ b];simp only[Result.andThen_ok,l,if_false];rfl;refine I.setBox (zz f) (us:=[Zm y.1 (nxP y.1 y.2)]) (.inr ⟨_,_,rfl,by rw[t];exact b⟩) (λi hi=>rfl) rfl ⟨rfl,trivial⟩ (za6 hR)
 exact H.elim;exact H.elim
end
section
variable {P:Program} {tr t tx e ty:TypeId} {n d m b:Nat} {C R:CS} {γ:Gh} {h:zb} {s:Sl} {z x u:Value} {xs news:List Value}
variable {h0 : zb} {W : Nat -> Prop} {M0 : Fr}
def Wd(cs:CS)(t:Ty):Nat->List AA->Option (List (El t)×List AA)
 |0,l=>Td ([],l)
 |n+1,l=>match collect cs t l with
  |some (y,l')=>match Wd cs t n l' with
   |some (ys,l'')=>Td (y::ys,l'')
   |none=>Te
  |none=>Te
theorem zca{γ:Gh}{cs:CS}(c:z9e γ cs){t:Ty}:∀{n:Nat} {l b:List AA} {ys:List (El t)},Wd cs t n l=Td (ys,b)->∀{us:List Value},All2 (DenA γ) l us->∃c1 c2,us=c1++c2/\RowC γ.M t ys c1/\ys.length=n/\All2 (DenA γ) b c2
 |0,l,b,ys,h,us,hu=>by simp only[Wd,Ac,Bh]at h;obtain⟨rfl,rfl⟩:=h;exact⟨[],us,rfl,RowC.nil _ _,rfl,hu⟩
 |n+1,l,b,ys,h,us,hu=>by simp only[Wd]at h;split at h;rename_i y r h1;split at h;rename_i e s k;simp only[Ac,Bh]at h;obtain⟨rfl,rfl⟩:=h;obtain⟨c1,c2,rfl,o,q⟩:=Y9 c h1 hu;obtain⟨c3,m,rfl,p,i,f⟩:=zca c k q;exact⟨c1++c3,m,by simp,by simpa using (RowC.single o).append p,by simp[i],f⟩;cases h;cases h
def zfp(P:Program)(el:TypeId)(k:Nat):Option (List Value):=bif Nat.beq k 0 then Td []else(match zeroOf P el with
 |some z=>Td ((Et k).map (z.cells[· % z.cells.size]!)).toList
 |none=>Te)
def qhf:List (Nat×AV)->List AV
 |[]=>[]
 |(_,v)::l=>v::qhf l
def We(P:Program)(tr:TypeId)(t:TypeId)(n:Nat)(ps:List (Nat×AV))(d:Nat)(C R:CS)(K:AV->CS->Option Nat->Prop):Prop:=
 match z9x P t with
 |some el=>match qcc P tr 8 el,zfp P el (n*qi P el)with
  |some ty,some zs=>bif Nat.beq (qi P el) (sz ty)then(bif Nat.ble (n*qi P el) 16777216 then(bif Nat.blt 0 (qi P el)then(bif qh d R then(match zqn (λi=>Td (i*qi P el,qi P el)) (zs.map .v) ps with
   |some r=>match Wd (frzL (Xc (qhf ps)) C++R) ty n r with
    |some (ys,[])=>K (.g (.a (.own d))) ((d,.row el ty ys)::qk d (frzL (Xc (qhf ps)) C)) (Td d)
    |_=>False
   |none=>False)else False)else False)else False)else False
  |_,_=>False
 |none=>False
theorem zbp{c:Array (Nat×Operand)}{o:Oper}(ho:o.op=.buildSlice t n c){ps:List (Nat×AV)}{ρ:Operand->Option AV}(y:zdw ρ c.toList=Td ps){K:AV->CS->Option Nat->Prop}
  (H:We P tr t n ps d C R K) {σ:Operand->Value} (I:Inv h0 W M0 (C++R) γ h) (hρ:∀x av,ρ x=Td av->DenV γ av (σ x)):ExA P (execOp σ o) h (zb7 h0 W M0 R γ K):=by
 unfold We at H;split at H
 ·rename_i el G;obtain⟨hu,L⟩:=Jb G;split at H
  ·rename_i ty J aa f;cases hz:Nat.beq (qi P el) (sz ty)with
   |false=>rw[hz]at H;exact H.elim
   |true=>
   rw[hz]at H;cases hb1:Nat.ble (n*qi P el) 16777216 with
   |false=>rw[hb1]at H;exact H.elim
   |true=>
   rw[hb1]at H;cases hb2:Nat.blt 0 (qi P el)with
   |false=>rw[hb2]at H;exact H.elim
   |true=>
   rw[hb2]at H;cases hR:qh d R with
   |false=>rw[hR]at H;exact H.elim
   |true=>
   rw[hR]at H;simp only[cond_true]at H;split at H
   ·rename_i r Z;split at H
    ·rename_i ys M;obtain⟨m,V,w⟩:=Inv.frzL (C:=C) (γ:=γ) (Xc (qhf ps)) I;have E:∀x av,ρ x=Td av->DenV m av (σ x):=λx av hx=>(hρ x av hx).gx w rfl;obtain⟨ws,e1,Y⟩:=Wc Z (Zt m J) (za4 E y);obtain⟨c1,c2,rfl,Q,S,r5⟩:=zca V.fz M Y;cases c2 with
     |cons _ _=>exact r5.elim
     |nil=>
     rw[AQ]at *;have l:=Ak hz;have s:0<qi P el:=by simpa[CG]using hb2
     have ab:n*qi P el<=16777216:=Ca hb1;have hn:n<=n*qi P el:=Du _ s;have u:c1.length=n*qi P el:=by rw[Q.1,S,l]
     intro B e;refine .inl ⟨.slice (Td ⟨h.size,0,Te⟩) n n,e,h.push (.cells c1.toArray el),?_,_,_,_,zt1 m d ⟨Td ⟨h.size,0,Te⟩,n,n⟩,H,?_,?_,?_⟩;have A:=QExec.underlying (h:=h) hu B e;have hs:=QExec.sizeOf (P:=P) (h:=h) (jc L).choose_spec B e;have e5:(c.map λx=>(x.1,σ x.2)).toList=c.toList.map λx=>(x.1,σ x.2):=by rw[De]
     have U:Ew (λi=>Td (i*qi P el,qi P el)) J.toArray (c.map λx=>(x.1,σ x.2)).toList=Td c1.toArray:=by rw[e5];exact e1
     simp only[execOp,ho];refine Yc ?_;unfold Instr.buildSlice;rw[Sem.run_bind,A];simp only[Result.andThen_ok];rw[Sem.run_bind,hs];simp only[Result.andThen_ok];rw[if_neg (by omega)];unfold zfp at f;by_cases k:n*qi P el=0;rw[if_pos k];rw[k]at f ⊢;simp at f;subst f;simp only[Sem.run_bind,Sem.run_pure,Result.andThen_ok];have F:Array.map (λx=>(#[]:Array Value)[x % (#[]:Array Value).size]!) (Et 0)=([]:List Value).toArray:=by simp
     rw[F,U];rfl;rw[if_neg k];have N:Nat.beq (n*qi P el) 0=Tc:=by
      cases hh:Nat.beq (n*qi P el) 0 with
      |false=>rfl
      |true=>exact absurd (Ak hh) k
     rw[N]at f;simp only[cond_false]at f;split at f;rename_i z O;have D:=Jd O h B e;simp only[Ac]at f;rw[Sem.run_bind,D];simp only[Result.andThen_ok,Sem.run_bind,Sem.run_pure];have F:Array.map (λx=>z.cells[x % z.cells.size]!) (Et (n*qi P el))=J.toArray:=by rw[<-f]
     rw[F,U];rfl;cases f;simp only[DenV,DenG,DenA,qo];rfl;refine V.newRow hR (by simp) (p:=Te) (λi hi _=>by rw[Cd,if_neg (by omega)]) (λb N=>by cases N) (cells:=c1) ⟨by rw[u,<-l],.inr ⟨h.size,n,c1.toArray,rfl,I.size,yb _ _,Ab _,by unfold maxLen;omega,by rw[<-l];simpa using u,?_⟩⟩ (λq A=>.inr (by cases A;rfl)) Q (by omega) S.symm;rw[BG];rw[<-l];simp;omega;exact⟨w.1,λi hi=>⟨((Z3 m d _).2 i hi).1.trans (w.2 i (by simp)).1,((Z3 m d _).2 i hi).2.trans (w.2 i (by simp)).2⟩⟩
    exact H.elim
   exact H.elim
  exact H.elim
 exact H.elim
theorem Qy{n sz:Nat}{cells:List Value}(i:Arr n h s.a cells)(f:cells.length=s.len*sz)(c:0<sz)(B:World)(d:Nat):
  (C3 sz s.len (.slice s.a s.len s.cap)).run P (mk B d h)=.ok cells.toArray (mk B d h):=by
 rcases i with rfl|⟨b,o,e,_,k⟩;have h0:s.len=0:=by rcases Dj s.len with h0|h0;exact h0;have:=Nat.mul_pos h0 c;simp at f;omega
 rw[h0];cases s.a with
 |none=>simp[C3]
 |some p=>simp[C3,loadCells,loadCellsFrom]
 rw[e];exact run_firstCells_some (mk B d h) sz s.len ⟨b,o,Te⟩ s.len s.cap cells f λj u l=>by rw[zi];exact k j u l
theorem zqr{n sz:Nat}{cells:List Value}(e:Arr n h s.a cells)(c:cells.length=s.len*sz)(b:0<sz)(h1:∀u∈cells,u.oneCell'=Ta){tx e':TypeId}(f:P.underlying tx=Td (.slice e'))(B:World)(d:Nat):
  Src P sz tx (slV s) s.len cells (mk B d h):=
 ⟨.inl ⟨e',f⟩,λ_=>rfl,Qy e c b B d,Qy e c b B (d+1),c,h1⟩
theorem zqs{g o:Nat}{b:Array Value}{T:TypeId}(f:h[g]?=Td (.cells b T (0,0))){vs:List Value}(l:o+vs.length<=b.size)(h1:∀u∈vs,u.oneCell'=Ta)(B:World)(d:Nat):
  ∃h',(storeCells ⟨g,o,Te⟩ vs 0).run P (mk B d h)=.ok () (mk B d h')/\h'[g]?=Td (.cells (b.toList.take o++vs++b.toList.drop (o+vs.length)).toArray T (0,0))/\h'.size=h.size/\∀j,j≠g->h'[j]?=h[j]?:=by
 obtain⟨h',c,i,e,k⟩:=Yu (P:=P) B d vs (o+0) h b f (by omega) h1;exact⟨h',by rw[zb9];exact c,i,e,k⟩
theorem Wg{sz bytes:Nat}(T:ElemT P t e z sz bytes){base:Nat}(l:xs.length=s.len*sz)(f:∀B d,(C3 sz s.len (slV s)).run P (mk B d h)=.ok xs.toArray (mk B d h))(C:∀B d,Src P sz tx x m news (mk B d h))(b:(s.len+m)*bytes<=140737488355328)(w:s.len+m<=140737488355328)(r:base<=h.size)(D:s.cap<s.len+m)(B:World)(d:Nat):
  ∃c blk,(Au #[t,tx] ty #[slV s,x]).run P (mk B d h)=.ok (.slice (Td ⟨h.size,0,Te⟩) (s.len+m) c) (mk B (d+1) (h.push (.cells blk e)))/\s.len+m<=c/\c<=maxLen/\blk.size=c*sz/\blk.toList.take ((s.len+m)*sz)=xs++news:=by
 obtain⟨i,hi,A,o,n⟩:=T.info;subst o;subst n;have u:=C B d;have k:=u.newsLen;have y:=run_append_grow_src (P:=P) (mk B d h) t tx ty e i z T.slice hi A s.a s.len s.cap xs (f B (d+1)) x m news u D (by omega) (growslice_fits (by omega) b);have q:=grownCap_ge (mk B d h) (s.len+m) s.cap e;have p:=grownCap_le_maxLen (mk B d h) (s.len+m) s.cap e (by unfold maxLen;omega);generalize grownCap (mk B d h) (s.len+m) s.cap e=c at *;refine⟨c,_,y,q,p,?_,?_⟩;simp only[Array.size_append,List.size_toArray,size_zeroCells,Ag,T.zero,l,k,<-Cg];congr 1;omega;simp only[Array.toList_append];have:(xs++news).length=(s.len+m)*i.size:=by rw[Ag,l,k,Cg]
 rw[<-this];exact CQ
theorem Qz{sz bytes:Nat}(T:ElemT P t e z sz bytes){h h':zb}{B:World}(c:Src P sz tx x m news (mk B d h))(b:s.len+m<=s.cap)
  (l:∀p,s.a=Td p->(storeCells (p.add (s.len*sz)) news 0).run P (mk B d h)=.ok () (mk B d h')) (f:s.a=Te->h'=h):(Au #[t,tx] ty #[slV s,x]).run P (mk B d h)=.ok (.slice s.a (s.len+m) s.cap) (mk B d h'):=by
 obtain⟨i,hi,r,o,q⟩:=T.info;subst o;have n:=T.slice;unfold slV;rcases c.kind with⟨e',k⟩|k;cases ha:s.a with
 |none=>rw[f ha];simp[Au,run_underlying n,run_underlying k,sizeOf,typeInfo,hi,c.len,b,c.cells]
 |some p=>simp[Au,run_underlying n,run_underlying k,sizeOf,typeInfo,hi,c.len,b,c.cells,l p ha]
 cases ha:s.a with
 |none=>rw[f ha];simp[Au,run_underlying n,run_underlying k,sizeOf,typeInfo,hi,c.len,b,c.cells]
 |some p=>simp[Au,run_underlying n,run_underlying k,sizeOf,typeInfo,hi,c.len,b,c.cells,l p ha]
theorem za7{sz bytes:Nat}(T:ElemT P t e z sz bytes){base:Nat}(H:Owns h base e sz s xs)(hs:∀B d,Src P sz tx x m news (mk B d h)) (q:(s.len+m)*bytes<=140737488355328) (E:s.len+m<=140737488355328) (l:base<=h.size) {K:Value->zb->Prop} (M:∀(I:Sl) (h':zb),I.len=s.len+m->Owns h' base e sz I (xs++news)->(∀i,i<h.size->(∀p,s.a=Td p->i≠p.block)->h'[i]?=h[i]?)->h.size<=h'.size->(∀w,I.a=Td w->(∃p,s.a=Td p/\w.block=p.block)\/w.block=h.size)->K (slV I) h'):
  XRun P (Au #[t,tx] ty #[slV s,x]) h K:=by
 intro B d;have J:=hs B d;have f:=J.newsLen;have k:=H.1;have D:=H.arr;by_cases n:s.len+m<=s.cap;rcases H.2 with⟨A,ab⟩|⟨g,cap,V,A,U,hg,ae,Z,C,r⟩;simp only[AO]at A;obtain⟨u,e2,e3⟩:=A;have hm:m=0:=by omega
 subst hm;have G:news=[]:=AN (by simpa using f);subst G;have y:=Qz (P:=P) (ty:=ty) T (s:=s) (h':=h) J n (λp F=>by rw[u]at F;cases F) (λ_=>rfl);refine⟨_,d,h,y,M ⟨s.a,s.len+0,s.cap⟩ h rfl ?_ (λ_ _ _=>rfl) (Ab _) (λw b=>by rw[show s.a=Te from u]at b;cases b)⟩;rw[AQ];exact H;simp only[AO]at A;obtain⟨u,_,e3⟩:=A;have aa:h[g]?=Td (.cells V e (0,0)):=hg;have S:(s.len+m)*sz<=cap*sz:=AP _ (by omega);rw[Cg]at S;obtain⟨h',r1,r2,r3,r4⟩:=zqs (P:=P) aa (o:=s.len*sz) (vs:=news) (by rw[C];omega) J.one B d;have y:=Qz (P:=P) (ty:=ty) T (s:=s) (h':=h') J n (λp F=>by rw[u]at F;cases F;rw[zi,AI];exact r1) (λG=>by rw[u]at G;cases G);refine⟨_,d,h',y,M ⟨s.a,s.len+m,s.cap⟩ h' rfl ⟨?_,.inr ⟨g,cap,_,?_,U,r2,(by show s.len+m<=cap;omega),Z,?_,?_⟩⟩ (λi hi Q=>r4 i λe'=>Q _ u e') (by omega) (λw b=>.inl ⟨w,b,rfl⟩)⟩;rw[Ag,k,f,Cg];simp[u,e3];simp only[List.size_toArray,Ag,AK,AH,CW];rw[f,C]at *;omega;simp only;rw[r];have:(xs++news).length=(s.len+m)*sz:=by rw[Ag,k,f,Cg]
 rw[<-this];exact CQ;obtain⟨c,blk,y,Y,N,O,L⟩:=Wg (P:=P) (ty:=ty) (base:=base) T k (λB d=>Qy D k T.pos B d) hs q E l (by omega) B d;refine⟨_,d+1,_,y,M ⟨Td ⟨h.size,0,Te⟩,s.len+m,c⟩ _ rfl ⟨?_,.inr ⟨h.size,c,blk,rfl,l,yb _ _,Y,N,O,L⟩⟩ (λi hi _=>by rw[Cd,if_neg (by omega)]) (by simp) (λw b=>.inr (by cases b;rfl))⟩;rw[Ag,k,f,Cg]
def zdz(s:Bt):List Int:=s.data.toList.map λb=>(b.toNat:Int)
def qcd:(ty:Ty)->Bt->Option (List (El ty))
 |.int .u8,s=>Td (zdz s)
 |_,_=>Te
def qd5(P:Program)(cs:CS)(tx:TypeId)(ty:Ty):AV->Option (List (El ty))
 |.g (.a (.v (.string s)))=>match P.underlying tx with
  |some .string=>qcd ty s
  |_=>Te
 |.g (.a (.v (.slice Te 0 0)))=>match P.underlying tx with
  |some (.slice _)=>Td []
  |_=>Te
 |.g (.a aa)=>match P.underlying tx with
  |some (.slice _)=>match rowOf cs aa with
   |some r=>Z2 (.row r.1) (.row ty) r.2
   |none=>match aa with
    |.own c=>match Qv cs c with
     |some (.row _ t xs)=>Z2 (.row t) (.row ty) xs
     |_=>Te
    |_=>Te
  |_=>Te
 |_=>Te
theorem RowC.bytes(M:Fr)(s:Bt):RowC M (.int .u8) (zdz s) (byteCells s):=by
 have c:(byteCells s).length=(zdz s).length:=by unfold byteCells zdz;simp
 refine⟨by rw[c];simp[sz],λi hi=>?_⟩;have b:i<(byteCells s).length:=by rw[c];exact hi
 have e:(byteCells s)[i]=.int .u8 (zdz s)[i]:=by simp only[byteCells,zdz,C4]
 have f:((byteCells s).drop (i*1)).take 1=[(byteCells s)[i]]:=by rw[Ci,Bw b];rfl
 show((byteCells s).drop (i*1)).take 1=[.int .u8 (zdz s)[i]];rw[f,e]
theorem Q0{t t':Ty}{xs:List (El t)}{ys:List (El t')}(h:Z2 (.row t) (.row t') xs=Td ys):∃e:t=t',ys=e ▸ xs:=by
 unfold Z2 at h;split at h;rename_i e;have e':t=t':=by injection e
 subst e';simp only[Ac]at h;exact⟨rfl,h.symm⟩;cases h
theorem zwk{cs:CS}(I:Inv h0 W M0 cs γ h){ty:Ty}{av:AV}{ys:List (El ty)}(b:qd5 P cs tx ty av=Td ys)(m:0<sz ty)(q:DenV γ av u):
  ∃news,RowC γ.M ty ys news/\∀B d,Src P (sz ty) tx u ys.length news (mk B d h):=by
 have row:∀{t:Ty} {xs:List (El t)} {n:Nat} {s:Sl} {cells:List Value} {e':TypeId},Z2 (.row t) (.row ty) xs=Td ys->P.underlying tx=Td (.slice e')->u=slV s->s.len=xs.length->RowC γ.M t xs cells->Arr n h s.a cells ->
   ∃news,RowC γ.M ty ys news/\∀B d,Src P (sz ty) tx u ys.length news (mk B d h):=by
  intro t xs n s cells e' w i e k l y;obtain⟨A,x⟩:=Q0 w;subst A;simp only at x;subst x;refine⟨cells,l,λB d=>?_⟩;rw[e,<-k];exact zqr y (by rw[k];exact l.1) m l.one i B d
 unfold qd5 at b;split at b
 ·rename_i s;split at b
  ·rename_i i;unfold qcd at b;split at b;case h_2=>cases b
   simp only[Ac]at b;subst b;refine⟨byteCells s,RowC.bytes _ s,λB d=>?_⟩;rw[show u=.string s from q];have:=Src.ofString (P:=P) (mk B d h) i s;have e:(zdz s).length=s.size:=by unfold zdz;rw[Ao,CW];rfl
   rw[e];exact this
  cases b
 split at b;rename_i e' i;simp only[Ac]at b;subst b;refine⟨[],RowC.nil _ _,λB d=>?_⟩;rw[show u=.slice Te 0 0 from q];exact Src.ofNil (mk B d h) i 0;cases b;rename_i C _ _;split at b;rename_i e' i;split at b;rename_i r l;obtain⟨s,e,k,z,cells,f,o⟩:=(zdt I l q).rowC I.ag;exact row b i e k f o;split at b;rename_i c _ _ _;split at b;rename_i e t xs w;obtain⟨cells,p,f,z,k⟩:=I.den _ (zz w);exact row b i (show u=slV _ from q) k f p.arr;cases b;cases b;cases b;cases b
def zho(P:Program)(el:TypeId)(ty:Ty):Option Nat:=match P.info? el with
 |some i=>match i.zero with
  |some z=>bif (bif Nat.beq i.size (sz ty)then(bif Nat.beq z.cells.size i.size then(bif Nat.blt 0 i.size then Nat.blt 0 i.bytes else Tc)else Tc)else Tc)then Td i.bytes else Te
  |none=>Te
 |none=>Te
theorem zlv{t el:TypeId}{ty:Ty}(k:P.underlying t=Td (.slice el))(h:zho P el ty=Td b):(∃z,ElemT P t el z (sz ty) b)/\0<b:=by
 unfold zho at h;split at h
 ·rename_i i hi;split at h
  ·rename_i z f;cases h1:Nat.beq i.size (sz ty)with
   |false=>rw[h1]at h;cases h
   |true=>
   cases h2:Nat.beq z.cells.size i.size with
   |false=>rw[h1,h2]at h;cases h
   |true=>
   cases h3:Nat.blt 0 i.size with
   |false=>rw[h1,h2,h3]at h;cases h
   |true=>
   cases h4:Nat.blt 0 i.bytes with
   |false=>rw[h1,h2,h3,h4]at h;cases h
   |true=>
   rw[h1,h2,h3,h4]at h;simp only[cond_true,Ac]at h;have c:=Ak h1;have e:=Ak h2;have l:0<i.size:=by simpa[CG]using h3
   have m:0<i.bytes:=by simpa[CG]using h4
   exact⟨⟨z,k,⟨i,hi,f,c,h⟩,by rw[e,c],by rw[<-c];exact l⟩,by rw[<-h];exact m⟩
  cases h
 cases h
def X7(P:Program)(tr:TypeId)(t tx:TypeId)(bv sv:AV)(d:Nat)(C R:CS)(K:AV->CS->Option Nat->Prop):Prop:=
 match z9x P t with
 |some el=>match qcc P tr 8 el with
  |some ty=>match zho P el ty,qd5 P (C++R) tx ty sv with
   |some b,some ys=>match bv with
    |.g (.a (.v (.slice Te 0 0)))=>bif qh d R then(ys.length*b<=140737488355328/\K (.g (.a (.own d))) ((d,.row el ty ys)::qk d C) (Td d))else False
    |.g (.a (.own c))=>match Qv C c with
     |some (.row e t' xs)=>match Z2 (.row t') (.row ty) xs with
      |some xs=>bif Nat.beq e el then(bif qh d R then((xs.length+ys.length)*b<=140737488355328/\K (.g (.a (.own d))) ((d,.row el ty (xs++ys))::qk d (Wa c C)) (Td d))else False)else False
      |none=>False
     |_=>False
    |.g (.a (.dc t' xs))=>match Z2 (.row t') (.row ty) xs with
     |some xs=>(xs.length+ys.length)*b<=140737488355328/\K (.g (.a (.d (.row ty) (xs++ys)))) C Te
     |none=>False
    |_=>False
   |_,_=>False
  |none=>False
 |none=>False
theorem zd0{n b k:Nat}(c:0<b)(h:n*b<=k):n<=k:=Ck (Du _ c) h
theorem zlw{tr t tx ty':TypeId}{bv sv:AV}{K:AV->CS->Option Nat->Prop}(H:X7 P tr t tx bv sv d C R K)(I:Inv h0 W M0 (C++R) γ h)
  {u v:Value} (U:DenV γ bv u) (az:DenV γ sv v):XRun P (Au #[t,tx] ty' #[u,v]) h (zb7 h0 W M0 R γ K):=by
 unfold X7 at H;split at H
 ·rename_i el ak;obtain⟨hu,aJ⟩:=Jb ak;split at H
  ·rename_i ty aM;split at H
   ·rename_i b ys n ar;obtain⟨⟨z,T⟩,O⟩:=zlv hu n;obtain⟨news,G,F⟩:=zwk I ar T.pos az;split at H
    ·cases hR:qh d R with
     |false=>rw[hR]at H;exact H.elim
     |true=>
     rw[hR]at H;obtain⟨w,Y⟩:=H;rw[show u=slV ⟨Te,0,0⟩from U];have A:=zd0 O w;refine za7 T (Owns.nil h h0.size el (sz ty)) F (by simpa using w) (by simpa using A) I.size λs' h' hl L hk hs r=>?_;rw[A5]at L;simp only[AI]at hl;refine⟨_,_,_,zt1 γ d s',Y,?_,I.newRow hR hs (p:=Te) (λi hi _=>hk i hi (by simp)) (λb n=>by cases n) L (λq hq=>?_) G A hl,Z3 _ _ _⟩;simp only[DenV,DenG,DenA,qo];rcases r q hq with⟨p,r,_⟩|r;simp at r;exact .inr r
    ·rename_i c;split at H
     ·rename_i e t' aB hc;split at H
      ·rename_i xs D;cases hee:Nat.beq e el with
       |false=>rw[hee]at H;exact H.elim
       |true=>
       rw[hee]at H;cases hR:qh d R with
       |false=>rw[hR]at H;exact H.elim
       |true=>
       rw[hR]at H;obtain⟨w,Y⟩:=H;have A:=zd0 O w;have J:=zz hc;obtain⟨e1,e2⟩:=Q0 D;subst e1;simp only at e2;subst e2;have e3:=Ak hee;subst e3;have ab:=I.den _ (As R J);obtain⟨cells,E,k,aE,f⟩:=ab;simp only at E k f;rw[show u=slV (γ.σ c)from U];refine za7 T E F (by rw[f];exact w) (by rw[f];exact A) I.size λs' h' hl L hk hs r=>?_;have af:=I.sep _ (As R J);have aL:=Qw hR;have an:Inv h0 W M0 (Wa c C++R) γ h:=I.sub ((wy c C).append_right R);refine⟨_,_,_,zt1 γ d s',Y,?_,an.newRow hR hs (p:=(γ.σ c).a.map (·.block)) (λi hi V=>hk i hi λp r e=>V (by rw[r,e];rfl)) (λb n=>?_) L (λq hq=>?_) (k.append G) (by rw[Ag];exact A) (by rw[hl,f,Ag]),Z3 _ _ _⟩;simp only[DenV,DenG,DenA,qo];obtain⟨h1,h2⟩:=af b n;refine⟨?_,h2,λx Z ap=>?_⟩;simp only[CF]at n;obtain⟨p,r,rfl⟩:=n;exact(E.base_le p r).1;have aF:x∈C++R:=((wy c C).append_right R).subset Z;have V:x≠(c,Ch.row e t' xs):=by rintro rfl;rcases Ay.1 Z with Z|Z;exact(Ym Z).2 rfl;have ah:=I.apart;rw[CO]at ah;exact ah.2.2 _ J _ Z b n n
       have r:=@zds _ (λ(x y:Nat×Ch)=>∀b,blk γ x.1 x.2=Td b->blk γ y.1 y.2≠Td b) (λx y h b n N=>h b N n) _ I.apart;exact r aF (As R J) V b ap n;rcases r q hq with⟨p,r,ay⟩|r;exact .inl (by rw[r,ay];rfl);exact .inr r
      exact H.elim
     exact H.elim
    rename_i t' aB;split at H;rename_i xs D;obtain⟨w,Y⟩:=H;have A:=zd0 O w;obtain⟨e1,e2⟩:=Q0 D;subst e1;simp only at e2;subst e2;obtain⟨s,e,aG,ae⟩:=(show ∃s:Sl,u=slV s/\s.cap=s.len/\Rd γ.M (.row t') xs [u]from U);subst e;obtain⟨s2,e,f,aE,cells,k,aa⟩:=ae.rowC I.ag;have e':s=s2:=by cases s;cases s2;simp only[slV,AO]at e;simp[e]
    subst e';have Q:cells.length=s.len*sz t':=by rw[f];exact k.1
    intro B dr;by_cases hm:ys.length=0;have am:ys=[]:=AN hm;subst am;have aC:news=[]:=AN (by rw[G.1];simp);subst aC;have hr:=Qz (P:=P) (ty:=ty') T (s:=s) (h':=h) (F B dr) (by simp;omega) (λp r=>by simp[storeCells]) (λ_=>rfl);refine⟨_,dr,h,hr,_,C,Te,γ,Y,?_,I,Gx.refl _ _⟩;rw[AQ];exact ae;obtain⟨c,l,hr,au,aH,aI,aA⟩:=Wg (P:=P) (ty:=ty') (base:=0) T Q (λB d=>Qy aa Q T.pos B d) F (by rw[f];exact w) (by rw[f];exact A) (AX _) (by omega) B dr;have ax:γ.M h.size=Te:=I.ag.none (Ab _);have hM:Fr.le γ.M (zgp γ h.size l).M:=by
     intro b cc S;have:Nat.beq b h.size=Tc:=by
      cases n:Nat.beq b h.size with
      |false=>rfl
      |true=>rw[Ak n,ax]at S;cases S
     simp[zgp,this,S]
    have aj:AgM (zgp γ h.size l).M (h.push (.cells l el)):=by
     intro b cc S;by_cases n:b=h.size;subst n;have:cc=l:=by simp[zgp]at S;exact S.symm
     subst this;exact⟨_,_,yb _ _⟩;have:Nat.beq b h.size=Tc:=by
      cases N:Nat.beq b h.size with
      |false=>rfl
      |true=>exact absurd (Ak N) n
     simp only[zgp,this,cond_false]at S;obtain⟨T',m,e'⟩:=I.ag b cc S;exact⟨T',m,by rw[Cd,if_neg n];exact e'⟩
    refine⟨_,dr+1,_,hr,_,C,Te,zgp γ h.size l,Y,?_,I.call (Keep.push h _ (Ab _)) hM (λb n=>?_) aj,⟨hM,λ_ _=>⟨rfl,rfl⟩⟩⟩;have ai:=((k.append G).mono hM).rd (b:=h.size) (o:=0) (c:=c) (cs:=l) (by simp[zgp]) (by rw[BZ,Ag,<-f];exact aA) (by rw[Ag,<-f];exact⟨by rw[f];exact A,au⟩);rw[Ag,<-f]at ai;exact ai;have:Nat.beq b h.size=Tc:=by
     cases N:Nat.beq b h.size with
     |false=>rfl
     |true=>have:=Ak N;omega
    simp[this];exact H.elim;exact H.elim
   exact H.elim
  exact H.elim
 exact H.elim
end
section
variable {cs C R:CS} {γ b:Gh} {h:zb} {u:Value} {P:Program} {o:Oper} {σ:Operand -> Value} {n:Nat} {gl:Fr} {tr:TypeId} {c:zx} {a:Act} {S:List Nat}
variable {h0 : zb} {W : Nat -> Prop} {M0 : Fr}
def qju(b:List Int):Bt:=b.foldl (λr n=>r.push (Bb n.toNat)) ByteArray.empty
def qkl(t:Ty)(xs:List (El t)):Option (List Int):=Z2 (.row t) (.row (.int .u8)) xs
def zwl(cs:CS):AA->Option ((t:Ty)×List (El t))
 |.own c=>match Qv cs c with
  |some (.row _ t xs)=>Td ⟨t,xs⟩
  |some (.fz t xs)=>Td ⟨t,xs⟩
  |_=>Te
 |aa=>rowOf cs aa
theorem zlx(I:Inv h0 W M0 cs γ h){p:AA}{r:(t:Ty)×List (El t)}(b:zwl cs p=Td r)(n:DenA γ p u):
  ∃s:Sl,u=slV s/\s.len=r.2.length/\∃cells,RowC γ.M r.1 r.2 cells/\Arr h.size h s.a cells:=by
 unfold zwl at b;split at b;split at b;rename_i c e t xs m;simp only[Ac]at b;subst b;obtain⟨cells,k,f,o,i⟩:=I.den _ (zz m);exact⟨_,n,i,cells,f,k.arr⟩;rename_i c t xs m;simp only[Ac]at b;subst b;have:Rd γ.M (.row t) xs [u]:=by rw[show u=_ from n];exact I.den _ (zz m)
 obtain⟨s,e,i,o,cells,h1,l⟩:=this.rowC I.ag;exact⟨s,e,i,cells,h1,l⟩;cases b;obtain⟨s,e,i,o,cells,h1,l⟩:=(zdt I b n).rowC I.ag;exact⟨s,e,i,cells,h1,l⟩
def znf(P:Program)(s t:TypeId)(av:AV)(cs:CS)(K:AV->Prop):Prop:=
 match P.underlying s,P.underlying t with
 |some (.slice e),Td .string=>match P.underlying e,av with
  |some (.int .u8),.g (.a aa)=>match zwl cs aa with
   |some r=>match qkl r.1 r.2 with
    |some b=>K (.g (.a (.v (.string (qju b)))))
    |none=>False
   |none=>False
  |_,_=>False
 |some (.int _),Td .string=>match av with
  |.g (.a (.v (.int _ n)))=>K (.g (.a (.v (.string (En n)))))
  |_=>False
 |_,_=>False
theorem z2s{M:Fr}{k:IntKind}:∀{b:List Int} {cells:List Value},RowC M (.int k) b cells->cells=b.map (Bm k)
 |b,cells,H=>by
  apply Bu;intro i;have f:cells.length=b.length:=by rw[H.1];simp[sz]
  rw[Bn];by_cases hi:i<b.length;have:((cells.drop (i*1)).take 1)=[.int k b[i]]:=H.2 i hi;have e:cells[i]?=Td (.int k b[i]):=by
   have c:((cells.drop (i*1)).take 1)[0]?=Td (.int k b[i]):=by rw[this];rfl
   rw[AJ,if_pos (by omega),A9]at c;simpa using c
  rw[e,Al hi];rfl;rw[BL (by omega),BL (by omega)];rfl
theorem zt6{s t:TypeId}{x:Operand}(U:o.op=.convert s t x){av:AV}{K:AV->Prop}(H:znf P s t av cs K)(I:Inv h0 W M0 cs γ h)(L:DenV γ av (σ x)):
  ∃l v,K l/\DenV γ l v/\QExec P (execOp σ o) h (.value v):=by
 have val:∀{v:Value},QExec P (convert s t (σ x)) h v->QExec P (execOp σ o) h (.value v):=λN=>by simp only[execOp,U];exact QExec.val N
 unfold znf at H;split at H;rename_i e w A;split at H;rename_i Z V;split at H;rename_i r Y;split at H;rename_i m C;refine⟨_,.string (qju m),H,rfl,val λB d=>?_⟩;obtain⟨sl,M,q,cells,f,i⟩:=zlx I Y L;obtain⟨tt,xs⟩:=r;obtain⟨J,G⟩:=Q0 C;simp only at J;subst J;simp only at G q f;subst G;have O:=z2s f;subst O;have h1:=QExec.underlying (h:=h) w B d;have u:=QExec.underlying (h:=h) A B d;have S:=QExec.underlying (h:=h) V B d;have c:(Conv.bytesToString (σ x)).run P (mk B d h)=.ok (.string (qju m)) (mk B d h):=by
  rw[M];unfold slV;rcases i with y|⟨b,F,z,_,E⟩;have D:m=[]:=by simpa using y
  subst D;simp only[AR]at q;cases ha:sl.a with
  |none=>simp[Conv.bytesToString,qju]
  |some p=>have:=run_bytesToString (P:=P) (mk B d h) p sl.len sl.cap [] (by rw[q];simp[loadCells,loadCellsFrom]);exact this
  rw[z];refine run_bytesToString (mk B d h) ⟨b,F,Te⟩ sl.len sl.cap m ?_;have:=Qy (P:=P) (h:=h) (n:=b+1) (sz:=1) (s:=sl) (cells:=m.map (Bm .u8)) (.inr ⟨b,F,z,by omega,E⟩) (by rw[q];simp) (by omega) B d;rw[z]at this;simpa[C3]using this
 unfold convert;rw[Sem.run_bind,h1];simp only[Result.andThen_ok];rw[Sem.run_bind,u];simp only[Result.andThen_ok];rw[M]at c ⊢;unfold slV at c ⊢;simp only[Sem.run_bind,S,Result.andThen_ok];exact c;exact H.elim;exact H.elim;exact H.elim;rename_i k w A;split at H;rename_i Q n;refine⟨_,.string (En n),H,rfl,val λB d=>?_⟩;have h1:=QExec.underlying (h:=h) w B d;have u:=QExec.underlying (h:=h) A B d;have e:σ x=.int Q n:=L;unfold convert;rw[Sem.run_bind,h1];simp only[Result.andThen_ok];rw[Sem.run_bind,u,e];rfl;exact H.elim;exact H.elim
def qhg:BinOp->Option Bool
 |.eql=>Td Ta
 |.neq=>Td Tc
 |_=>Te
def qkm(P:Program)(o:Oper)(ρ:Operand->Option AV)(cs:CS):Option (Bool×Nat):=match o.op with
 |.binOp b t x y _=>match qhg b,ρ x,ρ y with
  |some pol,Td (.g (.a aa)),Td (.g (.a (.v (.slice Te 0 0))))=>match zwl cs aa,P.underlying t with
   |some ⟨ty,xs⟩,Td (.slice _)=>bif Nat.blt 0 (sz ty)then Td (pol,xs.length)else Te
   |_,_=>Te
  |_,_,_=>Te
 |_=>Te
theorem zng(e:BinOp)(t:TypeId)(x y:Operand)(a b:Option Addr)(l c h f:Nat)(w:World):(eqGuard e t x y (.slice a l c) (.slice b h f)).run P w=.ok () w:=by unfold eqGuard;cases e <;> rfl
theorem qd6{ρ:Operand->Option AV}{m:Bool}(c:qkm P o ρ (C++R)=Td (m,n)){K:AV->CS->Option Nat->Prop}(H:∀b:Bool,(b=Ta->n=0)->K (.g (.a (.v (.bool (bif m then b else !b))))) C Te)
  (I:Inv h0 W M0 (C++R) γ h) (u:∀x av,ρ x=Td av->DenV γ av (σ x)):ExA P (execOp σ o) h (zb7 h0 W M0 R γ K):=by
 unfold qkm at c;split at c
 ·rename_i L t x y S E;split at c
  ·rename_i r O f D J;split at c
   ·rename_i ty xs e G w;cases hz:Nat.blt 0 (sz ty)with
    |false=>rw[hz]at c;cases c
    |true=>
     rw[hz]at c;simp only[cond_true,Ac,Bh]at c;obtain⟨rfl,rfl⟩:=c;have M:0<sz ty:=by simpa[CG]using hz
     obtain⟨s,N,Q,cells,i,l⟩:=zlx I G (u _ _ D);have F:σ y=.slice Te 0 0:=u _ _ J;have k:s.a.isNone=Ta->xs.length=0:=by
      intro q;have p:cells=[]:=by rcases l with p|⟨b,o,A,_⟩;exact p;rw[A]at q;cases q
      have:=i.1;rw[p]at this;simp only[AR]at this;rcases Nat.mul_eq_zero.1 this.symm with h1|h1;exact h1;omega
     have z:=H s.a.isNone k;intro B d;refine .inl ⟨_,d,h,?_,_,C,Te,γ,z,rfl,I,Gx.refl _ _⟩;simp only[execOp,E];refine Yc ?_;rw[N,F];simp only[slV];rw[Sem.run_bind,zng];simp only[Result.andThen_ok];cases L <;> simp only[qhg,Ac]at f <;> (try (cases f;done)) <;> subst f;simp only[binOp,Sem.run_bind,run_equal_slice_nil _ t _ _ _ _ w];rfl;simp only[binOp,Sem.run_bind,run_equal_slice_nil _ t _ _ _ _ w];rfl
   cases c
  cases c
 cases c
def hA0(P:Program)(gl:Fr)(tr:TypeId)(o:Oper)(ρ:Operand->Option AV)(C R:CS)(K:AV->CS->Option Nat->Prop):Prop:=
 match o.op with
 |.alloc t=>match o.dst with
  |some d=>z2k P t d C R K
  |none=>False
 |.box t x=>match o.dst,ρ x with
  |some d,some av=>match zza av with
   |some l=>qkk t d l C R K
   |none=>False
  |_,_=>False
 |.store t a x=>match ρ a,ρ x with
  |some (.g (.a aa)),some xv=>match zza xv with
   |some h=>z2o P t aa h C R K
   |none=>False
  |_,_=>False
 |.buildSlice t n b=>match o.dst,zdw ρ b.toList with
  |some d,some ps=>We P tr t n ps d C R K
  |_,_=>False
 |.convert s t x=>bif isQ P o then qA P gl o ρ Te (C++R) (λav=>K av C Te)else(match ρ x with
  |some av=>znf P s t av (C++R) λe=>K e C Te
  |none=>False)
 |.call c=>match c.callee with
  |.builtin .append=>match c.args.toList,c.argTypes.toList,o.dst with
   |[s,x],[t,tx],some d=>match ρ s,ρ x with
    |some bv,some sv=>X7 P tr t tx bv sv d C R K
    |_,_=>False
   |_,_,_=>False
  |.builtin _=>qA P gl o ρ Te (C++R) λav=>K av C Te
  |_=>qd2 P gl tr o ρ C R λav f=>K av f Te
 |.range t x=>match o.dst,ρ x with
  |some d,some av=>z2q P t av d C R K
  |_,_=>False
 |.next x true=>match ρ x with
  |some av=>qd4 av C R K
  |none=>False
 |_=>qA P gl o ρ Te (C++R) λav=>K av C Te
theorem toList_eq{α:Type}{x:Array α}{l:List α}(h:x.toList=l):x=l.toArray:=by have:=congrArg List.toArray h;simpa using this
theorem qhh(m:Fr.le gl M0){ρ:Operand->Option AV}{K:AV->CS->Option Nat->Prop}(H:hA0 P gl tr o ρ C R K)(I:Inv h0 W M0 (C++R) γ h)
  (O:∀f,σ (.func f)=.func (.func f) #[] #[]) (k:∀x av,ρ x=Td av->DenV γ av (σ x)):ExA P (execOp σ o) h (zb7 h0 W M0 R γ K):=by
 unfold hA0 at H;split at H;rename_i t i;split at H;exact z2l i H I;exact H.elim;rename_i t x i;split at H;rename_i d av y b;split at H;rename_i l A;exact qd3 i H I (zdu A (k _ _ b));exact H.elim;exact H.elim;rename_i t a x i;split at H;rename_i V U M z;split at H;rename_i l A;exact z2p i H I (zdu A (k _ _ z)) (k _ _ M);exact H.elim;exact H.elim;rename_i t n w i;split at H;rename_i d ps y u;exact zbp i u H I k;exact H.elim;rename_i s t x i;cases hq:isQ P o with
 |true=>rw[hq]at H;exact qd0 m H I k
 |false=>rw[hq]at H;simp only[cond_false]at H;split at H;rename_i av b;obtain⟨D,v,h1,G,N⟩:=zt6 i H I (k _ _ b);exact λB d=>.inl ⟨v,d,h,N B d,D,C,Te,γ,h1,G,I,Gx.refl _ _⟩;exact H.elim
 rename_i c i;split at H;rename_i J;split at H;rename_i s x t tx d p q y;split at H;rename_i bv sv L z;have E:=zlw (ty':=o.type) H I (k _ _ L) (k _ _ z);intro B e;obtain⟨v,Q,h',r,S⟩:=E B e;refine .inl ⟨v,Q,h',?_,S⟩;have F:execOp σ o=(Au c.argTypes o.type (c.args.map σ) >>= λx=>(Dn (Dr x):Sem Next)):=by simp only[execOp,i,resolve,J];rfl
 rw[F,toList_eq p,toList_eq q];refine Yc ?_;simpa using r;exact H.elim;exact H.elim;exact qd0 m H I k;exact z94 m H I O k;rename_i t x i;split at H;rename_i d av y b;exact z2r i H I (k _ _ b);exact H.elim;rename_i x i;split at H;rename_i av b;exact z96 i H I (k _ _ b);exact H.elim;exact qd0 m H I k
def hA(P:Program)(gl:Fr)(tr:TypeId)(o:Oper)(ρ:Operand->Option AV)(C R:CS)(K:AV->CS->Option Nat->Prop):Prop:=match qkm P o ρ (C++R)with
 |some (pol,n)=>∀b:Bool,(b=Ta->n=0)->K (.g (.a (.v (.bool (bif pol then b else !b))))) C Te
 |none=>hA0 P gl tr o ρ C R K
theorem qkn(b:Fr.le gl M0){ρ:Operand->Option AV}{K:AV->CS->Option Nat->Prop}(H:hA P gl tr o ρ C R K)(I:Inv h0 W M0 (C++R) γ h)
  (e:∀f,σ (.func f)=.func (.func f) #[] #[]) (c:∀x av,ρ x=Td av->DenV γ av (σ x)):ExA P (execOp σ o) h (zb7 h0 W M0 R γ K):=by
 unfold hA at H;split at H;rename_i k n i;exact qd6 i H I c;exact qhh b H I e c
def orA:Option AV->Option AV->Option AV
 |some v,_=>Td v
 |none,w=>w
def qko(b:Bool)(x y:AV):Option AV:=match exV x,exV y with
 |some u,some v=>Td (zy7 (z1g b u v))
 |_,_=>match x,y with
  |.g (.a (.d t xs)),.g (.a (.d t' ys))=>match Z2 t' t ys with
   |some ys=>Td (.g (.a (.d t (bif b then xs else ys))))
   |none=>Te
  |_,_=>Te
theorem z97{b:Bool}{x y z:AV}(h:qko b x y=Td z){u v:Value}(f:b=Ta->DenV γ x u)(c:b=Tc->DenV γ y v):DenV γ z (if b=Ta then u else v):=by
 unfold qko at h;split at h;rename_i p q m i;simp only[Ac]at h;subst h;have e:(if b=Ta then u else v)=z1g b p q:=by
  rw[zv7];cases b with
  |true=>simp only[if_true];exact zt2 m (f rfl)
  |false=>simp only[Bc,if_false];exact zt2 i (c rfl)
 rw[e];exact Ja γ _;split at h;rename_i t xs t' ys _;split at h;rename_i k l;simp only[Ac]at h;subst h;cases b with
 |true=>exact f rfl
 |false=>exact J9 l (c rfl)
 cases h;cases h
def z98(e:qg)(c:zx)(x a b:Operand)(K:AV->Prop):Prop:=
 match x with
 |.tmp s=>match zna e s with
  |some (cs,v)=>match zy8 v with
   |some t=>bif suf cs c then(match orA (zg1 e c a) (zg1 e ((s,Ta)::cs) a),orA (zg1 e c b) (zg1 e ((s,Tc)::cs) b)with
    |some va,some vb=>match qko t va vb with
     |some z=>K z
     |none=>False
    |_,_=>False)else False
   |none=>False
  |none=>False
 |_=>False
theorem Wh{e:qg}{x a b:Operand}{K:AV->Prop}(H:z98 e c x a b K):
  ∃z,K z/\∀(n:Nat) (γ:Gh) (f:Act),SatA n e γ f->valid (zy f) c->∃t,f.eval x=.bool t/\DenV γ z (if t=Ta then f.eval a else f.eval b):=by
 unfold z98 at H;split at H;rename_i s;split at H;rename_i cs v u;split at H;rename_i t y;cases hsf:suf cs c with
 |false=>rw[hsf]at H;exact H.elim
 |true=>rw[hsf]at H;simp only[cond_true]at H;split at H;rename_i B A i l;split at H;rename_i z r;refine⟨z,H,λn γ f k p=>?_⟩;have h:=Y3 hsf p;have m:zy f s=.bool t:=zik y ((k.all _ (Zs u)).1 h);refine⟨t,m,z97 r (λo=>?_) (λq=>?_)⟩;unfold orA at i;split at i;rename_i w _ h1;simp only[Ac]at i;subst i;exact zo k p h1;exact zo k (c:=(s,Ta)::cs) ⟨by rw[m,o],h⟩ i;unfold orA at l;split at l;rename_i w _ h1;simp only[Ac]at l;subst l;exact zo k p h1;exact zo k (c:=(s,Tc)::cs) ⟨by rw[m,q],h⟩ l;exact H.elim;exact H.elim
 exact H.elim;exact H.elim;exact H.elim
def opA(P:Program)(gl:Fr)(tr:TypeId)(o:Oper)(e:qg)(c:zx)(C R:CS)(K:AV->CS->Option Nat->Prop):Prop:=
 match o.op with
 |.pick x a b=>z98 e c x a b λav=>K av C Te
 |_=>match Wb e c with
  |some none=>hA P gl tr o (zg1 e c) C R K
  |some (Td b)=>bif zp3 o then zzc P gl tr o (zg1 e c) b (C++R) (λav=>K av C Te)else qA P gl o (zg1 e c) (Td b) (C++R) (λav=>K av C Te)
  |none=>False
theorem qd7(i:Fr.le gl M0){e:qg}{K:AV->CS->Option Nat->Prop}(H:opA P gl tr o e c C R K)(m:SatA n e γ a)(I:Inv h0 W M0 (C++R) γ h)(p:valid (zy a) c):
  ExA P (execOp a.eval o) h (zb7 h0 W M0 R γ K):=by
 have q:∀f,a.eval (.func f)=.func (.func f) #[] #[]:=λ_=>rfl;have l:∀x av,zg1 e c x=Td av->DenV γ av (a.eval x):=λx av A=>zo m p A;unfold opA at H;split at H;rename_i x y z M;obtain⟨av,h1,k⟩:=Wh H;obtain⟨t,u,s⟩:=k n γ a m p;refine λB d=>.inl ⟨_,d,h,?_,av,C,Te,γ,h1,s,I,Gx.refl _ _⟩;simp only[execOp,M,u,asBool,Sem.run_bind,Sem.run_pure,Result.andThen_ok];split at H;exact qkn i H I q l;rename_i b F;have r:=xh m F p;cases hic:zp3 o with
 |true=>rw[hic]at H;simp only[cond_true]at H;obtain⟨f,args,h1,k⟩:=(zb8 (h0:=h0) (W:=W) (M0:=M0) H).2 r i γ h a.eval I q l;refine λB d=>.inr (.inr ⟨f,args,h1 _,k.mono ?_⟩);rintro v h' ⟨av,γ',E,D,J,L,_⟩;exact⟨av,C,Te,γ',E,D,J,L⟩
 |false=>rw[hic]at H;simp only[cond_false]at H;obtain⟨av,h1,k⟩:=zhm (h0:=h0) (W:=W) (M0:=M0) i H;obtain⟨v,G,w⟩:=k r γ h a.eval I l;exact λB d=>.inl ⟨v,d,h,w B d,av,C,Te,γ,h1,G,I,Gx.refl _ _⟩
 exact H.elim
theorem qhi{e:qg}{K:AV->CS->Option Nat->Prop}(H:opA P gl tr o e c C R K)(h:SatA n e γ a)(i:¬valid (zy a) c):∃av,K av C Te:=by
 unfold opA at H;split at H;obtain⟨av,h1,_⟩:=Wh H;exact⟨av,h1⟩;split at H;rename_i l;have:=zb4 h l i;cases this;rename_i b k;have f:=zb4 h k i;simp only[Ac]at f;cases hic:zp3 o with
 |true=>rw[hic]at H;simp only[cond_true]at H;exact(zb8 (h0:=#[]) (W:=λ_=>False) (M0:=λ_=>Te) H).1 f
 |false=>rw[hic]at H;simp only[cond_false]at H;obtain⟨av,h1,_⟩:=zhm (h0:=#[]) (W:=λ_=>False) (M0:=gl) (Fr.le.refl _) H;exact⟨av,h1⟩
 exact H.elim
def GxS(S:List Nat)(γ γ':Gh):Prop:=Fr.le γ.M γ'.M/\∀i,i∉S->γ'.β i=γ.β i/\γ'.σ i=γ.σ i
theorem GxS.refl(S:List Nat)(γ:Gh):GxS S γ γ:=⟨Fr.le.refl _,λ_ _=>⟨rfl,rfl⟩⟩
theorem GxS.trans{a b c:Gh}(h:GxS S a b)(k:GxS S b c):GxS S a c:=⟨h.1.trans k.1,λi hi=>⟨(k.2 i hi).1.trans (h.2 i hi).1,(k.2 i hi).2.trans (h.2 i hi).2⟩⟩
theorem GxS.mono{S c:List Nat}{a b:Gh}(h:GxS S a b)(e:∀x∈S,x∈c):GxS c a b:=⟨h.1,λi hi=>h.2 i λf=>hi (e i f)⟩
def qjv(c:Option Nat)(d:Option Nat):Bool:=match c,d with
 |none,_=>Ta
 |some x,some y=>Nat.beq x y
 |some _,none=>Tc
theorem Gx.toS{c d:Option Nat}{γ γ':Gh}(g:Gx c γ γ')(h:qjv c d=Ta)(b:∀i,d=Td i->i∈S):GxS S γ γ':=by
 refine⟨g.1,λi hi=>g.2 i λe=>?_⟩;subst e;cases d with
 |none=>cases h
 |some y=>have:i=y:=Ak h;subst this;exact hi (b _ rfl)
def wRA(P:Program)(gl:Fr)(tr:TypeId)(n:Nat)(ops:Array Oper)(R:CS)(K:qg->CS->Prop):List Oper->qg->CS->Prop
 |[],e,C=>K (zgq e) C
 |o::rest,e,C=>match Yn ops e o.guard with
  |some c=>bif jh n c o.dst then opA P gl tr o e c C R (λav b i=>bif qjv i o.dst then wRA P gl tr n ops R K rest (z9t (zwf i e) o.dst c av) b else False)else False
  |none=>False
theorem zd1{P:Program}{gl:Fr}(s:Fr.le gl M0){tr:TypeId}{n:Nat}{ops:Array Oper}{R:CS}{K:qg->CS->Prop}{Q:Exit->Act->World->Prop}(B:World):
  ∀(l:List Oper) (e:qg) (C:CS) (γ:Gh) (h:zb) (a:Act) (d:Nat),wRA P gl tr n ops R K l e C->SatA n e γ a->Inv h0 W M0 (C++R) γ h -> (∀e' f γ' a' r h',SatA n e' γ' a'->Inv h0 W M0 (f++R) γ' h'->Same (wz l) a a'->GxS (wz l) γ γ'->K e' f->Q .normal a' (mk B r h'))->wpList P ops Q l a (mk B d h)
 |[],e,C,γ,h,a,d,H,hs,I,hQ=>hQ _ _ _ _ _ _ hs.clean I (Same.refl _ _) (GxS.refl _ _) H
 |o::rest,e,C,γ,h,a,d,H,hs,I,hQ=>by
  unfold wRA at H;split at H
  ·rename_i c L;cases hd:jh n c o.dst with
   |false=>rw[hd]at H;exact H.elim
   |true=>
    rw[hd]at H;simp only[cond_true]at H;have D:=xp hs L;have k:∀i,o.dst=Td i->i∈wz (o::rest):=λi hi=>by simp[wz,hi]
    have b:∀x∈wz rest,x∈wz (o::rest):=λx w=>by unfold wz;split;exact Ae _ w;exact w
    have m:∀av u r h' f i γ',(valid (zy a) c->DenV γ' av u)->(¬valid (zy a) c->u=undef)->Inv h0 W M0 (f++R) γ' h'->Gx i γ γ'->(bif qjv i o.dst then wRA P gl tr n ops R K rest (z9t (zwf i e) o.dst c av) f else False) ->
      wpList P ops Q rest (a.put o.dst u) (mk B r h'):=λav u r h' f i γ' h1 G F g t=>by
     cases hid:qjv i o.dst with
     |false=>rw[hid]at t;exact t.elim
     |true=>
      rw[hid]at t;exact zd1 s B rest _ _ _ _ _ _ t ((hs.gx g).putO hd h1 G) F λe' z y a' A h'' S V M Y U=>
       hQ e' z y a' A h'' S V ((Same.put a o.dst u k).trans (M.mono b)) ((g.toS hid k).trans (Y.mono b)) U
    unfold wpList;by_cases q:valid (zy a) c;rw[if_pos (D.2 q)];refine .inl ((qd7 s H hs I q).upon B d ?_);rintro v r h' ⟨av,f,i,γ',J,Z,N,O⟩;exact m av v r h' f i γ' (λ_=>Z) (λp=>absurd q p) N O J;rw[if_neg (λw=>q (D.1 w))];obtain⟨av,E⟩:=qhi H hs q;exact m av undef d h C Te γ (λp=>absurd p q) (λ_=>rfl) I (Gx.refl _ _) E
  exact H.elim
end
section
variable {cs C R:CS} {γ:Gh} {h:zb} {i:Nat} {e:TypeId} {t:Ty}
variable {h0 : zb} {W : Nat -> Prop} {M0 : Fr}
inductive Shp where
 |dat (t:Ty)
 |own (e:TypeId) (t:Ty)
 deriving DecidableEq
@[reducible] def DS:Shp->Type
 |.dat t=>El t
 |.own _ t=>List (El t)
inductive SG where
 |one (s:Shp)
 |agg (l:List Shp)
structure AnnA where
 slots:List (Nat×SG)
 boxes:List (Nat×List Shp)
 ro:List Nat
 ids:List Nat
abbrev Dy:=(s:Shp)×DS s
@[reducible] def zze:List Shp->Type->Type
 |[],X=>X
 |s::l,X=>DS s->zze l X
def qd8(s b:Shp)(x:DS s):Option (DS b):=if h:s=b then Td (h ▸ x)else Te
def z2t{X:Type}:(l:List Shp)->zze l X->(List Dy->X->Prop)->Prop
 |[],f,k=>k [] f
 |s::l,f,k=>∀x:DS s,z2t l (f x) λvs y=>k (⟨s,x⟩::vs) y
def zg3{X:Type}:(l:List Shp)->List Dy->zze l X->Option X
 |[],[],f=>Td f
 |s::l,d::ds,f=>match qd8 d.1 s d.2 with
  |some x=>zg3 l ds (f x)
  |none=>Te
 |_,_,_=>Te
def qhj{X:Type}:(l:List Shp)->(List Dy->X)->zze l X
 |[],f=>f []
 |s::l,f=>λx=>qhj l λvs=>f (⟨s,x⟩::vs)
def zqt{X Y:Type}:(l:List Shp)->zze l X->zze l Y->zze l (X×Y)
 |[],f,g=>(f,g)
 |_::l,f,g=>λx=>zqt l (f x) (g x)
theorem zwm{s b:Shp}{x:DS s}{y:DS b}(h:qd8 s b x=Td y):(⟨b,y⟩:Dy)=⟨s,x⟩:=by unfold qd8 at h;split at h;rename_i e;subst e;have h:=Az h;rw[<-h];cases h
theorem zly{X:Type}:∀{l:List Shp} {vs:List Dy} {f:zze l X} {x:X} {k:List Dy->X->Prop},zg3 l vs f=Td x->z2t l f k->k vs x
 |[],[],f,x,k,h,g=>by have h:=Az h;subst h;exact g
 |[],_::_,f,x,k,h,g=>by simp[zg3]at h
 |_::_,[],f,x,k,h,g=>by simp[zg3]at h
 |s::l,d::ds,f,x,k,h,g=>by simp only[zg3]at h;split at h;rename_i y b;have:=zly h (g y);rw[zwm b]at this;exact this;cases h
theorem zqu{X:Type}:∀{l:List Shp} {vs:List Dy} {f:List Dy->X} {x:X},zg3 l vs (qhj l f)=Td x->x=f vs
 |[],[],f,x,h=>(Az h).symm
 |[],_::_,f,x,h=>by simp[zg3]at h
 |_::_,[],f,x,h=>by simp[zg3]at h
 |s::l,d::ds,f,x,h=>by simp only[zg3,qhj]at h;split at h;rename_i y b;have:=zqu h;rw[zwm b]at this;exact this;cases h
theorem zqv{X:Type}:∀{l:List Shp} {f:List Dy->X} {k:List Dy->X->Prop},(∀vs,k vs (f vs))->z2t l (qhj l f) k
 |[],_,_,h=>h []
 |_::_,_,_,h=>λ_=>zqv λ_=>h _
structure Pl where
 id:Nat
 s:Shp
 a:AA
def plL(base:Nat):List Shp->List AA->Option (List Pl)
 |[],[]=>Td []
 |s::ss,a::as=>match plL (base+1) ss as with
  |some l=>Td (⟨base,s,a⟩::l)
  |none=>Te
 |_,_=>Te
def ziq(e:qg):List (Nat×SG)->Option (List Pl)
 |[]=>Td []
 |(i,sg)::l=>match zna e i,ziq e l with
  |some ([],.g x),some r=>match sg,x with
   |.one s,.a a=>Td (⟨100000+64*i,s,a⟩::r)
   |.agg ss,.agg as=>match plL (100000+64*i) ss as with
    |some q=>Td (q++r)
    |none=>Te
   |_,_=>Te
  |_,_=>Te
def zir(C:CS):List (Nat×List Shp)->Option (List Pl)
 |[]=>Td []
 |(c,ss)::l=>match Qv C c,zir C l with
  |some (.box as),some r=>match plL (1000000+64*c) ss as with
   |some q=>Td (q++r)
   |none=>Te
  |_,_=>Te
def qhk:SG->List Shp
 |.one s=>[s]
 |.agg l=>l
def zwn:List (Nat×SG)->List Shp
 |[]=>[]
 |(_,sg)::l=>qhk sg++zwn l
def z2u:List (Nat×List Shp)->List Shp
 |[]=>[]
 |(_,ss)::l=>ss++z2u l
def zcb(J:AnnA):List Shp:=zwn J.slots++z2u J.boxes
def zzf:List Pl->List Nat
 |[]=>[]
 |⟨_,.dat _,.own c⟩::l=>c::zzf l
 |_::l=>zzf l
def qhl(c:Nat):List Pl->Bool
 |[]=>Tc
 |p::l=>bif (bif Nat.beq p.id c then Ta else zy4 c p.a)then Ta else qhl c l
def znh(R:CS):List Pl->CS->Option CS
 |[],C=>Td C
 |p::l,C=>match p.s with
  |.dat _=>znh R l C
  |.own e t=>bif qhl p.id l then Te else(match p.a with
   |.own c=>match Qv C c with
    |some (.row e' t' xs)=>match Z2 (.row t') (.row t) xs with
     |some ys=>bif Nat.beq e e' then(bif Nat.beq c p.id then znh R l C else(bif qh p.id R then znh R l ((p.id,.row e t ys)::qk p.id (Wa c C))else Te))else Te
     |none=>Te
    |_=>Te
   |.v (.slice Te 0 0)=>bif qh p.id R then znh R l ((p.id,.row e t [])::qk p.id C)else Te
   |_=>Te)
theorem zlz(I:Inv h0 W M0 cs γ h){x y:Nat×Ch}(k:x∈cs)(f:y∈cs)(e:x≠y):∀b,blk γ x.1 x.2=Td b->blk γ y.1 y.2≠Td b:= @zds _ (λ(x y:Nat×Ch)=>∀b,blk γ x.1 x.2=Td b->blk γ y.1 y.2≠Td b) (λx y h b i c=>h b c i) _ I.apart _ _ k f e
theorem Inv.rename(I:Inv h0 W M0 (C++R) γ h){c i:Nat}(u:qh i R=Ta){xs:List (El t)}(s:(c,Ch.row e t xs)∈C):
  Inv h0 W M0 ((i,.row e t xs)::qk i (Wa c C)++R) (zt1 γ i (γ.σ c)) h:=by
 have m:(qk i (Wa c C)++R).Sublist (C++R):=(((wa i _).trans (wy c C))).append_right R;have f:(c,Ch.row e t xs)∈C++R:=As R s;have o:∀x∈qk i (Wa c C)++R,∀b,blk γ c (.row e t xs)=Td b->blk γ x.1 x.2≠Td b:=by
  intro x k b l q;have p:x≠(c,Ch.row e t xs):=by rintro rfl;rcases Ay.1 k with k|k;exact(Ym ((wa i _).subset k)).2 rfl;have n:=I.apart;rw[CO]at n;exact n.2.2 _ s _ k b l l
  exact zlz I (m.subset k) f p b q l
 have A:Inv h0 W M0 (qk i (Wa c C)++R) (zt1 γ i (γ.σ c)) h:= I.rest m (Z3 γ i _) (zb3 u) (λx k b l=>⟨rfl,(I.sep x (m.subset k) b l).2⟩) I.ag (λ_ _ _=>rfl) (Ab _) (λ_ _=>rfl);obtain⟨cells,h1,w,z,y⟩:=I.den _ f;have r:∀b,blk (zt1 γ i (γ.σ c)) i (.row e t xs)=Td b->blk γ c (.row e t xs)=Td b:=λb l=>by simpa[blk,qo]using l
 refine A.cons ⟨cells,by rw[qo];exact h1,w,z,by rw[qo];exact y⟩ (λb l=>I.sep _ f b (r b l)) (λb l x k e'=>?_);rw[zlq (Z3 γ i _) _ (zb3 u x k).1]at e';exact o x k b (r b l) e'
theorem Inv.nilRow(I:Inv h0 W M0 (C++R) γ h)(k:qh i R=Ta)(e:TypeId)(t:Ty):
  Inv h0 W M0 ((i,.row e t [])::qk i C++R) (zt1 γ i ⟨Te,0,0⟩) h:=by
 have c:=(wa i C).append_right R;have l:Inv h0 W M0 (qk i C++R) (zt1 γ i ⟨Te,0,0⟩) h:= I.rest c (Z3 γ i _) (zb3 k) (λx m b f=>⟨rfl,(I.sep x (c.subset m) b f).2⟩) I.ag (λ_ _ _=>rfl) (Ab _) (λ_ _=>rfl);refine l.cons ⟨[],by rw[qo];exact Owns.nil _ _ _ _,RowC.nil _ _,by simp,by rw[qo];rfl⟩ (λb f=>by simp[blk,qo]at f) (λb f=>by simp[blk,qo]at f)
theorem zwo{c:Nat}:∀{l:List Pl},qhl c l=Tc->∀p∈l,p.id≠c/\zy4 c p.a=Tc
 |[],_,p,b=>by cases b
 |q::l,h,p,b=>by
  simp only[qhl]at h;cases hq:(bif Nat.beq q.id c then Ta else zy4 c q.a)with
  |true=>rw[hq]at h;cases h
  |false=>
   rw[hq]at h;rcases Ah.1 b with rfl|b;cases hb:Nat.beq p.id c with
   |true=>rw[hb]at hq;cases hq
   |false=>rw[hb]at hq;exact⟨λe=>by rw[e]at hb;simp at hb,hq⟩
   exact zwo h p b
def zzg:List Pl->List Nat
 |[]=>[]
 |p::l=>p.id::zzg l
theorem zcc{R:CS}{h:zb}:∀{l:List Pl} {C A:CS} {γ:Gh},znh R l C=Td A->Inv h0 W M0 (C++R) γ h ->
  ∃f,Inv h0 W M0 (A++R) f h/\GxS (zzg l) γ f/\(f.M=γ.M/\f.β=γ.β)/\∀p∈l,∀e t,p.s=.own e t->∀u,DenA γ p.a u->DenA f (.own p.id) u
 |[],C,A,γ,hn,I=>by simp only[znh,Ac]at hn;subst hn;exact⟨γ,I,GxS.refl _ _,⟨rfl,rfl⟩,λp hp=>by cases hp⟩
 |p::l,C,A,γ,hn,I=>by
  have Y:∀{S:List Nat} {a b:Gh},GxS (zzg l) a b->GxS (zzg (p::l)) a b:=λg=>g.mono λx hx=>Ae _ hx;have m:∀s,GxS (zzg (p::l)) γ (zt1 γ p.id s):=λs=>⟨Fr.le.refl _,λi hi=>(Z3 γ p.id s).2 i (by simp only[zzg,Ah,not_or]at hi;intro e;simp only[Ac]at e;exact hi.1 e.symm)⟩;simp only[znh]at hn;split at hn;rename_i t V;obtain⟨f,Q,D,F,h1⟩:=zcc hn I;exact⟨f,Q,Y (S:=[]) D,F,λq r e t' n=>by rcases Ah.1 r with rfl|r;rw[V]at n;cases n;exact h1 q r e t' n⟩
  ·rename_i e t V;cases hm:qhl p.id l with
   |true=>rw[hm]at hn;cases hn
   |false=>
    rw[hm]at hn;simp only[cond_false]at hn;have B:=zwo hm;have fin:∀{H:CS} {o:Gh},znh R l H=Td A->Inv h0 W M0 (H++R) o h->GxS (zzg (p::l)) γ o->(o.M=γ.M/\o.β=γ.β)->(∀i,i≠p.id->o.σ i=γ.σ i/\o.β i=γ.β i)->(∀u,DenA γ p.a u->DenA o (.own p.id) u) ->
      ∃f,Inv h0 W M0 (A++R) f h/\GxS (zzg (p::l)) γ f/\(f.M=γ.M/\f.β=γ.β)/\∀q∈p::l,∀e t,q.s=.own e t->∀u,DenA γ q.a u->DenA f (.own q.id) u:=by
     intro H o P I2 g2 O z L;obtain⟨f,Q,D,F,h1⟩:=zcc P I2;refine⟨f,Q,g2.trans (Y (S:=[]) D),⟨F.1.trans O.1,F.2.trans O.2⟩,λq r e' t' n u k=>?_⟩;rcases Ah.1 r with rfl|r;have Z:=L u k;have J:q.id∉zzg l:=by
      intro hi;have:∀{l:List Pl},q.id∈zzg l->∃p∈l,p.id=q.id:=by
       intro l;induction l with
       |nil=>intro h;cases h
       |cons x l ih=>intro h;simp only[zzg,Ah]at h;rcases h with h|h;exact⟨x,Am,h.symm⟩;obtain⟨y,G,e⟩:=ih h;exact⟨y,Ae _ G,e⟩
      obtain⟨y,G,e⟩:=this hi;exact(B y G).1 e
     rw[show u=_ from Z];simp only[DenA,(D.2 _ J).2];refine h1 q r e' t' n u ?_;have gx:Gx (Td p.id) γ o:=⟨by rw[O.1];exact Fr.le.refl _,λi hi=>by have:=z i (λe=>hi (by rw[e]));exact⟨this.2,this.1⟩⟩;exact k.gx gx (B q r).2
    split at hn;rename_i c E;split at hn;rename_i e' t' xs hc;split at hn;rename_i ys w;obtain⟨e1,U⟩:=Q0 w;subst e1;simp only at U;subst U;cases hee:Nat.beq e e' with
    |false=>rw[hee]at hn;cases hn
    |true=>
     rw[hee]at hn;have:=Ak hee;subst this;simp only[cond_true]at hn;cases hci:Nat.beq c p.id with
     |true=>rw[hci]at hn;simp only[cond_true]at hn;have N:=Ak hci;exact fin hn I (GxS.refl _ _) ⟨rfl,rfl⟩ (λ_ _=>⟨rfl,rfl⟩) (λu k=>by rw[E,N]at k;exact k)
     |false=>
      rw[hci]at hn;simp only[cond_false]at hn;cases hR:qh p.id R with
      |false=>rw[hR]at hn;cases hn
      |true=>rw[hR]at hn;simp only[cond_true]at hn;refine fin hn (I.rename hR (zz hc)) (m _) ⟨rfl,rfl⟩ (λi hi=>?_) (λu k=>?_);have:=(Z3 γ p.id (γ.σ c)).2 i (by simp;exact λe=>hi e.symm);exact⟨this.2,this.1⟩;rw[E]at k;rw[show u=_ from k];simp only[DenA,qo]
    cases hn;cases hn;rename_i E;cases hR:qh p.id R with
    |false=>rw[hR]at hn;cases hn
    |true=>rw[hR]at hn;simp only[cond_true]at hn;refine fin hn (I.nilRow hR e t) (m _) ⟨rfl,rfl⟩ (λi hi=>?_) (λu k=>?_);have:=(Z3 γ p.id ⟨Te,0,0⟩).2 i (by simp;exact λe=>hi e.symm);exact⟨this.2,this.1⟩;rw[E]at k;rw[show u=_ from k];simp only[DenA,qo];rfl
    cases hn
def qhm(b cs:CS)(p:Pl):Option Dy:=match p.s with
 |.dat t=>match zkr b t p.a with
  |some x=>Td ⟨.dat t,x⟩
  |none=>Te
 |.own e t=>match Qv cs p.id with
  |some (.row e' t' xs)=>match Z2 (.row t') (.row t) xs with
   |some ys=>bif Nat.beq e e' then Td ⟨.own e t,ys⟩else Te
   |none=>Te
  |_=>Te
def zzh(b cs:CS):List Pl->Option (List Dy)
 |[]=>Td []
 |p::l=>match qhm b cs p,zzh b cs l with
  |some d,some v=>Td (d::v)
  |_,_=>Te
def qjw(i:Nat):Dy->AA
 |⟨.dat t,x⟩=>match Y8 t x with
  |[a]=>a
  |_=>.v undef
 |⟨.own _ _,_⟩=>.own i
def qjx:Nat->List Dy->List AA
 |_,[]=>[]
 |i,d::l=>qjw i d::qjx (i+1) l
def qgn(i:Nat):Dy->CS
 |⟨.own e t,xs⟩=>[(i,.row e t xs)]
 |_=>[]
def zzi:Nat->List Dy->CS
 |_,[]=>[]
 |i,d::l=>qgn i d++zzi (i+1) l
theorem zwp{x:El t}{u:Value}(h:Rd γ.M t x [u]):DenA γ (qjw i ⟨.dat t,x⟩) u:=by
 have b:=xg (γ:=γ) h;unfold qjw
 match hx:Y8 t x,b with
 |[a],b=>simp only[hx];exact b.1
 |[],b=>exact b.elim
 |_::_::_,b=>exact b.2.elim
theorem zzj{t':Ty}{xs:List (El t')}{ys:List (El t)}(h:Z2 (.row t') (.row t) xs=Td ys):Ch.row e t' xs=Ch.row e t ys:=by obtain⟨c,b⟩:=Q0 h;subst c;simp only at b;rw[b]
theorem zqw{b cs:CS}{p:Pl}{l:List Pl}{v:List Dy}(h:zzh b cs (p::l)=Td v):∃d w,v=d::w/\zzh b cs l=Td w /\
  ((∃t x,p.s=.dat t/\d=⟨.dat t,x⟩/\zkr b t p.a=Td x)\/(∃e t xs,p.s=.own e t/\d=⟨.own e t,xs⟩/\(p.id,Ch.row e t xs)∈cs)):=by
 simp only[zzh]at h;split at h;rename_i d w h1 k;have h:=Az h;refine⟨d,w,h.symm,k,?_⟩;unfold qhm at h1;split at h1;rename_i t c;split at h1;rename_i y f;exact .inl ⟨t,y,c,(Az h1).symm,f⟩;cases h1;rename_i e t c;split at h1;rename_i e' t' xs i;split at h1;rename_i ys m;cases he:Nat.beq e e' with
 |false=>rw[he]at h1;cases h1
 |true=>rw[he]at h1;refine .inr ⟨e,t,ys,c,(Az (show Td (⟨.own e t,ys⟩:Dy)=Td d from h1)).symm,?_⟩;have:=zz i;rw[zzj m,<-Ak he]at this;exact this
 cases h1;cases h1;cases h
theorem Wi{b cs:CS}:∀{q r:List Pl} {v:List Dy},zzh b cs (q++r)=Td v->∃c e,v=c++e/\c.length=q.length/\zzh b cs q=Td c/\zzh b cs r=Td e
 |[],r,v,h=>⟨[],v,rfl,rfl,rfl,h⟩
 |p::q,r,v,h=>by simp only[AD,zzh]at h;split at h;rename_i d w h1 l;have h:=Az h;obtain⟨c,e,rfl,i,f,k⟩:=Wi l;exact⟨d::c,e,by rw[<-h];rfl,by simp[i],by simp only[zzh,h1,f],k⟩;cases h
theorem zqx{base:Nat}:∀{ss:List Shp} {b:List AA} {l:List Pl},plL base ss b=Td l->l.length=ss.length/\∀{γ n:Gh} {f c:CS} {v:List Dy} {us:List Value},z9e γ f->n.M=γ.M->zzh f c l=Td v ->
   (∀p∈l,∀e t,p.s=.own e t->∀u,DenA γ p.a u->DenA n (.own p.id) u)->All2 (DenA γ) b us->All2 (DenA n) (qjx base v) us/\∀x∈zzi base v,x∈c:=by
 intro ss;induction ss generalizing base with
 |nil=>
  intro b l h;cases b with
  |nil=>
   simp only[plL,Ac]at h;subst h;refine⟨rfl,λq o m r k=>?_⟩;have m:=Az m;subst m;refine⟨?_,λx H=>by cases H⟩;rename_i us;cases us with
   |nil=>trivial
   |cons _ _=>exact k.elim
  |cons a b=>simp[plL]at h
 |cons s ss z=>
  intro b l h;cases b with
  |nil=>simp[plL]at h
  |cons a b=>
   simp only[plL]at h;split at h;rename_i N I;simp only[Ac]at h;subst h;obtain⟨J,z⟩:=z I;refine⟨by simp[J],λ {γ n f c v us} q o m r k=>?_⟩;obtain⟨d,w,rfl,E,G⟩:=zqw m;cases us with
   |nil=>exact k.elim
   |cons u us=>obtain⟨C,A⟩:=z q o E (λp L=>r p (Ae _ L)) k.2;rcases G with⟨t,x,B,rfl,F⟩|⟨e,t,xs,B,rfl,D⟩;have:=jz q F k.1;rw[<-o]at this;refine⟨⟨zwp this,C⟩,λy i=>A y ?_⟩;simpa[zzi,qgn]using i;refine⟨⟨r _ Am e t B u k.1,C⟩,λy i=>?_⟩;simp only[zzi,qgn,AD,A5,Ah]at i;rcases i with rfl|i;exact D;exact A y i
   cases h
def zcd:List (Nat×SG)->List Dy->qg
 |[],_=>[]
 |(i,.one _)::l,d::ds=>(i,[],.g (.a (qjw (100000+64*i) d)))::zcd l ds
 |(_,.one _)::_,[]=>[]
 |(i,.agg ss)::l,ds=>(i,[],.g (.agg (qjx (100000+64*i) (ds.take ss.length))))::zcd l (ds.drop ss.length)
def Wj:List (Nat×SG)->List Dy->CS
 |[],_=>[]
 |(i,.one _)::l,d::ds=>qgn (100000+64*i) d++Wj l ds
 |(_,.one _)::_,[]=>[]
 |(i,.agg ss)::l,ds=>zzi (100000+64*i) (ds.take ss.length)++Wj l (ds.drop ss.length)
def zni:List (Nat×List Shp)->List Dy->CS
 |[],_=>[]
 |(c,ss)::l,ds=>(c,.box (qjx (1000000+64*c) (ds.take ss.length)))::(zzi (1000000+64*c) (ds.take ss.length)++zni l (ds.drop ss.length))
def zt7:List (Nat×SG)->Nat
 |[]=>0
 |(_,.one _)::l=>1+zt7 l
 |(_,.agg ss)::l=>ss.length+zt7 l
def qce(J:AnnA)(b:List Dy):qg:=zcd J.slots b
def chJ(J:AnnA)(b:List Dy):CS:=Wj J.slots b++zni J.boxes (b.drop (zt7 J.slots))
theorem Wk{e:qg}{n:Nat}{a:Act}:∀{ss:List (Nat×SG)} {l:List Pl},ziq e ss=Td l->l.length=zt7 ss/\∀{γ z:Gh} {k f:CS} {v w:List Dy},SatA n e γ a->z9e γ k->z.M=γ.M->zzh k f l=Td v ->
   (∀p∈l,∀e t,p.s=.own e t->∀u,DenA γ p.a u->DenA z (.own p.id) u)->(∀x∈zcd ss (v++w),znb z (zy a) x)/\∀x∈Wj ss (v++w),x∈f
 |[],l,h=>by simp only[ziq,Ac]at h;subst h;refine⟨rfl,λ_ _ _ m _=>?_⟩;have m:=Az m;subst m;exact⟨λx N=>(by cases N),λx N=>(by cases N)⟩
 |(i,sg)::ss,l,h=>by
  simp only[ziq]at h;split at h;rename_i x r Y S;split at h;rename_i s aa;simp only[Ac]at h;subst h;obtain⟨O,Q⟩:=Wk (n:=n) (a:=a) S;refine⟨by simp[O,zt7];omega,λ {γ z k f v w} B E A m G=>?_⟩;obtain⟨d,v',rfl,h2,h3⟩:=zqw m;obtain⟨I,H⟩:=Q (w:=w) B E A h2 (λp o=>G p (Ae _ o));have c:DenA γ aa (zy a i):=(B.all _ (Zs Y)).1 trivial;rcases h3 with⟨t,x,C,rfl,hc⟩|⟨e',t,xs,C,rfl,hm⟩;have:=jz E hc c;rw[<-A]at this;refine⟨λy b=>?_,λy b=>?_⟩;simp only[AD,zcd,Ah]at b;rcases b with rfl|b;exact⟨λ_=>zwp this,λD=>absurd trivial D⟩;exact I y b;simp only[AD,Wj,qgn,A5]at b;exact H y b;refine⟨λy b=>?_,λy b=>?_⟩;simp only[AD,zcd,Ah]at b;rcases b with rfl|b;exact⟨λ_=>G _ Am e' t C _ c,λD=>absurd trivial D⟩;exact I y b;simp only[AD,Wj,qgn,A5,Ah]at b;rcases b with rfl|b;exact hm;exact H y b;rename_i F as;split at h;rename_i q Z;simp only[Ac]at h;subst h;obtain⟨O,Q⟩:=Wk (n:=n) (a:=a) S;obtain⟨J,o⟩:=zqx Z;refine⟨by simp[O,J,zt7],λ {γ z k f v w} B E A m G=>?_⟩;obtain⟨P,L,rfl,U,d1,d2⟩:=Wi m;obtain⟨I,H⟩:=Q (w:=w) B E A d2 (λp o=>G p (AC _ o));obtain⟨us,hu,c⟩:=(show ∃us,zy a i=.agg us.toArray/\All2 (DenA γ) as us from(B.all _ (Zs Y)).1 trivial);obtain⟨p1,p2⟩:=o E A d1 (λp o=>G p (As _ o)) c;have et:(P++L++w).take F.length=P:=by rw[<-J,<-U,AF,CQ]
  have V:(P++L++w).drop F.length=L++w:=by rw[<-J,<-U,AF,DR]
  refine⟨λy b=>?_,λy b=>?_⟩;simp only[zcd,et,V,Ah]at b;rcases b with rfl|b;exact⟨λ_=>⟨us,hu,p1⟩,λD=>absurd trivial D⟩;exact I y b;simp only[Wj,et,V,Ay]at b;rcases b with b|b;exact p2 y b;exact H y b;cases h;cases h;cases h
theorem zd2{w:CS}:∀{bs:List (Nat×List Shp)} {l:List Pl},zir w bs=Td l->∀{R:CS} {γ m:Gh} {i f:CS} {v:List Dy} {h:zb},Inv h0 W M0 (w++R) γ h->z9e γ i->m.M=γ.M->m.β=γ.β->zzh i f l=Td v -> (∀p∈l,∀e t,p.s=.own e t->∀u,DenA γ p.a u->DenA m (.own p.id) u) ->
   ∀x∈zni bs v,x∈f\/(DenC h0.size m h x.1 x.2/\(∃n,(x.1,Ch.box n)∈w)/\(∃n,x.2=Ch.box n)/\∃ss,(x.1,ss)∈bs)
 |[],l,b,R,γ,m,i,f,v,h,I,hf,hM,hβ,hd,ho,x,k=>by cases k
 |(c,ss)::bs,l,b,R,γ,m,i,f,v,h,I,hf,hM,hβ,hd,ho,x,k=>by
  simp only[zir]at b;split at b;rename_i n r C E;split at b;rename_i q G;simp only[Ac]at b;subst b;obtain⟨B,z⟩:=zqx G;obtain⟨A,y,rfl,D,P,d2⟩:=Wi hd;obtain⟨us,F,o⟩:=I.den _ (As R (zz C));obtain⟨J,S⟩:=z hf hM P (λp b=>ho p (As _ b)) o;have et:(A++y).take ss.length=A:=by rw[<-B,<-D,CQ]
  have L:(A++y).drop ss.length=y:=by rw[<-B,<-D,DR]
  simp only[zni,et,L,Ah,Ay]at k;rcases k with rfl|k|k;exact .inr ⟨⟨us,by rw[hβ];exact F,J⟩,⟨n,zz C⟩,⟨_,rfl⟩,ss,Am⟩;exact .inl (S x k);rcases zd2 E I hf hM hβ d2 (λp b=>ho p (AC _ b)) x k with h1|⟨h1,H,O,Q,N⟩;exact .inl h1;exact .inr ⟨h1,H,O,Q,Ae _ N⟩;cases b;cases b
def zis(C:CS):List (Nat×List Shp)->Bool
 |[]=>Ta
 |(c,_)::l=>match Qv C c with
  |some (.box _)=>zis C l
  |_=>Tc
theorem zit{C:CS}:∀{l:List (Nat×List Shp)},zis C l=Ta->∀c ss,(c,ss)∈l->∃b,(c,Ch.box b)∈C
 |[],_,c,ss,h=>by cases h
 |(c',ss')::l,hb,c,ss,h=>by simp only[zis]at hb;split at hb;rename_i b e;rcases Ah.1 h with h|h;cases h;exact⟨b,zz e⟩;exact zit hb c ss h;cases hb
def zzk:CS->Bool
 |[]=>Ta
 |(c,_)::l=>bif z2n c l then zzk l else Tc
theorem zl0:∀{l:CS},zzk l=Ta->l.Pairwise λx y=>x.1≠y.1
 |[],_=>.nil
 |(c,k)::l,h=>by
  simp only[zzk]at h;cases hn:z2n c l with
  |false=>rw[hn]at h;cases h
  |true=>rw[hn]at h;exact Be.2 ⟨λy b e=>za6 hn y b e.symm,zl0 h⟩
def allIn(S:List Nat):List Nat->Bool
 |[]=>Ta
 |i::l=>bif memN S i then allIn S l else Tc
theorem zqy{l:List Nat}(h:memN l i=Ta):i∈l:=by
 induction l with
 |nil=>cases h
 |cons j l b=>
  simp only[memN]at h;cases hb:Nat.beq i j with
  |true=>rw[Ak hb];exact Am
  |false=>rw[hb]at h;exact Ae _ (b h)
theorem zqz{S:List Nat}:∀{l:List Nat},allIn S l=Ta->∀i∈l,i∈S
 |[],_,i,h=>by cases h
 |j::l,hl,i,h=>by
  simp only[allIn]at hl;cases hm:memN S j with
  |false=>rw[hm]at hl;cases hl
  |true=>rw[hm]at hl;rcases Ah.1 h with rfl|h;exact zqy hm;exact zqz hl i h
theorem Inv.pick{C F R:CS}(I:Inv h0 W M0 (C++R) γ h)(hnd:zzk F=Ta)(hsrc:∀x∈F,DenC h0.size γ h x.1 x.2/\∃k,(x.1,k)∈C/\blk γ x.1 k=blk γ x.1 x.2):Inv h0 W M0 (F++R) γ h where
 ag:=I.ag
 frame:=I.frame
 size:=I.size
 old:=I.old
 le:=I.le
 den:=λx hx=>by rcases Ay.1 hx with hx|hx;exact(hsrc x hx).1;exact I.den x (AC _ hx)
 sep:=λx hx b hb=>by rcases Ay.1 hx with hx|hx;obtain⟨_,k,hk,e⟩:=hsrc x hx;exact I.sep _ (As _ hk) b (by rw[e];exact hb);exact I.sep x (AC _ hx) b hb
 apart:=by have hI:=I.apart;rw[CO]at hI ⊢;refine⟨(zl0 hnd).imp_of_mem λ {x y} hx hy hne b hb hb'=>?_,hI.2.1,λx hx y hy b hb=>?_⟩;obtain⟨_,k,hk,e⟩:=hsrc x hx;obtain⟨_,k',hk',e'⟩:=hsrc y hy;exact zlz I (As R hk) (As R hk') (λe2=>hne (Prod.mk.inj e2).1) b (by rw[e];exact hb) (by rw[e'];exact hb');obtain⟨_,k,hk,e⟩:=hsrc x hx;exact hI.2.2 _ hk y hy b (by rw[e];exact hb)
def xtr(J:AnnA)(R:CS)(e:qg)(C:CS):Option (List Dy):=
 match ziq e J.slots,zir C J.boxes with
 |some ps,some pb=>match zir (frzL (zzf (ps++pb)) C) J.boxes with
  |some b=>match znh R (ps++b) (frzL (zzf (ps++pb)) C)with
   |some c=>bif zis c J.boxes then(bif allIn J.ids (zzg (ps++b))then(match zzh (frzL (zzf (ps++pb)) C++R) c (ps++b)with
    |some f=>bif zzk (chJ J f)then Td f else Te
    |none=>Te)else Te)else Te
   |none=>Te
  |none=>Te
 |_,_=>Te
theorem ziu{J:AnnA}{e:qg}{o:List Dy}(b:xtr J R e C=Td o){n:Nat}{a:Act}(O:SatA n e γ a)(I:Inv h0 W M0 (C++R) γ h):
  ∃c,Inv h0 W M0 (chJ J o++R) c h/\GxS J.ids γ c/\∀x∈qce J o,znb c (zy a) x:=by
 unfold xtr at b;split at b
 ·rename_i ps U r L;split at b
  ·rename_i u k;split at b
   ·rename_i M E;cases hbi:zis M J.boxes with
    |false=>rw[hbi]at b;cases b
    |true=>
    rw[hbi]at b;cases hai:allIn J.ids (zzg (ps++u))with
    |false=>rw[hai]at b;cases b
    |true=>
    rw[hai]at b;simp only[cond_true]at b;split at b
    ·rename_i f B;cases hnd:zzk (chJ J f)with
     |false=>rw[hnd]at b;cases b
     |true=>
     rw[hnd]at b;have b:=Az (show Td f=Td o from b);subst b;obtain⟨γ0,l,s⟩:=Inv.frzL (C:=C) (γ:=γ) (zzf (ps++U)) I;have z:=O.gx0 s;obtain⟨c,A,H,⟨F,hβ⟩,G⟩:=zcc E l;obtain⟨v1,t,rfl,P,d1,d2⟩:=Wi B;obtain⟨e1,q⟩:=Wk (n:=n) (a:=a) r;obtain⟨f1,S⟩:=q (w:=t) z l.fz F d1 (λp D=>G p (As _ D));have y:=zd2 k l l.fz F hβ d2 (λp D=>G p (AC _ D));have Q:(v1++t).drop (zt7 J.slots)=t:=by rw[<-e1,<-P,DR]
     have V:GxS J.ids γ c:=⟨s.1.trans H.1,λi hi=>by have m:=H.2 i (λN=>hi (zqz hai i N));have h1:=s.2 i (by simp);exact⟨m.1.trans h1.1,m.2.trans h1.2⟩⟩;refine⟨c,A.pick hnd λx b=>?_,V,f1⟩;unfold chJ at b;rw[Q]at b;rcases Ay.1 b with b|b;have:=S x b;exact⟨A.den x (As _ this),x.2,this,rfl⟩;rcases y x b with h1|⟨h1,_,⟨as,m⟩,ss,Z⟩;exact⟨A.den x (As _ h1),x.2,h1,rfl⟩;obtain⟨aa,Y⟩:=zit hbi _ _ Z;exact⟨h1,_,Y,by rw[m];rfl⟩
    cases b
   cases b
  cases b
 cases b
theorem z2v{α:Type}{R:α->α->Prop}(o:∀x y,R x y->R y x){l f:List α}(p:l.Perm f):l.Pairwise R->f.Pairwise R:=by
 induction p with
 |nil=>exact id
 |cons x p n=>intro h;rw[Be]at h ⊢;exact⟨λy k=>h.1 y (p.symm.subset k),n h.2⟩
 |swap x y l=>intro h;simp only[Be,Ah]at h ⊢;obtain⟨h1,m,i⟩:=h;exact⟨λz b=>by rcases b with rfl|b;exact o _ _ (h1 _ (.inl rfl));exact m z b,λz b=>h1 z (.inr b),i⟩
 |trans _ _ c e=>exact λh=>e (c h)
theorem Inv.perm{cs cs':CS}(I:Inv h0 W M0 cs γ h)(p:cs.Perm cs'):Inv h0 W M0 cs' γ h where
 ag:=I.ag
 frame:=I.frame
 size:=I.size
 old:=I.old
 le:=I.le
 den:=λx hx=>I.den x (p.symm.subset hx)
 sep:=λx hx=>I.sep x (p.symm.subset hx)
 apart:=z2v (λx y h b hb hb'=>h b hb' hb) p I.apart
end
section
variable {P:Program} {gl:Fr}
variable {h0 : zb} {W : Nat -> Prop} {M0 : Fr}
def z99(P:Program)(gl:Fr)(o:Oper)(e:qg)(c:zx)(cs:CS)(K:AV->Prop):Prop:=
 match o.op with
 |.pick x a b=>z98 e c x a b K
 |_=>match Wb e c with
  |some g=>qA P gl o (zg1 e c) g cs K
  |none=>False
def wQA(P:Program)(gl:Fr)(n:Nat)(ops:Array Oper)(cs:CS)(K:qg->Prop):List Oper->qg->Prop
 |[],e=>K e
 |o::rest,e=>match Yn ops e o.guard with
  |some c=>bif jh n c o.dst then z99 P gl o e c cs λv=>wQA P gl n ops cs K rest (z9t e o.dst c v)else False
  |none=>False
theorem zl1(k:Fr.le gl M0){o:Oper}{e:qg}{c:zx}{cs:CS}{K:AV->Prop}(H:z99 P gl o e c cs K):∃av,K av/\∀(n:Nat) (γ:Gh) (a:Act) (h:zb),SatA n e γ a->Inv h0 W M0 cs γ h->valid (zy a) c->∃v,DenV γ av v/\QExec P (execOp a.eval o) h (.value v):=by unfold z99 at H;split at H;rename_i x y z r;obtain⟨av,h1,i⟩:=Wh H;refine⟨av,h1,λn γ a h b I f=>?_⟩;obtain⟨t,m,l⟩:=i n γ a b f;refine⟨_,l,λB d=>?_⟩;simp only[execOp,r,m,asBool,Sem.run_bind,Sem.run_pure,Result.andThen_ok];split at H;rename_i g q;obtain⟨av,h1,i⟩:=zhm (h0:=h0) (W:=W) (M0:=M0) k H;exact⟨av,h1,λn γ a h b I f=>i (xh b q f) γ h a.eval I λx av p=>zo b f p⟩;exact H.elim
theorem ziv{P:Program}{gl:Fr}(m:Fr.le gl M0){n:Nat}{ops:Array Oper}{cs:CS}{K:qg->Prop}{Q:Act->Prop}{γ:Gh}{h:zb}(I:Inv h0 W M0 cs γ h)(B:World)(d:Nat):
  ∀(l:List Oper) (e:qg) (a:Act),wQA P gl n ops cs K l e->SatA n e γ a->(∀e' a',SatA n e' γ a'->Same (wz l) a a'->K e'->Q a')->wpStill P ops (mk B d h) Q l a
 |[],e,a,H,hs,hQ=>hQ _ _ hs (Same.refl _ _) H
 |o::rest,e,a,H,hs,hQ=>by
  unfold wQA at H;split at H;rename_i c z;cases hd:jh n c o.dst with
  |false=>rw[hd]at H;exact H.elim
  |true=>
   rw[hd]at H;simp only[cond_true]at H;have t:=xp hs z;have q:∀i,o.dst=Td i->i∈wz (o::rest):=λi hi=>by simp[wz,hi]
   have k:∀x∈wz rest,x∈wz (o::rest):=λx r=>by unfold wz;split;exact Ae _ r;exact r
   obtain⟨av,y,w⟩:=zl1 (h0:=h0) (W:=W) (M0:=M0) m H;have b:∀u,(valid (zy a) c->DenV γ av u)->(¬valid (zy a) c->u=undef)->wpStill P ops (mk B d h) Q rest (a.put o.dst u):=λu h1 s=>
    ziv m I B d rest _ _ y (hs.putO hd h1 s) λe' a' C D A=>hQ e' a' C ((Same.put a o.dst u q).trans (D.mono k)) A
   unfold wpStill;by_cases p:valid (zy a) c;rw[if_pos (t.2 p)];unfold Oper.still;obtain⟨v,h1,s⟩:=w n γ a h hs I p;rw[s B d,Oper.stillUpon_value];exact b v (λ_=>h1) (λf=>absurd p f);rw[if_neg (λr=>p (t.1 r))];exact b undef (λf=>absurd f p) (λ_=>rfl)
  exact H.elim
abbrev z2w:=List (Nat×Nat)
def zt8(P:Program)(gl:Fr)(tr:TypeId)(n:Nat)(c:z2w)(id:Nat)(ops:Array Oper)(b:Bool)(R:CS)(K:qg->CS->Prop)(e:qg)(C:CS):Prop:=
 bif b then(match z1q c id with
  |none=>bif Region.lexB .any ops then wQA P gl n ops (C++R) (λe'=>K (zgq e') C) ops.toList e else False
  |some m=>bif Region.lexTailB .any ops m then wQA P gl n ops (C++R) (λe'=>wRA P gl tr n ops R K (ops.toList.drop m) e' C) (ops.toList.take m) e else False)
 else wRA P gl tr n ops R K ops.toList e C
theorem znj(A:P.follows .mixedOrders=Ta)(f:Fr.le gl M0){tr:TypeId}{n:Nat}{G:z2w}{id:Nat}{ops:Array Oper}{c:Bool}{R C:CS}{K:qg->CS->Prop}{e:qg} (H:zt8 P gl tr n G id ops c R K e C) {γ:Gh} {h:zb} (B:World) (d:Nat) {a:Act} (p:SatA n e γ a) (I:Inv h0 W M0 (C++R) γ h) {Q:Exit->Act->World->Prop}
  (z:∀e' D γ' a' N h',SatA n e' γ' a'->Inv h0 W M0 (D++R) γ' h'->Same (wz ops.toList) a a'->GxS (wz ops.toList) γ γ'->K e' D->Q .normal a' (mk B N h')):(Ek id ops c).wp P Q a (mk B d h):=by
 unfold zt8 at H;cases c with
 |false=>exact wp_region_list (zd1 f B _ _ _ _ _ _ _ H p I z)
 |true=>
  simp only[cond_true]at H;split at H;cases hB:Region.lexB .any ops with
  |false=>rw[hB]at H;exact H.elim
  |true=>rw[hB]at H;refine wp_region_still A hB ?_;exact ziv f I B (d+1) _ _ _ H p λe' a' t u k=>z _ _ _ _ _ _ t.clean I u (GxS.refl _ _) k
  rename_i m _;cases hB:Region.lexTailB .any ops m with
  |false=>rw[hB]at H;exact H.elim
  |true=>
   rw[hB]at H;have b:wz ops.toList=wz (ops.toList.take m)++wz (ops.toList.drop m):=by rw[<-Qs,Cb]
   have:=wp_region_still_tail (id:=id) (Q:=Q) (a:=a) (w:=mk B d h) (l:=ops.toList) m A (by simpa using hB) (by simp only[Array.toArray_toList];refine ziv f I B (d+1) _ _ _ H p λe' a' t u k=>?_;refine zd1 f B _ _ _ _ _ _ (d+1) k t I λq s o r y h'' L J E M F=>z q s o r y h'' L J ?_ ?_ F;rw[b];exact(u.mono λx i=>As _ i).trans (E.mono λx i=>AC _ i);rw[b];exact M.mono λx i=>AC _ i);simpa using this
end
section
variable {P:Program} {t tr tx:TypeId} {n d m i id:Nat} {cs R C:CS} {γ:Gh} {h:zb} {o:Oper} {sv:AV} {gl:Fr} {c:zx} {ops:Array Oper} {pu ord:List Nat} {listed pl:Array Bool} {a:Act}
variable {h0 : zb} {W : Nat -> Prop} {M0 : Fr}
structure It where
 k:Nat
 dst:Option Nat
 ch:zx
 av:AV
 nb:Option (Nat×Ch)
 us:Option Nat:=Te
def itE:List It->qg
 |[]=>[]
 |i::l=>match i.dst with
  |some s=>(s,i.ch,i.av)::itE l
  |none=>itE l
def itC:List It->CS
 |[]=>[]
 |i::l=>match i.nb with
  |some b=>b::itC l
  |none=>itC l
theorem X8{x:Nat×zx×AV}:∀{l:List It},x∈itE l↔∃i∈l,i.dst=Td x.1/\i.ch=x.2.1/\i.av=x.2.2
 |[]=>by simp[itE]
 |i::l=>by simp only[itE];split;rename_i s f;rw[Ah,X8 (l:=l)];constructor;rintro(rfl|⟨j,b,h⟩);exact⟨i,Am,f,rfl,rfl⟩;exact⟨j,Ae _ b,h⟩;rintro⟨j,b,h1,e,c⟩;rcases Ah.1 b with rfl|b;left;rw[f]at h1;cases h1;rw[e,c];exact .inr ⟨j,b,h1,e,c⟩;rename_i f;rw[X8 (l:=l)];constructor;rintro⟨j,b,h⟩;exact⟨j,Ae _ b,h⟩;rintro⟨j,b,h1,e,c⟩;rcases Ah.1 b with rfl|b;rw[f]at h1;cases h1;exact⟨j,b,h1,e,c⟩
def Xd(S:List Nat):qg->qg
 |[]=>[]
 |(i,c,v)::e=>bif memN S i then(i,c,v)::Xd S e else Xd S e
theorem Je{S:List Nat}{x:Nat×zx×AV}:∀{e:qg},x∈Xd S e->x∈e/\x.1∈S
 |[],h=>by cases h
 |(i,c,v)::e,h=>by
  simp only[Xd]at h;cases hm:memN S i with
  |true=>rw[hm]at h;rcases Ah.1 h with rfl|h;exact⟨Am,zqy hm⟩;exact⟨Ae _ (Je h).1,(Je h).2⟩
  |false=>rw[hm]at h;exact⟨Ae _ (Je h).1,(Je h).2⟩
def qkp(P:Program)(tr:TypeId)(t:TypeId)(n:Nat)(ps:List (Nat×AV))(cs:CS)(K:AV->Prop):Prop:=
 match z9x P t with
 |some el=>match qcc P tr 8 el,zfp P el (n*qi P el)with
  |some ty,some zs=>bif Nat.beq (qi P el) (sz ty)then(bif Nat.ble (n*qi P el) 16777216 then(bif Nat.blt 0 (qi P el)then(match zqn (λi=>Td (i*qi P el,qi P el)) (zs.map .v) ps with
   |some r=>match Wd cs ty n r with
    |some (ys,[])=>K (.g (.a (.dc ty ys)))
    |_=>False
   |none=>False)else False)else False)else False
  |_,_=>False
 |none=>False
theorem zks{t el:TypeId}(s:P.underlying t=Td (.slice el))(m:qb P el=Ta)(u:n*qi P el<=16777216){l:List Value}(b:zfp P el (n*qi P el)=Td l){ps:Array (Nat×Value)}{c1:List Value} (p:Ew (λi=>Td (i*qi P el,qi P el)) l.toArray ps.toList=Td c1.toArray) (B:World) (e:Nat) (h:zb):
  (Instr.buildSlice t n ps).run P (mk B e h)=.ok (.slice (Td ⟨h.size,0,Te⟩) n n) (mk B e (h.push (.cells c1.toArray el))):=by
 have q:=QExec.underlying (h:=h) s B e;have r:=QExec.sizeOf (P:=P) (h:=h) (jc m).choose_spec B e;unfold Instr.buildSlice;rw[Sem.run_bind,q];simp only[Result.andThen_ok];rw[Sem.run_bind,r];simp only[Result.andThen_ok];rw[if_neg (by omega)];unfold zfp at b;by_cases c:n*qi P el=0;rw[if_pos c];rw[c]at b ⊢;simp at b;subst b;simp only[Sem.run_bind,Sem.run_pure,Result.andThen_ok];have k:Array.map (λx=>(#[]:Array Value)[x % (#[]:Array Value).size]!) (Et 0)=([]:List Value).toArray:=by simp
 rw[k,p];rfl;rw[if_neg c];have w:Nat.beq (n*qi P el) 0=Tc:=by
  cases hh:Nat.beq (n*qi P el) 0 with
  |false=>rfl
  |true=>exact absurd (Ak hh) c
 rw[w]at b;simp only[cond_false]at b;split at b;rename_i z o;have f:=Jd o h B e;simp only[Ac]at b;rw[Sem.run_bind,f];simp only[Result.andThen_ok,Sem.run_bind,Sem.run_pure];have k:Array.map (λx=>z.cells[x % z.cells.size]!) (Et (n*qi P el))=l.toArray:=by rw[<-b]
 rw[k,p];rfl;cases b
theorem Inv.newFrozen(I:Inv h0 W M0 cs γ h)(c:Array Value)(el:TypeId):Inv h0 W M0 cs (zgp γ h.size c) (h.push (.cells c el))/\Gx Te γ (zgp γ h.size c)/\(zgp γ h.size c).M h.size=Td c:=by
 have i:γ.M h.size=Te:=I.ag.none (Ab _);have n:Fr.le γ.M (zgp γ h.size c).M:=by
  intro b l e;have:Nat.beq b h.size=Tc:=by
   cases f:Nat.beq b h.size with
   |false=>rfl
   |true=>rw[Ak f,i]at e;cases e
  simp[zgp,this,e]
 have k:AgM (zgp γ h.size c).M (h.push (.cells c el)):=by
  intro b l e;by_cases f:b=h.size;subst f;have:l=c:=by simp[zgp]at e;exact e.symm
  subst this;exact⟨_,_,yb _ _⟩;have:Nat.beq b h.size=Tc:=by
   cases hb':Nat.beq b h.size with
   |false=>rfl
   |true=>exact absurd (Ak hb') f
  simp only[zgp,this,cond_false]at e;obtain⟨o,m,e'⟩:=I.ag b l e;exact⟨o,m,by rw[Cd,if_neg f];exact e'⟩
 refine⟨I.call (Keep.push h _ (Ab _)) n (λb f=>?_) k,⟨n,λ_ _=>⟨rfl,rfl⟩⟩,by simp[zgp]⟩;have:Nat.beq b h.size=Tc:=by
  cases hb':Nat.beq b h.size with
  |false=>rfl
  |true=>have:=Ak hb';omega
 simp[this]
def qd9:Option (Nat×Ch)->CS->CS
 |none,C=>C
 |some c,C=>Wa c.1 C
def ziw(h0:zb)(W:Nat->Prop)(M0:Fr)(P:Program)(o:Oper)(a:Act)(γ:Gh)(h:zb)(cs:CS)(b:Option (Nat×Ch))(c:AV->Prop)(eat:Option (Nat×Ch):=Te):Prop:=
 ExA P (execOp a.eval o) h λv h'=>∃av γ',c av/\DenV γ' av v/\Inv h0 W M0 (b.toList++qd9 eat cs) γ' h'/\Gx (b.map (·.1)) γ γ'
theorem qea{f:Array (Nat×Operand)}(G:o.op=.buildSlice t n f){ps:List (Nat×AV)}{ρ:Operand->Option AV}(s:zdw ρ f.toList=Td ps){K:AV->Prop}(H:qkp P tr t n ps cs K):
  ∃av,K av/\∀(γ:Gh) (h:zb) (a:Act) (Y:CS),Inv h0 W M0 (Y++cs) γ h->(∀x av,ρ x=Td av->DenV γ av (a.eval x))->ziw h0 W M0 P o a γ h (Y++cs) Te (· = av):=by
 unfold qkp at H;split at H
 ·rename_i el m;obtain⟨O,p⟩:=Jb m;split at H
  ·rename_i ty D S z;cases hz:Nat.beq (qi P el) (sz ty)with
   |false=>rw[hz]at H;exact H.elim
   |true=>
   rw[hz]at H;cases hb1:Nat.ble (n*qi P el) 16777216 with
   |false=>rw[hb1]at H;exact H.elim
   |true=>
   rw[hb1]at H;cases hb2:Nat.blt 0 (qi P el)with
   |false=>rw[hb2]at H;exact H.elim
   |true=>
   rw[hb2]at H;simp only[cond_true]at H;split at H
   ·rename_i r L;split at H
    ·rename_i ys q;refine⟨_,H,λγ h a Y I N=>?_⟩;have F:Inv h0 W M0 cs γ h:=I.sub (by simp);obtain⟨ws,V,J⟩:=Wc L (Zt γ D) (za4 N s);obtain⟨c1,c2,rfl,A,w,U⟩:=zca F.fz q J;cases c2 with
     |cons _ _=>exact U.elim
     |nil=>
     rw[AQ]at *;have k:=Ak hz;have i:0<qi P el:=by simpa[CG]using hb2
     have y:n*qi P el<=16777216:=Ca hb1;have Z:n<=n*qi P el:=Du _ i;have E:c1.length=n*qi P el:=by rw[A.1,w,k]
     obtain⟨Q,C,u⟩:=I.newFrozen c1.toArray el;intro B e;refine .inl ⟨.slice (Td ⟨h.size,0,Te⟩) n n,e,_,?_,_,_,rfl,?_,Q,C⟩;have M:(f.map λx=>(x.1,a.eval x.2)).toList=f.toList.map λx=>(x.1,a.eval x.2):=by rw[De]
     simp only[execOp,G];refine Yc ?_;exact zks O p y z (by show Ew _ _ (f.map λx=>(x.1,a.eval x.2)).toList=_;rw[M];exact V) B e h;have l:=(A.mono C.1).rd (b:=h.size) (o:=0) (c:=n) (cs:=c1.toArray) u (by rw[BZ,BG (by rw[w,<-k];simp;omega)]) ⟨by omega,by omega⟩;rw[w]at l;exact⟨⟨Td ⟨h.size,0,Te⟩,n,n⟩,rfl,rfl,l⟩
    exact H.elim
   exact H.elim
  exact H.elim
 exact H.elim
def qkq:AV->Bool
 |.g (.a (.dc _ _))=>Ta
 |_=>Tc
theorem qeb{bv sv:AV}{c:Call}(ho:o.op=.call c)(hc:c.callee=.builtin .append){s x:Operand}(w:c.args.toList=[s,x])(F:c.argTypes.toList=[t,tx]){K:AV->Prop}(D:qkq bv=Ta) (H:X7 P tr t tx bv sv 0 [] cs (λav _ _=>K av)) {ρ:Operand->Option AV} (hs:ρ s=Td bv) (hx:ρ x=Td sv):
  ∀(γ:Gh) (h:zb) (a:Act) (Y:CS),Inv h0 W M0 (Y++cs) γ h->(∀x av,ρ x=Td av->DenV γ av (a.eval x))->ziw h0 W M0 P o a γ h (Y++cs) Te K:=by
 intro γ h a Y I hρ;have S:=hρ _ _ hs;have V:=hρ _ _ hx;have I1:Inv h0 W M0 ([]++cs) γ h:=I.sub (by simp);have key:∀{K':Value->zb->Prop},XRun P (Au #[t,tx] o.type #[a.eval s,a.eval x]) h K'->ExA P (execOp a.eval o) h K':=by
  intro K' af B e;obtain⟨v,d',h',r,hp⟩:=af B e;refine .inl ⟨v,d',h',?_,hp⟩;have ee:execOp a.eval o=(Au c.argTypes o.type (c.args.map a.eval) >>= λx=>(Dn (Dr x):Sem Next)):=by simp only[execOp,ho,resolve,hc];rfl
  rw[ee,toList_eq w,toList_eq F];refine Yc ?_;simpa using r
 refine key ?_;clear key;unfold X7 at H;split at H;rename_i el N;obtain⟨hu,am⟩:=Jb N;split at H;rename_i ty ap;split at H;rename_i b ys hb Q;obtain⟨⟨z,T⟩,C⟩:=zlv hu hb;obtain⟨news,m,l⟩:=zwk I1 Q T.pos V;split at H;cases D;cases D;rename_i t' ai;split at H;rename_i xs q;obtain⟨y,hK⟩:=H;have J:=zd0 C y;obtain⟨e1,e2⟩:=Q0 q;subst e1;simp only at e2;subst e2;generalize a.eval s=u at *;generalize a.eval x=v at *;obtain⟨s2,e,ah,G⟩:=(show ∃s:Sl,u=slV s/\s.cap=s.len/\Rd γ.M (.row t') xs [u]from S);subst e;obtain⟨s3,e,f,an,cells,i,E⟩:=G.rowC I.ag;have e':s2=s3:=by cases s2;cases s3;simp only[slV,AO]at e;simp[e]
 subst e';have n:cells.length=s2.len*sz t':=by rw[f];exact i.1
 intro B L;by_cases hm:ys.length=0;have O:ys=[]:=AN hm;subst O;have ae:news=[]:=AN (by rw[m.1];simp);subst ae;have U:=Qz (P:=P) (ty:=o.type) T (s:=s2) (h':=h) (l B L) (by simp;omega) (λp hp=>by simp[storeCells]) (λ_=>rfl);refine⟨_,L,h,U,_,γ,hK,?_,I,Gx.refl _ _⟩;rw[AQ];exact G;obtain⟨cp,k,U,ab,aj,ak,Z⟩:=Wg (P:=P) (ty:=o.type) (base:=0) T n (λB d=>Qy E n T.pos B d) l (by rw[f];exact y) (by rw[f];exact J) (AX _) (by omega) B L;obtain⟨I2,g2,aa⟩:=I.newFrozen k el;refine⟨_,L+1,_,U,_,_,hK,?_,I2,g2⟩;have A:=((i.append m).mono g2.1).rd (b:=h.size) (o:=0) (c:=cp) (cs:=k) aa (by rw[BZ,Ag,<-f];exact Z) (by rw[Ag,<-f];exact⟨by rw[f];exact J,ab⟩);rw[Ag,<-f]at A;exact A;exact H.elim;exact H.elim;exact H.elim;exact H.elim;exact H.elim
def qec(P:Program)(gl:Fr)(tr:TypeId)(o:Oper)(ρ:Operand->Option AV)(cs:CS)(K:AV->Prop):Prop:=
 match o.op with
 |.call c=>match c.callee with
  |.value x=>match qhe x with
   |some f=>bif zh P f then(match qd1 P tr f,zt5 ρ c.args.toList with
    |some (ts,rt),some vs=>match je cs ts vs with
     |some args=>PC P gl f args rt λr=>K (qgm rt r)
     |none=>False
    |_,_=>False)else False
   |none=>False
  |_=>False
 |_=>False
theorem qaa(k:Fr.le gl M0){ρ:Operand->Option AV}{K:AV->Prop}(H:qec P gl tr o ρ cs K):
  ∀(γ:Gh) (h:zb) (a:Act) (Y:CS),Inv h0 W M0 (Y++cs) γ h->(∀x av,ρ x=Td av->DenV γ av (a.eval x))->ziw h0 W M0 P o a γ h (Y++cs) Te K:=by
 intro γ h a Y I m;unfold qec at H;split at H;rename_i c y;split at H;rename_i x u;split at H;rename_i f t;cases hcal:zh P f with
 |false=>rw[hcal]at H;exact H.elim
 |true=>
  rw[hcal]at H;simp only[cond_true]at H;split at H;rename_i ts rt vs z i;split at H;rename_i args b;intro B d;have e:=znd t;subst e;have w:Inv h0 W M0 cs γ h:=I.sub (by simp);have q:=wm w.fz b (X6 m i);refine .inr (.inr ⟨f,c.args.map a.eval,zdy y u hcal rfl _,?_⟩);have l:c.args.map a.eval=(c.args.toList.map a.eval).toArray:=by rw[<-De]
  rw[l];refine(zne k H I q).mono ?_;rintro v h' ⟨r,γ',h1,n,s,p,_⟩;exact⟨_,γ',h1,n,s,p⟩;exact H.elim;exact H.elim
 exact H.elim;exact H.elim;exact H.elim
theorem zzl(l:Fr.le gl M0){ρ:Operand->Option AV}{b:Bool}{K:AV->Prop}(H:zzc P gl tr o ρ b cs K)(A:b=Ta):
  ∀(γ:Gh) (h:zb) (a:Act) (Y:CS),Inv h0 W M0 (Y++cs) γ h->(∀x av,ρ x=Td av->DenV γ av (a.eval x))->ziw h0 W M0 P o a γ h (Y++cs) Te K:=by
 intro γ h a Y I n;unfold zzc at H;split at H;rename_i c C;split at H;rename_i x w;split at H;rename_i f u;cases hcal:zh P f with
 |false=>rw[hcal]at H;exact H.elim
 |true=>
  rw[hcal]at H;simp only[cond_true]at H;split at H;rename_i ts rt vs E k;split at H;rename_i args i;obtain⟨J,h1,p⟩:=H;intro B d;have e:=znd u;subst e;have y:Inv h0 W M0 cs γ h:=I.sub (by simp);have t:=wm y.fz i (X6 n k);refine .inr (.inr ⟨f,c.args.map a.eval,zdy C w hcal rfl _,?_⟩);have m:c.args.map a.eval=(c.args.toList.map a.eval).toArray:=by rw[<-De]
  rw[m];refine(zne l (h1 A) I t).mono ?_;rintro v h' ⟨r,γ',D,z,q,s,_⟩;exact⟨_,γ',p r (λ_=>D),z,q,s⟩;exact H.elim;exact H.elim
 exact H.elim;exact H.elim;exact H.elim
theorem z2x(l:o.op=.alloc t){z:Value}(i:zeroOf P t=Td z)(b:itB (z.cells.toList.map .v)=Tc):
  ∀(γ:Gh) (h:zb) (a:Act) (Y:CS),Inv h0 W M0 (Y++cs) γ h->qh d (Y++cs)=Ta->ziw h0 W M0 P o a γ h (Y++cs) (Td (d,.box (z.cells.toList.map .v))) (· = .g (.a (.box d 0))):=by
 intro γ h a Y I k B e;refine .inl ⟨.pointer (Td ⟨h.size,0,Te⟩),e,h.push (.cells z.cells t),?_,_,z07 γ d h.size,rfl,?_,?_,X1 _ _ _⟩;have f:=Jd i h B e;simp only[execOp,l];refine Yc ?_;unfold Instr.alloc;rw[Sem.run_bind,f];simp only[Result.andThen_ok];rw[Sem.run_bind,za5];rfl;simp only[DenV,DenG,DenA,Zr];have:=Inv.newBox (C:=[]) (R:=Y++cs) (by simpa using I) (c:=d) k (Zt γ z.cells.toList) (zfo d _) b t;simpa[qk,qd9]using this
theorem qed{x:Operand}(k:o.op=.box t x){l:List AA}(f:zpv d l=Tc)(b:itB l=Tc):
  ∀(γ:Gh) (h:zb) (a:Act) (Y:CS),Inv h0 W M0 (Y++cs) γ h->qh d (Y++cs)=Ta->All2 (DenA γ) l (a.eval x).cells.toList->ziw h0 W M0 P o a γ h (Y++cs) (Td (d,.box l)) (· = .g (.a (.box d 0))):=by
 intro γ h a Y I i m B e;refine .inl ⟨.pointer (Td ⟨h.size,0,Te⟩),e,h.push (.cells (a.eval x).cells t),?_,_,z07 γ d h.size,rfl,?_,?_,X1 _ _ _⟩;simp only[execOp,k];refine Yc ?_;unfold Instr.box;rw[Sem.run_bind,za5];rfl;simp only[DenV,DenG,DenA,Zr];have:=Inv.newBox (C:=[]) (R:=Y++cs) (by simpa using I) (c:=d) i m f b t;simpa[qk,qd9]using this
def yc(o:Oper):Bool:=match o.op with
 |.call c=>match c.callee with
  |.builtin .append=>Ta
  |.builtin _=>Tc
  |_=>Ta
 |_=>Tc
def zd3:List AA->Bool
 |[]=>Ta
 |.v _::l=>zd3 l
 |.d _ _::l=>zd3 l
 |.elt _ _ _::l=>zd3 l
 |.dc _ _::l=>zd3 l
 |_::_=>Tc
theorem Qp{c:Nat}:∀{l:List AA},zd3 l=Ta->zpv c l=Tc
 |[],_=>rfl
 |.v _::l,h=>by simp only[zpv,zy4,cond_false];exact Qp (l:=l) h
 |.d _ _::l,h=>by simp only[zpv,zy4,cond_false];exact Qp (l:=l) h
 |.elt _ _ _::l,h=>by simp only[zpv,zy4,cond_false];exact Qp (l:=l) h
 |.dc _ _::l,h=>by simp only[zpv,zy4,cond_false];exact Qp (l:=l) h
 |.box _ _::_,h=>by cases h
 |.own _::_,h=>by cases h
 |.oelt _ _ _ _::_,h=>by cases h
theorem zgr:∀l:List Value,zd3 (l.map .v)=Ta
 |[]=>rfl
 |_::l=>zgr l
def z2y(P:Program)(gl:Fr)(tr:TypeId)(o:Oper)(e:qg)(ch:zx)(cs:CS)(K:AV->Option (Nat×Ch)->Prop):Prop:=
 match o.op with
 |.alloc t=>match ch,o.dst,zeroOf P t with
  |[],Td d,some z=>bif qh d cs then(bif itB (z.cells.toList.map .v)then False else K (.g (.a (.box d 0))) (Td (d,.box (z.cells.toList.map .v))))else False
  |_,_,_=>False
 |.box t x=>match ch,o.dst,zg1 e [] x with
  |[],Td d,some av=>match zza av with
   |some l=>bif qh d cs then(bif zd3 l then(bif itB l then False else K (.g (.a (.box d 0))) (Td (d,.box l)))else False)else False
   |none=>False
  |_,_,_=>False
 |.buildSlice t n f=>match ch,zdw (zg1 e []) f.toList with
  |[],some ps=>qkp P tr t n ps cs λav=>K av Te
  |_,_=>False
 |.call c=>match c.callee with
  |.builtin .append=>match ch,c.args.toList,c.argTypes.toList with
   |[],[s,x],[t,tx]=>match zg1 e [] s,zg1 e [] x with
    |some bv,some sv=>bif qkq bv then X7 P tr t tx bv sv 0 [] cs (λav _ _=>K av Te)else False
    |_,_=>False
   |_,_,_=>False
  |.builtin _=>z99 P gl o e ch cs λav=>K av Te
  |_=>match ch with
   |[]=>qec P gl tr o (zg1 e []) cs λav=>K av Te
   |_=>match Wb e ch with
    |some (Td b)=>zzc P gl tr o (zg1 e ch) b cs λav=>K av Te
    |_=>False
 |_=>z99 P gl o e ch cs λav=>K av Te
structure Spec (h0:zb) (W:Nat->Prop) (M0:Fr) (P:Program) (o:Oper) (e:qg) (ch:zx) (cs:CS) (nb:Option (Nat×Ch)) (Kan:AV->Prop) (eat:Option (Nat×Ch):=Te):Prop where
 yes:∀(n:Nat) (γ:Gh) (h:zb) (a:Act) (Y:CS),SatA n e γ a->Inv h0 W M0 (Y++cs) γ h->(∀b,nb=Td b->qh b.1 (Y++cs)=Ta)->(∀c,eat=Td c->c∈Y++cs/\∀x∈Y++cs,x.1=c.1->x.2=c.2)->(∀d,o.dst=Td d->eat≠Te->qh d (Y++cs)=Ta)->valid (zy a) ch->ziw h0 W M0 P o a γ h (Y++cs) nb Kan eat
 no:∀(n:Nat) (γ:Gh) (a:Act),SatA n e γ a->¬valid (zy a) ch->nb=Te/\eat=Te/\∃av,Kan av
 box:∀b,nb=Td b->qh b.1 cs=Ta/\o.dst=Td b.1/\(((∃l,b.2=.box l/\zd3 l=Ta)/\Kan=(· = .g (.a (.box b.1 0))))\/((∃e t xs,b.2=.row e t xs)/\Kan=(· = .g (.a (.own b.1)))))
 dn:eat≠Te->∃d,o.dst=Td d/\qh d cs=Ta
theorem Spec.ofQ(c:Fr.le gl M0){e:qg}{ch:zx}{K:AV->Option (Nat×Ch)->Prop}(H:z99 P gl o e ch cs λav=>K av Te):∃f Kan,Spec h0 W M0 P o e ch cs f Kan/\(∀av,Kan av->K av f)/\∃av,Kan=(· = av):=by obtain⟨av,h1,p⟩:=zl1 (h0:=h0) (W:=W) (M0:=M0) c H;refine⟨Te,(· = av),⟨λn γ h a Y i I _ _ _ k=>?_,λn γ a i k=>⟨rfl,rfl,av,rfl⟩,λb r=>(by cases r),λm=>absurd rfl m⟩,λq e=>e ▸ h1,av,rfl⟩;obtain⟨v,s,l⟩:=p n γ a h i (I.sub (by simp)) k;exact λB d=>.inl ⟨v,d,h,l B d,av,γ,rfl,s,I,Gx.refl _ _⟩
theorem zt9(r:Fr.le gl M0){e:qg}{ch:zx}{K:AV->Option (Nat×Ch)->Prop}(H:z2y P gl tr o e ch cs K):
  ∃y Kan,Spec h0 W M0 P o e ch cs y Kan/\(∀av,Kan av->K av y)/\(yc o=Tc->∃av,Kan=(· = av)):=by
 unfold z2y at H;split at H
 ·rename_i t u;split at H
  ·rename_i d z E Q;cases hR:qh d cs with
   |false=>rw[hR]at H;exact H.elim
   |true=>
    rw[hR]at H;cases hit:itB (z.cells.toList.map .v)with
    |true=>rw[hit]at H;exact H.elim
    |false=>
    rw[hit]at H;refine⟨_,(· = .g (.a (.box d 0))),⟨λn γ h a Y k I q _ _ _=>z2x u Q hit γ h a Y I (q _ rfl),λn γ a k p=>absurd trivial p,λb m=>?_,λf=>absurd rfl f⟩,λav e=>e ▸ H,λ_=>⟨_,rfl⟩⟩;cases m;exact⟨hR,E,.inl ⟨⟨_,rfl,zgr _⟩,rfl⟩⟩
  exact H.elim
 ·rename_i t x u;split at H
  ·rename_i d av E J;split at H
   ·rename_i l S;cases hR:qh d cs with
    |false=>rw[hR]at H;exact H.elim
    |true=>
     rw[hR]at H;cases hm:zd3 l with
     |false=>rw[hm]at H;exact H.elim
     |true=>
      rw[hm]at H;cases hit:itB l with
      |true=>rw[hit]at H;exact H.elim
      |false=>
      rw[hit]at H;refine⟨_,(· = .g (.a (.box d 0))),⟨λn γ h a Y k I q _ _ _=>qed u (Qp hm) hit γ h a Y I (q _ rfl) (zdu S (zo k (c:=[]) trivial J)),λn γ a k p=>absurd trivial p,λb m=>?_,λf=>absurd rfl f⟩,λav e=>e ▸ H,λ_=>⟨_,rfl⟩⟩;cases m;exact⟨hR,E,.inl ⟨⟨_,rfl,hm⟩,rfl⟩⟩
   exact H.elim
  exact H.elim
 rename_i t n D u;split at H;rename_i ps C;obtain⟨av,h1,B⟩:=qea (h0:=h0) (W:=W) (M0:=M0) u C H;exact⟨Te,(· = av),⟨λn γ h a Y k I _ _ _ _=>B γ h a Y I λx av f=>zo k (c:=[]) trivial f,λn γ a k p=>absurd trivial p,λb m=>(by cases m),λf=>absurd rfl f⟩,λU e=>e ▸ h1,λ_=>⟨_,rfl⟩⟩;exact H.elim;rename_i c u;split at H;rename_i N;have i:yc o=Ta:=by simp[yc,u,N]
 split at H;rename_i s x t tx w A;split at H;rename_i bv sv L F;cases hdc:qkq bv with
 |false=>rw[hdc]at H;exact H.elim
 |true=>rw[hdc]at H;simp only[cond_true]at H;exact⟨Te,λav=>K av Te,⟨λn γ h a Y k I _ _ _ _=>qeb u N w A hdc H L F γ h a Y I λx av f=>zo k (c:=[]) trivial f,λn γ a k p=>absurd trivial p,λb m=>(by cases m),λf=>absurd rfl f⟩,λav e=>e,λq=>by rw[i]at q;cases q⟩
 exact H.elim;exact H.elim;obtain⟨y,Kan,h1,B,G⟩:=Spec.ofQ (h0:=h0) (W:=W) (M0:=M0) r H;exact⟨y,Kan,h1,B,λ_=>G⟩;rename_i O M;have i:yc o=Ta:=by simp only[yc,u]
 split at H;exact⟨Te,λav=>K av Te,⟨λn γ h a Y k I _ _ _ _=>qaa r H γ h a Y I λx av f=>zo k (c:=[]) trivial f,λn γ a k p=>absurd trivial p,λb m=>(by cases m),λf=>absurd rfl f⟩,λav e=>e,λq=>by rw[i]at q;cases q⟩;split at H;rename_i b m;refine⟨Te,λav=>K av Te,⟨λn γ h a Y k I _ _ _ p=>zzl r H (xh k m p) γ h a Y I λx av f=>zo k p f,λn γ a k p=>⟨rfl,rfl,?_⟩,λb m=>(by cases m),λf=>absurd rfl f⟩,λav e=>e,λq=>by rw[i]at q;cases q⟩;have:=zb4 k m p;simp only[Ac]at this;exact(zb8 (h0:=#[]) (W:=λ_=>False) (M0:=λ_=>Te) H).1 this;exact H.elim;obtain⟨y,Kan,h1,B,G⟩:=Spec.ofQ (h0:=h0) (W:=W) (M0:=M0) r H;exact⟨y,Kan,h1,B,λ_=>G⟩
def qab:List Nat->Nat->Option (Option Nat)
 |[],_=>Te
 |x::l,k=>bif Nat.ble 2000000 x then(bif Nat.beq (x-2000000) k then Td Te else qab l k)else(bif Nat.ble 1000000 x then(bif Nat.beq ((x-1000000) / 1000) k then Td (Td ((x-1000000) % 1000))else qab l k)else qab l k)
def zfq(k:Nat):List It->Option (Nat×Ch)
 |[]=>Te
 |i::l=>bif (match i.us with
  |some j=>Nat.beq j k
  |none=>Tc)then(match i.nb with
  |some b=>Td b
  |none=>zfq k l)else zfq k l
theorem zce{k:Nat}{c:Nat×Ch}:∀{l:List It},zfq k l=Td c->∃i∈l,i.nb=Td c/\i.us=Td k
 |[],h=>by cases h
 |i::l,h=>by
  simp only[zfq]at h;cases hb:(match i.us with
   |some j=>Nat.beq j k
   |none=>Tc)with
  |false=>rw[hb]at h;obtain⟨x,f,q⟩:=zce h;exact⟨x,Ae _ f,q⟩
  |true=>rw[hb]at h;simp only[cond_true]at h;split at h;rename_i b e;cases h;refine⟨i,Am,e,?_⟩;split at hb;rename_i j m;rw[m,Ak hb];cases hb;obtain⟨x,f,q⟩:=zce h;exact⟨x,Ae _ f,q⟩
def qkr(P:Program)(tr:TypeId)(t:TypeId)(n:Nat)(K:Ch->Prop):Prop:=bif Nat.beq n 0 then(match z9x P t with
 |some el=>match qcc P tr 8 el,zfp P el (0*qi P el)with
  |some ty,Td []=>bif Nat.beq (qi P el) (sz ty)then(bif Nat.ble (0*qi P el) 16777216 then(bif Nat.blt 0 (qi P el)then K (.row el ty [])else False)else False)else False
  |_,_=>False
 |none=>False)else False
theorem qee{b:Array (Nat×Operand)}(p:o.op=.buildSlice t n b)(q:b.toList=[]){K:Ch->Prop}(H:qkr P tr t n K):
  ∃el ty,K (.row el ty [])/\∀(γ:Gh) (h:zb) (a:Act) (L:CS),Inv h0 W M0 L γ h->qh d L=Ta->ExA P (execOp a.eval o) h (zb7 h0 W M0 L γ λav l c=>av=.g (.a (.own d))/\l=[(d,.row el ty [])]/\c=Td d):=by
 unfold qkr at H;cases hn:Nat.beq n 0 with
 |false=>rw[hn]at H;exact H.elim
 |true=>
  rw[hn]at H;obtain rfl:=Ak hn;simp only[cond_true]at H;split at H;rename_i el e;split at H;rename_i ty f i;cases h1:Nat.beq (qi P el) (sz ty)with
  |false=>rw[h1]at H;exact H.elim
  |true=>
   rw[h1]at H;cases h2:Nat.ble (0*qi P el) 16777216 with
   |false=>rw[h2]at H;exact H.elim
   |true=>
    rw[h2]at H;cases h3:Nat.blt 0 (qi P el)with
    |false=>rw[h3]at H;exact H.elim
    |true=>rw[h3]at H;refine⟨el,ty,H,λγ h a L I m=>?_⟩;refine zbp (tr:=tr) (ps:=[]) p (ρ:=λ_=>Te) (by rw[q];rfl) (C:=[]) (R:=L) (d:=d) ?_ (by simpa using I) (λx av k=>by cases k);unfold We;rw[e];simp only;rw[f,i];simp only;rw[h1,h2,h3,m];simp[zqn,Wd,qhf,Xc,frzL,qk]
  exact H.elim;exact H.elim
def qks(P:Program)(tx:TypeId)(ty:Ty):AV->Option (List (El ty))
 |.g (.a (.d (.row t) xs))=>match P.underlying tx with
  |some (.slice _)=>Z2 (.row t) (.row ty) xs
  |_=>Te
 |.g (.a (.dc t xs))=>match P.underlying tx with
  |some (.slice _)=>Z2 (.row t) (.row ty) xs
  |_=>Te
 |.g (.a (.v (.slice Te 0 0)))=>match P.underlying tx with
  |some (.slice _)=>Td []
  |_=>Te
 |_=>Te
def qkt(P:Program)(tr:TypeId)(t tx:TypeId)(e:TypeId)(c:Ty)(xs:List (El c))(sv:AV)(K:TypeId->(ty:Ty)->List (El ty)->Prop):Prop:=match z9x P t with
 |some el=>match qcc P tr 8 el with
  |some ty=>match zho P el ty,qks P tx ty sv with
   |some b,some ys=>match Z2 (.row c) (.row ty) xs with
    |some xs=>bif Nat.beq e el then((xs.length+ys.length)*b<=140737488355328/\K el ty (xs++ys))else False
    |none=>False
   |_,_=>False
  |none=>False
 |none=>False
theorem z2z{L:CS}{ty:Ty}{ys:List (El ty)}(h:qks P tx ty sv=Td ys):qd5 P L tx ty sv=Td ys:=by unfold qks at h;split at h;rename_i t xs;split at h;rename_i e b;simp only[qd5,b,rowOf];exact h;cases h;rename_i t xs;split at h;rename_i e b;simp only[qd5,b,rowOf];exact h;cases h;split at h;rename_i e b;simp only[qd5,b];exact h;cases h;cases h
theorem zq0{c:Nat}:∀{l:CS},qh c l=Ta->qk c l=l
 |[],_=>rfl
 |(j,k)::l,h=>by
  simp only[qh]at h;cases hb:(bif Nat.beq j c then Ta else zfl c k)with
  |true=>rw[hb]at h;cases h
  |false=>rw[hb]at h;simp only[qk];rw[hb,cond_false,zq0 h]
theorem zd4{c d:Nat}:∀{l:CS},qh c l=Ta->qh c (Wa d l)=Ta
 |[],_=>rfl
 |(j,k)::l,h=>by
  simp only[qh]at h;cases hb:(bif Nat.beq j c then Ta else zfl c k)with
  |true=>rw[hb]at h;cases h
  |false=>
   rw[hb]at h;simp only[Wa];cases Nat.beq j d with
   |true=>exact zd4 h
   |false=>simp only[cond_false,qh];rw[hb];exact zd4 h
theorem zl2{c:Nat×Ch}:∀{l:CS},c∈l->(∀x∈l,x.1=c.1->x.2=c.2)->Qv l c.1=Td c.2
 |[],h,_=>by cases h
 |(j,k)::l,h,hu=>by
  simp only[Qv];cases hb:Nat.beq c.1 j with
  |true=>have:=Ak hb;have:=hu (j,k) Am this.symm;simp only at this;rw[cond_true,this]
  |false=>rw[cond_false];rcases Ah.1 h with rfl|h;simp at hb;exact zl2 h λx b=>hu x (Ae _ b)
theorem qef{c:Call}(O:o.op=.call c)(E:c.callee=.builtin .append){s x:Operand}(i:c.args.toList=[s,x])(m:c.argTypes.toList=[t,tx]){u:TypeId}{y:Ty}{xs:List (El y)}{K:TypeId->(ty:Ty)->List (El ty)->Prop}
  (H:qkt P tr t tx u y xs sv K):∃el ty ys,K el ty ys/\∀(γ:Gh) (h:zb) (a:Act) (L:CS) (c0:Nat),Inv h0 W M0 L γ h->Qv L c0=Td (.row u y xs)->DenV γ (.g (.a (.own c0))) (a.eval s)->DenV γ sv (a.eval x) -> ExA P (execOp a.eval o) h (zb7 h0 W M0 [] γ λav z q=>av=.g (.a (.own d))/\z=(d,.row el ty ys)::qk d (Wa c0 L)/\q=Td d):=by
 unfold qkt at H;split at H;rename_i el n;split at H;rename_i ty w;split at H;rename_i b ys N A;split at H;rename_i l f;cases hee:Nat.beq u el with
 |false=>rw[hee]at H;exact H.elim
 |true=>
  rw[hee]at H;obtain⟨k,D⟩:=H;refine⟨el,ty,l++ys,D,λγ h a L c0 I G F J=>?_⟩;have p:X7 P tr t tx (.g (.a (.own c0))) sv d L [] (λav z q=>av=.g (.a (.own d))/\z=(d,.row el ty (l++ys))::qk d (Wa c0 L)/\q=Td d):=by unfold X7;rw[n];simp only;rw[w];simp only;rw[N,AQ,z2z A];simp only;rw[G];simp only;rw[f];simp only;rw[hee];first|exact⟨k,rfl,rfl,rfl⟩|exact⟨k,trivial,trivial,trivial⟩|exact⟨k,by simp⟩
  have:=zlw (ty':=o.type) p (by simpa using I) F J;intro B e;obtain⟨v,M,h',r,Q⟩:=this B e;refine .inl ⟨v,M,h',?_,Q⟩;have C:execOp a.eval o=(Au c.argTypes o.type (c.args.map a.eval) >>= λx=>(Dn (Dr x):Sem Next)):=by simp only[execOp,O,resolve,E];rfl
  rw[C,toList_eq i,toList_eq m];refine Yc ?_;simpa using r
 exact H.elim;exact H.elim;exact H.elim;exact H.elim
def qeg(P:Program)(tr:TypeId)(o:Oper)(k:Nat)(e:qg)(b:List It)(cs:CS)(own:Bool)(K:AV->Option (Nat×Ch)->Option (Nat×Ch)->Prop):Prop:=
 match o.op,o.dst with
 |.buildSlice t n parts,some d=>bif own then(bif qh d cs then(match parts.toList with
  |[]=>qkr P tr t n λch=>K (.g (.a (.own d))) (Td (d,ch)) Te
  |_=>False)else False)else False
 |.call c,some d=>match c.callee,c.args.toList,c.argTypes.toList,zfq k b with
  |.builtin .append,[s,x],[t,tx],Td (c0,.row e0 t0 xs)=>match zg1 e [] s,zg1 e [] x with
   |some (.g (.a (.own c1))),some sv=>bif Nat.beq c1 c0 then(bif qh d cs then qkt P tr t tx e0 t0 xs sv (λel ty ys=>bif own then K (.g (.a (.own d))) (Td (d,.row el ty ys)) (Td (c0,.row e0 t0 xs))else K (.g (.a (.d (.row ty) ys))) Te (Td (c0,.row e0 t0 xs)))else False)else False
   |_,_=>False
  |_,_,_,_=>False
 |_,_=>False
theorem zua{k:Nat}{e:qg}{IL:List It}{own:Bool}{K:AV->Option (Nat×Ch)->Option (Nat×Ch)->Prop}(H:qeg P tr o k e IL cs own K):
  ∃nb eat av,Spec h0 W M0 P o e [] cs nb (· = av) eat/\K av nb eat/\∀c,eat=Td c->zfq k IL=Td c:=by
 unfold qeg at H;split at H;rename_i t n S d ho y;cases own with
 |false=>exact H.elim
 |true=>
  simp only[cond_true]at H;cases hR:qh d cs with
  |false=>rw[hR]at H;exact H.elim
  |true=>rw[hR]at H;simp only[cond_true]at H;split at H;rename_i hp;obtain⟨el,ty,O,m⟩:=qee (h0:=h0) (W:=W) (M0:=M0) (d:=d) ho hp H;refine⟨_,Te,_,⟨λn γ h a Y l I w _ _ _=>?_,λn γ a l r=>absurd trivial r,λb f=>?_,λm=>absurd rfl m⟩,O,λc q=>by cases q⟩;refine(m γ h a (Y++cs) I (w _ rfl)).mono ?_;rintro v h' ⟨av,C',c,γ',⟨rfl,rfl,rfl⟩,U,h3,h4⟩;exact⟨_,γ',rfl,U,h3,h4⟩;cases f;exact⟨hR,y,.inr ⟨⟨_,_,_,rfl⟩,rfl⟩⟩;exact H.elim
 ·rename_i c d ho y;split at H
  ·rename_i s x t tx c0 e0 V xs q p G N;split at H
   ·rename_i c1 sv Z ab;cases f:Nat.beq c1 c0 with
    |false=>rw[f]at H;exact H.elim
    |true=>
     obtain rfl:=Ak f;rw[f]at H;simp only[cond_true]at H;cases hR:qh d cs with
     |false=>rw[hR]at H;exact H.elim
     |true=>
      rw[hR]at H;simp only[cond_true]at H;obtain⟨el,ty,ys,O,m⟩:=qef (h0:=h0) (W:=W) (M0:=M0) (d:=d) ho q p G H;have run:∀(n:Nat) (γ:Gh) (h:zb) (a:Act) (Y:CS),SatA n e γ a->Inv h0 W M0 (Y++cs) γ h->(∀J,(Td (c1,Ch.row e0 V xs):Option (Nat×Ch))=Td J->J∈Y++cs/\∀x∈Y++cs,x.1=J.1->x.2=J.2)->qh d (Y++cs)=Ta ->
        ExA P (execOp a.eval o) h λv h'=>∃γ',DenV γ' (.g (.a (.own d))) v/\Inv h0 W M0 ((d,.row el ty ys)::Wa c1 (Y++cs)) γ' h'/\Gx (Td d) γ γ':=by
       intro n γ h a Y l I F w;obtain⟨h1,U⟩:=F _ rfl;have hf:=zl2 h1 U;refine(m γ h a (Y++cs) c1 I hf (zo l (c:=[]) trivial Z) (zo l (c:=[]) trivial ab)).mono ?_;rintro v h' ⟨av,C',J,γ',⟨rfl,rfl,rfl⟩,L,u,z⟩;rw[AQ,zq0 (zd4 w)]at u;exact⟨γ',L,u,z⟩
      cases own with
      |true=>refine⟨Td (d,.row el ty ys),Td (c1,.row e0 V xs),.g (.a (.own d)),⟨λn γ h a Y l I w F E _=>?_,λn γ a l r=>absurd trivial r,λb f=>?_,λ_=>⟨d,y,hR⟩⟩,O,λc q=>by cases q;exact N⟩;refine(run n γ h a Y l I F (w _ rfl)).mono ?_;rintro v h' ⟨γ',L,u,z⟩;exact⟨_,γ',rfl,L,u,z⟩;cases f;exact⟨hR,y,.inr ⟨⟨_,_,_,rfl⟩,rfl⟩⟩
      |false=>refine⟨Te,Td (c1,.row e0 V xs),.g (.a (.d (.row ty) ys)),⟨λn γ h a Y l I w F E _=>?_,λn γ a l r=>absurd trivial r,λb f=>(by cases f),λ_=>⟨d,y,hR⟩⟩,O,λc q=>by cases q;exact N⟩;have B:=E d y (by simp);refine(run n γ h a Y l I F B).mono ?_;rintro v h' ⟨γ',L,u,z⟩;obtain⟨D,Q,g2⟩:=Inv.freeze1 (A:=[]) u;have aa:Rd D.M (.row ty) ys [slV (D.σ d)]:=Q.den (d,.fz ty ys) (by simp);have r:v=slV (γ'.σ d):=L;have hσ:D.σ d=γ'.σ d:=(g2.2 d (by simp)).2;have C:=Qw (zd4 (d:=c1) B);refine⟨_,{ D with β:=γ.β,σ:=γ.σ },rfl,?_,?_,⟨z.1.trans g2.1,λi _=>⟨rfl,rfl⟩⟩⟩;show Rd D.M (.row ty) ys [v];rw[r,<-hσ];exact aa;refine Q.rest (by simp[qd9]) (c:=Td d) ⟨Fr.le.refl _,λi hi=>?_⟩ (λx m=>⟨(C x m).1,(C x m).2⟩) (λx m b f=>⟨rfl,(Q.sep x (by simp;exact .inr m) b f).2⟩) Q.ag (λ_ _ _=>rfl) (Ab _) (λ_ _=>rfl);have a1:=z.2 i hi;have a2:=g2.2 i (by simp);exact⟨a1.1.symm.trans a2.1.symm,a1.2.symm.trans a2.2.symm⟩
   exact H.elim
  exact H.elim
 exact H.elim
def qq(ops:Array Oper)(m:Nat):List Nat:=wz (ops.toList.take m)
def Yo(av:AV):List Nat->Bool
 |[]=>Ta
 |s::l=>bif z1x s av then Tc else Yo av l
theorem zl3{av:AV}:∀{l:List Nat},Yo av l=Ta->∀s∈l,z1x s av=Tc
 |[],_,s,b=>by cases b
 |x::l,h,s,b=>by
  simp only[Yo]at h;cases hb:z1x x av with
  |true=>rw[hb]at h;cases h
  |false=>rw[hb]at h;rcases Ah.1 b with rfl|b;exact hb;exact zl3 h s b
def zg4(S:List Nat):qg->qg
 |[]=>[]
 |(i,[],v)::e=>bif memN S i then zg4 S e else(bif Yo v S then(i,[],v)::zg4 S e else zg4 S e)
 |(_,_::_,_)::e=>zg4 S e
theorem wn{S:List Nat}{x:Nat×zx×AV}:∀{e:qg},x∈zg4 S e->x∈e/\x.2.1=[]/\x.1∉S/\Yo x.2.2 S=Ta
 |[],h=>by cases h
 |(i,[],v)::e,h=>by
  simp only[zg4]at h;cases hm:memN S i with
  |true=>rw[hm]at h;exact⟨Ae _ (wn h).1,(wn h).2⟩
  |false=>
   rw[hm]at h;simp only[cond_false]at h;cases hn:Yo v S with
   |false=>rw[hn]at h;exact⟨Ae _ (wn h).1,(wn h).2⟩
   |true=>rw[hn]at h;rcases Ah.1 h with rfl|h;exact⟨Am,rfl,Ql hm,hn⟩;exact⟨Ae _ (wn h).1,(wn h).2⟩
 |(_,_::_,_)::e,h=>⟨Ae _ (wn (e:=e) h).1,(wn (e:=e) h).2⟩
def qku(ops:Array Oper)(o:Oper):zx->Bool
 |[]=>Ta
 |[(g,_)]=>match o.guard with
  |some (j,_)=>match yv ops j with
   |some g'=>Nat.beq g g'
   |none=>Tc
  |none=>Tc
 |_=>Tc
def qcf:List Nat->Nat->Bool
 |[x],k=>Nat.beq x k
 |_,_=>Tc
def inL:List Nat->Nat->Bool
 |[],_=>Tc
 |x::l,k=>bif Nat.beq x k then Ta else inL l k
theorem z3a{k:Nat}:∀{l:List Nat},inL l k=Ta->k∈l
 |[],h=>by cases h
 |x::l,h=>by
  simp only[inL]at h;cases hb:Nat.beq x k with
  |true=>rw[Ak hb];exact Am
  |false=>rw[hb]at h;exact Ae _ (z3a h)
def zix(ops:Array Oper)(m:Nat)(o:Oper)(k:Nat)(pl:Array Bool):Bool:=
 bif Nat.blt k m then(bif Qr ops k (Zk ops o) m then(bif yc o then qcf (Region.ready .any ops pl) k else inL (Region.ready .any ops pl) k)else Tc)else Tc
def zq1(S:List Nat)(av:AV)(b:Option (Nat×Ch)):Bool:=match b with
 |none=>Yo av S
 |some _=>Ta
def zzm(pl:Array Bool):Nat->Bool
 |0=>Ta
 |k+1=>bif pl.getD k Tc then zzm pl k else Tc
theorem zl4{pl:Array Bool}:∀{m:Nat},zzm pl m=Ta->∀k,k<m->pl.getD k Tc=Ta
 |0,_,k,hk=>by omega
 |m+1,h,k,hk=>by
  simp only[zzm]at h;cases hb:pl.getD m Tc with
  |false=>rw[hb]at h;cases h
  |true=>
   rw[hb]at h;rcases A6 k m with h1|h1;exact zl4 h k h1;have:k=m:=by omega
   subst this;exact hb
def zwq(P:Program)(ρ:Operand->Option AV)(o:Oper):Bool:=bif zkq o then(bif isQ P o then(bif Yb o.op then zil ρ o.op.operands.toList else Tc)else Tc)else Tc
def zfr(P:Program)(e:qg)(c:zx)(o:Oper):Bool:=match o.op with
 |.pick _ _ _=>Ta
 |.move _=>Ta
 |.assign _=>Ta
 |.extract _ _=>Ta
 |.alloc _=>Tc
 |.box _ _=>Tc
 |.buildSlice _ _ _=>Tc
 |.call _=>Tc
 |.load _ _=>Tc
 |.indexAddr _ _ _=>Tc
 |_=>zwq P (zg1 e c) o
theorem zq2{e:qg}(h:zfr P e c o=Ta):yc o=Tc:=by unfold yc;split;rename_i c b;rw[zfr,b]at h;cases h;rfl
def zd5(P:Program)(o:Oper)(e:qg)(ch:zx)(Kan:AV->Prop):Prop:=
 ∀av,Kan av->∀(n:Nat) (γ:Gh) (a:Act),SatA n e γ a->valid (zy a) ch->∃v,DenV γ av v/\∀w,(execOp a.eval o).run P w=.ok (.value v) w
theorem QExec.all{α:Type}{s:Sem α}{x:α}(H:∀h,QExec P s h x)(w:World):s.run P w=.ok x w:=H w.heap w w.drawn
theorem z3b{e:qg}{K:AV->Prop}(H:z99 P gl o e c cs K)(A:zfr P e c o=Ta):∃av,K av/\zd5 P o e c (· = av):=by
 unfold z99 at H;split at H;rename_i x y z r;obtain⟨av,h1,E⟩:=Wh H;refine⟨av,h1,λq e' n γ a f k=>?_⟩;obtain⟨t,Q,O⟩:=E n γ a f k;subst e';refine⟨_,O,QExec.all λh B d=>?_⟩;simp only[execOp,r,Q,asBool,Sem.run_bind,Sem.run_pure,Result.andThen_ok];rename_i J;split at H;rename_i g I;unfold qA at H;split at H;rename_i b s;exact⟨_,H,λq e' n γ a f k=>⟨_,e' ▸ (show DenV γ (.g (.a (.v (.bool b)))) _ from rfl),QExec.all λh=>zqq s (λx av F=>zo f k F) h⟩⟩;split at H;rename_i b s;exact⟨_,H,λq e' n γ a f k=>⟨_,e' ▸ (show DenV γ (.g (.a (.v (.bool b)))) _ from rfl),QExec.all λh=>zlt s (λx av F=>zo f k F) h⟩⟩;split at H;rename_i t b off w;exfalso;unfold qdy at w;split at w;rename_i t' x r;rw[zfr,r]at A;cases A;cases w;split at H;rename_i b off n len z w;exfalso;unfold qdz at w;split at w;rename_i t' x i r;rw[zfr,r]at A;cases A;cases w;unfold qA0 at H;cases s:zwq P (zg1 e c) o with
 |true=>
  unfold zwq at s;rw[s]at H;cases hfam:zkq o with
  |false=>rw[hfam]at s;cases s
  |true=>
   cases hq:isQ P o with
   |false=>rw[hfam,hq]at s;cases s
   |true=>
    cases hns:Yb o.op with
    |false=>rw[hfam,hq,hns]at s;cases s
    |true=>rw[hfam,hq,hns]at s;simp only[cond_true]at s H;obtain⟨v,h1,E⟩:=zfd hfam H;refine⟨_,h1,λq e' n γ a f k=>⟨v,e' ▸ Ja γ v,QExec.all λh=>?_⟩⟩;rw[zqf (γ:=γ) (λx av F=>zo f k F) hns s];exact E (xh f I k) h ⟨by simp,λi hi=>absurd hi (by simp)⟩
 |false=>
  have D:=s;unfold zwq at D;rw[D]at H;simp only[cond_false]at H;unfold zfr at A;split at A;rename_i x y z r;exact absurd r (J x y z);rename_i x r;rw[r]at H;simp only at H;split at H;rename_i av m;exact⟨av,H,λq e' n γ a f k=>⟨_,e' ▸ zo f k m,QExec.all λh=>by simp only[execOp,r];exact QExec.pure _⟩⟩;exact H.elim;rename_i x r;rw[r]at H;simp only at H;split at H;rename_i av m;exact⟨av,H,λq e' n γ a f k=>⟨_,e' ▸ zo f k m,QExec.all λh=>by simp only[execOp,r];exact QExec.pure _⟩⟩;exact H.elim;rename_i x i r;rw[r]at H;simp only at H;split at H;rename_i l m;split at H;rename_i ag G;refine⟨_,H,λq e' n γ a f k=>?_⟩;subst e';obtain⟨us,C,E⟩:=zo f k m;obtain⟨u,M,N⟩:=E.get G;refine⟨u,N,QExec.all λh=>?_⟩;simp only[execOp,r,C];refine QExec.val λB d=>?_;unfold Instr.extract;simp[M];exact H.elim;rename_i b p c m;split at H;refine⟨_,H,λq e' n γ a f k=>⟨_,e' ▸ (show DenV γ (.g (.a (.v (.bool b)))) _ from rfl),QExec.all λh=>?_⟩⟩;obtain⟨C,L⟩:=zo f k m;simp only[execOp,r];refine QExec.val λB d=>?_;cases b with
  |true=>rw[C rfl];rfl
  |false=>rw[L rfl];rfl
  refine⟨_,H.2,λq e' n γ a f k=>⟨_,e' ▸ (show DenV γ (.g (.a (.v (.int .i64 p)))) _ from rfl),QExec.all λh=>?_⟩⟩;obtain⟨C,_⟩:=zo f k m;simp only[execOp,r,C (H.1.out (xh f I k))];exact QExec.val λB d=>rfl;refine⟨_,H.2,λq e' n γ a f k=>⟨_,e' ▸ (show DenV γ (.g (.a (.v (.int .i32 c)))) _ from rfl),QExec.all λh=>?_⟩⟩;obtain⟨C,_⟩:=zo f k m;simp only[execOp,r,C (H.1.out (xh f I k))];exact QExec.val λB d=>rfl;exact H.elim;exact H.elim;cases A;cases A;cases A;cases A;cases A;cases A;rw[s]at A;cases A
 exact H.elim
theorem zzn{e:qg}{ch:zx}{K:AV->Option (Nat×Ch)->Prop}(H:z2y P gl tr o e ch cs K)(f:zfr P e ch o=Ta):
  ∃av,Spec h0 W M0 P o e ch cs Te (· = av)/\K av Te/\zd5 P o e ch (· = av):=by
 have r:z99 P gl o e ch cs λav=>K av Te:=by unfold z2y at H;split at H;rename_i t i;rw[zfr,i]at f;cases f;rename_i t x i;rw[zfr,i]at f;cases f;rename_i t n ps i;rw[zfr,i]at f;cases f;rename_i c i;rw[zfr,i]at f;cases f;exact H
 obtain⟨av,h1,k⟩:=z3b r f;refine⟨av,⟨λn γ h a Y l I _ _ _ m=>?_,λn γ a l m=>⟨rfl,rfl,av,rfl⟩,λb s=>(by cases s),λq=>absurd rfl q⟩,h1,k⟩;obtain⟨v,u,p⟩:=k av rfl n γ a l m;exact λB d=>.inl ⟨v,d,h,p _,av,γ,rfl,u,I,Gx.refl _ _⟩
def z3c(ops:Array Oper)(k:Nat)(o:Oper)(j:Nat):Bool:=bif Nat.beq j k then Ta else bif Region.waitsFor .any ops j k then Ta else bif Region.waitsFor .any ops k j then Ta else match ops[j]? with
 |some b=>o.apart ops b
 |none=>Ta
def zub(ops:Array Oper)(k:Nat)(o:Oper):Nat->Bool
 |0=>Ta
 |j+1=>bif z3c ops k o j then zub ops k o j else Tc
theorem zl5{ops:Array Oper}{k:Nat}{o:Oper}:∀{n:Nat},zub ops k o n=Ta->∀j b,j<n->ops[j]?=Td b->j≠k->Region.waitsFor .any ops j k=Tc->Region.waitsFor .any ops k j=Tc->o.apart ops b=Ta
 |0,_,j,b,hj,_,_,_,_=>by omega
 |n+1,h,j,b,hj,ho,h1,h2,h3=>by
  simp only[zub]at h;cases hx:z3c ops k o n with
  |false=>rw[hx]at h;cases h
  |true=>
   rw[hx]at h;rcases A6 j n with c|c;exact zl5 h j b c ho h1 h2 h3;have:j=n:=by omega
   subst this;have e:Nat.beq j k=Tc:=by
    cases hb:Nat.beq j k with
    |false=>rfl
    |true=>exact absurd (Ak hb) h1
   unfold z3c at hx;rw[e,h2,h3,ho]at hx;exact hx
def z3d(P:Program)(ops:Array Oper)(pu:List Nat)(o:Oper)(k:Nat)(e:qg)(ch:zx):Bool:=
 bif memN pu k then(bif zfr P e ch o then zub ops k o ops.size else Tc)else Ta
def qeh(ops:Array Oper)(m k:Nat):Option Nat->Bool
 |none=>Ta
 |some j=>bif Nat.blt j m then Region.waitsFor .any ops j k else Tc
def uC(pu:List Nat)(k:Nat):Option (Option Nat):=bif memN pu k then Te else qab pu k
def qei:List It->List It
 |[]=>[]
 |i::l=>(match i.us with
  |some _=>{ i with nb:=Te }
  |none=>i)::qei l
def dW(P:Program)(gl:Fr)(tr:TypeId)(n:Nat)(ops:Array Oper)(m:Nat)(pu:List Nat)(b:qg)(cs:CS)(Kt:List It->Prop):List Nat->Array Bool->List It->Prop
 |[],pl,IL=>bif zzm pl m then Kt (qei IL)else False
 |k::ord,pl,IL=>match ops[k]? with
  |none=>False
  |some o=>bif zix ops m o k pl then(match Yn ops (Xd (Zk ops o) (itE IL++b)) o.guard with
   |some ch=>bif qku ops o ch then(bif jh n ch o.dst then(bif z3d P ops pu o k (Xd (Zk ops o) (itE IL++b)) ch then(match uC pu k with
    |none=>z2y P gl tr o (Xd (Zk ops o) (itE IL++b)) ch cs (λav c=>bif zq1 (qq ops m) av c then dW P gl tr n ops m pu b cs Kt ord (pl.setIfInBounds k Ta) (⟨k,o.dst,ch,av,c,Te⟩::IL)else False)
    |some us=>bif qeh ops m k us then(match ch with
     |[]=>qeg P tr o k (Xd (Zk ops o) (itE IL++b)) IL cs us.isSome (λav c _=>bif zq1 (qq ops m) av c then dW P gl tr n ops m pu b cs Kt ord (pl.setIfInBounds k Ta) (⟨k,o.dst,[],av,c,us⟩::IL)else False)
     |_=>False)else False)else False)else False)else False
   |none=>False)else False
def strip(listed:Array Bool)(i:It):It:=match i.us with
 |some j=>bif listed.getD j Tc then { i with nb:=Te } else i
 |none=>i
theorem zfs(listed:Array Bool)(i:It):(strip listed i).k=i.k/\(strip listed i).dst=i.dst/\(strip listed i).ch=i.ch/\(strip listed i).av=i.av/\(strip listed i).us=i.us/\((strip listed i).nb=i.nb\/(strip listed i).nb=Te):=by
 unfold strip;split;cases listed.getD _ Tc with
 |true=>exact⟨rfl,rfl,rfl,rfl,rfl,.inr rfl⟩
 |false=>exact⟨rfl,rfl,rfl,rfl,rfl,.inl rfl⟩
 exact⟨rfl,rfl,rfl,rfl,rfl,.inl rfl⟩
def zft(k:Nat)(i:It):It:=match i.us with
 |some j=>bif Nat.beq j k then { i with nb:=Te } else i
 |none=>i
theorem zwr(k:Nat)(i:It):(zft k i).k=i.k/\(zft k i).dst=i.dst/\(zft k i).ch=i.ch/\(zft k i).av=i.av/\(zft k i).us=i.us/\((zft k i).nb=i.nb\/(zft k i).nb=Te):=by
 unfold zft;split;cases Nat.beq _ k with
 |true=>exact⟨rfl,rfl,rfl,rfl,rfl,.inr rfl⟩
 |false=>exact⟨rfl,rfl,rfl,rfl,rfl,.inl rfl⟩
 exact⟨rfl,rfl,rfl,rfl,rfl,.inl rfl⟩
def Z0(listed:Array Bool):List It->List It
 |[]=>[]
 |i::l=>bif listed.getD i.k Tc then strip listed i::Z0 listed l else Z0 listed l
theorem znk{listed:Array Bool}{i:It}:∀{l:List It},i∈l->listed.getD i.k Tc=Ta->strip listed i∈Z0 listed l
 |j::l,h,hl=>by
  simp only[Z0];rcases Ah.1 h with rfl|h;rw[hl];exact Am;cases listed.getD j.k Tc with
  |true=>exact Ae _ (znk h hl)
  |false=>exact znk h hl
theorem Wl{listed:Array Bool}{x:It}:∀{l:List It},x∈Z0 listed l->∃i∈l,listed.getD i.k Tc=Ta/\x=strip listed i
 |j::l,h=>by
  simp only[Z0]at h;cases hl:listed.getD j.k Tc with
  |true=>rw[hl]at h;rcases Ah.1 h with rfl|h;exact⟨j,Am,hl,rfl⟩;obtain⟨i,hi,q⟩:=Wl h;exact⟨i,Ae _ hi,q⟩
  |false=>rw[hl]at h;obtain⟨i,hi,q⟩:=Wl h;exact⟨i,Ae _ hi,q⟩
structure ItOK (h0:zb) (W:Nat->Prop) (M0:Fr) (P:Program) (n:Nat) (ops:Array Oper) (m:Nat) (pu:List Nat) (e0:qg) (cs:CS) (IL:List It) (it:It) (Kan:AV->Prop):Prop where
 lt:it.k<m
 dst:yv ops it.k=it.dst
 ok:jh n it.ch it.dst=Ta
 chw:∀x∈it.ch,∀p,p<m->yv ops p=Td x.1->Region.waitsFor .any ops it.k p=Ta
 ex:∃o e eat,ops[it.k]?=Td o/\Yn ops e o.guard=Td it.ch/\Spec h0 W M0 P o e it.ch cs it.nb Kan eat /\
  (∀x∈e,x∈e0\/(x∈itE IL/\∀p,p<m->yv ops p=Td x.1->Region.waitsFor .any ops it.k p=Ta)) /\
  (memN pu it.k=Ta->it.nb=Te/\zd5 P o e it.ch Kan/\zub ops it.k o ops.size=Ta/\yc o=Tc) /\
  (∀c,eat=Td c->∃i∈IL,i.nb=Td c/\i.us=Td it.k)
 use:∀j,it.us=Td j->j<m/\Region.waitsFor .any ops j it.k=Ta
 men:∀av,Kan av->it.nb=Te->Yo av (qq ops m)=Ta
theorem ItOK.mono{p:qg}{l f:List It}{it:It}{Kan:AV->Prop}(H:ItOK h0 W M0 P n ops m pu p cs l it Kan)(k:∀i∈l,i∈f):ItOK h0 W M0 P n ops m pu p cs f it Kan:= {lt:=H.lt,dst:=H.dst,ok:=H.ok,chw:=H.chw,men:=H.men,use:=H.use,ex:=by obtain⟨o,e,eat,h1,w,s,r,h,b⟩:=H.ex;refine⟨o,e,eat,h1,w,s,λx u=>(r x u).imp id λ⟨z,t⟩=>⟨?_,t⟩,h,λc y=>by obtain⟨i,hi,q⟩:=b c y;exact⟨i,k i hi,q⟩⟩;obtain⟨i,hi,q⟩:=X8.1 z;exact X8.2 ⟨i,k i hi,q⟩ }
theorem Zv{i p:Nat}(hi:i∈Region.ready .any ops listed)(h:Region.waitsFor .any ops i p=Ta):listed.getD p Tc=Ta:=by obtain⟨k,c,e,n,l,f⟩:=Region.waitsFor_spec h;obtain⟨_,o,m,b⟩:=mem_ready.1 hi;have:k=o:=Az (c.symm.trans m);subst this;rw[<-f];exact b e n l
structure Mid (h0:zb) (W:Nat->Prop) (M0:Fr) (P:Program) (n:Nat) (ops:Array Oper) (m:Nat) (e0:qg) (cs:CS) (listed:Array Bool) (IL:List It) (γ:Gh) (a:Act) (h:zb):Prop where
 sat:SatA n (itE (Z0 listed IL)++e0) γ a
 inv:Inv h0 W M0 (itC (Z0 listed IL)++cs) γ h
theorem Wm{k:Nat}(h:ops[k]?=Td o):yv ops k=o.dst:=by simp[yv,h]
theorem zfu{m k t:Nat}(f:k<m)(h:yv ops k=Td t):t∈qq ops m:=by
 unfold yv at h;split at h;rename_i o e;unfold qq;have b:o∈ops.toList.take m:=by rw[List.mem_iff_getElem?];exact⟨k,by rw[AJ,if_pos f];simpa using e⟩
 generalize ops.toList.take m=l at b;induction l with
 |nil=>cases b
 |cons x l c=>simp only[wz];rcases Ah.1 b with rfl|b;rw[h];exact Am;split;exact Ae _ (c b);exact c b
 cases h
theorem ziy{x:Nat×Ch}:∀{l:List It},x∈itC l↔∃i∈l,i.nb=Td x
 |[]=>by simp[itC]
 |i::l=>by simp only[itC];split;rename_i b e;rw[Ah,ziy (l:=l)];constructor;rintro(rfl|⟨j,c,h⟩);exact⟨i,Am,e⟩;exact⟨j,Ae _ c,h⟩;rintro⟨j,c,h⟩;rcases Ah.1 c with rfl|c;left;rw[e]at h;exact(Az h).symm;exact .inr ⟨j,c,h⟩;rename_i e;rw[ziy (l:=l)];constructor;rintro⟨j,c,h⟩;exact⟨j,Ae _ c,h⟩;rintro⟨j,c,h⟩;rcases Ah.1 c with rfl|c;rw[e]at h;cases h;exact⟨j,c,h⟩
theorem zws{c:Nat}:∀{l:CS},(∀x∈l,x.1≠c/\zfl c x.2=Tc)->qh c l=Ta
 |[],_=>rfl
 |(j,k)::l,h=>by
  obtain⟨h1,e⟩:=h _ Am;simp only[qh];have:Nat.beq j c=Tc:=by
   cases hb:Nat.beq j c with
   |false=>rfl
   |true=>exact absurd (Ak hb) h1
  rw[this,e];exact zws λx b=>h x (Ae _ b)
theorem zl6{e0:qg}(aa:Yj ops m=Ta)(aV:∀x∈e0,x.2.1=[]/\x.1∉qq ops m/\Yo x.2.2 (qq ops m)=Ta)
  {t:List It} (H:∀i∈t,∃Kan,ItOK h0 W M0 P n ops m pu e0 cs t i Kan/\Kan i.av) (an:∀i∈t,∀j∈t,i.k=j.k->i=j) (aQ:HeadInv .any ops m listed) (M:Mid h0 W M0 P n ops m e0 cs listed t γ a h)
  {it:It} {Kan:AV->Prop} (T:ItOK h0 W M0 P n ops m pu e0 cs t it Kan) (hr:it.k∈Region.ready .any ops listed):
  ∃o e eat,ops[it.k]?=Td o/\o.dst=it.dst/\SatA n e γ a/\Yn ops e o.guard=Td it.ch/\Spec h0 W M0 P o e it.ch cs it.nb Kan eat/\(memN pu it.k=Ta->it.nb=Te/\zd5 P o e it.ch Kan/\zub ops it.k o ops.size=Ta/\yc o=Tc) /\
   (∀b,it.nb=Td b->qh b.1 (itC (Z0 listed t)++cs)=Ta) /\
   (∀c,eat=Td c->c∈itC (Z0 listed t)++cs/\∀x∈itC (Z0 listed t)++cs,x.1=c.1->x.2=c.2)/\(∀d,o.dst=Td d->eat≠Te->qh d (itC (Z0 listed t)++cs)=Ta) /\
   ∀av u γ' h',Kan av->(valid (zy a) it.ch->DenV γ' av u)->(¬valid (zy a) it.ch->u=undef)->Inv h0 W M0 (it.nb.toList++qd9 eat (itC (Z0 listed t)++cs)) γ' h'->Gx (it.nb.map (·.1)) γ γ' ->
    ∀L':List It,L'.Perm ({ it with av:=av }::(Z0 listed t).map (zft it.k))->SatA n (itE L'++e0) γ' (a.put it.dst u)/\Inv h0 W M0 (itC L'++cs) γ' h':=by
 obtain⟨o,e,eat,ho,aM,sp,aA,aF,V⟩:=T.ex
 have ae:o.dst=it.dst:=by rw[<-Wm ho];exact T.dst
 have au:listed.getD it.k Ta=Tc:=(mem_ready.1 hr).1
 have aj:SatA n e γ a:=M.sat.sub λx r=>by
  rcases aA x r with h1|⟨h1,L⟩
  ·exact AC _ h1
  ·refine As _ ?_
   obtain⟨i,hi,q⟩:=X8.1 h1
   obtain⟨Ki,G,_⟩:=H i hi
   have hw:=L i.k G.lt (by rw[G.dst];exact q.1)
   obtain⟨f1,f2,f3,f4,_⟩:=zfs listed i
   exact X8.2 ⟨strip listed i,znk hi (Zv hr hw),by rw[f2];exact q.1,by rw[f3];exact q.2.1,by rw[f4];exact q.2.2⟩
 have hw:=xp aj aM
 have ah:∀i∈Z0 listed t,i.k≠it.k:=by
  intro x hi e
  obtain⟨i,B,this,rfl⟩:=Wl hi
  rw[(zfs listed i).1]at e
  rw[e]at this
  have L:=getD_both au
  rw[L]at this
  cases this
 have ai:∀d,o.dst=Td d->qh d cs=Ta->qh d (itC (Z0 listed t)++cs)=Ta:=by
  intro d L h1
  refine zws λx r=>?_
  rcases Ay.1 r with r|r
  ·obtain⟨i',hi,w⟩:=ziy.1 r
   obtain⟨i,B,hi2,rfl⟩:=Wl hi
   have ab:=ah _ hi
   obtain⟨f1,_,_,_,_,I⟩:=zfs listed i
   have z:i.nb=Td x:=by
    rcases I with I|I
    ·rw[<-I];exact w
    ·rw[I]at w;cases w
   obtain⟨Ki,G,am⟩:=H i B
   obtain⟨oi,ei,aH,N,_,S,_,_⟩:=G.ex
   obtain⟨_,h4,Q⟩:=S.box x z
   refine⟨λe=>ab ?_,?_⟩
   ·rw[f1]
    refine j6 aa i.k it.k d G.lt T.lt ?_ (by rw[T.dst,<-ae];exact L)
    rw[Wm N,h4,e]
   ·rcases Q with⟨⟨l,Q,h6⟩,_⟩|⟨⟨e',t',bg,Q⟩,_⟩
    ·rw[Q];exact Qp h6
    ·rw[Q];rfl
  ·obtain⟨e1,e2⟩:=Qw h1 x r
   exact⟨λe=>e1 (by rw[e]),e2⟩
 have aE:∀b,it.nb=Td b->qh b.1 (itC (Z0 listed t)++cs)=Ta:=by
  intro b F
  obtain⟨h1,L,_⟩:=sp.box b F
  exact ai b.1 L h1
 have a7:∀d,o.dst=Td d->eat≠Te->qh d (itC (Z0 listed t)++cs)=Ta:=by
  intro d hd he
  obtain⟨d',ba,hn⟩:=sp.dn he
  have:d'=d:=Az (ba.symm.trans hd)
  subst this
  exact ai d' hd hn
 have aJ:∀c,eat=Td c->∀i∈t,∀b,i.nb=Td b->b.1=c.1->i.us=Td it.k/\b=c:=by
  intro c A i hi b F e1
  obtain⟨Z,D,E,J⟩:=V c A
  obtain⟨Ki,G,_⟩:=H i hi
  obtain⟨K3,T3,_⟩:=H Z D
  obtain⟨oi,ei,aH,N,_,S,_⟩:=G.ex
  obtain⟨o3,e3,aT,aI,_,az,_⟩:=T3.ex
  obtain⟨_,d1,_⟩:=S.box b F
  obtain⟨_,d3,_⟩:=az.box c E
  have hk:i.k=Z.k:=j6 aa i.k Z.k c.1 G.lt T3.lt (by rw[Wm N,d1,e1]) (by rw[Wm aI,d3])
  have:i=Z:=an i hi Z D hk
  subst this
  exact⟨J,Az (F.symm.trans E)⟩
 have aG:∀c,eat=Td c->qh c.1 cs=Ta:=by
  intro c A
  obtain⟨Z,D,E,J⟩:=V c A
  obtain⟨K3,T3,_⟩:=H Z D
  obtain⟨o3,e3,aT,aI,_,az,_⟩:=T3.ex
  exact(az.box c E).1
 have aS:∀x∈itC (Z0 listed t),∃i∈t,i.nb=Td x:=by
  intro x r
  obtain⟨i',hi,w⟩:=ziy.1 r
  obtain⟨i,B,hi2,rfl⟩:=Wl hi
  rcases(zfs listed i).2.2.2.2.2 with I|I
  ·exact⟨i,B,by rw[<-I];exact w⟩
  ·rw[I]at w;cases w
 have ax:∀c,eat=Td c->c∈itC (Z0 listed t)++cs/\∀x∈itC (Z0 listed t)++cs,x.1=c.1->x.2=c.2:=by
  intro c A
  refine⟨As _ ?_,λx r e=>?_⟩
  ·obtain⟨Z,D,E,J⟩:=V c A
   obtain⟨K3,T3,_⟩:=H Z D
   have hw:=(T3.use _ J).2
   have hl:=Zv hr hw
   refine ziy.2 ⟨strip listed Z,znk D hl,?_⟩
   unfold strip
   rw[J]
   simp only
   rw[getD_both au]
   exact E
  ·rcases Ay.1 r with r|r
   ·obtain⟨i,hi,z⟩:=aS x r
    rw[(aJ c A i hi x z e).2]
   ·exact absurd (by rw[e]) (Qw (aG c A) x r).1
 refine⟨o,e,eat,ho,ae,aj,aM,sp,aF,aE,ax,a7,?_⟩
 ·intro av u γ' h' be hy hn I' g L' hp
  refine⟨?_,?_⟩
  ·refine⟨by rw[xe];exact M.sat.defers,by rw[size_put];exact M.sat.size,λx r=>?_⟩
   have old:∀x:Nat×zx×AV,x∈itE (Z0 listed t)++e0->(∀s,it.dst=Td s->x.1≠s/\mentions x.2.1 s=Tc)->z1y z1x (it.nb.map (·.1)) x.2.2=Tc->znb γ' (zy (a.put it.dst u)) x:=by
    intro x r hs Y
    have hf:=M.sat.all x r
    cases hd:it.dst with
    |none=>
     exact⟨λhv=>(hf.1 hv).gx g Y,hf.2⟩
    |some s=>
     obtain⟨h1,L⟩:=hs s hd
     have hv:=Zh (σ:=zy (a.put (Td s) u)) (τ:=zy a) L (λj hj=>qe hj)
     refine⟨λA=>?_,λA=>?_⟩
     ·rw[qe h1];exact(hf.1 (hv.1 A)).gx g Y
     ·exact(qe h1).trans (hf.2 λay=>A (hv.2 ay))
   have aN:∀s,it.dst=Td s->s∈qq ops m:=λs hs=>zfu T.lt (by rw[T.dst];exact hs)
   have ak:∀ap,(Yo ap (qq ops m)=Ta)->z1y z1x (it.nb.map (·.1)) ap=Tc:=by
    intro ap h1
    cases z:it.nb with
    |none=>rfl
    |some b=>
     obtain⟨_,L,_⟩:=sp.box b z
     exact zl3 h1 b.1 (aN _ (by rw[<-ae];exact L))
   rcases Ay.1 r with r|r
   ·obtain⟨i,hi,E,J,q3⟩:=X8.1 r
    rcases Ah.1 (hp.subset hi)with rfl|U
    ·-- the new fact
     simp only at E J q3
     have aL:x.1<a.tmps.size:=by
      rw[M.sat.size]
      have:=T.ok
      rw[E]at this
      simp only[jh]at this
      cases Y:mentions it.ch x.1 with
      |true=>rw[Y]at this;cases this
      |false=>rw[Y]at this;simpa[CG]using this
     have aC:mentions it.ch x.1=Tc:=by
      have:=T.ok
      rw[E]at this
      simp only[jh]at this
      cases Y:mentions it.ch x.1 with
      |true=>rw[Y]at this;cases this
      |false=>rfl
     rw[E]
     have hv:=Zh (σ:=zy (a.put (Td x.1) u)) (τ:=zy a) aC (λj hj=>qe hj)
     refine⟨λA=>?_,λA=>?_⟩
     ·rw[wv aL,<-q3];rw[<-J]at A;exact hy (hv.1 A)
     ·rw[wv aL];rw[<-J]at A;exact hn λay=>A (hv.2 ay)
    ·obtain⟨i1,aB,rfl⟩:=AL.1 U
     obtain⟨c1,c2,c3,c4,_⟩:=zwr it.k i1
     rw[c2]at E
     rw[c3]at J
     rw[c4]at q3
     have U:=aB
     obtain⟨i,B,hi2,rfl⟩:=Wl U
     obtain⟨f1,f2,f3,f4,_⟩:=zfs listed i
     have aU:=X8.2 ⟨strip listed i,U,E,J,q3⟩
     rw[f2]at E
     rw[f3]at J
     rw[f4]at q3
     have ab:i.k≠it.k:=by rw[<-f1];exact ah _ U
     obtain⟨Ki,G,am⟩:=H i B
     obtain⟨oi,ei,aH,N,_,S,_,_⟩:=G.ex
     refine old x (As _ aU) (λs hs=>⟨λe=>ab ?_,?_⟩) ?_
     ·exact j6 aa i.k it.k s G.lt T.lt (by rw[G.dst,E,e]) (by rw[T.dst];exact hs)
     ·cases Y:mentions x.2.1 s with
      |false=>rfl
      |true=>
       exfalso
       rw[<-J]at Y
       have:∃y∈i.ch,y.1=s:=by
        have key:∀c:zx,mentions c s=Ta->∃y∈c,y.1=s:=by
         intro c
         induction c with
         |nil=>intro h;cases h
         |cons y c C=>
          intro h
          obtain⟨g,p⟩:=y
          simp only[mentions]at h
          cases F:Nat.beq s g with
          |true=>exact⟨(g,p),Am,(Ak F).symm⟩
          |false=>
           rw[F]at h
           obtain⟨y,hy,e⟩:=C h
           exact⟨y,Ae _ hy,e⟩
        exact key _ Y
       obtain⟨y,a1,aY⟩:=this
       have aZ:=G.chw y a1 it.k T.lt (by rw[T.dst,hs,aY])
       obtain⟨oj,a8,e',aO,aP,a6⟩:=Region.waitsFor_spec aZ
       have:=aQ.closed i.k oj a8 hi2 e' aO aP
       rw[a6,getD_both au]at this
       cases this
     ·rw[<-q3]
      cases hnbi:i.nb with
      |none=>exact ak _ (G.men _ am hnbi)
      |some bi=>
       obtain⟨_,h4,Q⟩:=S.box bi hnbi
       have O:i.av=.g (.a (.box bi.1 0))\/i.av=.g (.a (.own bi.1)):=by
        have:=am
        rcases Q with⟨_,Q⟩|⟨_,Q⟩
        ·rw[Q]at this;exact .inl this
        ·rw[Q]at this;exact .inr this
       cases z:it.nb with
       |none=>rfl
       |some b=>
        obtain⟨_,L,_⟩:=sp.box b z
        have:Nat.beq bi.1 b.1=Tc->z1y z1x (Option.map (λx=>x.fst) (Td b)) i.av=Tc:=λhq=>by
         rcases O with O|O
         ·rw[O];exact hq
         ·rw[O];exact hq
        apply this
        cases F:Nat.beq bi.1 b.1 with
        |false=>rfl
        |true=>
         exfalso
         have:=Ak F
         exact ab (j6 aa i.k it.k b.1 G.lt T.lt (by rw[Wm N,h4,this]) (by rw[T.dst,<-ae];exact L))
   ·obtain⟨b1,b2,b3⟩:=aV x r
    exact old x (AC _ r) (λs hs=>⟨λe=>b2 (e ▸ aN s hs),by rw[b1];rfl⟩) (ak _ b3)
  ·have e1:itC ({ it with av:=av }::(Z0 listed t).map (zft it.k))=it.nb.toList++itC ((Z0 listed t).map (zft it.k)):=by
    simp only[itC]
    cases it.nb <;> rfl
   have ar:∀{l l':List It},l.Perm l'->(itC l).Perm (itC l'):=by
    intro l l' hp
    induction hp with
    |nil=>exact .nil
    |cons x p C=>simp only[itC];split;exact C.cons _;exact C
    |swap x y l=>
     simp only[itC]
     split <;> split <;> first|exact .swap _ _ _|exact .refl _
    |trans _ _ i1 i2=>exact i1.trans i2
   have sub:(itC ((Z0 listed t).map (zft it.k))++cs).Sublist (qd9 eat (itC (Z0 listed t)++cs)):=by
    have s0:∀l:List It,(itC (l.map (zft it.k))).Sublist (itC l):=by
     intro l
     induction l with
     |nil=>exact .slnil
     |cons x l C=>
      simp only[Ar,itC]
      rcases(zwr it.k x).2.2.2.2.2 with f|f
      ·rw[f]
       split
       ·exact C.cons_cons _
       ·exact C
      ·rw[f]
       simp only
       split
       ·exact C.cons _
       ·exact C
    cases he:eat with
    |none=>exact(s0 _).append_right cs
    |some c=>
     show(_:CS).Sublist (Wa c.1 (itC (Z0 listed t)++cs))
     have hd:Wa c.1 (itC (Z0 listed t)++cs)=Wa c.1 (itC (Z0 listed t))++cs:=by
      have ha:∀l m:CS,Wa c.1 (l++m)=Wa c.1 l++Wa c.1 m:=by
       intro l m
       induction l with
       |nil=>rfl
       |cons x l C=>
        simp only[AD,Wa]
        cases Nat.beq x.1 c.1 with
        |true=>exact C
        |false=>simp only[cond_false,C,AD]
      have F:∀l:CS,(∀x∈l,x.1≠c.1)->Wa c.1 l=l:=by
       intro l
       induction l with
       |nil=>intro _;rfl
       |cons x l C=>
        intro r
        simp only[Wa]
        cases hq:Nat.beq x.1 c.1 with
        |true=>exact absurd (Ak hq) (r x Am)
        |false=>rw[cond_false,C λy hy=>r y (Ae _ hy)]
      rw[ha,F cs λx r e=>(Qw (aG c he) x r).1 (by rw[e])]
     rw[hd]
     refine List.Sublist.append_right ?_ cs
     have s1:∀l:List It,(∀i∈l,∀b,i.nb=Td b->b.1=c.1->i.us=Td it.k)->(itC (l.map (zft it.k))).Sublist (Wa c.1 (itC l)):=by
      intro l
      induction l with
      |nil=>intro _;exact .slnil
      |cons x l C=>
       intro hl
       have af:=C λi hi=>hl i (Ae _ hi)
       simp only[Ar,itC]
       cases z:x.nb with
       |none=>
        have:(zft it.k x).nb=Te:=by
         rcases(zwr it.k x).2.2.2.2.2 with f|f
         ·rw[f,z]
         ·exact f
        rw[this]
        exact af
       |some b=>
        simp only[Wa]
        cases hq:Nat.beq b.1 c.1 with
        |true=>
         have hu:=hl x Am b z (Ak hq)
         have:(zft it.k x).nb=Te:=by
          unfold zft
          rw[hu]
          simp
         rw[this,cond_true]
         exact af
        |false=>
         rw[cond_false]
         rcases(zwr it.k x).2.2.2.2.2 with f|f
         ·rw[f,z];exact af.cons_cons _
         ·rw[f];exact af.cons _
     refine s1 _ λx r b F e=>?_
     obtain⟨i,B,hi2,rfl⟩:=Wl r
     obtain⟨_,_,_,_,f5,I⟩:=zfs listed i
     rw[f5]
     rcases I with I|I
     ·exact(aJ c he i B b (by rw[<-I];exact F) e).1
     ·rw[I]at F;cases F
   have I2:Inv h0 W M0 (it.nb.toList++(itC ((Z0 listed t).map (zft it.k))++cs)) γ' h':=I'.sub (sub.append_left _)
   rw[<-AF,<-e1]at I2
   exact I2.perm ((ar hp.symm).append_right cs)
theorem zq3{t:qg}{Q:Exit->Act->World->Prop}(F:Yj ops m=Ta)(G:∀x∈t,x.2.1=[]/\x.1∉qq ops m/\Yo x.2.2 (qq ops m)=Ta) {f:List It} (D:∀i∈f,∃Kan,ItOK h0 W M0 P n ops m pu t cs f i Kan/\Kan i.av) (p:∀i∈f,∀j∈f,i.k=j.k->i=j) (E:HeadInv .any ops m listed) (M:Mid h0 W M0 P n ops m t cs listed f γ a h) {it:It} {Kan:AV->Prop} (T:ItOK h0 W M0 P n ops m pu t cs f it Kan) (Y:it.k∈Region.ready .any ops listed) {S:Act->World->Prop} (B:World) (d:Nat) (N:∀av u γ' h' L,Kan av->(∀C:List It,C.Perm ({ it with av:=av }::(Z0 listed f).map (zft it.k))->SatA n (itE C++t) γ' (a.put it.dst u)/\Inv h0 W M0 (itC C++cs) γ' h')->Gx (it.nb.map (·.1)) γ γ'->S (a.put it.dst u) (mk B L h')):
  wpOp P ops Q it.k S a (mk B d h):=by
 obtain⟨o,e,eat,ho,w,b,H,sp,U,y,q,J,fin⟩:=zl6 F G D p E M T Y;have O:=xp b H;unfold wpOp;rw[ho];simp only;by_cases r:valid (zy a) it.ch;rw[if_pos (O.2 r)];left;have I:=sp.yes n γ h a (itC (Z0 listed f)) b M.inv y q J r;refine(ExA.upon I B d ?_);rintro v L h' ⟨av,γ',V,g2,Z,s⟩;rw[w];exact N av v γ' h' L V (fin av v γ' h' V (λ_=>g2) (λl=>absurd r l) Z s) s;rw[if_neg λI=>r (O.1 I)];obtain⟨z,A,av,c⟩:=sp.no n γ a b r;rw[w];have s:Gx (it.nb.map (·.1)) γ γ:=by rw[z];exact Gx.refl _ _
 exact N av undef γ h d c (fin av undef γ h c (λl=>absurd l r) (λ_=>rfl) (by rw[z,A];exact M.inv) s) s
theorem z3e{D:qg}{Q:Exit->Act->World->Prop}(ab:Yj ops m=Ta)(ah:∀x∈D,x.2.1=[]/\x.1∉qq ops m/\Yo x.2.2 (qq ops m)=Ta) {p:List It} (V:∀i∈p,∃Kan,ItOK h0 W M0 P n ops m pu D cs p i Kan/\Kan i.av) (t:∀i∈p,∀j∈p,i.k=j.k->i=j) (aa:HeadInv .any ops m listed) (M:Mid h0 W M0 P n ops m D cs listed p γ a h) {it:It} {Kan:AV->Prop} (T:ItOK h0 W M0 P n ops m pu D cs p it Kan) (s:Kan it.av) (H:it.k∈Region.ready .any ops listed) (ae:memN pu it.k=Ta) (q:Region.noSelect ops=Ta) (hQ:∀c a w,¬Q (.panic c) a w) (B:World) (d:Nat) {f:Nat} (hK:∀u,(∀J:List It,J.Perm (it::(Z0 listed p).map (zft it.k))->SatA n (itE J++D) γ (a.put it.dst u)/\Inv h0 W M0 (itC J++cs) γ h)->Gx (it.nb.map (·.1)) γ γ->wpAny P .any ops Q f (listed.setIfInBounds it.k Ta) (a.put it.dst u) (mk B d h)):
  wpAny P .any ops Q (f+1) listed a (mk B d h):=by
 obtain⟨o,e,eat,ho,E,l,ak,sp,G,ar,ap,au,fin⟩:=zl6 ab ah V t aa M T H;obtain⟨F,O,y,_⟩:=G ae;have b:Inv h0 W M0 (it.nb.toList++qd9 eat (itC (Z0 listed p)++cs)) γ h:=by
  rw[F];refine M.inv.sub ?_;cases eat with
  |none=>exact List.Sublist.refl _
  |some c=>exact wy c.1 _
 have hw:=xp l ak;have I:Gx (it.nb.map (·.1)) γ γ:=by rw[F];exact Gx.refl _ _
 have A:∀j z,ops[j]?=Td z->j≠it.k->listed.getD j Ta=Tc->(∀e∈z.after,Region.binds .any e=Ta->e.on≠it.k)->o.apart ops z=Ta:=by
  intro j z Y N aj af;have ai:j<ops.size:=(An.1 Y).1;refine zl5 y j z ai Y N ?_ ?_;cases hb:Region.waitsFor .any ops j it.k with
  |false=>rfl
  |true=>obtain⟨an,Z,e',L,U,am⟩:=Region.waitsFor_spec hb;have:an=z:=Az (Z.symm.trans Y);subst this;exact absurd am (af e' L U)
  cases hb:Region.waitsFor .any ops it.k j with
  |false=>rfl
  |true=>have:=Zv H hb;rw[getD_both aj]at this;cases this
 by_cases C:valid (zy a) it.ch;obtain⟨v,hd,hx⟩:=O it.av s n γ a l C;refine wpAny_first ho (Region.noSelect_spec q) (λc a w S=>absurd S (hQ c _ w)) f listed a (mk B d h) A H (.inl ⟨hw.2 C,hx⟩) ?_;rw[E];exact hK v (fin it.av v γ h s (λ_=>hd) (λr=>absurd C r) b I) I;refine wpAny_first ho (Region.noSelect_spec q) (λc a w S=>absurd S (hQ c _ w)) f listed a (mk B d h) A H (.inr ⟨by simpa using λhx=>C (hw.1 hx),rfl⟩) ?_;rw[E];exact hK undef (fin it.av undef γ h s (λr=>absurd r C) (λ_=>rfl) b I) I
structure GInv (h0:zb) (W:Nat->Prop) (M0:Fr) (P:Program) (n:Nat) (ops:Array Oper) (m:Nat) (pu:List Nat) (e0:qg) (cs:CS) (listed pl:Array Bool) (IL:List It):Prop where
 size:pl.size=ops.size
 mem:∀k,pl.getD k Tc=Ta↔∃i∈IL,i.k=k
 dist:IL.Pairwise λi j=>i.k≠j.k
 items:∀i∈IL,∃Kan,ItOK h0 W M0 P n ops m pu e0 cs IL i Kan/\Kan i.av/\(listed.getD i.k Tc=Tc->Kan=(· = i.av))
 sub:∀k,listed.getD k Tc=Ta->pl.getD k Tc=Ta
def zhp(ops:Array Oper):List Nat->Bool
 |[]=>Ta
 |k::_=>match ops[k]? with
  |some o=>yc o
  |none=>Tc
theorem getD_lt{k:Nat}(h:k<pl.size):pl.getD k Ta=pl.getD k Tc:=by simp[h]
theorem zuc(J:Fr.le gl M0){s:qg}{Kt:List It->Prop}{k:Nat}{h:List It}(H:dW P gl tr n ops m pu s cs Kt (k::ord) pl h):
  ∃o ch b us Kan,ops[k]?=Td o/\zix ops m o k pl=Ta/\(∀av,ItOK h0 W M0 P n ops m pu s cs h ⟨k,o.dst,ch,av,b,us⟩ Kan)/\(∀av,Kan av->dW P gl tr n ops m pu s cs Kt ord (pl.setIfInBounds k Ta) (⟨k,o.dst,ch,av,b,us⟩::h))/\(yc o=Tc->∃av,Kan=(· = av)):=by
 unfold dW at H
 split at H
 ·exact H.elim
 ·rename_i o Q
  cases hst:zix ops m o k pl with
  |false=>rw[hst]at H;exact H.elim
  |true=>
   rw[hst]at H
   simp only[cond_true]at H
   split at H
   ·rename_i ch O
    cases hco:qku ops o ch with
    |false=>rw[hco]at H;exact H.elim
    |true=>
     rw[hco]at H
     cases hok:jh n ch o.dst with
     |false=>rw[hok]at H;exact H.elim
     |true=>
      rw[hok]at H
      simp only[cond_true]at H
      cases hpo:z3d P ops pu o k (Xd (Zk ops o) (itE h++s)) ch with
      |false=>rw[hpo]at H;exact H.elim
      |true=>
      rw[hpo]at H
      simp only[cond_true]at H
      have t:∃b us eat Kan,Spec h0 W M0 P o (Xd (Zk ops o) (itE h++s)) ch cs b Kan eat/\(∀av,Kan av->(bif zq1 (qq ops m) av b then dW P gl tr n ops m pu s cs Kt ord (pl.setIfInBounds k Ta) (⟨k,o.dst,ch,av,b,us⟩::h)else False))/\(yc o=Tc->∃av,Kan=(· = av)) /\
        (memN pu k=Ta->b=Te/\zd5 P o (Xd (Zk ops o) (itE h++s)) ch Kan/\zub ops k o ops.size=Ta/\yc o=Tc) /\
        (∀c,eat=Td c->∃i∈h,i.nb=Td c/\i.us=Td k)/\(∀j,us=Td j->j<m/\Region.waitsFor .any ops j k=Ta):=by
       unfold z3d at hpo
       unfold uC at H
       cases hmp:memN pu k with
       |false=>
        rw[hmp,cond_false]at H
        split at H
        ·obtain⟨b,Kan,h1,l,A⟩:=zt9 (h0:=h0) (W:=W) (M0:=M0) J H
         exact⟨b,Te,Te,Kan,h1,l,A,λr=>(by cases r),λc r=>(by cases r),λj w=>by cases w⟩
        ·rename_i us Y
         cases huo:qeh ops m k us with
         |false=>rw[huo]at H;exact H.elim
         |true=>
          rw[huo,cond_true]at H
          split at H
          ·obtain⟨b,eat,av,h1,l,A⟩:=zua (h0:=h0) (W:=W) (M0:=M0) H
           refine⟨b,us,eat,(· = av),h1,λu e=>e ▸ l,λ_=>⟨av,rfl⟩,λr=>(by cases r),λc r=>zce (A c r),λj w=>?_⟩
           subst w
           simp only[qeh]at huo
           cases hq:Nat.blt j m with
           |false=>rw[hq]at huo;cases huo
           |true=>rw[hq]at huo;exact⟨by simpa[CG]using hq,huo⟩
          ·exact H.elim
       |true=>
        rw[hmp]at hpo
        simp only[cond_true]at hpo
        rw[hmp,cond_true]at H
        simp only at H
        cases hpb:zfr P (Xd (Zk ops o) (itE h++s)) ch o with
        |false=>rw[hpb]at hpo;cases hpo
        |true=>
         rw[hpb]at hpo
         obtain⟨av,h1,l,A⟩:=zzn (h0:=h0) (W:=W) (M0:=M0) H hpb
         exact⟨Te,Te,Te,(· = av),h1,λu e=>e ▸ l,λ_=>⟨av,rfl⟩,λ_=>⟨rfl,A,hpo,zq2 hpb⟩,λc r=>(by cases r),λj w=>by cases w⟩
      obtain⟨b,us,eat,Kan,sp,V,z,D,B,y⟩:=t
      have F:Qr ops k (Zk ops o) m=Ta:=by
       unfold zix at hst
       cases h1:Nat.blt k m with
       |false=>rw[h1]at hst;cases hst
       |true=>
        rw[h1]at hst
        cases l:Qr ops k (Zk ops o) m with
        |false=>rw[l]at hst;cases hst
        |true=>rfl
      have N:k<m:=by
       unfold zix at hst
       cases h1:Nat.blt k m with
       |false=>rw[h1]at hst;cases hst
       |true=>simpa[CG]using h1
      have E:∀av,Kan av->zq1 (qq ops m) av b=Ta/\dW P gl tr n ops m pu s cs Kt ord (pl.setIfInBounds k Ta) (⟨k,o.dst,ch,av,b,us⟩::h):=by
       intro av f
       have:=V av f
       cases hio:zq1 (qq ops m) av b with
       |false=>rw[hio]at this;exact this.elim
       |true=>rw[hio]at this;exact⟨rfl,this⟩
      refine⟨o,ch,b,us,Kan,Q,hst,λav=>⟨N,Wm Q,hok,?_,⟨o,_,eat,Q,O,sp,λx G=>?_,D,B⟩,y,λu f C=>?_⟩,λav f=>(E av f).2,z⟩
      ·-- the chain's slots
       intro x G p U I
       refine Yi F p x.1 U I ?_
       unfold qku at hco
       split at hco
       ·cases G
       ·rename_i g q
        have L:x=(g,q):=by simpa using G
        subst L
        split at hco
        ·rename_i j Z M
         split at hco
         ·rename_i g' S
          have e:=Ak hco
          unfold Zk
          rw[M]
          simp only[S]
          rw[e]
          exact As _ Am
         ·cases hco
        ·cases hco
       ·cases hco
      ·obtain⟨h1,l⟩:=Je G
       rcases Ay.1 h1 with h1|h1
       ·exact .inr ⟨h1,λp U I=>Yi F p x.1 U I l⟩
       ·exact .inl h1
      ·have:=(E u f).1
       simp only at C
       subst C
       exact this
   ·exact H.elim
theorem z3f{k:Nat}(h:zix ops m o k pl=Ta):k∈Region.ready .any ops pl/\(yc o=Ta->Region.ready .any ops pl=[k]):=by
 unfold zix at h;cases h1:Nat.blt k m with
 |false=>rw[h1]at h;cases h
 |true=>
  rw[h1]at h;cases h2:Qr ops k (Zk ops o) m with
  |false=>rw[h2]at h;cases h
  |true=>
   rw[h2]at h;simp only[cond_true]at h;cases ha:yc o with
   |false=>rw[ha]at h;exact⟨z3a h,λb=>by cases b⟩
   |true=>
    rw[ha]at h;simp only[cond_true]at h;have:Region.ready .any ops pl=[k]:=by unfold qcf at h;split at h;rename_i x _ c;rw[c,Ak h];cases h
    exact⟨by rw[this];exact Am,λ_=>this⟩
theorem z3g{P:Program}{gl:Fr}(r:Fr.le gl M0){tr:TypeId}{n:Nat}{ops:Array Oper}{m:Nat}{pu:List Nat}{t:qg}{cs:CS}{Kt:List It->Prop}{listed:Array Bool}:∀{ord:List Nat} {pl:Array Bool} {p:List It},dW P gl tr n ops m pu t cs Kt ord pl p->GInv h0 W M0 P n ops m pu t cs listed pl p ->
  ∃c l new,dW P gl tr n ops m pu t cs Kt c l (new++p)/\GInv h0 W M0 P n ops m pu t cs listed l (new++p)/\zhp ops c=Ta/\∀i∈new,listed.getD i.k Tc=Tc
 |[],pl,p,H,G=>⟨[],pl,[],H,G,rfl,λi hi=>by cases hi⟩
 |k::ord,pl,p,H,G=>by
  obtain⟨o,ch,E,us,Kan,M,B,z,F,s⟩:=zuc (h0:=h0) (W:=W) (M0:=M0) r H;cases ha:yc o with
  |true=>exact⟨k::ord,pl,[],H,G,by simp[zhp,M,ha],λi hi=>by cases hi⟩
  |false=>
   obtain⟨av,rfl⟩:=s ha;have w:=(z3f B).1;have u:pl.getD k Ta=Tc:=(mem_ready.1 w).1;have q:k<pl.size:=by rcases A6 k pl.size with h|h;exact h;simp[Array.getElem?_eq_none h]at u
   have b:pl.getD k Tc=Tc:=by rw[<-getD_lt q];exact u
   have D:listed.getD k Tc=Tc:=by
    cases hb:listed.getD k Tc with
    |false=>rfl
    |true=>rw[G.sub k hb]at b;cases b
   have A:∀i∈p,i.k≠k:=λi hi e=>by have:=(G.mem k).2 ⟨i,hi,e⟩;rw[this]at b;cases b
   have J:GInv h0 W M0 P n ops m pu t cs listed (pl.setIfInBounds k Ta) (⟨k,o.dst,ch,av,E,us⟩::p):=by refine⟨by simp[G.size],λj=>?_,Be.2 ⟨λj y=>(A j y).symm,G.dist⟩,λi hi=>?_,λj y=>?_⟩;by_cases f:k=j;subst f;simp only[Ah,exists_eq_or_imp,true_or,iff_true];simp[q];rw[getD_set_ne Tc f,G.mem j];simp only[Ah,exists_eq_or_imp,f,false_or];rcases Ah.1 hi with rfl|hi;exact⟨(· = av),(z av).mono λi hi=>Ae _ hi,rfl,λ_=>rfl⟩;obtain⟨L,h1,x,C⟩:=G.items i hi;exact⟨L,h1.mono λi hi=>Ae _ hi,x,C⟩;by_cases f:k=j;subst f;simp[q];rw[getD_set_ne Tc f];exact G.sub j y
   obtain⟨c,l,new,h1,x,C,I⟩:=z3g r (F av rfl) J;refine⟨c,l,new++[⟨k,o.dst,ch,av,E,us⟩],by simpa using h1,by simpa using x,C,λi hi=>?_⟩;rcases Ay.1 hi with hi|hi;exact I i hi;simp only[A4]at hi;subst hi;exact D
theorem zq4{k:Nat}(h:k<listed.size)(c:listed.getD k Tc=Tc)(i:It):strip (listed.setIfInBounds k Ta) i=zft k (strip listed i):=by
 unfold strip zft;cases hu:i.us with
 |none=>simp[hu]
 |some j=>
  simp only;by_cases b:j=k;subst b;have f:(listed.setIfInBounds j Ta).getD j Tc=Ta:=by simp[h]
  rw[f,c];simp[hu];rw[getD_set_ne Tc (Ne.symm b)];have e:Nat.beq j k=Tc:=by
   cases hq:Nat.beq j k with
   |false=>rfl
   |true=>exact absurd (Ak hq) b
  cases listed.getD j Tc with
  |true=>simp[e]
  |false=>simp[hu,e]
theorem zud{listed:Array Bool}{k:Nat}(c:k<listed.size)(b:listed.getD k Tc=Tc):∀{l:List It},(∀j∈l,k≠j.k)->Z0 (listed.setIfInBounds k Ta) l=(Z0 listed l).map (zft k)
 |[],_=>rfl
 |j::l,hj=>by
  simp only[Z0];rw[getD_set_ne Tc (hj j Am),zud c b λx e=>hj x (Ae _ e)];cases listed.getD j.k Tc with
  |true=>simp only[cond_true,Ar];rw[zq4 c b]
  |false=>rfl
theorem zwt{it:It}(b:∀j,it.us=Td j->listed.getD j Tc=Tc):strip listed it=it:=by unfold strip;split;rename_i j c;rw[b j c];rfl;rfl
theorem zwu{listed:Array Bool}{it:It}(e:it.k<listed.size)(b:listed.getD it.k Tc=Tc)(m:∀j,it.us=Td j->(listed.setIfInBounds it.k Ta).getD j Tc=Tc):∀{c:List It},c.Pairwise (λi j=>i.k≠j.k)->it∈c->(Z0 (listed.setIfInBounds it.k Ta) c).Perm (it::(Z0 listed c).map (zft it.k))
 |[],_,h=>by cases h
 |i::l,hd,h=>by
  rw[Be]at hd;simp only[Z0];rcases Ah.1 h with rfl|h;have o:(listed.setIfInBounds it.k Ta).getD it.k Tc=Ta:=by simp[e]
  rw[o,b,zud e b hd.1,zwt m];exact .refl _;have f:i.k≠it.k:=hd.1 it h;rw[getD_set_ne Tc (Ne.symm f)];have n:=zwu e b m hd.2 h;cases listed.getD i.k Tc with
  |true=>simp only[cond_true,Ar];rw[zq4 e b];exact(n.cons _).trans (.swap _ _ _)
  |false=>exact n
theorem znl{listed:Array Bool}{b:List It}:∀{new:List It},(∀i∈new,listed.getD i.k Tc=Tc)->Z0 listed (new++b)=Z0 listed b
 |[],_=>rfl
 |i::l,h=>by simp only[AD,Z0];rw[h i Am];exact znl λx c=>h x (Ae _ c)
theorem zwv{listed:Array Bool}:∀{l:List It},(∀i∈l,listed.getD i.k Tc=Ta/\∀j,i.us=Td j->listed.getD j Tc=Ta)->Z0 listed l=qei l
 |[],_=>rfl
 |i::l,h=>by simp only[Z0,qei];obtain⟨h1,e⟩:=h i Am;rw[h1,zwv λx b=>h x (Ae _ b),cond_true];congr 1;unfold strip;split;rename_i j c;rw[e j c];rfl;rfl
theorem GInv.ready_pl{p:qg}{k:List It}(G:GInv h0 W M0 P n ops m pu p cs listed pl k)(hi:i∈Region.ready .any ops listed)(q:pl.getD i Tc=Tc):i∈Region.ready .any ops pl:=by obtain⟨_,o,f,b⟩:=mem_ready.1 hi;have c:i<ops.size:=(An.1 f).1;exact mem_ready.2 ⟨by rw[getD_lt (by rw[G.size];exact c)];exact q,o,f,λe l h=>G.sub _ (b e l h)⟩
theorem zzo(p:m<=ops.size)(b:ji ops ops.size=Ta)(f:listed.size=ops.size)(c:∃k,k<m/\listed.getD k Tc=Tc):∃k,k<m/\k∈Region.ready .any ops listed:=by
 obtain⟨k,⟨h1,o⟩,h⟩:=exists_least c;refine⟨k,h1,mem_ready.2 ⟨by rw[getD_lt (by omega)];exact o,ops[k],Bo (by omega),λe n l=>?_⟩⟩;have i:=yn b k ops[k] (by omega) (Bo (by omega)) e n l;cases hb':listed.getD e.on Tc with
 |true=>rfl
 |false=>have:=h e.on ⟨by omega,hb'⟩;omega
def Wn(N m:Nat):Array Bool:=((Bl N).map λk=>Nat.blt k m).toArray
theorem zue(f:m<=ops.size)(inv:HeadInv .any ops m listed)(b:∀k,k<m->listed.getD k Tc=Ta):listed=Wn ops.size m:=by
 refine Array.ext (by simp[Wn,inv.size]) λi h1 l=>?_;have hi:i<ops.size:=by rw[<-inv.size];exact h1
 have e:(Wn ops.size m)[i]=Nat.blt i m:=by simp[Wn]
 rw[e];rcases A6 i m with h|h;have:=b i h;simp only[Array.getD,h1,dite_true]at this;rw[show Nat.blt i m=Ta by simpa[CG]using h];exact this;have:=inv.tail i h hi;simp only[Array.getD,h1,dite_true]at this;have c:Nat.blt i m=Tc:=by
  cases hb:Nat.blt i m with
  |false=>rfl
  |true=>have:=CG.mp hb;omega
 rw[c];exact this
def z3h(ops:Array Oper)(pu:List Nat)(m i:Nat):Nat->Bool
 |0=>Tc
 |j+1=>bif (bif Region.waitsFor .any ops j i then(bif Nat.beq j m then Ta else !(memN pu j))else Tc)then Nat.blt i j else z3h ops pu m i j
theorem zl7{ops:Array Oper}{pu:List Nat}{m i:Nat}:∀{n:Nat},z3h ops pu m i n=Ta->∃j,j<n/\i<j/\Region.waitsFor .any ops j i=Ta/\(j=m\/memN pu j=Tc)
 |0,h=>by cases h
 |n+1,h=>by
  simp only[z3h]at h;cases hb:(bif Region.waitsFor .any ops n i then(bif Nat.beq n m then Ta else !(memN pu n))else Tc)with
  |false=>rw[hb]at h;obtain⟨j,h1,b⟩:=zl7 h;exact⟨j,by omega,b⟩
  |true=>
   rw[hb]at h;refine⟨n,by omega,by simpa[CG]using h,?_⟩;cases hw:Region.waitsFor .any ops n i with
   |false=>rw[hw]at hb;cases hb
   |true=>
    rw[hw]at hb;refine⟨rfl,?_⟩;cases hm:Nat.beq n m with
    |true=>exact .inl (Ak hm)
    |false=>rw[hm]at hb;exact .inr (by simpa using hb)
def zzp(ops:Array Oper)(pu:List Nat)(m:Nat):Nat->Bool
 |0=>Ta
 |i+1=>bif (bif memN pu i then Ta else z3h ops pu m i (m+1))then zzp ops pu m i else Tc
theorem zl8{ops:Array Oper}{pu:List Nat}{m:Nat}:∀{n:Nat},zzp ops pu m n=Ta->∀i,i<n->memN pu i=Tc->∃j,j<=m/\i<j/\Region.waitsFor .any ops j i=Ta/\(j=m\/memN pu j=Tc)
 |0,_,i,hi,_=>by omega
 |n+1,h,i,hi,hp=>by
  simp only[zzp]at h;cases hb:(bif memN pu n then Ta else z3h ops pu m n (m+1))with
  |false=>rw[hb]at h;cases h
  |true=>
   rw[hb]at h;rcases A6 i n with h1|h1;exact zl8 h i h1 hp;have:i=n:=by omega
   subst this;rw[hp]at hb;obtain⟨j,b,a2⟩:=zl7 hb;exact⟨j,by omega,a2⟩
def zzq(ops:Array Oper)(pu:List Nat)(m:Nat):Bool:=bif Nat.beq m ops.size then Ta else bif zzp ops pu m m then Region.chainB .any ops m else Tc
theorem zuf(C:m<ops.size)(x:zzp ops pu m m=Ta)(w:Region.chainB .any ops m=Ta)(inv:HeadInv .any ops m listed):
  ∀(d i:Nat),m-i=d->i<m->listed.getD i Tc=Tc->memN pu i=Tc->∀t,m<=t->t∉Region.ready .any ops listed:=by
 intro d;induction d using DF with
 |_ d B=>
  intro i F hi b o t E h;obtain⟨_,ot,p,s⟩:=mem_ready.1 h;have f:t<ops.size:=(An.1 p).1;by_cases l:t=m;subst l;obtain⟨j,h1,D,r,u⟩:=zl8 x i hi o;by_cases c:j=t;subst c;rw[Zv h r]at b;cases b;have q:memN pu j=Tc:=u.resolve_left c;cases hl:listed.getD j Tc with
  |true=>obtain⟨z,k,e,y,A,n⟩:=Region.waitsFor_spec r;have:=inv.closed j z k hl e y A;rw[n,b]at this;cases this
  |false=>exact B (t-j) (by omega) j rfl (by omega) hl q t (Ab _) h
  have h1:=Av.1 w t (A1.2 f);simp only[BO,decide_eq_true_eq]at h1;rcases h1 with h1|h1;omega;have:=Zv h h1;rw[getD_both (inv.tail (t-1) (by omega) (by omega))]at this;cases this
theorem qac(p:m<=ops.size)(b:zzq ops pu m=Ta)(inv:HeadInv .any ops m listed)(c:∃k,k<m/\k∈Region.ready .any ops listed/\memN pu k=Tc):∀i∈Region.ready .any ops listed,i<m:=by
 intro i hi;obtain⟨_,o,l,_⟩:=mem_ready.1 hi;have f:i<ops.size:=(An.1 l).1;rcases A6 i m with h|h;exact h;exfalso;unfold zzq at b;cases hb:Nat.beq m ops.size with
 |true=>have:=Ak hb;omega
 |false=>
  rw[hb]at b;simp only[cond_false]at b;cases hs:zzp ops pu m m with
  |false=>rw[hs]at b;cases b
  |true=>rw[hs]at b;obtain⟨k,h1,n,e⟩:=c;exact zuf (by omega) hs b inv _ k rfl h1 (getD_both (mem_ready.1 n).1) e i h hi
theorem qkv(hgl:Fr.le gl M0){e0:qg}{Kt:List It->Prop}{Q:Exit->Act->World->Prop}(hm:m<=ops.size)(hnd:Yj ops m=Ta)(hback:ji ops ops.size=Ta)(hends:zzq ops pu m=Ta)(hsel:Region.noSelect ops=Ta)(hQp:∀c a w,¬Q (.panic c) a w) (he0:∀x∈e0,x.2.1=[]/\x.1∉qq ops m/\Yo x.2.2 (qq ops m)=Ta) (B:World) {g:Nat} {a0:Act} {γ0:Gh} (hQ:∀IL γ a d h,SatA n (itE IL++e0) γ a->Inv h0 W M0 (itC IL++cs) γ h->Same (qq ops m) a0 a->GxS (qq ops m) γ0 γ->Kt IL->wpAny P .any ops Q g (Wn ops.size m) a (mk B d h)):
    ∀(N:Nat) (U:List Nat) (listed:Array Bool) (ord:List Nat) (pl:Array Bool) (IL:List It) (γ:Gh) (a:Act) (d:Nat) (h:zb),U.length=N->U.Nodup->(∀k,k∈U↔k<m/\listed.getD k Tc=Tc)->HeadInv .any ops m listed -> dW P gl tr n ops m pu e0 cs Kt ord pl IL->zhp ops ord=Ta->GInv h0 W M0 P n ops m pu e0 cs listed pl IL->Mid h0 W M0 P n ops m e0 cs listed IL γ a h->Same (qq ops m) a0 a->GxS (qq ops m) γ0 γ -> wpAny P .any ops Q (N+g) listed a (mk B d h):=by
  intro N;induction N with
  |zero=>
    intro U listed ord pl IL γ a d h hU _ hmem inv H hanch G M hsame hgx;have hUn:U=[]:=Bi.1 hU;subst hUn;have hall:∀k,k<m->listed.getD k Tc=Ta:=λk hk=>by
      cases hb:listed.getD k Tc with
      |true=>rfl
      |false=>exact absurd ((hmem k).2 ⟨hk,hb⟩) (by simp)
    have hKt:Kt (qei IL):=by
      cases ord with
      |nil=>
        unfold dW at H;cases hb:zzm pl m with
        |true=>rw[hb]at H;exact H
        |false=>rw[hb]at H;exact H.elim
      |cons k ord=>exfalso;obtain⟨o,ch,nb,us,Kan,ho,hst,hit,_,_⟩:=zuc (h0:=h0) (W:=W) (M0:=M0) hgl H;have hk:k<m:=(hit (.g (.a (.v undef)))).lt;have h1:=(mem_ready.1 (z3f hst).1).1;rw[getD_lt (by rw[G.size];omega),G.sub k (hall k hk)]at h1;cases h1
    have hact:Z0 listed IL=qei IL:=zwv λi hi=>by obtain⟨Ki,Ti,_⟩:=G.items i hi;exact⟨hall _ Ti.lt,λj hj=>hall j (Ti.use j hj).1⟩
    have h1:=M.sat;have h2:=M.inv;rw[hact]at h1 h2;rw[AI,zue hm inv hall];exact hQ (qei IL) γ a d h h1 h2 hsame hgx hKt
  |succ N ih=>
    intro U listed ord pl IL γ a d h hU hdup hmem inv H hanch G M hsame hgx;have hex:∃k,k<m/\listed.getD k Tc=Tc:=by
      cases U with
      |nil=>cases hU
      |cons k U=>exact⟨k,(hmem k).1 Am⟩
    obtain⟨k0,hk0m,hk0⟩:=zzo hm hback inv.size hex;rw[show N+1+g=(N+g)+1 by omega];have gen:∀i,i∈Region.ready .any ops listed->i<m->(memN pu i=Ta->wpAny P .any ops Q (N+g+1) listed a (mk B d h))/\wpOp P ops Q i (wpAny P .any ops Q (N+g) (listed.setIfInBounds i Ta)) a (mk B d h):=by
      intro i hi him;have hun:listed.getD i Tc=Tc:=getD_both (mem_ready.1 hi).1;have hils:i<listed.size:=by rw[inv.size];omega
      have hU':(U.erase i).length=N:=by rw[List.length_erase_of_mem ((hmem i).2 ⟨him,hun⟩),hU];rfl
      have hdup':(U.erase i).Nodup:=hdup.erase i;have hmem':∀k,k∈U.erase i↔k<m/\(listed.setIfInBounds i Ta).getD k Tc=Tc:=λk=>by rw[hdup.mem_erase_iff,hmem k];by_cases hk:i=k;subst hk;simp[hils];rw[getD_set_ne Tc hk];exact⟨λhx=>hx.2,λhx=>⟨λe=>hk e.symm,hx⟩⟩
      have inv':=inv.set hi him;have toS:∀{it:It} {Kan:AV->Prop},ItOK h0 W M0 P n ops m pu e0 cs IL it Kan->∀{γ':Gh},Gx (it.nb.map (·.1)) γ γ'->GxS (qq ops m) γ γ':=by
        intro it Kan T γ' gx;refine⟨gx.1,λj hj=>?_⟩;refine gx.2 j λhc=>hj ?_;obtain⟨o,e,eat,ho,_,sp,_,_⟩:=T.ex;cases hnb:it.nb with
        |none=>rw[hnb]at hc;cases hc
        |some b=>
          rw[hnb]at hc;have:b.1=j:=by simpa using hc
          subst this;obtain⟨_,h2,_⟩:=sp.box b hnb;exact zfu T.lt (by rw[Wm ho];exact h2)
      have toSame:∀{it:It} {Kan:AV->Prop},ItOK h0 W M0 P n ops m pu e0 cs IL it Kan->∀u,Same (qq ops m) a (a.put it.dst u):=λ {it} {Kan} T u=>
        Same.put a it.dst u λj hj=>zfu T.lt (by rw[T.dst];exact hj)
      have hILk:∀x∈IL,∃Kan,ItOK h0 W M0 P n ops m pu e0 cs IL x Kan/\Kan x.av:=λx hx=>by obtain⟨Kx,h1,h2,_⟩:=G.items x hx;exact⟨Kx,h1,h2⟩
      have hdist:∀x∈IL,∀y∈IL,x.k=y.k->x=y:=by
        have key:∀l:List It,l.Pairwise (λi j=>i.k≠j.k)->∀x∈l,∀y∈l,x.k=y.k->x=y:=by
          intro l;induction l with
          |nil=>intro _ x hx;cases hx
          |cons z l ihl=>intro hp x hx y hy e;rw[Be]at hp;rcases Ah.1 hx with hx1|hx1;rcases Ah.1 hy with hy1|hy1;rw[hx1,hy1];rw[hx1]at e;exact absurd e (hp.1 y hy1);rcases Ah.1 hy with hy1|hy1;rw[hy1]at e;exact absurd e.symm (hp.1 x hx1);exact ihl hp.2 x hx1 y hy1 e
        exact key IL G.dist
      cases hpl:pl.getD i Tc with
      |true=>
        obtain⟨it,hit,hik⟩:=(G.mem i).1 hpl;subst hik;obtain⟨Kan,T,_,hdet⟩:=G.items it hit;have fwd:∀u γ' h' d',(∀L':List It,L'.Perm (it::(Z0 listed IL).map (zft it.k))->SatA n (itE L'++e0) γ' (a.put it.dst u)/\Inv h0 W M0 (itC L'++cs) γ' h')->Gx (it.nb.map (·.1)) γ γ'->wpAny P .any ops Q (N+g) (listed.setIfInBounds it.k Ta) (a.put it.dst u) (mk B d' h'):=by
         intro u γ' h' d' hst hgx';have huse:∀j,it.us=Td j->(listed.setIfInBounds it.k Ta).getD j Tc=Tc:=by
           intro j hj;have hw:=(T.use j hj).2;obtain⟨oj,hoj,e,he,hb,hon⟩:=Region.waitsFor_spec hw;have hjk:it.k≠j:=λe'=>by have:=yn hback j oj (An.1 hoj).1 hoj e he hb;omega
           rw[getD_set_ne Tc hjk];cases hl:listed.getD j Tc with
           |false=>rfl
           |true=>have:=inv.closed j oj hoj hl e he hb;rw[hon,hun]at this;cases this
         obtain⟨s1,s2⟩:=hst _ (zwu hils hun huse G.dist hit);refine ih _ _ ord pl IL γ' _ d' h' hU' hdup' hmem' inv' H hanch ⟨G.size,G.mem,G.dist,λx hx=>?_,λk hk=>?_⟩ ⟨s1,s2⟩ (hsame.trans (toSame T u)) (hgx.trans (toS T hgx'));obtain⟨Kx,h1,h2,h3⟩:=G.items x hx;refine⟨Kx,h1,h2,λhf=>h3 ?_⟩;by_cases hk:it.k=x.k;rw[<-hk];exact hun;rw[getD_set_ne Tc hk]at hf;exact hf;by_cases hk':it.k=k;subst hk';exact hpl;rw[getD_set_ne Tc hk']at hk;exact G.sub k hk
        have hK0:Kan it.av:=by rw[hdet hun]
        refine⟨λhp=>z3e hnd he0 hILk hdist inv M T hK0 hi hp hsel hQp B d λu hst hgx'=>fwd u γ h d hst hgx',zq3 hnd he0 hILk hdist inv M T hi B d λav u γ' h' d' hav hst hgx'=>?_⟩;have hav':av=it.av:=by rw[hdet hun]at hav;exact hav
        subst hav';exact fwd u γ' h' d' hst hgx'
      |false=>
        have hrp:=G.ready_pl hi hpl;cases ord with
        |nil=>
          exfalso;unfold dW at H;cases hb:zzm pl m with
          |true=>rw[zl4 hb i him]at hpl;cases hpl
          |false=>rw[hb]at H;exact H
        |cons k ord=>
          obtain⟨o,ch,nb,us,Kan,ho,hst,hit,hK,_⟩:=zuc (h0:=h0) (W:=W) (M0:=M0) hgl H;have hanc:yc o=Ta:=by simpa[zhp,ho]using hanch
          have hrk:=(z3f hst).2 hanc;rw[hrk]at hrp;have hik:i=k:=by simpa using hrp
          subst hik;refine⟨λhp=>?_,zq3 hnd he0 hILk hdist inv M (hit (.g (.a (.v undef)))) hi B d λav u γ' h' d' hav hst' hgx'=>?_⟩;obtain⟨o',_,_,ho',_,_,_,hpp,_⟩:=(hit (.g (.a (.v undef)))).ex;have:=(hpp hp).2.2.2;have e':o'=o:=Az (ho'.symm.trans ho);rw[e',hanc]at this;cases this;have hne:∀j∈IL,i≠j.k:=λj hj e=>by have:=(G.mem i).2 ⟨j,hj,e.symm⟩;rw[hpl]at this;cases this
          have hips:i<pl.size:=by rw[G.size,<-inv.size];exact hils
          have G':GInv h0 W M0 P n ops m pu e0 cs (listed.setIfInBounds i Ta) (pl.setIfInBounds i Ta) (⟨i,o.dst,ch,av,nb,us⟩::IL):=by refine⟨by simp[G.size],λj=>?_,Be.2 ⟨λj hj=>hne j hj,G.dist⟩,λx hx=>?_,λj hj=>?_⟩;by_cases hjk:i=j;subst hjk;simp only[Ah,exists_eq_or_imp,true_or,iff_true];simp[hips];rw[getD_set_ne Tc hjk,G.mem j];simp only[Ah,exists_eq_or_imp,hjk,false_or];rcases Ah.1 hx with rfl|hx;exact⟨Kan,(hit av).mono λx hx=>Ae _ hx,hav,λhf=>by simp[hils]at hf⟩;obtain⟨Kx,h1,h2,h3⟩:=G.items x hx;refine⟨Kx,h1.mono λx hx=>Ae _ hx,h2,λhf=>h3 ?_⟩;rw[getD_set_ne Tc (hne x hx)]at hf;exact hf;by_cases hjk:i=j;subst hjk;simp[hips];rw[getD_set_ne Tc hjk]at hj ⊢;exact G.sub j hj
          obtain⟨ord',pl',new,h1,h2,h3,h4⟩:=z3g hgl (hK av hav) G';have hact:Z0 (listed.setIfInBounds i Ta) (new++⟨i,o.dst,ch,av,nb,us⟩::IL)=⟨i,o.dst,ch,av,nb,us⟩::(Z0 listed IL).map (zft i):=by
            rw[znl h4];simp only[Z0];rw[show(listed.setIfInBounds i Ta).getD i Tc=Ta by simp[hils],zud hils hun hne,cond_true,zwt ?_];intro j hj;have hw:=((hit av).use j hj).2;obtain⟨oj,hoj,e,he,hb,hon⟩:=Region.waitsFor_spec hw;have hon:e.on=i:=hon;have hjk:i≠j:=λe'=>by have:=yn hback j oj (An.1 hoj).1 hoj e he hb;omega
            rw[getD_set_ne Tc hjk];cases hl:listed.getD j Tc with
            |false=>rfl
            |true=>have:=inv.closed j oj hoj hl e he hb;rw[hon,hun]at this;cases this
          obtain⟨s1,s2⟩:=hst' (⟨i,o.dst,ch,av,nb,us⟩::(Z0 listed IL).map (zft i)) (.refl _);exact ih _ _ ord' pl' _ γ' _ d' h' hU' hdup' hmem' inv' h1 h3 h2 ⟨by rw[hact];exact s1,by rw[hact];exact s2⟩ (hsame.trans (toSame (hit av) u)) (hgx.trans (toS (hit av) hgx'))
    by_cases hpe:∃i,i∈Region.ready .any ops listed/\i<m/\memN pu i=Ta;obtain⟨i,hi,him,hp⟩:=hpe;exact(gen i hi him).1 hp;refine⟨λhc=>(by rw[hc]at hk0;cases hk0),λi hi=>(gen i hi (qac hm hends inv ⟨k0,hk0m,hk0,?_⟩ i hi)).2⟩;cases hb:memN pu k0 with
    |false=>rfl
    |true=>exact absurd ⟨k0,hk0,hk0m,hb⟩ hpe
def qej(ops:Array Oper)(m:Nat)(pu:List Nat):Bool:=
 bif Nat.ble m ops.size then(bif Yj ops m then(bif ji ops ops.size then(bif zzq ops pu m then(bif Region.noSelect ops then Region.seqB .any ops (ops.size-m) m (Wn ops.size m)else Tc)else Tc)else Tc)else Tc)else Tc
def qek(P:Program)(gl:Fr)(tr:TypeId)(n:Nat)(ops:Array Oper)(m:Nat)(ord pu:List Nat)(R:CS)(K:qg->CS->Prop)(e:qg)(C:CS):Prop:=
 bif qej ops m pu then dW P gl tr n ops m pu (zg4 (qq ops m) e) (C++R) (λb=>wRA P gl tr n ops R K (ops.toList.drop m) (itE b++zg4 (qq ops m) e) (itC b++C)) ord (BN ops.size Tc) []else False
theorem zug(hm:P.follows .mixedOrders=Ta)(r:Fr.le gl M0){K:qg->CS->Prop}{e:qg} (H:qek P gl tr n ops m ord pu R K e C) (B:World) (d:Nat) (hs:SatA n e γ a) (I:Inv h0 W M0 (C++R) γ h) {Q:Exit->Act->World->Prop}
  (hQ:∀e' C' γ' a' d' h',SatA n e' γ' a'->Inv h0 W M0 (C'++R) γ' h'->Same (wz ops.toList) a a'->GxS (wz ops.toList) γ γ'->K e' C'->Q .normal a' (mk B d' h')):(Ek id ops Ta).wp P Q a (mk B d h):=by
 unfold qek at H;cases hB:qej ops m pu with
 |false=>rw[hB]at H;exact H.elim
 |true=>
  rw[hB]at H;simp only[cond_true]at H;have J:m<=ops.size/\Yj ops m=Ta/\ji ops ops.size=Ta/\zzq ops pu m=Ta/\Region.noSelect ops=Ta/\Region.seqB .any ops (ops.size-m) m (Wn ops.size m)=Ta:=by
   unfold qej at hB;cases h1:Nat.ble m ops.size with
   |false=>rw[h1]at hB;cases hB
   |true=>
    rw[h1]at hB;cases D:Yj ops m with
    |false=>rw[D]at hB;cases hB
    |true=>
     rw[D]at hB;cases F:ji ops ops.size with
     |false=>rw[F]at hB;cases hB
     |true=>
      rw[F]at hB;cases E:zzq ops pu m with
      |false=>rw[E]at hB;cases hB
      |true=>
       rw[E]at hB;cases h5:Region.noSelect ops with
       |false=>rw[h5]at hB;cases hB
       |true=>rw[h5]at hB;exact⟨Ca h1,rfl,rfl,rfl,rfl,hB⟩
  obtain⟨Y,M,q,p,A,u⟩:=J;have b:wz ops.toList=wz (ops.toList.take m)++wz (ops.toList.drop m):=by rw[<-Qs,Cb]
  have U:∀x∈zg4 (qq ops m) e,x.2.1=[]/\x.1∉qq ops m/\Yo x.2.2 (qq ops m)=Ta:=λx f=>(wn f).2;have s:HeadInv .any ops m (BN ops.size Tc):= ⟨by simp,λj oj _ hl=>(by rw[getD_replicate_false]at hl;cases hl),λt _ ht=>getD_in (by simpa using ht) (getD_replicate_false _ _)⟩;have G0:GInv h0 W M0 P n ops m pu (zg4 (qq ops m) e) (C++R) (BN ops.size Tc) (BN ops.size Tc) []:= ⟨by simp,λk=>by rw[getD_replicate_false];simp,Ed,λi hi=>(by cases hi),λk hk=>hk⟩;obtain⟨y,V,new,h1,D,F,E⟩:=z3g r H G0;have l:Z0 (BN ops.size Tc) (new++[])=[]:=by rw[znl E];rfl
  have z:SatA n (zg4 (qq ops m) e) γ a:=hs.sub λx f=>(wn f).1;let Qn:Exit->Act->World->Prop:=λx a w=>x=.normal/\Q .normal a w;refine wp_mono (Q':=Q) (Q:=Qn) ?_ (λx a w G=>by obtain⟨rfl,h⟩:=G;exact h);refine wp_region_any hm ?_;have Z:ops.size=m+(ops.size-m):=by omega
  have key:=qkv (n:=n) (Q:=Qn) (pu:=pu) r Y M q p A (λc a w G=>by cases G.1) U B (g:=ops.size-m) (a0:=a) (γ0:=γ) (Kt:=λIL=>wRA P gl tr n ops R K (ops.toList.drop m) (itE IL++zg4 (qq ops m) e) (itC IL++C)) (λIL γ' a' d' h' s1 s2 s3 s4 s5=>?_) m (Bl m) (BN ops.size Tc) y V (new++[]) γ a (d+1) h Dp List.nodup_range (λk=>by rw[A1,getD_replicate_false];simp) s h1 F D ⟨by rw[l];exact z,by rw[l];exact I⟩ (Same.refl _ _) (GxS.refl _ _);rw[<-Z]at key;exact key;have o:(ops.toList.drop m).length=ops.size-m:=by simp
  rw[<-o];refine wpAny_of_seq (md:=.any) (ops.toList.drop m) m _ a' _ (λj=>by simp[A9]) (by rw[o];exact u) ?_;refine zd1 r B _ _ _ _ _ _ d' s5 s1 (by rw[AF];exact s2) λN S L O aa h'' q4 q5 q6 q7 q8=>⟨rfl,hQ N S L O aa h'' q4 q5 ?_ ?_ q8⟩;rw[b];exact(s3.mono λx f=>As _ f).trans (q6.mono λx f=>AC _ f);rw[b];exact(s4.mono λx f=>As _ f).trans (q7.mono λx f=>AC _ f)
abbrev qad:=List (Nat×Nat×List Nat×List Nat×List Nat)
def qcg:qad->Nat->Option (Nat×List Nat×List Nat×List Nat)
 |[],_=>Te
 |(j,x)::l,i=>bif Nat.beq i j then Td x else qcg l i
def zuh(P:Program)(gl:Fr)(tr:TypeId)(n:Nat)(f:z2w)(c:qad)(id:Nat)(ops:Array Oper)(b:Bool)(R:CS)(K:qg->CS->Prop)(e:qg)(C:CS):Prop:=
 match qcg c id with
 |none=>zt8 P gl tr n f id ops b R K e C
 |some (m,fz,ord,pu)=>bif b then qek P gl tr n ops m ord pu R K e (frzL fz C)else False
theorem znm(o:P.follows .mixedOrders=Ta)(c:Fr.le gl M0){s:z2w}{y:qad}{b:Bool}{K:qg->CS->Prop}{e:qg} (H:zuh P gl tr n s y id ops b R K e C) (B:World) (d:Nat) (p:SatA n e γ a) (I:Inv h0 W M0 (C++R) γ h) {Q:Exit->Act->World->Prop}
  (q:∀e' f γ' a' k h',SatA n e' γ' a'->Inv h0 W M0 (f++R) γ' h'->Same (wz ops.toList) a a'->GxS (wz ops.toList) γ γ'->K e' f->Q .normal a' (mk B k h')):(Ek id ops b).wp P Q a (mk B d h):=by
 unfold zuh at H;split at H;exact znj o c H B d p I q;rename_i m fz ord pu _;cases b with
 |false=>exact H.elim
 |true=>obtain⟨A,x,l⟩:=Inv.frzL (C:=C) (γ:=γ) fz I;refine zug o c H B d (p.gx l) x λe' f γ' a' k h' r u z w t=>q e' f γ' a' k h' r u z (GxS.trans ⟨l.1,λi _=>l.2 i (by simp)⟩ w) t
end
section
variable {S:List Nat} {γ γ':Gh} {u:Value} {C R:CS} {h:zb} {n:Nat} {a:Act} {P:Program} {f:FuncId}
variable {h0 : zb} {W : Nat -> Prop} {M0 : Fr}
structure PlanA where
 tails:z2w
 draws:qad
 loops:List (Nat×AnnA)
 joins:List (Nat×AnnA)
def qhn:List (Nat×AnnA)->Option Nat->Option AnnA
 |[],_=>Te
 |(j,m)::l,some i=>bif Nat.beq i j then Td m else qhn l (Td i)
 |_,none=>Te
def qgo:AA->List Nat
 |.box j _=>[j]
 |.own j=>[j]
 |.oelt j _ _ _=>[j]
 |_=>[]
def z3i(S:List Nat):List AA->Bool
 |[]=>Ta
 |x::l=>bif (match qgo x with
  |[]=>Ta
  |j::_=>!(memN S j))then z3i S l else Tc
def qae(S:List Nat):AG->Bool
 |.a x=>z3i S [x]
 |.agg l=>z3i S l
def zww(S:List Nat):List AG->Bool
 |[]=>Ta
 |x::l=>bif qae S x then zww S l else Tc
def qel(S:List Nat):AV->Bool
 |.g x=>qae S x
 |.tup l=>zww S l
 |.nx _ _ _=>Ta
theorem DenA.gxS(g:GxS S γ γ'){x:AA}(k:(match qgo x with
  |[]=>Ta
  |j::_=>!(memN S j))=Ta)(h:DenA γ x u):DenA γ' x u:=by
 have key:∀j,memN S j=Tc->γ'.β j=γ.β j/\γ'.σ j=γ.σ j:=λj n=>g.2 j (Ql n);cases x with
 |v y=>exact h
 |d t y=>exact Rd.mono g.1 h
 |box j o=>rw[show u=_ from h];simp only[DenA,(key j (by simpa[qgo]using k)).1]
 |own j=>rw[show u=_ from h];simp only[DenA,(key j (by simpa[qgo]using k)).2]
 |oelt j z i o=>obtain⟨b,l,c⟩:=h;exact⟨b,by rw[(key j (by simpa[qgo]using k)).2];exact l,c⟩
 |elt t y o=>obtain⟨b,f,cs,e,h1,m⟩:=h;exact⟨b,f,cs,e,g.1 _ _ h1,Rd.mono g.1 m⟩
 |dc t xs=>obtain⟨s,l,c,h⟩:=h;exact⟨s,l,c,Rd.mono g.1 h⟩
theorem DenL.gxS{S:List Nat}{γ γ':Gh}(g:GxS S γ γ'):∀{l:List AA} {us:List Value},z3i S l=Ta->All2 (DenA γ) l us->All2 (DenA γ') l us
 |[],[],_,_=>trivial
 |[],_::_,_,h=>h.elim
 |_::_,[],_,h=>h.elim
 |x::l,u::us,hm,h=>by
  simp only[z3i]at hm;cases hx:(match qgo x with
   |[]=>Ta
   |j::_=>!(memN S j))with
  |false=>rw[hx]at hm;cases hm
  |true=>rw[hx]at hm;exact⟨DenA.gxS g hx h.1,DenL.gxS g hm h.2⟩
theorem DenG.gxS(g:GxS S γ γ'){x:AG}(b:qae S x=Ta)(h:DenG γ x u):DenG γ' x u:=by
 cases x with
 |a x=>have:All2 (DenA γ') [x] [u]:=DenL.gxS g b (show All2 (DenA γ) [x] [u]from⟨h,trivial⟩);exact this.1
 |agg l=>obtain⟨us,e,h⟩:=h;exact⟨us,e,DenL.gxS g b h⟩
theorem DenV.gxS(g:GxS S γ γ'){x:AV}(f:qel S x=Ta)(h:DenV γ x u):DenV γ' x u:=by
 cases x with
 |g x=>exact DenG.gxS g f h
 |tup l=>
  obtain⟨us,e,h⟩:=h;refine⟨us,e,?_⟩;have:∀{l:List AG} {us:List Value},zww S l=Ta->All2 (DenG γ) l us->All2 (DenG γ') l us:=by
   intro l;induction l with
   |nil=>intro us _ h;cases us with
    |nil=>trivial
    |cons _ _=>exact h.elim
   |cons x l i=>
    intro us f h;cases us with
    |nil=>exact h.elim
    |cons u us=>
     simp only[zww]at f;cases hx:qae S x with
     |false=>rw[hx]at f;cases f
     |true=>rw[hx]at f;exact⟨DenG.gxS g hx h.1,i f h.2⟩
  exact this f h
 |nx b p c=>exact h
def ziz(ms S:List Nat):qg->qg
 |[]=>[]
 |(i,[],v)::e=>bif memN ms i then ziz ms S e else(bif qel S v then(i,[],v)::ziz ms S e else ziz ms S e)
 |(_,_::_,_)::e=>ziz ms S e
theorem Wo{ms S:List Nat}{γ l:Gh}{a m:Act}(g:GxS S γ l)(c:Same ms a m):∀{e:qg},(∀x∈e,znb γ (zy a) x)->∀x∈ziz ms S e,znb l (zy m) x
 |[],_,x,b=>by cases b
 |(i,[],v)::e,h,x,b=>by
  have k:=Wo g c (e:=e) λx b=>h x (Ae _ b);simp only[ziz]at b;cases hm:memN ms i with
  |true=>rw[hm]at b;exact k x b
  |false=>
   rw[hm]at b;simp only[cond_false]at b;cases hn:qel S v with
   |false=>rw[hn]at b;exact k x b
   |true=>rw[hn]at b;rcases Ah.1 b with rfl|b;refine⟨λ_=>?_,λf=>absurd trivial f⟩;have:=(h _ Am).1 trivial;simp only at this ⊢;rw[c _ (Ql hm)];exact this.gxS g hn;exact k x b
 |(_,_::_,_)::e,h,x,b=>Wo g c (e:=e) (λx b=>h x (Ae _ b)) x b
def inC(ro:List Nat):CS->CS
 |[]=>[]
 |(c,k)::l=>bif memN ro c then(c,k)::inC ro l else inC ro l
def qem(ro:List Nat):CS->CS
 |[]=>[]
 |(c,k)::l=>bif memN ro c then qem ro l else(c,k)::qem ro l
theorem zl9(ro:List Nat):∀C:CS,(qem ro C++inC ro C).Perm C
 |[]=>.nil
 |(c,k)::l=>by
  have b:=zl9 ro l;simp only[inC,qem];cases memN ro c with
  |true=>exact List.perm_middle.trans (b.cons _)
  |false=>exact b.cons _
theorem Inv.part(I:Inv h0 W M0 (C++R) γ h)(ro:List Nat):Inv h0 W M0 (qem ro C++(inC ro C++R)) γ h:=by rw[<-AF];exact I.perm ((zl9 ro C).symm.append_right R)
abbrev zbq:=Exit->qg->CS->Prop
def qho(K:qg->CS->Prop)(Q:zbq):zbq
 |.normal,e,C=>K e C
 |x,e,C=>Q x e C
def z3j(id:Nat)(Q:zbq):zbq
 |.exit i,e,C=>bif Nat.beq i id then Q .normal e C else Q (.exit i) e C
 |x,e,C=>Q x e C
def qch(m:CS)(K:qg->CS->Prop)(Q:zbq):zbq
 |.normal,e,C=>K e C
 |x,e,C=>Q x e (C++m)
def zfc(pl:PlanA):Code->List Nat
 |.region _ ops _=>wz ops.toList
 |.seq a b=>zfc pl a++(zfc pl b++(match qhn pl.joins (jy b)with
  |some J=>J.ids
  |none=>[]))
 |.cond _ a b=>zfc pl a++zfc pl b
 |.block _ b=>zfc pl b
 |.loop b=>zfc pl b++(match qhn pl.loops (jy b)with
  |some J=>J.ids
  |none=>[])
 |_=>[]
def atA{X:Type}(J:AnnA)(R:CS)(F:zze (zcb J) X)(e:qg)(C:CS)(k:X->Prop):Prop:=
 match xtr J R e C with
 |some b=>match zg3 (zcb J) b F with
  |some q=>k q
  |none=>False
 |none=>False
theorem zui{X:Type}{J:AnnA}{F:zze (zcb J) X}{e:qg}{k:X->Prop}(h:atA J R F e C k):∃b q,xtr J R e C=Td b/\zg3 (zcb J) b F=Td q/\k q:=by unfold atA at h;split at h;rename_i b f;split at h;rename_i q c;exact⟨b,q,f,c,h⟩;exact h.elim;exact h.elim
def WA(P:Program)(gl:Fr)(tr:TypeId)(n:Nat)(pl:PlanA):Code->CS->zbq->qg->CS->Prop
 |.skip,_,Q,e,C=>Q .normal e C
 |.ret,_,Q,e,C=>Q .ret e C
 |.exit id,_,Q,e,C=>Q (.exit id) e C
 |.label _,_,Q,e,C=>Q .normal e C
 |.goto l,_,Q,e,C=>Q (.goto l) e C
 |.region id ops draw,R,Q,e,C=>zuh P gl tr n pl.tails pl.draws id ops draw R (λe C=>Q .normal e C) e C
 |.seq x y,R,Q,e,C=>match qhn pl.joins (jy y)with
  |none=>WA P gl tr n pl x R (qho (λe C=>WA P gl tr n pl y R Q e C) Q) e C
  |some J=>∀K:zze (zcb J) Prop,z2t (zcb J) K (λf q=>WA P gl tr n pl y R Q (qce J f++ziz (Z9 x) (J.ids++zfc pl x) e) (chJ J f++inC J.ro C)->q) ->
    WA P gl tr n pl x (inC J.ro C++R) (qch (inC J.ro C) (λi h=>atA J (inC J.ro C++R) K i h λq=>q) Q) e (qem J.ro C)
 |.cond c x y,R,Q,e,C=>match zg1 e [] c with
  |some v=>match zy8 v with
   |some b=>(b=Ta->WA P gl tr n pl x R Q e C)/\(b=Tc->WA P gl tr n pl y R Q e C)
   |none=>False
  |none=>False
 |.block id x,R,Q,e,C=>WA P gl tr n pl x R (z3j id Q) e C
 |.loop x,R,Q,e,C=>match qhn pl.loops (jy x)with
  |some J=>∃(I:zze (zcb J) Prop) (μ:zze (zcb J) Nat),atA J (inC J.ro C++R) (zqt (zcb J) I μ) e (qem J.ro C) (λp=>p.1) /\
    z2t (zcb J) (zqt (zcb J) I μ) λf p=>p.1->WA P gl tr n pl x (inC J.ro C++R) (qch (inC J.ro C) (λi h=>atA J (inC J.ro C++R) (zqt (zcb J) I μ) i h λq=>q.1/\q.2<p.2) Q)
     (qce J f++ziz (Z9 x) (J.ids++zfc pl x) e) (chJ J f)
  |none=>False
 |_,_,_,_,_=>False
def qhp(h0:zb)(W:Nat->Prop)(M0:Fr)(n:Nat)(B:World)(ms S:List Nat)(a0:Act)(b:Gh)(R:CS)(Q:zbq):Exit->Act->World->Prop:=
 λx a w=>∃e C γ d h,w=mk B d h/\SatA n e γ a/\Inv h0 W M0 (C++R) γ h/\Same ms a0 a/\GxS S b γ/\Q x e C
theorem zzr{e:qg}{k γ h:Gh}{a f:Act}(p:SatA n e k a){ms S ids:List Nat}(q:f.defers=[])(l:f.tmps.size=n)(c:Same ms a f)(g:GxS S k γ)(o:GxS ids γ h){J:AnnA}{i:List Dy}
  (m:∀x∈qce J i,znb h (zy f) x):SatA n (qce J i++ziz ms (ids++S) e) h f:=by
 refine⟨q,l,λx b=>?_⟩;rcases Ay.1 b with b|b;exact m x b;exact Wo ((g.mono λx b=>AC _ b).trans (o.mono λx b=>As _ b)) c p.all x b
theorem qaf(hm:P.follows .mixedOrders=Ta){gl:Fr}(aB:Fr.le gl M0){tr:TypeId}{pl:PlanA}:∀(c:Code) (R:CS) (Q:zbq) (e:qg) (C:CS),WA P gl tr n pl c R Q e C ->
  ∀(γ:Gh) (h:zb) (B:World) (d:Nat) (a:Act),SatA n e γ a->Inv h0 W M0 (C++R) γ h->c.wp P (qhp h0 W M0 n B (Z9 c) (zfc pl c) a γ R Q) a (mk B d h):=by
 intro c;induction c with
 |skip=>exact λR Q e C H γ h B d a f I=>wp_skip ⟨e,C,γ,d,h,rfl,f,I,Same.refl _ _,GxS.refl _ _,H⟩
 |ret=>exact λR Q e C H γ h B d a f I=>wp_ret ⟨e,C,γ,d,h,rfl,f,I,Same.refl _ _,GxS.refl _ _,H⟩
 |exit id=>exact λR Q e C H γ h B d a f I=>wp_exit ⟨e,C,γ,d,h,rfl,f,I,Same.refl _ _,GxS.refl _ _,H⟩
 |label l=>exact λR Q e C H γ h B d a f I=>wp_label ⟨e,C,γ,d,h,rfl,f,I,Same.refl _ _,GxS.refl _ _,H⟩
 |goto l=>exact λR Q e C H γ h B d a f I=>wp_goto ⟨e,C,γ,d,h,rfl,f,I,Same.refl _ _,GxS.refl _ _,H⟩
 |region id ops aF=>exact λR Q e C H γ h B d a f I=>znm hm aB H B d f I λe' C' γ' a' d' h' s w q3 q4 q5=>⟨e',C',γ',d',h',rfl,s,w,q3,q4,q5⟩
 |seq x y U S=>
  intro R Q e C H γ h B d a f I;simp only[WA]at H;have hl:∀i∈Z9 x,i∈Z9 (x.seq y):=λi hi=>As _ hi;have hr:∀i∈Z9 y,i∈Z9 (x.seq y):=λi hi=>AC _ hi;have kl:∀i∈zfc pl x,i∈zfc pl (x.seq y):=λi hi=>As _ hi;have kr:∀i∈zfc pl y,i∈zfc pl (x.seq y):=λi hi=>AC _ (As _ hi);split at H;refine wp_seq (wp_mono (U _ _ _ _ H γ h B d a f I) ?_);rintro ex u w1 ⟨e1,Z,k,t,h1,rfl,s1,z,E,r,s⟩;cases ex with
  |normal=>refine wp_mono (S _ _ _ _ s k h1 B t u s1 z) ?_;rintro ex a2 w2 ⟨N,O,M,d2,A,rfl,s2,F,G,L,w⟩;exact⟨N,O,M,d2,A,rfl,s2,F,(E.mono hl).trans (G.mono hr),(r.mono kl).trans (L.mono kr),w⟩
  |_=>exact⟨e1,Z,k,t,h1,rfl,s1,z,E.mono hl,r.mono kl,s⟩
  rename_i J hJ;have kJ:∀i∈J.ids,i∈zfc pl (x.seq y):=λi hi=>by simp only[zfc,hJ];exact AC _ (AC _ hi)
  have H':=H (qhj (zcb J) λD=>WA P gl tr n pl y R Q (qce J D++ziz (Z9 x) (J.ids++zfc pl x) e) (chJ J D++inC J.ro C)) (zqv λD hq=>hq);refine wp_seq (wp_mono (U _ _ _ _ H' γ h B d a f (I.part J.ro)) ?_);rintro ex u w1 ⟨e1,Z,k,t,h1,rfl,s1,z,E,r,s⟩;cases ex with
  |normal=>obtain⟨D,q,hv,hq,hk⟩:=zui s;have ap:=zqu hq;subst ap;obtain⟨ae,aa,ab,f1⟩:=ziu hv s1 z;have af:=zzr f s1.defers s1.size E r ab f1;rw[<-AF]at aa;refine wp_mono (S _ _ _ _ hk ae h1 B t u af aa) ?_;rintro ex a2 w2 ⟨N,O,M,d2,A,rfl,s2,F,G,L,w⟩;exact⟨N,O,M,d2,A,rfl,s2,F,(E.mono hl).trans (G.mono hr),((r.mono kl).trans (ab.mono kJ)).trans (L.mono kr),w⟩
  |_=>exact⟨e1,Z++inC J.ro C,k,t,h1,rfl,s1,by rw[AF];exact z,E.mono hl,r.mono kl,s⟩
 |cond c x y U S=>intro R Q e C H γ h B d a f I;simp only[WA]at H;have hl:∀i∈Z9 x,i∈Z9 (Ei c x y):=λi hi=>As _ hi;have hr:∀i∈Z9 y,i∈Z9 (Ei c x y):=λi hi=>AC _ hi;have kl:∀i∈zfc pl x,i∈zfc pl (Ei c x y):=λi hi=>As _ hi;have kr:∀i∈zfc pl y,i∈zfc pl (Ei c x y):=λi hi=>AC _ hi;split at H;rename_i v hv;split at H;rename_i b V;refine wp_cond_split (zik V (zo f (c:=[]) trivial hv)) (λau=>?_) (λaj=>?_);refine wp_mono (U _ _ _ _ (H.1 au) γ h B d a f I) ?_;rintro ex a2 w2 ⟨N,O,M,d2,A,rfl,s2,F,G,L,w⟩;exact⟨N,O,M,d2,A,rfl,s2,F,G.mono hl,L.mono kl,w⟩;refine wp_mono (S _ _ _ _ (H.2 aj) γ h B d a f I) ?_;rintro ex a2 w2 ⟨N,O,M,d2,A,rfl,s2,F,G,L,w⟩;exact⟨N,O,M,d2,A,rfl,s2,F,G.mono hr,L.mono kr,w⟩;exact H.elim;exact H.elim
 |block id x ih=>
  intro R Q e C H γ h B d a f I;refine wp_block (wp_mono (ih _ _ _ _ H γ h B d a f I) ?_);rintro ex u w1 ⟨e1,Z,k,t,h1,rfl,s1,z,E,r,s⟩;cases ex with
  |exit i=>simp only[z3j]at s;simp only[Exit.inBlock];by_cases V:Nat.beq i id=Ta;rw[if_pos (Ak V)];simp only[V,cond_true]at s;exact⟨e1,Z,k,t,h1,rfl,s1,z,E,r,s⟩;rw[if_neg (λhe=>V (by rw[he];simp))];simp only[V,cond_false]at s;exact⟨e1,Z,k,t,h1,rfl,s1,z,E,r,s⟩
  |_=>exact⟨e1,Z,k,t,h1,rfl,s1,z,E,r,s⟩
 |loop x ih=>
  intro R Q e C H γ h B d a f I;simp only[WA]at H;split at H;rename_i J hJ;have kx:∀i∈zfc pl x,i∈zfc pl (Code.loop x):=λi hi=>As _ hi;have kJ:∀i∈J.ids,i∈zfc pl (Code.loop x):=λi hi=>by simp only[zfc,hJ];exact AC _ hi
  have kS:∀i∈J.ids++zfc pl x,i∈zfc pl (Code.loop x):=λi hi=>by rcases Ay.1 hi with hi|hi;exact kJ i hi;exact kx i hi
  obtain⟨Iv,μ,ar,Y⟩:=H;obtain⟨an,p0,az,ay,aE⟩:=zui ar;obtain⟨γ0,I0,g0,f0⟩:=ziu az f (I.part J.ro);refine wp_loop_ghost (λm u w1=>∃t h1 k D p,w1=mk B t h1/\u.defers=[]/\u.tmps.size=n/\Same (Z9 x) a u/\GxS (J.ids++zfc pl x) γ k/\Inv h0 W M0 (chJ J D++(inC J.ro C++R)) k h1/\(∀y∈qce J D,znb k (zy u) y) /\ zg3 (zcb J) D (zqt (zcb J) Iv μ)=Td p/\p.1/\p.2=m) p0.2 ⟨d,h,γ0,an,p0,rfl,f.defers,f.size,Same.refl _ _,g0.mono λi hi=>As _ hi,I0,f0,ay,aE,rfl⟩ ?_;rintro m u w1 ⟨t,h1,k,D,p,rfl,aA,ah,o,r,z,f1,hp,aC,rfl⟩;have s1:SatA n (qce J D++ziz (Z9 x) (J.ids++zfc pl x) e) k u:=⟨aA,ah,λy hy=>by rcases Ay.1 hy with hy|hy;exact f1 y hy;exact Wo r o f.all y hy⟩;have V:=zly hp Y aC;refine wp_mono (ih _ _ _ _ V k h1 B t u s1 z) ?_;rintro ex a2 w2 ⟨N,O,M,d2,A,rfl,s2,F,G,L,w⟩;cases ex with
  |normal=>obtain⟨am,q,ax,hq,ai,ak⟩:=zui w;obtain⟨γ3,I3,g3,f3⟩:=ziu ax s2 F;exact⟨q.2,ak,d2,A,γ3,am,q,rfl,s2.defers,s2.size,o.trans G,(r.trans (L.mono λi hi=>AC _ hi)).trans (g3.mono λi hi=>As _ hi),I3,f3,hq,ai,rfl⟩
  |_=>exact⟨N,O++inC J.ro C,M,d2,A,rfl,s2,by rw[AF];exact F,o.trans G,(r.mono kS).trans (L.mono kx),w⟩
  exact H.elim
 |_=>exact λR Q e C H=>H.elim
def zuj:Nat->List Arg->qg
 |_,[]=>[]
 |i,a::l=>(i,[],.g (gOf a.t a.x))::zuj (i+1) l
def zwx(e:qg)(i:Nat):Option AV:=match zna e i with
 |some ([],v)=>Td v
 |_=>Te
def qag(P:Program)(cs:CS)(e:qg):List ResultVar->(List AV->Prop)->Prop
 |[],K=>K []
 |.tmp t::l,K=>match zwx e t with
  |some v=>qag P cs e l λvs=>K (v::vs)
  |none=>False
 |.cell a t::l,K=>match zwx e a with
  |some (.g (.a aa))=>zy9 P cs t aa Te λv=>qag P cs e l λvs=>K (v::vs)
  |_=>False
def yy(cs:CS):(l:List Ty)->List AV->Option (Els l)
 |[],[]=>Td ()
 |[t],[v]=>zdx cs t v
 |t::t'::l,v::vs=>match zdx cs t v,yy cs (t'::l) vs with
  |some x,some y=>Td (x,y)
  |_,_=>Te
 |_,_=>Te
theorem zd6{γ:Gh}{cs:CS}(b:z9e γ cs):∀{l:List Ty} {vs:List AV} {r:Els l} {us:List Value},yy cs l vs=Td r->All2 (DenV γ) vs us->RdL γ.M l r us
 |[],[],r,[],_,_=>rfl
 |[],[],_,_::_,_,h=>h.elim
 |[t],[v],r,[u],h,hd=>⟨u,rfl,zb6 b (by simpa[yy]using h) hd.1⟩
 |[t],[v],_,[],_,h=>h.elim
 |[t],[v],_,_::_::_,_,h=>h.2.elim
 |t::t'::l,v::vs,r,[],_,h=>h.elim
 |t::t'::l,v::vs,r,u::us,h,hd=>by simp only[yy]at h;split at h;rename_i x y h1 c;simp only[Ac]at h;subst h;exact⟨u,us,rfl,zb6 b h1 hd.1,zd6 b c hd.2⟩;cases h
 |[],_::_,_,_,h,_=>by simp[yy]at h
 |[t],[],_,_,h,_=>by simp[yy]at h
 |[t],_::_::_,_,_,h,_=>by simp[yy]at h
 |t::t'::l,[],_,_,h,_=>by simp[yy]at h
def qkw(P:Program)(rs:List ResultVar)(rt:List Ty)(R:Els rt->Prop):zbq:=λx e C=>match x with
 |.normal=>qag P C e rs λvs=>match yy (frzL (Xc vs) C) rt vs with
  |some r=>R r
  |none=>False
 |.ret=>qag P C e rs λvs=>match yy (frzL (Xc vs) C) rt vs with
  |some r=>R r
  |none=>False
 |_=>False
theorem zfv{P:Program}{n:Nat}{C:CS}{e:qg}{γ:Gh}{a:Act}{h:zb}(D:SatA n e γ a)(I:Inv h0 W M0 C γ h):∀{l:List ResultVar} {K:List AV->Prop},qag P C e l K->∃vs us,K vs/\All2 (DenV γ) vs us/\us.length=l.length/\QExec P (l.mapM (zij a.tmps)) h us
 |[],K,H=>⟨[],[],H,trivial,rfl,λ_ _=>by simp⟩
 |.tmp t::l,K,H=>by
  simp only[qag]at H;split at H;rename_i v A;obtain⟨vs,us,h1,F,L,J⟩:=zfv D I H;have m:DenV γ v (zy a t):=by unfold zwx at A;split at A;rename_i u q;simp only[Ac]at A;subst A;exact(D.all _ (Zs q)).1 trivial;cases A
  refine⟨v::vs,zy a t::us,h1,⟨m,F⟩,by simp[L],?_⟩;rw[Ea];exact QExec.bind (x:=zy a t) (QExec.pure _) (J.bind (QExec.pure _));exact H.elim
 |.cell x t::l,K,H=>by
  simp only[qag]at H;split at H;rename_i r B;obtain⟨v,O,N⟩:=zim (h0:=h0) (W:=W) (M0:=M0) H;obtain⟨vs,us,h1,F,L,J⟩:=zfv D I O;have m:DenA γ r (zy a x):=by unfold zwx at B;split at B;rename_i u q;simp only[Ac]at B;subst B;exact(D.all _ (Zs q)).1 trivial;cases B
  obtain⟨u,Q,s⟩:=N trivial γ h _ I m;refine⟨v::vs,u::us,h1,⟨Q,F⟩,by simp[L],?_⟩;rw[Ea];refine QExec.bind (x:=u) ?_ (J.bind (QExec.pure _));have M:∃p,zy a x=.pointer (Td p):=by
   have E:∀r,(∀k,z9v C k r=Te)->(∀c z i o,r≠.oelt c z i o)->DenA γ r (zy a x)->zy9 P C t r Te (λv=>qag P C e l λvs=>K (v::vs))->False:=by intro r S G _ q;unfold zy9 at q;split at q;split at q;exact G _ _ _ _ rfl;rw[S]at q;exact q;exact q
   cases r with
   |box c o=>exact⟨_,m⟩
   |oelt c z i o=>obtain⟨g,_,e⟩:=m;exact⟨_,e⟩
   |elt t y o=>obtain⟨b,f,cs,e,_⟩:=m;exact⟨_,e⟩
   |v y=>exact(E _ (λ_=>rfl) (by simp) m H).elim
   |d t y=>exact(E _ (λ_=>rfl) (by simp) m H).elim
   |own c=>exact(E _ (λ_=>rfl) (by simp) m H).elim
   |dc t y=>exact(E _ (λ_=>rfl) (by simp) m H).elim
  obtain⟨p,w⟩:=M;rw[w]at s;have U:a.tmps.getD x undef=.pointer (Td p):=w;simp only[zij,U];exact s;exact H.elim
theorem zq5{fn:Func}{rs:List ResultVar}(b:fn.results.toList=rs){us:List Value}(e:us.length=rs.length)(c:QExec P (rs.mapM (zij a.tmps)) h us):QExec P (results fn a.tmps) h (zii us):=by
 intro B d;have f:results fn a.tmps=(fn.results.mapM (zij a.tmps) >>= λvs=>Dn (if h:vs.size=1 then vs[0]else .tuple vs)):=by unfold results;congr 1
 rw[f,Array.mapM_eq_mapM_toList,b,Sem.run_bind,Sem.run_map,c B d];simp only[Result.andThen_ok,Sem.run_pure]
 match us,e with
 |[],_=>rfl
 |[v],_=>rfl
 |v::u::vs,_=>simp[zii]
theorem zi0{γ:Gh}{σ:Nat->Value}:∀{l:List Arg} {i:Nat} {us:List Value},X5 γ.M l us->(∀j v,us[j]?=Td v->σ (i+j)=v)->∀x∈zuj i l,znb γ σ x
 |[],_,_,_,_,x,b=>by cases b
 |a::l,i,[],h,_,x,b=>h.elim
 |a::l,i,u::us,h,hσ,x,b=>by simp only[zuj,Ah]at b;rcases b with rfl|b;refine⟨λ_=>?_,λc=>absurd trivial c⟩;have:=hσ 0 u rfl;simp only at this ⊢;rw[show σ i=u from this];exact zt4 h.1;exact zi0 h.2 (λj v e=>by have:=hσ (j+1) v (by simpa using e);rwa[show i+(j+1)=i+1+j by omega]at this) x b
theorem zzs(Z:P.follows .mixedOrders=Ta)(gl:Fr)(tr:TypeId)(pl:PlanA)(args:List Arg){fn:Func}{rs:List ResultVar}{rt:List Ty}(hf:P.funcs[f]?=Td fn)(N:Qu fn=Ta)(V:fn.results.toList=rs)(hn:fn.ntmps=n)
  (Y:Nat.ble args.length n=Ta) {R:Els rt->Prop} (H:WA P gl tr n pl (codeOf fn) [] (qkw P rs rt R) (zuj 0 args) []):PC P gl f args rt R:=by
 intro h M vs G y l B d;subst hn;have z:fn.body=Td (codeOf fn):=by unfold Qu at N;unfold codeOf;split at N;rename_i c E;rw[E];cases N
 refine calls_of_wp hf z ?_;have s:vs.length=args.length:=(All2.length l).symm;have aa:vs.length<=fn.ntmps:=by rw[s];exact Ca Y
 let γ:Gh:=⟨M,λ_=>0,λ_=>⟨Te,0,0⟩⟩;have I:Inv h (λ_=>False) M ([]++[]) γ h:={ ag:=y,frame:=λ_ _ _=>rfl,size:=Ab _,old:=λ_ _=>rfl,le:=Fr.le.refl _,den:=λx L=>(by cases L),sep:=λx L=>(by cases L),apart:=Ed };have hs:SatA fn.ntmps (zuj 0 args) γ { tmps:=vs.toArray++BN (fn.ntmps-vs.toArray.size) undef,defers:=[] }:=by refine⟨rfl,by simp;omega,zi0 l λj v S=>?_⟩;have F:j<vs.length:=(AY.1 S).1;simp only[AI,zy,BM];rw[CU (by simpa using F)];simp[S]
 have fin:∀(e:qg) (C:CS) (γ':Gh) (h':zb) (a:Act),SatA fn.ntmps e γ' a->Inv h (λ_=>False) M (C++[]) γ' h'->(qag P C e rs λvs=>match yy (frzL (Xc vs) C) rt vs with|some r=>R r|none=>False) ->
   ∃v,QExec P (results fn a.tmps) h' v/\Keep h.size h h'/\∃M' r,Fr.le M M'/\(∀b,b<h.size->M' b=M b)/\AgM M' h'/\Yv M' rt r v/\R r:=by
  intro e C γ' h' a s1 o q;rw[AQ]at o;obtain⟨D,us,A,hd,hl,p⟩:=zfv s1 o q;split at A;rename_i r E;obtain⟨γ2,m,g2⟩:=Inv.frzL (C:=C) (R:=[]) (γ:=γ') (Xc D) (by simpa using o);rw[AQ]at m;refine⟨zii us,zq5 V hl p,⟨m.size,λi hi=>m.frame i hi (λh=>h)⟩,γ2.M,r,m.le,m.old,m.ag,⟨us,zd6 m.fz E (hd.imp λv _ u hu=>hu.gx g2 rfl),rfl⟩,A⟩;exact A.elim
 refine wp_mono (qaf Z G _ _ _ _ _ H γ h B d _ hs I) ?_;rintro ex a w ⟨U,Q,O,t,h1,rfl,s1,o,m1,g1,J⟩;cases ex with
 |normal=>obtain⟨v,p,k,rest⟩:=fin U Q O h1 a s1 o J;exact⟨s1.defers,v,p B t,v,t,h1,rfl,rfl,k,rest⟩
 |ret=>obtain⟨v,p,k,rest⟩:=fin U Q O h1 a s1 o J;exact⟨s1.defers,v,p B t,v,t,h1,rfl,rfl,k,rest⟩
 |_=>exact J.elim
theorem zzt(l:P.follows .mixedOrders=Ta)(gl:Fr)(tr:TypeId)(pl:PlanA)(args:List Arg){fn:Func}{rs:List ResultVar}{rt:List Ty}(k:P.funcs[f]?=Td fn)(i:Qu fn=Ta)(b:fn.results.toList=rs)(c:fn.ntmps=n)
  (h:Nat.ble args.length n=Ta) {R:Els rt->Prop} {F:Prop} (H:F) (e:F=WA P gl tr n pl (codeOf fn) [] (qkw P rs rt R) (zuj 0 args) []):PC P gl f args rt R:=
 zzs l gl tr pl args k i b c h (e ▸ H)
end
end Go.X
end
section
namespace Go.X
open Go Go.RowKit
section
variable {P:Program} {f:FuncId} {h:zb} {M gl:Fr} {v:Value} {us:List Value}
theorem XC.of_calls{args:Array Value}{R:Value->zb->Prop}
  (H:∀B d,Calls P f args (mk B d h) λe w'=>∃v,e=.returned v/\w'.os=B.os/\w'.tape=B.tape/\w'.output=B.output/\R v w'.heap):XC P f args h R:=by
 intro B d;refine(H B d).mono ?_;rintro e w' ⟨v,rfl,h1,i,c,b⟩;refine⟨v,w'.drawn,w'.heap,rfl,?_,b⟩;cases w';simp only[mk]at *;subst h1;subst i;subst c;rfl
theorem AgM.keep{h h':zb}(ag:AgM M h)(k:Keep h.size h h'):AgM M h':=λb c e=>by obtain⟨T,m,e'⟩:=ag b c e;exact⟨T,m,by rw[k.get b (ag.lt e)];exact e'⟩
def zzu:Arg->Option Value
 |⟨.int k,x⟩=>Td (.int k x)
 |⟨.bool,x⟩=>Td (.bool x)
 |⟨.str,x⟩=>Td (.string x)
 |_=>Te
def zgs:List Arg->Option (List Value)
 |[]=>Td []
 |a::l=>match zzu a,zgs l with
  |some v,some vs=>Td (v::vs)
  |_,_=>Te
theorem qah{a:Arg}{v u:Value}(h:zzu a=Td v)(b:RdV M a.t a.x u):u=v:=by
 obtain⟨t,x⟩:=a;cases t with
 |int k=>simp only[zzu,Ac]at h;subst h;simpa[RdV,Rd,zhn]using b
 |bool=>simp only[zzu,Ac]at h;subst h;simpa[RdV,Rd,zhn]using b
 |str=>simp only[zzu,Ac]at h;subst h;simpa[RdV,Rd,zhn]using b
 |_=>simp[zzu]at h
theorem zd7{M:Fr}:∀{l:List Arg} {vs us:List Value},zgs l=Td vs->X5 M l us->us=vs
 |[],vs,us,h,hd=>by
  simp only[zgs,Ac]at h;subst h;cases us with
  |nil=>rfl
  |cons _ _=>exact hd.elim
 |a::l,vs,us,h,hd=>by
  simp only[zgs]at h;split at h;rename_i v b h1 c;simp only[Ac]at h;subst h;cases us with
  |nil=>exact hd.elim
  |cons u us=>rw[qah h1 hd.1,zd7 c hd.2]
  cases h
theorem PC.of_scal{args:List Arg}{rt:List Ty}{R:Els rt->Prop}(l:zgs args=Td us){r:Els rt}(p:∀M,Yv M rt r v)(n:R r)
  (H:∀w:World,AgM gl w.heap->Calls P f us.toArray w λe w'=>e=.returned v/\Below w.heap.size w w'):PC P gl f args rt R:=by
 intro h M vs o ag m;rw[zd7 l m];refine XC.of_calls λB d=>(H (mk B d h) λb c e=>ag b c (o b c e)).mono ?_;rintro e w' ⟨rfl,i⟩;have k:Keep h.size h w'.heap:=⟨i.size,i.block⟩;exact⟨v,rfl,i.os,i.tape,i.output,k,M,r,Fr.le.refl _,λ_ _=>rfl,ag.keep k,p M,n⟩
theorem PC.of_same{args:List Arg}{rt:List Ty}{R:Els rt->Prop}(b:zgs args=Td us){r:Els rt}(h:∀M,Yv M rt r v)(c:R r)
  (H:∀w:World,AgM gl w.heap->Calls P f us.toArray w λe w'=>e=.returned v/\w'=w):PC P gl f args rt R:=
 PC.of_scal b h c λw i=>(H w i).mono λe w' ⟨h1,k⟩=>⟨h1,k ▸ Below.refl _ _⟩
theorem z3k(k:IntKind)(i:Int):Yv M [.int k] i (.int k i):=⟨[_],⟨_,rfl,rfl⟩,rfl⟩
theorem znn(b:Bool):Yv M [.bool] b (.bool b):=⟨[_],⟨_,rfl,rfl⟩,rfl⟩
theorem zi1(s:Bt):Yv M [.str] s (.string s):=⟨[_],⟨_,rfl,rfl⟩,rfl⟩
theorem AgM.glob{w:World}(ag:AgM gl w.heap){b o:Nat}{cs:Array Value}(c:gl b=Td cs)(f:cs[o]?=Td v):w.cell? ⟨b,o,Option.none⟩=Td v:=by obtain⟨T,m,e⟩:=ag b cs c;simp[World.cell?,e,f]
theorem PC.of_ex{args:List Arg}{rt:List Ty}{R:Els rt->Prop}(l:zgs args=Td us)
  (H:∀w:World,AgM gl w.heap->Calls P f us.toArray w λe w'=>∃v r,e=.returned v/\(∀M,Yv M rt r v)/\R r/\Below w.heap.size w w'):PC P gl f args rt R:=by
 intro h M vs o ag m;rw[zd7 l m];refine XC.of_calls λB d=>(H (mk B d h) λb c e=>ag b c (o b c e)).mono ?_;rintro e w' ⟨v,r,rfl,p,n,i⟩;have k:Keep h.size h w'.heap:=⟨i.size,i.block⟩;exact⟨v,rfl,i.os,i.tape,i.output,k,M,r,Fr.le.refl _,λ_ _=>rfl,ag.keep k,p M,n⟩
end
end Go.X
end
