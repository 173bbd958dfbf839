/- A part of the proof: nothing is stated here for its own sake. -/
import Derived.Test.YtjohlemfgcmaoaaGreatDoorPuA
import Derived.Laws.StructEq
import Derived.Deep.AppendSrc
import Derived.Laws.BytesString
import Derived.Deep.LoopGhost
import Derived.Below
open _root_.Go.Addr renaming add->Ad
open _root_.Array renaming getD_eq_getD_getElem?->BI,getElem?_append_left->Cv,getElem?_eq_getElem->Bo,getElem?_eq_some_iff->An,getElem?_push->BV,getElem?_setIfInBounds_ne->AB,length_toList->Cx,range->DX,replicate->BJ,size_setIfInBounds->A0,toList_map->CQ
open _root_.Bool renaming false_eq_true->Bc,or_eq_true->BK
open _root_.Go.Builtin renaming append_->Au,firstCells->CE,len_->CG
open _root_.Go.Code renaming cond->DL,region->DO
open _root_.Go.Deferred renaming ofValue->Dq
open _root_.Go.Instr renaming fill->D4,indexAt->DN,next->CW,range->Dx,sliceAt->Du,storeAt->Af,sureAddr->Dj
open _root_.Int renaming le_refl->Dz
open _root_.List.Pairwise renaming nil->DG
open _root_.List renaming all_eq_true->Av,append_assoc->AH,append_nil->AR,cons_append->AD,drop_eq_getElem_cons->Bw,drop_left->Dl,drop_zero->BQ,eq_nil_of_length_eq_zero->AO,ext_getElem?->Bu,getElem?_append_left->BG,getElem?_append_right->BD,getElem?_drop->A9,getElem?_eq_getElem->Ak,getElem?_eq_none->BH,getElem?_eq_some_iff->A1,getElem?_map->Bf,getElem?_take->AK,getElem_map->CF,getElem_set_self->Dg,length_append->Ah,length_cons->Aq,length_drop->AI,length_eq_zero_iff->Bl,length_map->Ap,length_nil->A4,length_range->C3,length_set->Cz,length_take->AN,mapM_cons->DC,map_cons->As,mem_append->Aw,mem_append_left->Ar,mem_append_right->AC,mem_cons->Ai,mem_cons_of_mem->Ae,mem_cons_self->Am,mem_map->AJ,mem_range->AU,mem_singleton->AY,nil_append->A8,pairwise_append->Cs,pairwise_cons->Be,range->Bj,take_append_drop->B8,take_left->Cu,take_of_length_le->BE,take_succ_eq_append_getElem->Ay
open _root_.List.cons renaming injEq->BN
open _root_.Nat renaming add_assoc->CP,add_mul->BZ,blt_eq->Cm,eq_of_beq_eq_true->Al,eq_zero_or_pos->CX,le_mul_of_pos_right->C7,le_of_ble_eq_true->BS,le_refl->Ab,le_trans->BX,lt_or_ge->AX,mul_le_mul_right->AQ,mul_one->B0,one_mul->Dn,strongRecOn->Dc,zero_add->AL,zero_le->AW
open _root_.Go.Next renaming value->C5
open _root_.Go.Op renaming equal->DV
open _root_.Option renaming map_eq_some_iff->Ck,map_some->DU
open _root_.Option.some renaming inj->Az,injEq->Ac
open _root_.Prod.mk renaming injEq->Bi
open _root_.Pure renaming pure->C2
open _root_.UInt8 renaming ofNat->Bb
open _root_.Go.Utf8 renaming decode->DW,encode->DR
open _root_.Go.Value renaming int->Bn
open _root_.Go.Value.slice renaming injEq->AP
set_option linter.unusedVariables false
set_option maxRecDepth 100000
namespace Go.X
end Go.X
namespace Go.Proofs
end Go.Proofs
open Go Go.X Go.Proofs
open _root_.Bool renaming true->Ta,false->Tc
open _root_.Option renaming some->Td,none->Te
section
namespace Go.X
section
variable {cs:CS} {γ:Gh} {h:zb} {u:Value} {t el:TypeId} {a:Option Addr} {n:Int} {av:AV} {P:Program} {cap:Nat} {g:Option Bool} {σ:Operand -> Value} {b:Bool} {o:Oper}
variable {h0 : zb} {W : Nat -> Prop} {M0 : Fr}
def rowOf(cs:CS):AA->Option ((t:Ty)×List (El t))
 |.d (.row t) xs=>Td ⟨t,xs⟩
 |.dc t xs=>Td ⟨t,xs⟩
 |.own c=>match Qz cs c with
  |some (.fz t xs)=>Td ⟨t,xs⟩
  |_=>Te
 |_=>Te
theorem zdu(I:Inv h0 W M0 cs γ h){e:AA}{r:(t:Ty)×List (El t)}(b:rowOf cs e=Td r)(c:DenA γ e u):Rd γ.M (.row r.1) r.2 [u]:=by unfold rowOf at b;split at b;simp only[Ac]at b;subst b;exact c;simp only[Ac]at b;subst b;obtain⟨s,_,_,h⟩:=c;exact h;split at b;rename_i t xs f;simp only[Ac]at b;subst b;rw[show u=_ from c];exact I.den _ (qa f);cases b;cases b
theorem Rd.sub{M:Fr}{t:Ty}{xs:List (El t)}{n c:Nat}(H:Rd M (.row t) xs [.slice a n c]){l r m:Nat}(h1:l<=r)(A:r<=xs.length)(D:r<=m)(B:m<=c):
  Rd M (.row t) ((xs.take r).drop l) [.slice (ze7 a (sz t) l m) (r-l) (m-l)]:=by
 obtain⟨v,e,a',y,p,C,H⟩:=H;cases e;simp only[AP]at p;obtain⟨rfl,rfl,rfl⟩:=p;have f:((xs.take r).drop l).length=r-l:=by simp;omega
 refine⟨_,rfl,ze7 a (sz t) l m,m-l,by rw[f],⟨by rw[f];omega,by rw[f];omega⟩,?_⟩;by_cases z:r=l;left;apply AO;omega;rcases H with h|⟨b,o,cs,x,s,hi⟩;left;subst h;simp;right;have k:¬(m=l):=by omega
 refine⟨b,o+l*sz t,cs,?_,s,λi u=>?_⟩;unfold ze7;rw[if_neg k,x];simp[zi];have:=hi (l+i) (by omega);have q:((xs.take r).drop l)[i]=xs[l+i]:=by simp
 rw[q];have w:o+l*sz t+i*sz t=o+(l+i)*sz t:=by rw[BZ];omega
 rw[w];exact this
def qkn:AV->Option Int
 |.g (.a (.v (.int _ n)))=>Td n
 |_=>Te
theorem zxe(h:qkn av=Td n)(b:DenV γ av u):∃k,u=.int k n:=by unfold qkn at h;split at h;simp only[Ac]at h;subst h;exact⟨_,b⟩;cases h
def qaz(P:Program)(t:TypeId):Option TypeId:=match P.underlying t with
 |some (.slice el)=>bif qc P el then Td el else Te
 |_=>Te
theorem Jj(h:qaz P t=Td el):P.underlying t=Td (.slice el)/\qc P el=Ta:=by
 unfold qaz at h;split at h;rename_i e b;cases ho:qc P e with
 |false=>rw[ho]at h;cases h
 |true=>rw[ho]at h;simp only[cond_true,Ac]at h;subst h;exact⟨b,ho⟩
 cases h
def z3e(P:Program)(cs:CS)(t:TypeId)(b:AA)(n:Int)(g:Option Bool)(K:AV->Prop):Prop:=
 match qaz P t with
 |some el=>match rowOf cs b with
  |some r=>bif Nat.beq (qi P el) (sz r.1)then ∃y:El r.1,req g (0<=n/\r.2[n.toNat]?=Td y)/\K (.g (.a (.elt r.1 y 0)))else False
  |none=>match b with
   |.own c=>match Qz cs c with
    |some (.row e ty xs)=>bif Nat.beq (qi P el) (sz ty)then req g (0<=n/\n.toNat<xs.length)/\K (.g (.a (.oelt c (sz ty) n.toNat 0)))else False
    |_=>False
   |_=>False
 |none=>False
theorem zrl(c:P.underlying t=Td (.slice el))(e:qc P el=Ta){a:Addr}{len cap:Nat}{k:IntKind}(h1:0<=n)(o:n<(len:Int))(h:zb):
  QExec P (DN t (.slice (Td a) len cap) (.int k n)) h (.pointer (Td (a.add (n.toNat*qi P el)))):=by
 have:=Zu (P:=P) (t:=t) (x:=.slice (Td a) len cap) (i:=.int k n) (g:=Te) (K:=λv=>v=.pointer (Td (a.add (n.toNat*qi P el)))) (λl b=>by rcases b with b|⟨m,b⟩;rw[c]at b;cases b;exact je e;rw[c]at b;cases b) (by unfold zq2;rw[c];exact⟨a,⟨rfl,h1,o⟩,rfl⟩);obtain⟨v,rfl,f⟩:=this;exact f trivial h
theorem zrm{G:AA}{K:AV->Prop}(H:z3e P cs t G n g K):
  ∃av,K av/\(gok g->∀γ h u k,Inv h0 W M0 cs γ h->DenA γ G u->∃v,DenV γ av v/\QExec P (DN t u (.int k n)) h v):=by
 unfold z3e at H;split at H;rename_i el q;obtain⟨J,F⟩:=Jj q;split at H;rename_i r M;cases hz:Nat.beq (qi P el) (sz r.1)with
 |false=>rw[hz]at H;exact H.elim
 |true=>rw[hz]at H;obtain⟨y,A,z⟩:=H;refine⟨_,z,λx γ h u k I s=>?_⟩;obtain⟨i,m⟩:=A.out x;have l:=Al hz;obtain⟨v,e,a,c,Q,hn,H⟩:=zdu I M s;cases e;subst Q;have hi:n.toNat<r.2.length:=(A1.1 m).1;have L:r.2[n.toNat]=y:=(A1.1 m).2;rcases H with w|⟨b,o,Z,Y,S,C⟩;rw[w]at hi;simp at hi;subst Y;refine⟨_,?_,zrl J F i (by omega) h⟩;have:=C n.toNat hi;rw[L]at this;rw[zi,l];exact⟨b,o+n.toNat*sz r.1,Z,rfl,S,this⟩
 split at H;rename_i c _;split at H;rename_i e ty xs O;cases hz:Nat.beq (qi P el) (sz ty)with
 |false=>rw[hz]at H;exact H.elim
 |true=>rw[hz]at H;obtain⟨A,z⟩:=H;refine⟨_,z,λx γ h u k I s=>?_⟩;obtain⟨i,hi⟩:=A.out x;have l:=Al hz;obtain⟨cells,f,E,_,V⟩:=I.den _ (qa O);simp only at V f;rcases f.2 with⟨p,h1⟩|⟨g',cap,N,p,_,U,_,_,_,B⟩;omega;simp only[AP]at p;have D:u=slV (γ.σ c):=s;subst D;unfold slV;rw[p.1];refine⟨_,?_,zrl J F i (by omega) h⟩;rw[zi,l,AL];exact⟨g',p.1,rfl⟩
 exact H.elim;exact H.elim;exact H.elim
def zrn(ρ:Operand->Option AV)(d:Int):Option Operand->Option Int
 |none=>Td d
 |some x=>match ρ x with
  |some av=>qkn av
  |none=>Te
theorem Jk{ρ:Operand->Option AV}(c:∀x av,ρ x=Td av->DenV γ av (σ x)){d n:Int}{x:Option Operand}(h:zrn ρ d x=Td n):ym (x.map σ) d=Td n:=by unfold zrn at h;split at h;exact h;rename_i y;split at h;rename_i av b;obtain⟨k,e⟩:=zxe h (c _ _ b);simp[ym,e];cases h
def z3f(P:Program)(cs:CS)(ρ:Operand->Option AV)(t:TypeId)(b:AA)(lo hi mx:Option Operand)(g:Option Bool)(K:AV->Prop):Prop:=
 match qaz P t with
 |some el=>match rowOf cs b with
  |some r=>bif Nat.beq (qi P el) (sz r.1)then(match zrn ρ 0 lo,zrn ρ (r.2.length:Int) hi with
   |some l,some h=>match mx with
    |none=>req g (0<=l/\l<=h/\h<=(r.2.length:Int))/\K (.g (.a (.d (.row r.1) ((r.2.take h.toNat).drop l.toNat))))
    |some m=>match zrn ρ 0 (Td m),hi with
     |some m,some _=>req g (0<=l/\l<=h/\h<=(r.2.length:Int)/\m=h)/\K (.g (.a (.dc r.1 ((r.2.take h.toNat).drop l.toNat))))
     |_,_=>False
   |_,_=>False)else False
  |none=>False
 |none=>False
theorem zro(c:P.underlying t=Td (.slice el))(e:qc P el=Ta){len cap:Nat}{lo hi mx:Option Value}{l r m:Int}(o:ym lo 0=Td l)(i:ym hi (len:Int)=Td r)(q:ym mx (cap:Int)=Td m) (h0:mx=Te\/∃v,hi=Td v) (h1:0<=l) (s:l<=r) (p:r<=m) (n:m<=(cap:Int)) (h:zb):
  QExec P (Du t (.slice a len cap) lo hi mx) h (.slice (ze7 a (qi P el) l.toNat m.toNat) (r.toNat-l.toNat) (m.toNat-l.toNat)):=by
 have:=Yn (P:=P) (t:=t) (x:=.slice a len cap) (lo:=lo) (hi:=hi) (mx:=mx) (g:=Te) (K:=λv=>v=.slice (ze7 a (qi P el) l.toNat m.toNat) (r.toNat-l.toNat) (m.toNat-l.toNat)) (λk b=>by rcases b with b|⟨u,b⟩ <;> (rw[c]at b;cases b);exact je e) (by unfold zwz;rw[c];simp only[o,i,q];exact⟨h0,⟨h1,s,p,n⟩,trivial⟩);obtain⟨v,rfl,f⟩:=this;exact f trivial h
theorem zrp{ρ:Operand->Option AV}{E:AA}{lo hi mx:Option Operand}{K:AV->Prop}(H:z3f P cs ρ t E lo hi mx g K):
  ∃av,K av/\(gok g->∀γ h u σ,Inv h0 W M0 cs γ h->(∀x av,ρ x=Td av->DenV γ av (σ x))->DenA γ E u->∃v,DenV γ av v/\QExec P (Du t u (lo.map σ) (hi.map σ) (mx.map σ)) h v):=by
 unfold z3f at H;split at H;rename_i el p;obtain⟨F,D⟩:=Jj p;split at H;rename_i r C;cases hz:Nat.beq (qi P el) (sz r.1)with
 |false=>rw[hz]at H;exact H.elim
 |true=>
  rw[hz]at H;have o:=Al hz;simp only[cond_true]at H;split at H;rename_i l Q G n;split at H;obtain⟨A,y⟩:=H;refine⟨_,y,λs γ h u σ I k q=>?_⟩;obtain⟨h1,B,M⟩:=A.out s;have f:=zdu I C q;have b:=f;obtain⟨v,e,a,c,z,L,_⟩:=b;cases e;subst z;refine⟨_,?_,zro F D (Jk k G) (Jk k n) (m:=(c:Int)) rfl (.inl rfl) h1 B (by omega) (Dz _) h⟩;rw[o];exact f.sub (by omega) (by omega) (by omega) (by omega);rename_i m;split at H;rename_i m' O N;obtain⟨A,y⟩:=H;refine⟨_,y,λs γ h u σ I k q=>?_⟩;obtain⟨h1,B,M,J⟩:=A.out s;subst J;have f:=zdu I C q;have b:=f;obtain⟨v,e,a,c,z,L,_⟩:=b;cases e;subst z;have i:=Jk k N;have w:ym ((Td m).map σ) (c:Int)=Td m':=by unfold ym at i ⊢;simp only[DU]at i ⊢;split at i <;> simp_all
  refine⟨_,?_,zro F D (Jk k G) (Jk k n) w (.inr ⟨_,rfl⟩) h1 B (Dz _) (by omega) h⟩;rw[o];refine⟨⟨_,_,_⟩,rfl,rfl,f.sub (by omega) (by omega) (by omega) (by omega)⟩;exact H.elim;exact H.elim
 exact H.elim;exact H.elim
def qld(cs:CS):AA->Option Nat
 |.d (.row _) xs=>Td xs.length
 |.dc _ xs=>Td xs.length
 |.own c=>match Qz cs c with
  |some (.fz _ xs)=>Td xs.length
  |some (.row _ _ xs)=>Td xs.length
  |_=>Te
 |_=>Te
theorem qa0(I:Inv h0 W M0 cs γ h){k:AA}{n:Nat}(b:qld cs k=Td n)(f:DenA γ k u):∃a c,u=.slice a n c:=by
 have key:∀{t:Ty} {xs:List (El t)},Rd γ.M (.row t) xs [u]->∃a c,u=.slice a xs.length c:=by rintro t xs ⟨v,e,a,c,m,_⟩;cases e;exact⟨a,c,m⟩
 unfold qld at b;split at b;simp only[Ac]at b;subst b;exact key f;simp only[Ac]at b;subst b;obtain⟨s,_,_,f⟩:=f;exact key f;split at b;rename_i c t xs i;simp only[Ac]at b;subst b;rw[show u=_ from f]at key ⊢;exact key (I.den _ (qa i));rename_i c e t xs i;simp only[Ac]at b;subst b;obtain⟨cells,_,_,_,l⟩:=I.den _ (qa i);simp only at l;rw[show u=_ from f];exact⟨_,_,by unfold slV;rw[l]⟩;cases b;cases b
def qh4:AA->List AA
 |.v x=>x.cells.toList.map .v
 |x=>[x]
def zz5:AV->Option (List AA)
 |.g (.a x)=>Td (qh4 x)
 |.g (.agg l)=>Td l
 |_=>Te
theorem qh5(h:u.oneCell'=Ta):u.cells.toList=[u]:=by cases u <;> first|rfl|simp[Value.oneCell']at h
theorem Zx(γ:Gh):∀l:List Value,All2 (DenA γ) (l.map .v) l
 |[]=>trivial
 |_::l=>⟨rfl,Zx γ l⟩
theorem z3g{x:AA}(k:DenA γ x u):All2 (DenA γ) (qh4 x) u.cells.toList:=by
 have key:u.oneCell'=Ta->All2 (DenA γ) [x] u.cells.toList:=λh=>by rw[qh5 h];exact⟨k,trivial⟩
 cases x with
 |v y=>rw[show u=y from k];exact Zx γ _
 |d t y=>exact key (Rd.one (show Rd γ.M t y [u]from k) u (by simp))
 |box c o=>exact key (by rw[show u=_ from k];rfl)
 |own c=>exact key (by rw[show u=_ from k];rfl)
 |oelt c z i o=>obtain⟨g,_,e⟩:=k;exact key (by rw[e];rfl)
 |elt t y o=>obtain⟨b,f,cs,e,_⟩:=k;exact key (by rw[e];rfl)
 |dc t xs=>obtain⟨s,e,_⟩:=k;exact key (by rw[e];rfl)
theorem zdv{l:List AA}(h:zz5 av=Td l)(b:DenV γ av u):All2 (DenA γ) l u.cells.toList:=by unfold zz5 at h;split at h;simp only[Ac]at h;subst h;exact z3g b;simp only[Ac]at h;subst h;obtain⟨us,rfl,c⟩:=b;simpa[Value.cells]using c;cases h
def zrq(b:Nat->Option (Nat×Nat))(cells:List AA):List (Nat×AV)->Option (List AA)
 |[]=>Td cells
 |(i,av)::rest=>match b i,zz5 av with
  |some (off,size),some l=>bif Nat.beq l.length size then(bif Nat.ble (off+l.length) cells.length then zrq b (cells.take off++l++cells.drop (off+l.length)) rest else Te)else Te
  |_,_=>Te
theorem qa1(vs:List Value):∀(k off:Nat) (cs:Array Value),off+k+vs.length<=cs.size ->
  ((vs.zipIdx k).foldl (λcs (x:Value×Nat)=>cs.setIfInBounds (off+x.2) x.1) cs).toList=cs.toList.take (off+k)++vs++cs.toList.drop (off+k+vs.length):=by
 induction vs with
 |nil=>intro k off cs h;simp
 |cons v vs b=>
  intro k off cs h;simp only[Aq]at h;rw[List.zipIdx_cons,List.foldl_cons];refine(b (k+1) off (cs.setIfInBounds (off+k) v) (by rw[A0];omega)).trans ?_;simp only[Array.toList_setIfInBounds,Aq];have hi:off+k<cs.toList.length:=by simp;omega
  rw[<-CP,List.drop_set_of_lt (by omega)];have c:(cs.toList.set (off+k) v).take (off+k+1)=cs.toList.take (off+k)++[v]:=by
   rw[List.take_set,Ay hi,List.set_append_right _ _ (by simp;omega)];have:off+k-(cs.toList.take (off+k)).length=0:=by simp;omega
   rw[this];rfl
  rw[c,show off+k+(vs.length+1)=off+k+1+vs.length by omega];simp
theorem Wj{b:Nat->Option (Nat×Nat)}{γ:Gh}:∀{c:List (Nat×AV)} {cells r:List AA} {us:List Value} {ps:List (Nat×Value)},zrq b cells c=Td r->All2 (DenA γ) cells us->All2 (λ(x:Nat×AV) (y:Nat×Value)=>x.1=y.1/\DenV γ x.2 y.2) c ps ->
  ∃o:List Value,D4 b us.toArray ps=Td o.toArray/\All2 (DenA γ) r o
 |[],cells,r,us,[],h,hc,_=>by simp only[zrq,Ac]at h;subst h;exact⟨us,rfl,hc⟩
 |[],_,_,_,_::_,_,_,e=>e.elim
 |_::_,_,_,_,[],_,_,e=>e.elim
 |(i,av)::rest,cells,r,us,(j,v)::ps,h,hc,e=>by
  obtain⟨⟨f,t⟩,e⟩:=e;simp only at f t;subst f;simp only[zrq]at h;split at h;rename_i off size l q z;cases hb:Nat.beq l.length size with
  |false=>rw[hb]at h;cases h
  |true=>
   rw[hb]at h;simp only[cond_true]at h;cases hb2:Nat.ble (off+l.length) cells.length with
   |false=>rw[hb2]at h;cases h
   |true=>
    rw[hb2]at h;simp only[cond_true]at h;have n:=zdv z t;have m:=n.length;have u:=hc.length;have h1:=Al hb;have B:=BS hb2;have s:v.cells.size=size:=by rw[<-h1,m];simp
    have k:All2 (DenA γ) (cells.take off++l++cells.drop (off+l.length)) (us.take off++v.cells.toList++us.drop (off+l.length)):=((hc.take off).append n).append (hc.drop _);obtain⟨o,A,w⟩:=Wj h k e;refine⟨o,?_,w⟩;simp only[D4,q];have p:¬((decide (v.cells.size≠size)||decide (off+v.cells.size>us.toArray.size))=Ta):=by rw[s];simp;omega
    rw[if_neg p];rw[<-A];congr 1;apply Array.ext';have:=qa1 v.cells.toList 0 off us.toArray (by simp;omega);rw[<-Array.foldl_toList,Array.toList_zipIdx];refine this.trans ?_;simp[<-m]
  cases h
def zdw(P:Program):List Field->Bool
 |[]=>Ta
 |f::l=>bif qc P f.type then zdw P l else Tc
theorem zmn{P:Program}{h:zb}:∀{l:List Field},zdw P l=Ta->QExec P (l.mapM λf=>do pure (f.offset,<-Go.sizeOf f.type)) h (l.map λf=>(f.offset,qi P f.type))
 |[],_=>λ_ _=>rfl
 |f::l,H=>by
  simp only[zdw]at H;cases ho:qc P f.type with
  |false=>rw[ho]at H;cases H
  |true=>rw[ho]at H;obtain⟨i,hi⟩:=je ho;rw[DC];exact QExec.bind (QExec.bind (QExec.sizeOf hi) (QExec.pure _)) (QExec.bind (zmn H) (QExec.pure _))
def placeOf(P:Program)(b:Array Field)(i:Nat):Option (Nat×Nat):=match b[i]? with
 |some f=>Td (f.offset,qi P f.type)
 |none=>Te
def zdx(ρ:Operand->Option AV):List (Nat×Operand)->Option (List (Nat×AV))
 |[]=>Td []
 |(i,x)::l=>match ρ x,zdx ρ l with
  |some av,some r=>Td ((i,av)::r)
  |_,_=>Te
theorem zbd{γ:Gh}{ρ:Operand->Option AV}{σ:Operand->Value}(b:∀x av,ρ x=Td av->DenV γ av (σ x)):∀{l:List (Nat×Operand)} {r:List (Nat×AV)},zdx ρ l=Td r ->
  All2 (λ(x:Nat×AV) (y:Nat×Value)=>x.1=y.1/\DenV γ x.2 y.2) r (l.map λx=>(x.1,σ x.2))
 |[],r,h=>by simp only[zdx,Ac]at h;subst h;trivial
 |(i,x)::l,r,h=>by simp only[zdx]at h;split at h;rename_i av e h1 c;simp only[Ac]at h;subst h;exact⟨⟨rfl,b _ _ h1⟩,zbd b c⟩;cases h
def zeroOf(P:Program)(t:TypeId):Option Value:=match P.info? t with
 |some i=>i.zero
 |none=>Te
theorem Jl{z:Value}(h:zeroOf P t=Td z)(b:zb):QExec P (zeroValue t) b z:=by unfold zeroOf at h;split at h;rename_i i hi;intro B d;simp[zeroValue,typeInfo,program,hi,Sem.run,h];cases h
def z3h(P:Program)(t:TypeId)(b:List (Nat×AV)):Option (List AA):=match P.underlying t,zeroOf P t with
 |some (.struct fs),some z=>bif zdw P fs.toList then zrq (placeOf P fs) (z.cells.toList.map .v) b else Te
 |_,_=>Te
theorem zrr{b:List (Nat×AV)}{r:List AA}(h:z3h P t b=Td r){ps:List (Nat×Value)}(o:All2 (λ(x:Nat×AV) (y:Nat×Value)=>x.1=y.1/\DenV γ x.2 y.2) b ps)(k:zb):
  ∃c:List Value,QExec P (Instr.build t ps.toArray) k (.agg c.toArray)/\All2 (DenA γ) r c:=by
 unfold z3h at h;split at h;rename_i e z s A;cases hof:zdw P e.toList with
 |false=>rw[hof]at h;cases h
 |true=>
  rw[hof]at h;simp only[cond_true]at h;obtain⟨c,n,w⟩:=Wj h (Zx γ _) o;refine⟨c,?_,w⟩;intro B d;have p:=QExec.underlying (h:=k) s B d;have m:=Jl A k B d;have l:=zmn (P:=P) (h:=k) hof B d;unfold Instr.build;rw[Sem.run_bind,m];simp only[Result.andThen_ok];rw[Sem.run_bind,p];simp only[Result.andThen_ok];rw[Sem.run_bind,Array.mapM_eq_mapM_toList,Sem.run_map,l];simp only[Result.andThen_ok];have q:(λi=>((e.toList.map λf=>(f.offset,qi P f.type)).toArray)[i]?)=placeOf P e:=by funext i;unfold placeOf;cases hi:e[i]? <;> simp[hi]
  rw[q];have u:z.cells.toList.toArray=z.cells:=by simp
  rw[u]at n;simp only[n];rfl
 cases h
def z3i(P:Program)(t:TypeId)(a b:Value):Option Bool:=match P.underlying t,a,b with
 |some (.int _),.int k x,.int k' y=>if k=k' then Td (x==y)else Te
 |some .string,.string x,.string y=>Td (x.toList==y.toList)
 |some .bool,.bool x,.bool y=>Td (x==y)
 |_,_,_=>Te
def qes(P:Program)(xs ys:List AA):List Field->Option Bool
 |[]=>Td Ta
 | f :: fs => if f.name = "_" then none else match z3d P f.type xs f.offset, z3d P f.type ys f.offset with
  |some (.a (.v a)),Td (.a (.v b))=>match z3i P f.type a b,qes P xs ys fs with
   |some p,some q=>Td (p&&q)
   |_,_=>Te
  |_,_=>Te
def eqA(P:Program)(o:Oper)(ρ:Operand->Option AV):Option Bool:=match o.op with
 |.binOp .eql t x y _=>match ρ x,ρ y with
  |some (.g (.agg xs)),Td (.g (.agg ys))=>match P.underlying t with
   |some (.struct _)=>bif P.stoodInHeld t then Te else bif P.eqGuardType P.depth t then Te else qes P xs ys (P.fieldsOf t).toList
   |_=>Te
  |_,_=>Te
 |.binOp .neq t x y _=>match ρ x,ρ y with
  |some (.g (.agg xs)),Td (.g (.agg ys))=>match P.underlying t with
   |some (.struct _)=>bif P.stoodInHeld t then Te else bif P.eqGuardType P.depth t then Te else(match qes P xs ys (P.fieldsOf t).toList with
    |some b=>Td (!b)
    |none=>Te)
   |_=>Te
  |_,_=>Te
 |_=>Te
theorem zrs{a b:Value}{r:Bool}(h:z3i P t a b=Td r)(d:Nat)(w:World):(Op.equalIn (d+1) t a b).run P w=.ok r w:=by unfold z3i at h;split at h;rename_i f k x i y c;split at h;rename_i e;simp only[Ac]at h;subst e;subst h;exact run_equalIn_int w d t k f x y c;cases h;rename_i x y c;simp only[Ac]at h;subst h;exact run_equalIn_string w d t x y c;rename_i x y c;simp only[Ac]at h;subst h;exact run_equalIn_bool' w d t x y c;cases h
theorem zmo{P:Program}{γ:Gh}{xs ys:List AA}{us vs:List Value}(n:All2 (DenA γ) xs us)(o:All2 (DenA γ) ys vs)(d:Nat)(h:zb):∀(c:List Field) (b:Bool),qes P xs ys c=Td b->QExec P (Op.eqFields (d+1) us.toArray vs.toArray c) h b
 |[],b,hb=>by simp only[qes,Ac]at hb;subst hb;exact QExec.pure _
 |f::c,b,hb=>by
  unfold qes at hb;split at hb;cases hb;rename_i x;split at hb;rename_i a z e l;split at hb;rename_i p q r w;simp only[Ac]at hb;subst hb;obtain⟨y,A,C⟩:=zcc e n h;obtain⟨s,u,t⟩:=zcc l o h;have m:y=a:=A;have i:s=z:=u;subst m;subst i;intro B k;unfold Op.eqFields;rw[if_pos (by exact x)];rw[Sem.run_bind,C B k];simp only[Result.andThen_ok];rw[Sem.run_bind,t B k];simp only[Result.andThen_ok];rw[Sem.run_bind,zrs r d];simp only[Result.andThen_ok];cases p with
  |false=>rfl
  |true=>simpa using zmo n o d h c q w B k
  cases hb;cases hb
theorem zrt{ρ:Operand->Option AV}(H:eqA P o ρ=Td b)(l:∀x av,ρ x=Td av->DenV γ av (σ x))(h:zb):QExec P (execOp σ o) h (.value (.bool b)):=by
 have key:∀{t:TypeId} {xs ys:List AA} {us vs:List Value} {k:Array Field} {b:Bool},P.underlying t=Td (.struct k)->P.stoodInHeld t=Tc->All2 (DenA γ) xs us->All2 (DenA γ) ys vs->qes P xs ys (P.fieldsOf t).toList=Td b->QExec P (Op.equalIn 10000 t (.agg us.toArray) (.agg vs.toArray)) h b:=by
  intro t xs ys us vs k b e c i f w B d;have z:P.underlying t=Td (.struct (P.fieldsOf t)):=by rw[e];simp[Program.fieldsOf,e]
  rw[run_equalIn_struct _ 9999 t us.toArray vs.toArray z c];exact zmo i f 9998 h _ b w B d
 unfold eqA at H;split at H;rename_i t x y u m;split at H;rename_i xs ys i f;split at H;rename_i k e;cases c:P.stoodInHeld t with
 |true=>rw[c]at H;cases H
 |false=>
  cases hg:P.eqGuardType P.depth t with
  |true=>rw[c,hg]at H;cases H
  |false=>rw[c,hg]at H;obtain⟨us,q,r⟩:=l _ _ i;obtain⟨vs,s,d2⟩:=l _ _ f;have n:=key e c r d2 H;simp only[execOp,m,q,s];refine QExec.val λB d=>?_;rw[Sem.run_bind,run_eqGuard_agg _ _ _ _ _ _ _ hg];simp only[Result.andThen_ok];rw[run_eql_struct,n B d];rfl
 cases H;cases H;rename_i t x y u m;split at H;rename_i xs ys i f;split at H;rename_i k e;cases c:P.stoodInHeld t with
 |true=>rw[c]at H;cases H
 |false=>
  cases hg:P.eqGuardType P.depth t with
  |true=>rw[c,hg]at H;cases H
  |false=>rw[c,hg]at H;simp only[cond_false]at H;split at H;rename_i A p;simp only[Ac]at H;subst H;obtain⟨us,q,r⟩:=l _ _ i;obtain⟨vs,s,d2⟩:=l _ _ f;have n:=key e c r d2 p;simp only[execOp,m,q,s];refine QExec.val λB d=>?_;rw[Sem.run_bind,run_eqGuard_agg _ _ _ _ _ _ _ hg];simp only[Result.andThen_ok];rw[run_neq_struct,n B d];rfl;cases H
 cases H;cases H;cases H
def qA0(P:Program)(o:Oper)(ρ:Operand->Option AV)(g:Option Bool)(cs:CS)(K:AV->Prop):Prop:=
 bif (bif zll o then(bif isQ P o then(bif Yg o.op then zja ρ o.op.operands.toList else Tc)else Tc)else Tc)then J8 P o (qkl ρ) g #[] (λv=>K (zz2 v))else
 match o.op with
 |.move x=>match ρ x with
  |some av=>K av
  |none=>False
 |.assign x=>match ρ x with
  |some av=>K av
  |none=>False
 |.extract x i=>match ρ x with
  |some (.tup l)=>match l[i]? with
   |some ag=>K (.g ag)
   |none=>False
  |some (.nx b p c)=>match i with
   |0=>K (.g (.a (.v (.bool b))))
   |1=>req g (b=Ta)/\K (.g (.a (.v (.int .i64 p))))
   |2=>req g (b=Ta)/\K (.g (.a (.v (.int .i32 c))))
   |_=>False
  |_=>False
 |.field t x f=>match ρ x,z3b P t f with
  |some (.g (.agg l)),Td (k,ty)=>match z3d P ty l k with
   |some ag=>K (.g ag)
   |none=>False
  |_,_=>False
 |.fieldAddr t x f=>match ρ x,z3b P t f with
  |some (.g (.a aa)),Td (k,_)=>match qkm k aa with
   |some h=>K (.g (.a h))
   |none=>False
  |_,_=>False
 |.load t x=>match ρ x with
  |some (.g (.a aa))=>zz4 P cs t aa g K
  |_=>False
 |.indexAddr t x i=>match ρ x,ρ i with
  |some (.g (.a aa)),some iv=>match qkn iv with
   |some n=>z3e P cs t aa n g K
   |none=>False
  |_,_=>False
 |.slice t x lo hi mx=>match ρ x with
  |some (.g (.a aa))=>z3f P cs ρ t aa lo hi mx g K
  |_=>False
 |.nilCheck x=>match ρ x with
  |some (.g (.a aa))=>match qkm 0 aa with
   |some _=>K (.g (.a aa))
   |none=>False
  |_=>False
 |.build t e=>match zdx ρ e.toList with
  |some ps=>match z3h P t ps with
   |some r=>K (.g (.agg r))
   |none=>False
  |none=>False
 |.call c=>match c.callee with
  |.builtin .len=>match c.args.toList,c.argTypes.toList with
   |[x],[t]=>match ρ x,P.underlying t with
    |some (.g (.a (.v (.string s)))),Td .string=>K (.g (.a (.v (.int .i64 (s.size:Int)))))
    |some (.g (.a (.v (.slice _ n _)))),Td (.slice _)=>K (.g (.a (.v (.int .i64 (n:Int)))))
    |some (.g (.a aa)),Td (.slice _)=>match qld cs aa with
     |some n=>K (.g (.a (.v (.int .i64 (n:Int)))))
     |none=>False
    |_,_=>False
   |_,_=>False
  |_=>False
 |_=>False
theorem z3j{ρ:Operand->Option AV}{K:AV->Prop}(H:qA0 P o ρ g cs K):
  ∃av,K av/\(gok g->∀γ h σ,Inv h0 W M0 cs γ h->(∀x av,ρ x=Td av->DenV γ av (σ x))->∃v,DenV γ av v/\QExec P (execOp σ o) h (.value v)):=by
 unfold qA0 at H;cases hb:(bif zll o then(bif isQ P o then(bif Yg o.op then zja ρ o.op.operands.toList else Tc)else Tc)else Tc)with
 |true=>
  rw[hb]at H;cases hfam:zll o with
  |false=>rw[hfam]at hb;cases hb
  |true=>
   cases y:isQ P o with
   |false=>rw[hfam,y]at hb;cases hb
   |true=>
    cases hns:Yg o.op with
    |false=>rw[hfam,y,hns]at hb;cases hb
    |true=>rw[hfam,y,hns]at hb;simp only[cond_true]at hb H;obtain⟨v,h1,D⟩:=ze9 hfam H;refine⟨_,h1,λC γ h σ I q=>⟨v,Ji γ v,?_⟩⟩;rw[zri q hns hb];exact D C h ⟨by simp,λi hi=>absurd hi (by simp)⟩
 |false=>
  rw[hb]at H;simp only[cond_false]at H;have val:∀{s:Sem Value} {h:zb} {v:Value},QExec P s h v->QExec P (s >>= λx=>(C2 (C5 x):Sem Next)) h (.value v):=λy=>QExec.val y;split at H;rename_i x w;split at H;rename_i av m;exact⟨av,H,λ_ γ h σ I q=>⟨_,q _ _ m,by simp only[execOp,w];exact QExec.pure _⟩⟩;exact H.elim;rename_i x w;split at H;rename_i av m;exact⟨av,H,λ_ γ h σ I q=>⟨_,q _ _ m,by simp only[execOp,w];exact QExec.pure _⟩⟩;exact H.elim;rename_i x i w;split at H;rename_i l m;split at H;rename_i ag L;refine⟨_,H,λ_ γ h σ I q=>?_⟩;obtain⟨us,e,D⟩:=q _ _ m;obtain⟨u,G,z⟩:=D.get L;refine⟨u,z,?_⟩;simp only[execOp,w,e];refine val λB d=>?_;unfold Instr.extract;simp[G];exact H.elim;rename_i b p c m;split at H;refine⟨_,H,λ_ γ h σ I q=>⟨_,rfl,?_⟩⟩;obtain⟨S,e2⟩:=q _ _ m;simp only[execOp,w];refine val λB d=>?_;cases b with
  |true=>rw[S rfl];rfl
  |false=>rw[e2 rfl];rfl
  refine⟨_,H.2,λC γ h σ I q=>⟨_,rfl,?_⟩⟩;obtain⟨S,_⟩:=q _ _ m;simp only[execOp,w,S (H.1.out C)];exact val λB d=>rfl;refine⟨_,H.2,λC γ h σ I q=>⟨_,rfl,?_⟩⟩;obtain⟨S,_⟩:=q _ _ m;simp only[execOp,w,S (H.1.out C)];exact val λB d=>rfl;exact H.elim;exact H.elim;rename_i t x f w;split at H;rename_i l k ty m A;split at H;rename_i ag L;refine⟨_,H,λ_ γ h σ I q=>?_⟩;obtain⟨us,e,D⟩:=q _ _ m;obtain⟨v,z,y⟩:=zcc L D h;refine⟨v,z,?_⟩;simp only[execOp,w,e];refine val λB d=>?_;unfold z3b at A;split at A;rename_i fs G;split at A;rename_i fl Z;split at A;rename_i i hi;cases hz:Nat.beq i.size 0 with
  |true=>rw[hz]at A;cases A
  |false=>rw[hz]at A;simp only[cond_false,Ac,Bi]at A;obtain⟨rfl,rfl⟩:=A;have af:=QExec.underlying (h:=h) G B d;unfold Instr.field;rw[Sem.run_bind,af];simp only[Result.andThen_ok,Z,asAgg,Sem.run_bind,Sem.run_pure];exact y B d
  cases A;cases A;cases A;exact H.elim;exact H.elim;rename_i t x f w;split at H;rename_i O k ty m A;split at H;rename_i U N;refine⟨_,H,λ_ γ h σ I q=>?_⟩;obtain⟨b,o',e,z⟩:=zxd N (q _ _ m);refine⟨_,z,?_⟩;simp only[execOp,w];rw[e];exact val (z3c A b o');exact H.elim;exact H.elim;rename_i t x w;split at H;rename_i O m;obtain⟨av,h1,D⟩:=zjb (h0:=h0) (W:=W) (M0:=M0) H;refine⟨av,h1,λC γ h σ I q=>?_⟩;obtain⟨v,z,y⟩:=D C γ h _ I (q _ _ m);refine⟨v,z,?_⟩;simp only[execOp,w];exact val y;exact H.elim;rename_i t x i w;split at H;rename_i O iv m ae;split at H;rename_i n Y;obtain⟨av,h1,D⟩:=zrm (h0:=h0) (W:=W) (M0:=M0) H;refine⟨av,h1,λC γ h σ I q=>?_⟩;obtain⟨k,e⟩:=zxe Y (q _ _ ae);obtain⟨v,z,y⟩:=D C γ h _ k I (q _ _ m);refine⟨v,z,?_⟩;simp only[execOp,w];rw[e];exact val y;exact H.elim;exact H.elim;rename_i t x lo hi mx w;split at H;rename_i O m;obtain⟨av,h1,D⟩:=zrp (h0:=h0) (W:=W) (M0:=M0) H;refine⟨av,h1,λC γ h σ I q=>?_⟩;obtain⟨v,z,y⟩:=D C γ h _ σ I q (q _ _ m);refine⟨v,z,?_⟩;simp only[execOp,w];exact val y;exact H.elim;rename_i x w;split at H;rename_i O m;split at H;rename_i U N;refine⟨_,H,λ_ γ h σ I q=>?_⟩;obtain⟨b,o',e,z⟩:=zxd N (q _ _ m);have ab:=q _ _ m;refine⟨σ x,ab,?_⟩;simp only[execOp,w];rw[e];exact QExec.pure _;exact H.elim;exact H.elim;rename_i t E w;split at H;rename_i ps V;split at H;rename_i r hr;refine⟨_,H,λ_ γ h σ I q=>?_⟩;obtain⟨ws,y,z⟩:=zrr hr (zbd q V) h;refine⟨.agg ws.toArray,⟨ws,rfl,z⟩,?_⟩;simp only[execOp,w];have e:(E.map λx=>(x.1,σ x.2))=(E.toList.map λx=>(x.1,σ x.2)).toArray:=by rw[<-CQ]
  have:=val y;rw[<-e]at this;exact this;exact H.elim;exact H.elim;rename_i c w;split at H;rename_i hc;split at H;rename_i x t M Q;have F:c.args=#[x]:=by have:=congrArg List.toArray M;simp at this;exact this
  have J:c.argTypes=#[t]:=by have:=congrArg List.toArray Q;simp at this;exact this
  have key:∀(σ:Operand->Value) (h:zb) (n:Int),(QExec P (CG #[t] o.type #[σ x]) h (.int .i64 n))->QExec P (execOp σ o) h (.value (.int .i64 n)):=by
   intro σ h n y;have e:execOp σ o=(CG c.argTypes o.type (c.args.map σ) >>= λx=>(C2 (C5 x):Sem Next)):=by simp only[execOp,w,resolve,hc];rfl
   rw[e,F,J];refine val ?_;simpa using y
  split at H;rename_i s m G;refine⟨_,H,λ_ γ h σ I q=>⟨_,rfl,key σ h _ λB d=>?_⟩⟩;have y:=QExec.underlying (h:=h) G B d;have e:σ x=.string s:=q _ _ m;unfold CG;simp only[List.getElem?_toArray,List.getElem?_cons_zero,e,Sem.run_bind,y,Result.andThen_ok,Sem.run_pure];rfl;rename_i a n cp el m G;refine⟨_,H,λ_ γ h σ I q=>⟨_,rfl,key σ h _ λB d=>?_⟩⟩;have y:=QExec.underlying (h:=h) G B d;have e:σ x=.slice a n cp:=q _ _ m;unfold CG;simp only[List.getElem?_toArray,List.getElem?_cons_zero,e,Sem.run_bind,y,Result.andThen_ok,Sem.run_pure];rfl;rename_i O el _ _ m G;split at H;rename_i n Y;refine⟨_,H,λ_ γ h σ I q=>⟨_,rfl,key σ h _ λB d=>?_⟩⟩;have y:=QExec.underlying (h:=h) G B d;obtain⟨a,cp,e⟩:=qa0 I Y (q _ _ m);unfold CG;simp only[List.getElem?_toArray,List.getElem?_cons_zero,e,Sem.run_bind,y,Result.andThen_ok,Sem.run_pure];rfl;exact H.elim;exact H.elim;exact H.elim;exact H.elim;exact H.elim
def qle(P:Program)(o:Oper)(ρ:Operand->Option AV):Option Bool:=match o.op with
 |.binOp op t x (.const .nilIface) _=>match ρ x,ρ (.const .nilIface),P.underlying t with
  |some (.g (.a (.d .err b))),Td (.g (.a (.v .nilIface))),Td (.interface _)=>match op with
   |.eql=>Td b
   |.neq=>Td (!b)
   |_=>Te
  |_,_,_=>Te
 |_=>Te
theorem zmp{ρ:Operand->Option AV}(H:qle P o ρ=Td b)(q:∀x av,ρ x=Td av->DenV γ av (σ x))(h:zb):QExec P (execOp σ o) h (.value (.bool b)):=by
 have key:∀{t:TypeId} {ms:Array (String×TypeId)} {b:Bool} {u:Value},P.underlying t=Td (.interface ms)->((b=Ta/\u=.nilIface)\/(b=Tc/\∃t l,u=.iface t l))->QExec P (DV t u .nilIface) h b:=by intro t ms b u m k B d;have n:=QExec.underlying (h:=h) m B d;unfold DV Op.maxDepth;rcases k with⟨rfl,rfl⟩|⟨rfl,t',l,rfl⟩;unfold Op.equalIn;rw[Sem.run_bind,n];rfl;unfold Op.equalIn;rw[Sem.run_bind,n];rfl
 unfold qle at H;split at H;rename_i c t x C r;split at H;rename_i b0 ms A y m;have z:σ (.const .nilIface)=.nilIface:=q _ _ y;obtain⟨u,e,k⟩:=(show Rd γ.M .err b0 [σ x]from q _ _ A);have w:u=σ x:=by simpa using e.symm
 subst w;have p:=key m k;have s:∀c,QExec P (eqGuard c t x (.const .nilIface) (σ x) .nilIface) h ():=by intro c B d;unfold eqGuard;rcases k with⟨_,i⟩|⟨_,t',l,i⟩;rw[i];cases c <;> simp;rw[i];cases c <;> simp
 have f:∀c,(binOp c t (σ x) .nilIface=match c with | .eql=>(do pure (.bool (<-DV t (σ x) .nilIface))) | .neq=>(do pure (.bool (!(<-DV t (σ x) .nilIface))))|_=>binOp c t (σ x) .nilIface):=by intro c;rcases k with⟨_,i⟩|⟨_,t',l,i⟩;rw[i];cases c <;> rfl;rw[i];cases c <;> rfl
 simp only[execOp,r,z];refine QExec.val ((s c).bind ?_);split at H;simp only[Ac]at H;subst H;rw[f];exact p.bind (QExec.pure _);simp only[Ac]at H;subst H;rw[f];exact p.bind (QExec.pure _);cases H;cases H;cases H
def qet(o:Oper)(ρ:Operand->Option AV):Option (TypeId×Nat×Nat):=match o.op with
 |.load t x=>match ρ x with
  |some (.g (.a (.v (.pointer (Td ⟨b,off,Te⟩)))))=>Td (t,b,off)
  |_=>Te
 |_=>Te
def z3k(gl:Fr)(b off:Nat)(v:Value):Prop:=∃cs,gl b=Td cs/\cs[off]?=Td v
def zmq(gl:Fr)(b:Nat)(g:Option Bool):List Atom->Nat->(List AA->Prop)->Prop
 |[],_,K=>K []
 |.int k::l,o,K=>∃x:Int,req g (z3k gl b o (.int k x))/\zmq gl b g l (o+1) λr=>K (.v (.int k x)::r)
 |.str::l,o,K=>∃x:Bt,req g (z3k gl b o (.string x))/\zmq gl b g l (o+1) λr=>K (.v (.string x)::r)
 |.bool::l,o,K=>∃x:Bool,req g (z3k gl b o (.bool x))/\zmq gl b g l (o+1) λr=>K (.v (.bool x)::r)
 |_::_,_,_=>False
theorem Zy{gl:Fr}{b:Nat}{g:Option Bool}:∀{l:List Atom} {o:Nat} {K:List AA->Prop},zmq gl b g l o K->∃vs:List Value,vs.length=l.length/\K (vs.map .v)/\(gok g->∀(j:Nat) (v:Value),vs[j]?=Td v->z3k gl b (o+j) v)
 |[],o,K,H=>⟨[],rfl,H,λ_ j v h=>by simp at h⟩
 |.int k::l,o,K,⟨x,h1,h2⟩=>by
  obtain⟨vs,f,i,m⟩:=Zy h2;refine⟨.int k x::vs,by simp[f],i,λe j v c=>?_⟩;cases j with
  |zero=>simp at c;subst c;exact h1.out e
  |succ j=>have:=m e j v (by simpa using c);rwa[show o+1+j=o+(j+1)by omega]at this
 |.str::l,o,K,⟨x,h1,h2⟩=>by
  obtain⟨vs,f,i,m⟩:=Zy h2;refine⟨.string x::vs,by simp[f],i,λe j v c=>?_⟩;cases j with
  |zero=>simp at c;subst c;exact h1.out e
  |succ j=>have:=m e j v (by simpa using c);rwa[show o+1+j=o+(j+1)by omega]at this
 |.bool::l,o,K,⟨x,h1,h2⟩=>by
  obtain⟨vs,f,i,m⟩:=Zy h2;refine⟨.bool x::vs,by simp[f],i,λe j v c=>?_⟩;cases j with
  |zero=>simp at c;subst c;exact h1.out e
  |succ j=>have:=m e j v (by simpa using c);rwa[show o+1+j=o+(j+1)by omega]at this
 |.sl::_,_,_,H=>H.elim
 |.mp::_,_,_,H=>H.elim
 |.ptr::_,_,_,H=>H.elim
 |.raw::_,_,_,H=>H.elim
def qh6(P:Program)(gl:Fr)(t:TypeId)(b off:Nat)(g:Option Bool)(K:AV->Prop):Prop:=match z1w P t with
 |some (.one a)=>zmq gl b g [a] off λr=>match r with
  |[x]=>K (.g (.a x))
  |_=>False
 |some (.agg l)=>zmq gl b g l off λr=>K (.g (.agg r))
 |none=>False
def qeu(P:Program)(o:Oper)(ρ:Operand->Option AV):Option (Nat×Nat×Int×Nat×Nat):=match o.op with
 |.indexAddr t x i=>match ρ x,ρ i,P.underlying t with
  |some (.g (.a (.v (.pointer (Td ⟨b,off,Te⟩))))),Td (.g (.a (.v (.int _ n)))),Td (.array len el)=>bif qc P el then Td (b,off,n,len,qi P el)else Te
  |_,_,_=>Te
 |_=>Te
def qA(P:Program)(gl:Fr)(o:Oper)(ρ:Operand->Option AV)(g:Option Bool)(cs:CS)(K:AV->Prop):Prop:=match eqA P o ρ with
 |some b=>K (.g (.a (.v (.bool b))))
 |none=>match qle P o ρ with
  |some b=>K (.g (.a (.v (.bool b))))
  |none=>match qet o ρ with
   |some (t,b,off)=>qh6 P gl t b off g K
   |none=>match qeu P o ρ with
    |some (b,off,n,len,z)=>req g (0<=n/\n<(len:Int))/\K (.g (.a (.v (.pointer (Td ⟨b,off+n.toNat*z,Te⟩)))))
    |none=>qA0 P o ρ g cs K
theorem zh8{gl:Fr}(J:Fr.le gl M0){ρ:Operand->Option AV}{K:AV->Prop}(H:qA P gl o ρ g cs K):
  ∃av,K av/\(gok g->∀γ h σ,Inv h0 W M0 cs γ h->(∀x av,ρ x=Td av->DenV γ av (σ x))->∃v,DenV γ av v/\QExec P (execOp σ o) h (.value v)):=by
 unfold qA at H;split at H;rename_i b L;exact⟨_,H,λ_ γ h σ _ p=>⟨_,rfl,zrt L p h⟩⟩;split at H;rename_i b L;exact⟨_,H,λ_ γ h σ _ p=>⟨_,rfl,zmp L p h⟩⟩;split at H;rename_i t b off c;unfold qet at c;split at c;rename_i t' x M;split at c;rename_i r e C;simp only[Ac,Bi]at c;obtain⟨rfl,rfl,rfl⟩:=c;have key:∀{s:Option Nat} {vs:List Value} {ag:AG},zac P t'=Td s->vs.length=qah s->zod s (vs.map .v)=Td ag->(gok g->∀(j:Nat) (v:Value),vs[j]?=Td v->z3k gl r (e+j) v)->gok g->∀γ h σ,Inv h0 W M0 cs γ h->(∀x av,ρ x=Td av->DenV γ av (σ x))->∃u,DenV γ (.g ag) u/\QExec P (execOp σ o) h (.value u):=by intro s vs ag hs hn S V c γ h σ I p;have B:σ x=.pointer (Td ⟨r,e,Te⟩):=p _ _ C;obtain⟨u,U,N⟩:=zfj (γ:=γ) hs (u:=σ x) (us:=vs) ⟨_,_,B,λj w hw=>by obtain⟨cc,y,q⟩:=V c j w hw;exact I.ag.cell (I.le _ _ (J _ _ y)) q⟩ hn (Zx γ vs) S;exact⟨u,U,by simp only[execOp,M];exact QExec.val N⟩
 unfold qh6 at H;split at H;rename_i a F;obtain⟨vs,y,q,A⟩:=Zy H
 match vs,y,q,A with
 |[v],y,q,A=>exact⟨_,q,key (s:=Te) (by unfold zac;rw[F]) rfl rfl A⟩
 rename_i l F;obtain⟨vs,y,q,A⟩:=Zy H;exact⟨_,q,key (s:=Td l.length) (by unfold zac;rw[F]) y rfl A⟩;exact H.elim;cases c;cases c;split at H;rename_i b off n len z c;unfold qeu at c;split at c;rename_i t x i M;split at c;rename_i r e k O Q el C hi B;cases hok:qc P el with
 |false=>rw[hok]at c;cases c
 |true=>rw[hok]at c;simp only[cond_true,Ac,Bi]at c;obtain⟨rfl,rfl,rfl,rfl,rfl⟩:=c;refine⟨_,H.2,λE γ h σ I p=>⟨_,rfl,?_⟩⟩;have D:σ x=.pointer (Td ⟨r,e,Te⟩):=p _ _ C;have G:σ i=.int k O:=p _ _ hi;obtain⟨h1,Y⟩:=H.1.out E;obtain⟨v,rfl,N⟩:=Zu (P:=P) (t:=t) (x:=.pointer (Td ⟨r,e,Te⟩)) (i:=.int k O) (g:=Te) (K:=λv=>v=.pointer (Td (Ad ⟨r,e,Te⟩ (O.toNat*qi P el)))) (λZ f=>by rcases f with f|⟨m,f⟩;rw[B]at f;cases f;rw[B]at f;cases f;exact je hok) (by unfold zq2;rw[B];exact⟨_,⟨rfl,h1,Y⟩,rfl⟩);have:=N trivial h;rw[zi]at this;simp only[execOp,M,D,G];exact QExec.val this
 cases c;cases c;exact z3j H
end
section
variable {M gl:Fr} {u:Value} {P:Program} {f:FuncId} {γ:Gh} {cs C R:CS} {o:Oper} {σ:Operand -> Value} {h:zb} {Post:Value -> zb -> Prop} {tr:TypeId}
variable {h0 : zb} {W : Nat -> Prop} {M0 : Fr}
def zhf:Ty->Bool
 |.tree=>Ta
 |.unit=>Ta
 |.pair _ _=>Ta
 |_=>Tc
def RdV(M:Fr)(t:Ty)(x:El t)(u:Value):Prop:=if zhf t=Ta then ∃cs:List Value,u=.agg cs.toArray/\Rd M t x cs else Rd M t x [u]
theorem RdV.mono{M M':Fr}(b:Fr.le M M'){t:Ty}{x:El t}(h:RdV M t x u):RdV M' t x u:=by unfold RdV at *;by_cases c:zhf t=Ta;rw[if_pos c]at *;obtain⟨cs,e,h⟩:=h;exact⟨cs,e,Rd.mono b h⟩;rw[if_neg c]at *;exact Rd.mono b h
structure Arg where
 t:Ty
 x:El t
def zad(M:Fr)(l:List Arg)(vs:List Value):Prop:=All2 (λ(a:Arg) u=>RdV M a.t a.x u) l vs
@[reducible] def Els:List Ty->Type
 |[]=>Unit
 |[t]=>El t
 |t::t'::l=>El t×Els (t'::l)
def qh7:(l:List Ty)->Els l
 |[]=>()
 |[t]=>qh1 t
 |t::t'::l=>(qh1 t,qh7 (t'::l))
def RdL(M:Fr):(l:List Ty)->Els l->List Value->Prop
 |[],_,us=>us=[]
 |[t],x,us=>∃u,us=[u]/\RdV M t x u
 |t::t'::l,x,us=>∃u b,us=u::b/\RdV M t x.1 u/\RdL M (t'::l) x.2 b
def Y3(M:Fr)(l:List Ty)(x:Els l)(v:Value):Prop:=∃us,RdL M l x us/\v=zi7 us
def PC(P:Program)(gl:Fr)(f:FuncId)(args:List Arg)(rt:List Ty)(R:Els rt->Prop):Prop:=
 ∀(h:zb) (M:Fr) (vs:List Value),Fr.le gl M->AgM M h->zad M args vs->XC P f vs.toArray h λv h'=>
  Keep h.size h h'/\∃M' r,Fr.le M M'/\(∀b,b<h.size->M' b=M b)/\AgM M' h'/\Y3 M' rt r v/\R r
theorem PC.mono{args:List Arg}{rt:List Ty}{R b:Els rt->Prop}(H:PC P gl f args rt R)(o:∀r,R r->b r):PC P gl f args rt b:= λh M vs h1 p n=>(H h M vs h1 p n).mono λv h' ⟨k,M',r,i,m,c,e,l⟩=>⟨k,M',r,i,m,c,e,o r l⟩
def BdL:(l:List Ty)->Els l->Prop
 |[],_=>True
 |[t],x=>Bd t x
 |t::t'::l,x=>Bd t x.1/\BdL (t'::l) x.2
theorem RdV.bd{t:Ty}{x:El t}(h:RdV M t x u):Bd t x:=by unfold RdV at h;split at h;obtain⟨cs,_,h⟩:=h;exact h.bd;exact h.bd
theorem PC.bd{args:List Arg}{rt:List Ty}{R:Els rt->Prop}(H:(∀a∈args,Bd a.t a.x)->PC P gl f args rt R):PC P gl f args rt R:=by
 intro h M vs h1 i c;refine H ?_ h M vs h1 i c;clear H h1 i;induction args generalizing vs with
 |nil=>intro a k;cases k
 |cons a args l=>
  cases vs with
  |nil=>exact c.elim
  |cons u us=>intro b e;rcases Ai.1 e with rfl|e;exact RdV.bd c.1;exact l us c.2 b e
def gOf(t:Ty)(x:El t):AG:=bif zhf t then .agg (Jg t x)else(match Jg t x with
 |[y]=>.a y
 |l=>.agg l)
theorem zu7{t:Ty}{x:El t}(h:RdV γ.M t x u):DenG γ (gOf t x) u:=by
 unfold RdV at h;unfold gOf;split at h;rename_i f;rw[f];obtain⟨cs,e,h⟩:=h;exact⟨cs,e,xm h⟩;rename_i f;have c:zhf t=Tc:=by simpa using f
 rw[c];simp only[cond_false];have b:=xm (γ:=γ) h
 match hx:Jg t x,b with
 |[y],b=>exact b.1
 |[],b=>exact b.elim
 |_::_::_,b=>exact b.2.elim
def qko:(l:List Ty)->Els l->List AG
 |[],_=>[]
 |[t],x=>[gOf t x]
 |t::t'::l,x=>gOf t x.1::qko (t'::l) x.2
theorem zxf{γ:Gh}:∀{l:List Ty} {x:Els l} {us:List Value},RdL γ.M l x us->All2 (DenG γ) (qko l x) us
 |[],_,_,h=>by rw[h];trivial
 |[_],_,_,⟨u,e,h⟩=>by rw[e];exact⟨zu7 h,trivial⟩
 |_::_::_,_,_,⟨u,us,e,h,h'⟩=>by rw[e];exact⟨zu7 h,zxf h'⟩
def qhg(l:List Ty)(x:Els l):AV:=match qko l x with
 |[g]=>.g g
 |gs=>.tup gs
theorem qa2{l:List Ty}{x:Els l}{v:Value}(h:Y3 γ.M l x v):DenV γ (qhg l x) v:=by
 obtain⟨us,h,rfl⟩:=h;have b:=zxf (γ:=γ) h;unfold qhg;generalize qko l x=gs at *
 match gs,us,b with
 |[],[],_=>exact⟨[],rfl,trivial⟩
 |[g],[u],b=>exact b.1
 |g::g'::gs,u::u'::us,b=>exact⟨_,rfl,b⟩
 |[],_::_,b=>exact b.elim
 |_::_,[],b=>exact b.elim
 |[_],_::_::_,b=>exact b.2.elim
 |_::_::_,[_],b=>exact b.2.elim
def qc8(P:Program)(tr:TypeId):Nat->TypeId->Option Ty
 |0,_=>Te
 |n+1,t=>bif Nat.beq t tr then Td .tree else match P.underlying t with
  |some (.int k)=>Td (.int k)
  |some .bool=>Td .bool
  |some .string=>Td .str
  |some (.slice e)=>match qc8 P tr n e with
   |some x=>Td (.row x)
   |none=>Te
  |some (.struct fs)=>tysOf P (λt=>qc8 P tr n t) fs.toList
  |some (.interface _)=>Td .err
  |_=>Te
where tysOf (P:Program) (f:TypeId->Option Ty):List Field->Option Ty
 |[]=>Td .unit
 |[x]=>f x.type
 |x::y::l=>match f x.type,tysOf P f (y::l)with
  |some a,some b=>Td (.pair a b)
  |_,_=>Te
def tyL(P:Program)(tr:TypeId):List TypeId->Option (List Ty)
 |[]=>Td []
 |t::l=>match qc8 P tr 8 t,tyL P tr l with
  |some a,some b=>Td (a::b)
  |_,_=>Te
def qh8:AA->List Nat
 |.own c=>[c]
 |_=>[]
def zz6:List AA->List Nat
 |[]=>[]
 |x::l=>qh8 x++zz6 l
def qlf:AV->List Nat
 |.g (.a x)=>qh8 x
 |.g (.agg l)=>zz6 l
 |_=>[]
def Xj:List AV->List Nat
 |[]=>[]
 |v::l=>qlf v++Xj l
def frzL:List Nat->CS->CS
 |[],C=>C
 |c::l,C=>frzL l (qep c C)
theorem Inv.frzL{C R:CS}{γ:Gh}{h:zb}:∀(l:List Nat) {C:CS} {γ:Gh},Inv h0 W M0 (C++R) γ h->∃γ',Inv h0 W M0 (frzL l C++R) γ' h/\Gx Te γ γ'
 |[],C,γ,I=>⟨γ,I,Gx.refl _ _⟩
 |c::l,C,γ,I=>by obtain⟨n,f,e⟩:=Inv.freeze c C [] I;obtain⟨m,k,b⟩:=Inv.frzL (C:=C) (γ:=γ) l f;exact⟨m,k,e.1.trans b.1,λi hi=>⟨(b.2 i hi).1.trans (e.2 i hi).1,(b.2 i hi).2.trans (e.2 i hi).2⟩⟩
def zdy(cs:CS)(t:Ty):AV->Option (El t)
 |.g (.agg l)=>bif zhf t then(match collect cs t l with
  |some (y,[])=>Td y
  |_=>Te)else Te
 |.g (.a x)=>bif zhf t then Te else zlm cs t x
 |_=>Te
theorem zcd(c:qag γ cs){t:Ty}{av:AV}{y:El t}(h:zdy cs t av=Td y)(b:DenV γ av u):RdV γ.M t y u:=by
 unfold zdy at h;unfold RdV;split at h;rename_i l;cases ha:zhf t with
 |false=>rw[ha]at h;cases h
 |true=>
  rw[ha]at h;simp only[cond_true]at h;split at h;rename_i n f;simp only[Ac]at h;subst h;obtain⟨us,e,m⟩:=b;obtain⟨c1,c2,rfl,k,i⟩:=Jh c f m;cases c2 with
  |nil=>simp only[if_true];exact⟨c1,by rw[e,AR],k⟩
  |cons _ _=>exact i.elim
  cases h
 rename_i x;cases ha:zhf t with
 |true=>rw[ha]at h;cases h
 |false=>rw[ha]at h;simp only[Bc,if_false];exact j7 c h b
 cases h
def jg(cs:CS):List Ty->List AV->Option (List Arg)
 |[],[]=>Td []
 |t::ts,v::vs=>match zdy cs t v,jg cs ts vs with
  |some x,some l=>Td (⟨t,x⟩::l)
  |_,_=>Te
 |_,_=>Te
theorem wv{γ:Gh}{cs:CS}(b:qag γ cs):∀{ts:List Ty} {vs:List AV} {l:List Arg},jg cs ts vs=Td l->∀{us:List Value},All2 (DenV γ) vs us->zad γ.M l us
 |[],[],l,h,[],_=>by simp only[jg,Ac]at h;subst h;trivial
 |[],[],_,_,_::_,hd=>hd.elim
 |t::ts,v::vs,l,h,[],hd=>hd.elim
 |t::ts,v::vs,l,h,u::us,hd=>by simp only[jg]at h;split at h;rename_i x e h1 c;simp only[Ac]at h;subst h;exact⟨zcd b h1 hd.1,wv b c hd.2⟩;cases h
 |[],_::_,_,h,_,_=>by simp[jg]at h
 |_::_,[],_,h,_,_=>by simp[jg]at h
def zu8(ρ:Operand->Option AV):List Operand->Option (List AV)
 |[]=>Td []
 |x::l=>match ρ x,zu8 ρ l with
  |some v,some vs=>Td (v::vs)
  |_,_=>Te
theorem zae{γ:Gh}{ρ:Operand->Option AV}{σ:Operand->Value}(b:∀x av,ρ x=Td av->DenV γ av (σ x)):∀{l:List Operand} {vs:List AV},zu8 ρ l=Td vs->All2 (DenV γ) vs (l.map σ)
 |[],vs,h=>by simp only[zu8,Ac]at h;subst h;trivial
 |x::l,vs,h=>by simp only[zu8]at h;split at h;rename_i v c h1 e;simp only[Ac]at h;subst h;exact⟨b _ _ h1,zae b e⟩;cases h
def ExA(P:Program)(s:Sem Next)(h:zb)(Post:Value->zb->Prop):Prop:=∀B d,
 (∃v b h',s.run P (mk B d h)=.ok (.value v) (mk B b h')/\Post v h') \/
 (∃b h',s.run P (mk B d h)=.ok .skip (mk B b h')/\Post undef h') \/
 (∃f args,s.run P (mk B d h)=.ok (.enter f args) (mk B d h)/\XC P f args h Post)
theorem ExA.upon(H:ExA P (execOp σ o) h Post)(B:World)(d:Nat){a:Act}{next:Act->World->Prop}{Q:Exit->Act->World->Prop}
  (i:∀v b h',Post v h'->next (a.put o.dst v) (mk B b h')):o.upon P a next Q ((execOp σ o).run P (mk B d h)):=by
 rcases H B d with⟨v,b,h',e,c⟩|⟨b,h',e,c⟩|⟨f,args,e,k⟩;exact upon_value e (i _ _ _ c);exact upon_skip e (i _ _ _ c);rw[e];refine(k B d).mono ?_;rintro e' w' ⟨v,b,h'',rfl,rfl,l⟩;exact i _ _ _ l
theorem ExA.mono{s:Sem Next}{Post b:Value->zb->Prop}(H:ExA P s h Post)(c:∀v h',Post v h'->b v h'):ExA P s h b:=λB d=>by rcases H B d with⟨v,i,h',e,q⟩|⟨i,h',e,q⟩|⟨f,args,e,k⟩;exact .inl ⟨v,i,h',e,c _ _ q⟩;exact .inr (.inl ⟨i,h',e,c _ _ q⟩);exact .inr (.inr ⟨f,args,e,k.mono c⟩)
def zce(h0:zb)(W:Nat->Prop)(M0:Fr)(R:CS)(γ:Gh)(K:AV->CS->Option Nat->Prop)(v:Value)(h':zb):Prop:=
 ∃av b c γ',K av b c/\DenV γ' av v/\Inv h0 W M0 (b++R) γ' h'/\Gx c γ γ'
theorem qev(b:Fr.le gl M0){ρ:Operand->Option AV}{K:AV->CS->Option Nat->Prop}(H:qA P gl o ρ Te (C++R) λav=>K av C Te)(I:Inv h0 W M0 (C++R) γ h)
  (e:∀x av,ρ x=Td av->DenV γ av (σ x)):ExA P (execOp σ o) h (zce h0 W M0 R γ K):=by
 obtain⟨av,h1,i⟩:=zh8 (h0:=h0) (W:=W) (M0:=M0) b H;obtain⟨v,c,f⟩:=i trivial γ h σ I e;exact λB d=>.inl ⟨v,d,h,f B d,av,C,Te,γ,h1,c,I,Gx.refl _ _⟩
def qh9:Operand->Option FuncId
 |.func f=>Td f
 |_=>Te
def qew(P:Program)(tr:TypeId)(f:FuncId):Option (List Ty×List Ty):=match P.funcs[f]? with
 |some fn=>match tyL P tr fn.params.toList,tyL P tr fn.resultTypes.toList with
  |some a,some b=>Td (a,b)
  |_,_=>Te
 |none=>Te
def qex(P:Program)(gl:Fr)(tr:TypeId)(o:Oper)(ρ:Operand->Option AV)(C R:CS)(K:AV->CS->Prop):Prop:=
 match o.op with
 |.call c=>match c.callee with
  |.value x=>match qh9 x with
   |some f=>bif zh P f then(match qew P tr f,zu8 ρ c.args.toList with
    |some (ts,rt),some vs=>match jg (frzL (Xj vs) C++R) ts vs with
     |some args=>PC P gl f args rt λr=>K (qhg rt r) (frzL (Xj vs) C)
     |none=>False
    |_,_=>False)else False
   |none=>False
  |_=>False
 |_=>False
def zz7(P:Program)(gl:Fr)(tr:TypeId)(o:Oper)(ρ:Operand->Option AV)(b:Bool)(cs:CS)(K:AV->Prop):Prop:=
 match o.op with
 |.call c=>match c.callee with
  |.value x=>match qh9 x with
   |some f=>bif zh P f then(match qew P tr f,zu8 ρ c.args.toList with
    |some (ts,rt),some vs=>match jg cs ts vs with
     |some args=>∃J:Els rt->Prop,(b=Ta->PC P gl f args rt J)/\∀r,(b=Ta->J r)->K (qhg rt r)
     |none=>False
    |_,_=>False)else False
   |none=>False
  |_=>False
 |_=>False
theorem zoe{x:Operand}(h:qh9 x=Td f):x=.func f:=by unfold qh9 at h;split at h;simp only[Ac]at h;rw[h];cases h
theorem zdz{c:Call}(b:o.op=.call c)(e:c.callee=.value (.func f))(i:zh P f=Ta)(h:σ (.func f)=.func (.func f) #[] #[])(w:World):
  (execOp σ o).run P w=.ok (.enter f (c.args.map σ)) w:=by
 simp only[execOp,b,resolve,e,h,Dq,Sem.run_bind,Sem.run_pure,Result.andThen_ok,invoke];rw[X6 i];simp
theorem zof(b:Fr.le gl M0){args:List Arg}{rt:List Ty}{c:Els rt->Prop}(H:PC P gl f args rt c)(I:Inv h0 W M0 cs γ h){us:List Value}(m:zad γ.M args us):
  XC P f us.toArray h λv h'=>∃r γ',c r/\DenV γ' (qhg rt r) v/\Inv h0 W M0 cs γ' h'/\Gx Te γ γ'/\Keep h.size h h':=
 (H h γ.M us (b.trans I.le) I.ag m).mono λv h' ⟨k,M',r,e,o,i,l,n⟩=>
  ⟨r,{ γ with M:=M' },n,qa2 (γ:={ γ with M:=M' }) l,I.call k e o i,⟨e,λ_ _=>⟨rfl,rfl⟩⟩,k⟩
theorem qa3(l:Fr.le gl M0){ρ:Operand->Option AV}{K:AV->CS->Option Nat->Prop}(H:qex P gl tr o ρ C R λav y=>K av y Te)(I:Inv h0 W M0 (C++R) γ h)
  (E:∀f,σ (.func f)=.func (.func f) #[] #[]) (t:∀x av,ρ x=Td av->DenV γ av (σ x)):ExA P (execOp σ o) h (zce h0 W M0 R γ K):=by
 unfold qex at H;split at H;rename_i c z;split at H;rename_i x G;split at H;rename_i f F;cases hcal:zh P f with
 |false=>rw[hcal]at H;exact H.elim
 |true=>
  rw[hcal]at H;simp only[cond_true]at H;split at H;rename_i ts rt vs L m;split at H;rename_i args b;intro B d;have e:=zoe F;subst e;obtain⟨J,p,k⟩:=Inv.frzL (C:=C) (γ:=γ) (Xj vs) I;have q:=wv p.fz b ((zae t m).imp λv _ u A=>A.gx k rfl);refine .inr (.inr ⟨f,c.args.map σ,zdz z G hcal (E f) _,?_⟩);have s:c.args.map σ=(c.args.toList.map σ).toArray:=by rw[<-CQ]
  rw[s];refine(zof l H p q).mono ?_;rintro v h' ⟨r,γ',h1,w,D,n,_⟩;exact⟨_,_,Te,γ',h1,w,D,k.1.trans n.1,λi hi=>⟨(n.2 i hi).1.trans (k.2 i hi).1,(n.2 i hi).2.trans (k.2 i hi).2⟩⟩;exact H.elim;exact H.elim
 exact H.elim;exact H.elim;exact H.elim
theorem zcf{ρ:Operand->Option AV}{b:Bool}{K:AV->Prop}(H:zz7 P gl tr o ρ b cs K):(b=Tc->∃av,K av) /\
  (b=Ta->Fr.le gl M0->∀γ h σ,Inv h0 W M0 cs γ h->(∀f,σ (.func f)=.func (.func f) #[] #[])->(∀x av,ρ x=Td av->DenV γ av (σ x))->∃f args,(∀w,(execOp σ o).run P w=.ok (.enter f args) w) /\ XC P f args h λv h'=>∃av γ',K av/\DenV γ' av v/\Inv h0 W M0 cs γ' h'/\Gx Te γ γ'/\Keep h.size h h'):=by
 unfold zz7 at H;split at H;rename_i c B;split at H;rename_i x D;split at H;rename_i f u;cases hcal:zh P f with
 |false=>rw[hcal]at H;exact H.elim
 |true=>
  rw[hcal]at H;simp only[cond_true]at H;split at H;rename_i ts rt vs E l;split at H;rename_i args i;obtain⟨J,h1,n⟩:=H;refine⟨λk=>⟨_,n (qh7 rt) (λh=>by rw[k]at h;cases h)⟩,λk m γ h σ I C t=>?_⟩;have e:=zoe u;subst e;refine⟨f,c.args.map σ,λw=>zdz B D hcal (C f) w,?_⟩;have q:c.args.map σ=(c.args.toList.map σ).toArray:=by rw[<-CQ]
  rw[q];refine(zof m (h1 k) I (wv I.fz i (zae t l))).mono ?_;rintro v h' ⟨r,γ',y,p,s,z,A⟩;exact⟨_,γ',n r (λ_=>y),p,s,z,A⟩;exact H.elim;exact H.elim
 exact H.elim;exact H.elim;exact H.elim
end
section
variable {P:Program} {t:TypeId} {o:Oper} {d:Nat} {C R:CS} {γ:Gh} {h:zb} {σ:Operand -> Value} {av:AV}
variable {h0 : zb} {W : Nat -> Prop} {M0 : Fr}
def z3l(P:Program)(t:TypeId)(d:Nat)(C R:CS)(K:AV->CS->Option Nat->Prop):Prop:=match zeroOf P t with
 |some z=>bif qh d R then(bif itB (z.cells.toList.map .v)then False else K (.g (.a (.box d 0))) ((d,.box (z.cells.toList.map .v))::qk d C) (Td d))else False
 |none=>False
theorem zfk(c:Nat):∀l:List Value,zqy c (l.map .v)=Tc
 |[]=>rfl
 |_::l=>by simp only[As,zqy,zzz,cond_false,zfk c l]
theorem zbe(t:TypeId)(v:Value)(B:World)(d:Nat)(h:zb):(newVar t v).run P (mk B d h)=.ok ⟨h.size,0,Te⟩ (mk B d (h.push (.cells v.cells t))):=rfl
theorem z3m(f:o.op=.alloc t){K:AV->CS->Option Nat->Prop}(H:z3l P t d C R K)(I:Inv h0 W M0 (C++R) γ h):ExA P (execOp σ o) h (zce h0 W M0 R γ K):=by
 unfold z3l at H;split at H
 ·rename_i z i;cases hR:qh d R with
  |false=>rw[hR]at H;exact H.elim
  |true=>
   rw[hR]at H;cases hit:itB (z.cells.toList.map .v)with
   |true=>rw[hit]at H;exact H.elim
   |false=>
   rw[hit]at H;intro B e;refine .inl ⟨.pointer (Td ⟨h.size,0,Te⟩),e,h.push (.cells z.cells t),?_,_,_,_,z1x γ d h.size,H,?_,?_,zaa _ _ _⟩;have b:=Jl i h B e;simp only[execOp,f];refine Yh ?_;unfold Instr.alloc;rw[Sem.run_bind,b];simp only[Result.andThen_ok];rw[Sem.run_bind,zbe];rfl;simp only[DenV,DenG,DenA,Zv];have:=I.newBox (c:=d) hR (Zx γ z.cells.toList) (zfk d _) hit t;simpa using this
 exact H.elim
def qlg(t:TypeId)(d:Nat)(l:List AA)(C R:CS)(K:AV->CS->Option Nat->Prop):Prop:=
 bif qh d R then(bif zqy d l then False else(bif itB l then False else K (.g (.a (.box d 0))) ((d,.box l)::qk d C) (Td d)))else False
theorem qey{x:Operand}(f:o.op=.box t x){l:List AA}{K:AV->CS->Option Nat->Prop}(H:qlg t d l C R K)(I:Inv h0 W M0 (C++R) γ h)
  (b:All2 (DenA γ) l (σ x).cells.toList):ExA P (execOp σ o) h (zce h0 W M0 R γ K):=by
 unfold qlg at H;cases hR:qh d R with
 |false=>rw[hR]at H;exact H.elim
 |true=>
  rw[hR]at H;cases hm:zqy d l with
  |true=>rw[hm]at H;exact H.elim
  |false=>
   rw[hm]at H;cases hit:itB l with
   |true=>rw[hit]at H;exact H.elim
   |false=>
   rw[hit]at H;intro B e;refine .inl ⟨.pointer (Td ⟨h.size,0,Te⟩),e,h.push (.cells (σ x).cells t),?_,_,_,_,z1x γ d h.size,H,?_,?_,zaa _ _ _⟩;simp only[execOp,f];refine Yh ?_;unfold Instr.box;rw[Sem.run_bind,zbe];rfl;simp only[DenV,DenG,DenA,Zv];have:=I.newBox (c:=d) hR b hm hit t;simpa using this
def z3n:AA->Bool
 |.v x=>x.oneCell'
 |_=>Ta
def zjc:List AA->Bool
 |[]=>Ta
 |x::l=>bif z3n x then zjc l else Tc
theorem zz8{x:AA}{u:Value}(h:z3n x=Ta)(k:DenA γ x u):u.oneCell'=Ta:=by
 cases x with
 |v y=>rw[show u=y from k];exact h
 |d t y=>exact Rd.one (show Rd γ.M t y [u]from k) u (by simp)
 |box c o=>rw[show u=_ from k];rfl
 |own c=>rw[show u=_ from k];rfl
 |oelt c z i o=>obtain⟨g,_,e⟩:=k;rw[e];rfl
 |elt t y o=>obtain⟨b,f,cs,e,_⟩:=k;rw[e];rfl
 |dc t xs=>obtain⟨s,e,_⟩:=k;rw[e];rfl
theorem zjd{γ:Gh}:∀{l:List AA} {us:List Value},zjc l=Ta->All2 (DenA γ) l us->∀u∈us,u.oneCell'=Ta
 |[],[],_,_,u,b=>by cases b
 |[],_::_,_,h,_,_=>h.elim
 |_::_,[],_,h,_,_=>h.elim
 |x::l,v::us,h,hd,u,b=>by
  simp only[zjc]at h;cases hx:z3n x with
  |false=>rw[hx]at h;cases h
  |true=>rw[hx]at h;rcases Ai.1 b with rfl|b;exact zz8 hx hd.1;exact zjd h hd.2 u b
def z3o(c:Nat):CS->Bool
 |[]=>Ta
 |(j,_)::l=>bif Nat.beq j c then Tc else z3o c l
theorem zbf{c:Nat}:∀{l:CS},z3o c l=Ta->∀x∈l,x.1≠c
 |[],_,x,b=>by cases b
 |(j,k)::l,h,x,b=>by
  simp only[z3o]at h;cases hb:Nat.beq j c with
  |true=>rw[hb]at h;cases h
  |false=>rw[hb]at h;rcases Ai.1 b with rfl|b;intro e;simp only at e;subst e;simp at hb;exact zbf h x b
theorem zcg{P:Program}{g o:Nat}:∀(vs:List Value) (i:Nat) (w:World),(storeCells ⟨g,o,Te⟩ vs i).run P w=(storeCells ⟨g,0,Te⟩ vs (o+i)).run P w
 |[],i,w=>rfl
 |v::vs,i,w=>by unfold storeCells;rw[Sem.run_bind,Sem.run_bind,zi,zi,AL];congr 1;funext a w';exact zcg vs (i+1) w'
theorem Q1{n:Nat}(hi:qc P t=Ta)(i:qi P t=n){b o:Nat}{cs:Array Value}{T:TypeId}(e:h[b]?=Td (.cells cs T (0,0))){v:Value}(c:v.cells.size=n)(q:o+n<=cs.size)(h1:∀u∈v.cells.toList,u.oneCell'=Ta)(B:World)(d:Nat):
  ∃h',(Af t (.pointer (Td ⟨b,o,Te⟩)) v).run P (mk B d h)=.ok () (mk B d h')/\h'[b]?=Td (.cells (cs.toList.take o++v.cells.toList++cs.toList.drop (o+n)).toArray T (0,0))/\h'.size=h.size/\∀j,j≠b->h'[j]?=h[j]?:=by
 obtain⟨h',m,l,k,f⟩:=Y2 (P:=P) B d v.cells.toList (o+0) h cs e (by simp;omega) h1;refine⟨h',?_,by rw[l];simp[c],k,f⟩;have p:=QExec.sizeOf (P:=P) (h:=h) (je hi).choose_spec B d;unfold Af Dj;simp only[Sem.run_bind,Sem.run_pure,Result.andThen_ok];unfold storeVar;rw[Sem.run_bind,p];simp only[Result.andThen_ok];rw[i,c];simp only[ne_eq,not_true_eq_false,if_false];rw[zcg];exact m
theorem Qr{α:Type}{L vs:List α}{p:Nat}(h:p+vs.length<=L.length)(q:Nat):(L.take p++vs++L.drop (p+vs.length))[q]?=if q<p then L[q]? else if q<p+vs.length then vs[q-p]? else L[q]?:=by
 have h1:(L.take p).length=p:=by simp;omega
 by_cases b:q<p;rw[if_pos b,AH,BG (by omega),AK,if_pos b];rw[if_neg b];by_cases c:q<p+vs.length;rw[if_pos c,BG (by rw[Ah,h1];omega),BD (by omega),h1];rw[if_neg c,BD (by rw[Ah,h1];omega),A9,Ah,h1];congr 1;omega
theorem RowC.set{M:Fr}{t:Ty}{xs:List (El t)}{cells:List Value}(H:RowC M t xs cells){i:Nat}(hi:i<xs.length){y:El t}{o:Nat}{vs:List Value}(m:o+vs.length<=sz t) (p:Rd M t y ((((cells.drop (i*sz t)).take (sz t)).take o)++vs++(((cells.drop (i*sz t)).take (sz t)).drop (o+vs.length)))):
  RowC M t (xs.set i y) (cells.take (i*sz t+o)++vs++cells.drop (i*sz t+o+vs.length)):=by
 have h:(i+1)*sz t<=cells.length:=by rw[H.1];exact AQ _ hi
 rw[BZ,Dn]at h;have n:((cells.drop (i*sz t)).take (sz t)).length=sz t:=by rw[AN,AI];omega
 refine⟨?_,λj l=>?_⟩;rw[Cz,<-H.1];simp only[Ah,AN,AI];omega;rw[Cz]at l;by_cases c:i=j;subst c;rw[Dg];have e:(((cells.take (i*sz t+o)++vs++cells.drop (i*sz t+o+vs.length)).drop (i*sz t)).take (sz t))=(((cells.drop (i*sz t)).take (sz t)).take o)++vs++(((cells.drop (i*sz t)).take (sz t)).drop (o+vs.length)):=by apply Bu;intro k;rw[Qr (by rw[n];exact m),AK,AK,A9,A9,Qr (by omega)];by_cases b:k<sz t;simp only[b,if_true];by_cases h1:k<o;rw[if_pos (by omega),if_pos h1];rw[if_neg (by omega),if_neg h1];by_cases f:k<o+vs.length;rw[if_pos (by omega),if_pos f];congr 1;omega;rw[if_neg (by omega),if_neg f];simp only[b,if_false];rw[if_neg (by omega),if_neg (by omega)]
 rw[e];exact p;rw[List.getElem_set_ne c];have e:(((cells.take (i*sz t+o)++vs++cells.drop (i*sz t+o+vs.length)).drop (j*sz t)).take (sz t))=(cells.drop (j*sz t)).take (sz t):=by
  apply Bu;intro k;rw[AK,AK,A9,A9,Qr (by omega)];by_cases b:k<sz t;simp only[b,if_true];rcases AX j i with h1|h1;have:(j+1)*sz t<=i*sz t:=AQ _ h1;rw[BZ,Dn]at this;rw[if_pos (by omega)];have f:i+1<=j:=by omega
  have:(i+1)*sz t<=j*sz t:=AQ _ f;rw[BZ,Dn]at this;rw[if_neg (by omega),if_neg (by omega)];simp only[b,if_false]
 rw[e];exact H.2 j l
theorem Inv.setRow{h h':zb}(I:Inv h0 W M0 (C++R) γ h){c:Nat}{e:TypeId}{t:Ty}{xs n:List (El t)}(z:(c,Ch.row e t xs)∈C){g:Nat}(p:(γ.σ c).a.map (·.block)=Td g)
  (w:∀i,i≠g->h'[i]?=h[i]?) (M:h'.size=h.size) (D:DenC h0.size γ h' c (.row e t n)) (G:∀x∈R,x.1≠c):Inv h0 W M0 ((c,.row e t n)::Wh c C++R) γ h':=by
 have k:=I.sep _ (Ar R z) g p;have o:∀x∈Wh c C++R,blk γ x.1 x.2≠Td g:=by
  intro x l;have u:x≠(c,Ch.row e t xs):=by rintro rfl;rcases Aw.1 l with l|l;exact(Ys l).2 rfl;exact G _ l rfl
  have r:x∈C++R:=((xb c C).append_right R).subset l;have B:=@zdt _ (λ(x y:Nat×Ch)=>∀b,blk γ x.1 x.2=Td b->blk γ y.1 y.2≠Td b) (λx y h b f s=>h b s f) _ I.apart;intro f;exact B (Ar R z) r (λe=>u e.symm) _ p f
 have F:Inv h0 W M0 (Wh c C++R) γ h':=by refine I.rest ((xb c C).append_right R) (c:=Te) (Gx.refl _ _) (λx _=>⟨by simp,rfl⟩) (λx l b f=>?_) (λb L q=>?_) (λi hi A=>?_) (by omega) (λb f=>rfl);exact⟨w b λe'=>o x l (e' ▸ f),(I.sep x (((xb c C).append_right R).subset l) b f).2⟩;obtain⟨J,m,e'⟩:=I.ag b L q;exact⟨J,m,by rw[w b λE=>by rw[E,k.2]at q;cases q];exact e'⟩;refine w i λe'=>?_;have H:=k.1;rcases H with h1|h1;omega;rw[e']at A;exact A h1
 refine F.cons D (λb f=>?_) (λb f x l=>?_);simp only[blk,p,Ac]at f;subst f;exact k;simp only[blk,p,Ac]at f;subst f;exact o x l
def z3p(P:Program)(t:TypeId)(f:AA)(b:List AA)(C R:CS)(K:AV->CS->Option Nat->Prop):Prop:=
 bif qc P t then(bif Nat.beq b.length (qi P t)then(bif zjc b then(match f with
 |.box c o=>match Qz C c with
  |some (.box l)=>bif z3o c R then(bif (bif itB l then Ta else itB (l.take o++b++l.drop (o+b.length)))then False else(bif Nat.ble (o+b.length) l.length then K (zz2 undef) ((c,.box (l.take o++b++l.drop (o+b.length)))::Wh c C) Te else False))else False
  |_=>False
 |.oelt c z i o=>match Qz (frzL (zz6 b) C) c with
  |some (.row e ty xs)=>bif z3o c R then(bif Nat.beq z (sz ty)then(bif Nat.ble (o+b.length) (sz ty)then ∃y:El ty,xs[i]?=Td y/\(match collect (frzL (zz6 b) C++R) ty ((Jg ty y).take o++b++(Jg ty y).drop (o+b.length))with
   |some (y',[])=>K (zz2 undef) ((c,.row e ty (xs.set i y'))::Wh c (frzL (zz6 b) C)) Te
   |_=>False)else False)else False)else False
  |_=>False
 |_=>False)else False)else False)else False
theorem z3q{a x:Operand}(ho:o.op=.store t a x){aa:AA}{n:List AA}{K:AV->CS->Option Nat->Prop}(H:z3p P t aa n C R K)(I:Inv h0 W M0 (C++R) γ h)
  (M:All2 (DenA γ) n (σ x).cells.toList) (ha:DenA γ aa (σ a)):ExA P (execOp σ o) h (zce h0 W M0 R γ K):=by
 unfold z3p at H;cases hi:qc P t with
 |false=>rw[hi]at H;exact H.elim
 |true=>
  rw[hi]at H;cases hn:Nat.beq n.length (qi P t)with
  |false=>rw[hn]at H;exact H.elim
  |true=>
   rw[hn]at H;cases hok:zjc n with
   |false=>rw[hok]at H;exact H.elim
   |true=>
    rw[hok]at H;have Q:n.length=qi P t:=Al hn;have r:(σ x).cells.size=qi P t:=by rw[<-Q,M.length];simp
    have h1:=zjd hok M;simp only[cond_true]at H;split at H
    ·rename_i c off;split at H
     ·rename_i l hc;cases hR:z3o c R with
      |false=>rw[hR]at H;exact H.elim
      |true=>
       rw[hR]at H;cases hit:itB l with
       |true=>rw[hit]at H;exact H.elim
       |false=>
       rw[hit]at H;cases hit2:itB (l.take off++n++l.drop (off+n.length))with
       |true=>rw[hit2]at H;exact H.elim
       |false=>
       rw[hit2]at H;simp only[cond_true,cond_false]at H;cases hble:Nat.ble (off+n.length) l.length with
       |false=>rw[hble]at H;exact H.elim
       |true=>
        rw[hble]at H;have N:=BS hble;obtain⟨us,e,J⟩:=I.den _ (Ar R (qa hc));rcases e with⟨⟨T,e⟩,_⟩|⟨s,p,e,_⟩;case inr=>exact absurd e (zxa hit J s p)
        have ax:=J.length;intro B d;obtain⟨h',r1,r2,r3,r4⟩:=Q1 (P:=P) hi rfl e (o:=off) r (by simp;omega) h1 B d;refine .inr (.inl ⟨d,h',?_,_,_,_,γ,H,Ji _ _,?_,Gx.refl _ _⟩);simp only[execOp,ho];rw[show σ a=_ from ha];exact zzq r1;refine I.setBox (qa hc) (us:=us.take off++(σ x).cells.toList++us.drop (off+n.length)) (.inl ⟨⟨T,?_⟩,λs p=>zxa hit2 (((J.take off).append M).append (J.drop _)) s p⟩) r4 r3 ?_ (zbf hR);rw[r2,Q];exact((J.take off).append M).append (J.drop _)
     exact H.elim
    rename_i c z i off;split at H;rename_i e ty xs hc;cases hR:z3o c R with
    |false=>rw[hR]at H;exact H.elim
    |true=>
     rw[hR]at H;cases hz:Nat.beq z (sz ty)with
     |false=>rw[hz]at H;exact H.elim
     |true=>
      rw[hz]at H;cases hble:Nat.ble (off+n.length) (sz ty)with
      |false=>rw[hble]at H;exact H.elim
      |true=>
       rw[hble]at H;simp only[cond_true]at H;obtain⟨y,hy,H⟩:=H;split at H;rename_i y' S;have N:=BS hble;obtain⟨γ1,I1,g1⟩:=Inv.frzL (C:=C) (γ:=γ) (zz6 n) I;have O:=ha.gx g1 rfl;have aj:=DenL.gx (c:=Te) g1 rfl M;rw[Al hz]at O;obtain⟨g,hg,an⟩:=O;have u:=qa hc;obtain⟨cells,w,f,m,b⟩:=I1.den _ (Ar R u);simp only at w f m b;have D:i<xs.length:=(A1.1 hy).1;have ak:xs[i]=y:=(A1.1 hy).2;rcases w.2 with⟨hv,au⟩|⟨g',cap,Z,hv,ar,ai,am,ae,G,F⟩;omega;simp only[AP]at hv;have ah:g'=g:=by have:=hv.1;rw[hg]at this;simp only[Ac,Addr.mk.injEq]at this;exact this.1.symm
       subst ah;have q:cells.length=xs.length*sz ty:=f.1;have Y:(i+1)*sz ty<=xs.length*sz ty:=AQ _ D;rw[BZ,Dn]at Y;have af:xs.length*sz ty<=cap*sz ty:=AQ _ (by omega);have E:(σ x).cells.toList.length=n.length:=M.length.symm;intro B d;obtain⟨h',r1,r2,r3,r4⟩:=Q1 (P:=P) hi rfl ai (o:=i*sz ty+off) r (by rw[G];omega) h1 B d;refine .inr (.inl ⟨d,h',?_,_,_,_,γ1,H,Ji _ _,?_,g1⟩);simp only[execOp,ho];rw[an];exact zzq r1;refine I1.setRow u (g:=g') (by rw[hg];rfl) r4 r3 ?_ (zbf hR);have hE:=f.2 i D;rw[ak]at hE;have U:=xm (γ:=γ1) hE;have V:=((U.take off).append aj).append (U.drop (off+n.length));obtain⟨c1,c2,e1,r5,r6⟩:=Jh I1.fz S V;cases c2 with
       |cons _ _=>exact r6.elim
       |nil=>
        rw[AR]at e1;rw[<-e1]at r5;have A:=f.set D (o:=off) (vs:=(σ x).cells.toList) (by rw[E];exact N) (by rw[E];exact r5);refine⟨_,⟨?_,.inr ⟨g',cap,_,by simp[hv],ar,r2,am,ae,?_,?_⟩⟩,A,by simpa using m,by simpa using b⟩;rw[A.1,b,Cz];simp only[List.size_toArray,Ah,AN,AI,Cx];have:(σ x).cells.toList.length=qi P t:=by simpa using r
        simp only[Cx]at this;rw[this,G];omega;apply Bu;intro k;have ab:(σ x).cells.toList.length=qi P t:=by simpa using r
        rw[AK,<-ab];simp only;rw[Qr (L:=cells) (by rw[q];omega)];have ap:cells=Z.toList.take (xs.length*sz ty):=by rw[<-F,b]
        rw[Qr (L:=Z.toList) (by simp only[Cx];rw[G];simp only[Cx]at E;omega),ap,b];by_cases hk:k<xs.length*sz ty;rw[if_pos hk,AK,if_pos hk];rw[if_neg hk,AK,if_neg hk];rw[if_neg (by omega),if_neg (by omega)]
       exact H.elim
    exact H.elim;exact H.elim
def nxB(s:Bt)(p:Nat):Bool:=Nat.blt p s.size
def nxP(s:Bt)(p:Nat):Nat:=bif Nat.blt p s.size then p+(DW s p).2 else p
def nxR(s:Bt)(p:Nat):Int:=((DW s p).1:Int)
def z3r(P:Program)(t:TypeId)(av:AV)(d:Nat)(C R:CS)(K:AV->CS->Option Nat->Prop):Prop:=match av,P.underlying t with
 |.g (.a (.v (.string s))),Td .string=>bif qh d R then K (.g (.a (.box d 0))) ((d,.box [.d .iter (s,0)])::qk d C) (Td d)else False
 |_,_=>False
theorem z3s{x:Operand}(f:o.op=.range t x){K:AV->CS->Option Nat->Prop}(H:z3r P t av d C R K)(I:Inv h0 W M0 (C++R) γ h)
  (b:DenV γ av (σ x)):ExA P (execOp σ o) h (zce h0 W M0 R γ K):=by
 unfold z3r at H;split at H;rename_i s k;cases hR:qh d R with
 |false=>rw[hR]at H;exact H.elim
 |true=>rw[hR]at H;intro B e;refine .inl ⟨.pointer (Td ⟨h.size,0,Te⟩),e,h.push (.stringIter s 0),?_,_,_,_,z1x γ d h.size,H,?_,?_,zaa _ _ _⟩;simp only[execOp,f,show σ x=.string s from b];refine Yh ?_;have i:=QExec.underlying (h:=h) k B e;unfold Dx;rw[Sem.run_bind,i];rfl;simp only[DenV,DenG,DenA,Zv];exact Inv.newBoxO (c:=d) I hR (l:=[.d .iter (s,0)]) (us:=[Zq s 0]) ⟨rfl,trivial⟩ rfl (.inr ⟨s,0,rfl,rfl⟩)
 exact H.elim
def qez(av:AV)(C R:CS)(K:AV->CS->Option Nat->Prop):Prop:=match av with
 |.g (.a (.box c 0))=>match Qz C c with
  |some (.box [.d .iter x])=>bif z3o c R then K (.nx (nxB x.1 x.2) (x.2:Int) (nxR x.1 x.2)) ((c,.box [.d .iter (x.1,nxP x.1 x.2)])::Wh c C) Te else False
  |_=>False
 |_=>False
theorem qa4{x:Operand}(D:o.op=.next x Ta){K:AV->CS->Option Nat->Prop}(H:qez av C R K)(I:Inv h0 W M0 (C++R) γ h)
  (G:DenV γ av (σ x)):ExA P (execOp σ o) h (zce h0 W M0 R γ K):=by
 unfold qez at H;split at H;rename_i c;split at H;rename_i y f;cases hR:z3o c R with
 |false=>rw[hR]at H;exact H.elim
 |true=>
  rw[hR]at H;simp only[cond_true]at H;obtain⟨us,J,r⟩:=I.den _ (Ar R (qa f));have n:us=[Zq y.1 y.2]:=by
   match us,r with
   |[u],r=>have O:Rd γ.M .iter y [u]:=r.1;simpa[Rd]using O
  subst n;have b:h[γ.β c]?=Td (.stringIter y.1 y.2):=by
   rcases J with⟨_,e⟩|⟨s,p,E,L⟩;exact absurd rfl (e _ _);have z:y.1=s/\y.2=p:=by simp only[Zq,BN,Value.iface.injEq,Value.agg.injEq,Array.mk.injEq,Value.string.injEq,Value.int.injEq,and_true,true_and]at E;exact⟨E.1,by omega⟩
   rw[L,z.1,z.2]
  have m:γ.β c<h.size:=(An.1 b).1;intro B d;have A:∀(w:World),w.heap[γ.β c]?=Td (.stringIter y.1 y.2)->(getObj (γ.β c)).run P w=.ok (.stringIter y.1 y.2) w:=λw e=>by simp[getObj,Sem.run,e]
  have N:∀(w:World) (t:Obj),w.heap[γ.β c]?=Td (.stringIter y.1 y.2)->(setObj (γ.β c) t).run P w=.ok () { w with heap:=w.heap.setIfInBounds (γ.β c) t }:=λw t e=>by simp[setObj,Sem.run,e]
  have F:σ x=.pointer (Td ⟨γ.β c,0,Te⟩):=G;by_cases l:y.2<y.1.size;have k:nxB y.1 y.2=Ta:=by simpa[nxB,Cm]using l
  have q:nxP y.1 y.2=y.2+(DW y.1 y.2).2:=by unfold nxP;rw[show Nat.blt y.2 y.1.size=Ta from k];rfl
  refine .inl ⟨.tuple #[.bool Ta,.int .i64 y.2,.int .i32 (nxR y.1 y.2)],d,h.setIfInBounds (γ.β c) (.stringIter y.1 (nxP y.1 y.2)),?_,_,_,_,γ,H,⟨λ_=>rfl,λf=>by rw[k]at f;cases f⟩,?_,Gx.refl _ _⟩;simp only[execOp,D,F];refine Yh ?_;unfold CW;simp only;rw[Sem.run_bind,A _ b];simp only[Result.andThen_ok,l,if_true];rw[Sem.run_bind,N _ _ b,q];rfl;refine I.setBox (qa f) (us:=[Zq y.1 (nxP y.1 y.2)]) (.inr ⟨_,_,rfl,by simp[m]⟩) (λi hi=>by simp[AB (Ne.symm hi)]) (by simp) ⟨rfl,trivial⟩ (zbf hR);have k:nxB y.1 y.2=Tc:=by
   cases h:nxB y.1 y.2 with
   |false=>rfl
   |true=>exact absurd (by simpa[nxB,Cm]using h) l
  have q:nxP y.1 y.2=y.2:=by unfold nxP;rw[show Nat.blt y.2 y.1.size=Tc from k];rfl
  refine .inl ⟨.tuple #[.bool Tc],d,h,?_,_,_,_,γ,H,⟨λf=>(by rw[k]at f;cases f),λ_=>rfl⟩,?_,Gx.refl _ _⟩;simp only[execOp,D,F];refine Yh ?_;unfold CW;simp only;rw[Sem.run_bind,A _ b];simp only[Result.andThen_ok,l,if_false];rfl;refine I.setBox (qa f) (us:=[Zq y.1 (nxP y.1 y.2)]) (.inr ⟨_,_,rfl,by rw[q];exact b⟩) (λi hi=>rfl) rfl ⟨rfl,trivial⟩ (zbf hR)
 exact H.elim;exact H.elim
end
section
variable {P:Program} {tr t tx e ty:TypeId} {n d m b:Nat} {C R:CS} {γ:Gh} {h:zb} {s:Sl} {z x u:Value} {xs news:List Value}
variable {h0 : zb} {W : Nat -> Prop} {M0 : Fr}
def Wk(cs:CS)(t:Ty):Nat->List AA->Option (List (El t)×List AA)
 |0,l=>Td ([],l)
 |n+1,l=>match collect cs t l with
  |some (y,l')=>match Wk cs t n l' with
   |some (ys,l'')=>Td (y::ys,l'')
   |none=>Te
  |none=>Te
theorem zch{γ:Gh}{cs:CS}(c:qag γ cs){t:Ty}:∀{n:Nat} {l b:List AA} {ys:List (El t)},Wk cs t n l=Td (ys,b)->∀{us:List Value},All2 (DenA γ) l us->∃c1 c2,us=c1++c2/\RowC γ.M t ys c1/\ys.length=n/\All2 (DenA γ) b c2
 |0,l,b,ys,h,us,hu=>by simp only[Wk,Ac,Bi]at h;obtain⟨rfl,rfl⟩:=h;exact⟨[],us,rfl,RowC.nil _ _,rfl,hu⟩
 |n+1,l,b,ys,h,us,hu=>by simp only[Wk]at h;split at h;rename_i y s h1;split at h;rename_i i r q;simp only[Ac,Bi]at h;obtain⟨rfl,rfl⟩:=h;obtain⟨c1,c2,rfl,p,m⟩:=Jh c h1 hu;obtain⟨c3,o,rfl,k,e,f⟩:=zch c q m;exact⟨c1++c3,o,by simp,by simpa using (RowC.single p).append k,by simp[e],f⟩;cases h;cases h
def zfl(P:Program)(el:TypeId)(k:Nat):Option (List Value):=bif Nat.beq k 0 then Td []else(match zeroOf P el with
 |some z=>Td ((DX k).map (z.cells[· % z.cells.size]!)).toList
 |none=>Te)
def qia:List (Nat×AV)->List AV
 |[]=>[]
 |(_,v)::l=>v::qia l
def Wl(P:Program)(tr:TypeId)(t:TypeId)(n:Nat)(ps:List (Nat×AV))(d:Nat)(C R:CS)(K:AV->CS->Option Nat->Prop):Prop:=
 match qaz P t with
 |some el=>match qc8 P tr 8 el,zfl P el (n*qi P el)with
  |some ty,some zs=>bif Nat.beq (qi P el) (sz ty)then(bif Nat.ble (n*qi P el) 16777216 then(bif Nat.blt 0 (qi P el)then(bif qh d R then(match zrq (λi=>Td (i*qi P el,qi P el)) (zs.map .v) ps with
   |some r=>match Wk (frzL (Xj (qia ps)) C++R) ty n r with
    |some (ys,[])=>K (.g (.a (.own d))) ((d,.row el ty ys)::qk d (frzL (Xj (qia ps)) C)) (Td d)
    |_=>False
   |none=>False)else False)else False)else False)else False
  |_,_=>False
 |none=>False
theorem zbx{c:Array (Nat×Operand)}{o:Oper}(ho:o.op=.buildSlice t n c){ps:List (Nat×AV)}{ρ:Operand->Option AV}(L:zdx ρ c.toList=Td ps){K:AV->CS->Option Nat->Prop}
  (H:Wl P tr t n ps d C R K) {σ:Operand->Value} (I:Inv h0 W M0 (C++R) γ h) (hρ:∀x av,ρ x=Td av->DenV γ av (σ x)):ExA P (execOp σ o) h (zce h0 W M0 R γ K):=by
 unfold Wl at H;split at H
 ·rename_i el y;obtain⟨hu,G⟩:=Jj y;split at H
  ·rename_i ty A ab f;cases hz:Nat.beq (qi P el) (sz ty)with
   |false=>rw[hz]at H;exact H.elim
   |true=>
   rw[hz]at H;cases hb1:Nat.ble (n*qi P el) 16777216 with
   |false=>rw[hb1]at H;exact H.elim
   |true=>
   rw[hb1]at H;cases hb2:Nat.blt 0 (qi P el)with
   |false=>rw[hb2]at H;exact H.elim
   |true=>
   rw[hb2]at H;cases hR:qh d R with
   |false=>rw[hR]at H;exact H.elim
   |true=>
   rw[hR]at H;simp only[cond_true]at H;split at H
   ·rename_i r Y;split at H
    ·rename_i ys M;obtain⟨s,V,w⟩:=Inv.frzL (C:=C) (γ:=γ) (Xj (qia ps)) I;have E:∀x av,ρ x=Td av->DenV s av (σ x):=λx av hx=>(hρ x av hx).gx w rfl;obtain⟨ws,e1,e2⟩:=Wj Y (Zx s A) (zbd E L);obtain⟨c1,c2,rfl,S,Q,r5⟩:=zch V.fz M e2;cases c2 with
     |cons _ _=>exact r5.elim
     |nil=>
     rw[AR]at *;have l:=Al hz;have u:0<qi P el:=by simpa[Cm]using hb2
     have aa:n*qi P el<=16777216:=BS hb1;have hn:n<=n*qi P el:=C7 _ u;have m:c1.length=n*qi P el:=by rw[S.1,Q,l]
     intro B e;refine .inl ⟨.slice (Td ⟨h.size,0,Te⟩) n n,e,h.push (.cells c1.toArray el),?_,_,_,_,zu4 s d ⟨Td ⟨h.size,0,Te⟩,n,n⟩,H,?_,?_,?_⟩;have J:=QExec.underlying (h:=h) hu B e;have hs:=QExec.sizeOf (P:=P) (h:=h) (je G).choose_spec B e;have Z:(c.map λx=>(x.1,σ x.2)).toList=c.toList.map λx=>(x.1,σ x.2):=by rw[CQ]
     have U:D4 (λi=>Td (i*qi P el,qi P el)) A.toArray (c.map λx=>(x.1,σ x.2)).toList=Td c1.toArray:=by rw[Z];exact e1
     simp only[execOp,ho];refine Yh ?_;unfold Instr.buildSlice;rw[Sem.run_bind,J];simp only[Result.andThen_ok];rw[Sem.run_bind,hs];simp only[Result.andThen_ok];rw[if_neg (by omega)];unfold zfl at f;by_cases k:n*qi P el=0;rw[if_pos k];rw[k]at f ⊢;simp at f;subst f;simp only[Sem.run_bind,Sem.run_pure,Result.andThen_ok];have F:Array.map (λx=>(#[]:Array Value)[x % (#[]:Array Value).size]!) (DX 0)=([]:List Value).toArray:=by simp
     rw[F,U];rfl;rw[if_neg k];have D:Nat.beq (n*qi P el) 0=Tc:=by
      cases hh:Nat.beq (n*qi P el) 0 with
      |false=>rfl
      |true=>exact absurd (Al hh) k
     rw[D]at f;simp only[cond_false]at f;split at f;rename_i z N;have O:=Jl N h B e;simp only[Ac]at f;rw[Sem.run_bind,O];simp only[Result.andThen_ok,Sem.run_bind,Sem.run_pure];have F:Array.map (λx=>z.cells[x % z.cells.size]!) (DX (n*qi P el))=A.toArray:=by rw[<-f]
     rw[F,U];rfl;cases f;simp only[DenV,DenG,DenA,qo];rfl;refine V.newRow hR (by simp) (p:=Te) (λi hi _=>by rw[BV,if_neg (by omega)]) (λb D=>by cases D) (cells:=c1) ⟨by rw[m,<-l],.inr ⟨h.size,n,c1.toArray,rfl,I.size,yd _ _,Ab _,by unfold maxLen;omega,by rw[<-l];simpa using m,?_⟩⟩ (λq J=>.inr (by cases J;rfl)) S (by omega) Q.symm;rw[BE];rw[<-l];simp;omega;exact⟨w.1,λi hi=>⟨((Z7 s d _).2 i hi).1.trans (w.2 i (by simp)).1,((Z7 s d _).2 i hi).2.trans (w.2 i (by simp)).2⟩⟩
    exact H.elim
   exact H.elim
  exact H.elim
 exact H.elim
theorem Q2{n sz:Nat}{cells:List Value}(k:Arr n h s.a cells)(f:cells.length=s.len*sz)(c:0<sz)(B:World)(d:Nat):
  (CE sz s.len (.slice s.a s.len s.cap)).run P (mk B d h)=.ok cells.toArray (mk B d h):=by
 rcases k with rfl|⟨b,o,e,_,l⟩;have h0:s.len=0:=by rcases CX s.len with h0|h0;exact h0;have:=Nat.mul_pos h0 c;simp at f;omega
 rw[h0];cases s.a with
 |none=>simp[CE]
 |some p=>simp[CE,loadCells,loadCellsFrom]
 rw[e];exact run_firstCells_some (mk B d h) sz s.len ⟨b,o,Te⟩ s.len s.cap cells f λj u i=>by rw[zi];exact l j u i
theorem zru{n sz:Nat}{cells:List Value}(e:Arr n h s.a cells)(c:cells.length=s.len*sz)(b:0<sz)(h1:∀u∈cells,u.oneCell'=Ta){tx e':TypeId}(f:P.underlying tx=Td (.slice e'))(B:World)(d:Nat):
  Src P sz tx (slV s) s.len cells (mk B d h):=
 ⟨.inl ⟨e',f⟩,λ_=>rfl,Q2 e c b B d,Q2 e c b B (d+1),c,h1⟩
theorem zrv{g o:Nat}{b:Array Value}{T:TypeId}(c:h[g]?=Td (.cells b T (0,0))){vs:List Value}(l:o+vs.length<=b.size)(h1:∀u∈vs,u.oneCell'=Ta)(B:World)(d:Nat):
  ∃h',(storeCells ⟨g,o,Te⟩ vs 0).run P (mk B d h)=.ok () (mk B d h')/\h'[g]?=Td (.cells (b.toList.take o++vs++b.toList.drop (o+vs.length)).toArray T (0,0))/\h'.size=h.size/\∀j,j≠g->h'[j]?=h[j]?:=by
 obtain⟨h',k,f,i,e⟩:=Y2 (P:=P) B d vs (o+0) h b c (by omega) h1;exact⟨h',by rw[zcg];exact k,f,i,e⟩
theorem Wm{sz bytes:Nat}(T:ElemT P t e z sz bytes){base:Nat}(l:xs.length=s.len*sz)(k:∀B d,(CE sz s.len (slV s)).run P (mk B d h)=.ok xs.toArray (mk B d h))(A:∀B d,Src P sz tx x m news (mk B d h))(b:(s.len+m)*bytes<=140737488355328)(u:s.len+m<=140737488355328)(n:base<=h.size)(C:s.cap<s.len+m)(B:World)(d:Nat):
  ∃c blk,(Au #[t,tx] ty #[slV s,x]).run P (mk B d h)=.ok (.slice (Td ⟨h.size,0,Te⟩) (s.len+m) c) (mk B (d+1) (h.push (.cells blk e)))/\s.len+m<=c/\c<=maxLen/\blk.size=c*sz/\blk.toList.take ((s.len+m)*sz)=xs++news:=by
 obtain⟨i,hi,D,r,p⟩:=T.info;subst r;subst p;have w:=A B d;have f:=w.newsLen;have y:=run_append_grow_src (P:=P) (mk B d h) t tx ty e i z T.slice hi D s.a s.len s.cap xs (k B (d+1)) x m news w C (by omega) (growslice_fits (by omega) b);have q:=grownCap_ge (mk B d h) (s.len+m) s.cap e;have o:=grownCap_le_maxLen (mk B d h) (s.len+m) s.cap e (by unfold maxLen;omega);generalize grownCap (mk B d h) (s.len+m) s.cap e=c at *;refine⟨c,_,y,q,o,?_,?_⟩;simp only[Array.size_append,List.size_toArray,size_zeroCells,Ah,T.zero,l,f,<-BZ];congr 1;omega;simp only[Array.toList_append];have:(xs++news).length=(s.len+m)*i.size:=by rw[Ah,l,f,BZ]
 rw[<-this];exact Cu
theorem Q3{sz bytes:Nat}(T:ElemT P t e z sz bytes){h h':zb}{B:World}(c:Src P sz tx x m news (mk B d h))(b:s.len+m<=s.cap)
  (f:∀p,s.a=Td p->(storeCells (p.add (s.len*sz)) news 0).run P (mk B d h)=.ok () (mk B d h')) (k:s.a=Te->h'=h):(Au #[t,tx] ty #[slV s,x]).run P (mk B d h)=.ok (.slice s.a (s.len+m) s.cap) (mk B d h'):=by
 obtain⟨i,hi,r,o,q⟩:=T.info;subst o;have n:=T.slice;unfold slV;rcases c.kind with⟨e',l⟩|l;cases ha:s.a with
 |none=>rw[k ha];simp[Au,run_underlying n,run_underlying l,sizeOf,typeInfo,hi,c.len,b,c.cells]
 |some p=>simp[Au,run_underlying n,run_underlying l,sizeOf,typeInfo,hi,c.len,b,c.cells,f p ha]
 cases ha:s.a with
 |none=>rw[k ha];simp[Au,run_underlying n,run_underlying l,sizeOf,typeInfo,hi,c.len,b,c.cells]
 |some p=>simp[Au,run_underlying n,run_underlying l,sizeOf,typeInfo,hi,c.len,b,c.cells,f p ha]
theorem zbg{sz bytes:Nat}(T:ElemT P t e z sz bytes){base:Nat}(H:Owns h base e sz s xs)(hs:∀B d,Src P sz tx x m news (mk B d h)) (q:(s.len+m)*bytes<=140737488355328) (C:s.len+m<=140737488355328) (n:base<=h.size) {K:Value->zb->Prop} (O:∀(I:Sl) (h':zb),I.len=s.len+m->Owns h' base e sz I (xs++news)->(∀i,i<h.size->(∀p,s.a=Td p->i≠p.block)->h'[i]?=h[i]?)->h.size<=h'.size->(∀w,I.a=Td w->(∃p,s.a=Td p/\w.block=p.block)\/w.block=h.size)->K (slV I) h'):
  XRun P (Au #[t,tx] ty #[slV s,x]) h K:=by
 intro B d;have G:=hs B d;have f:=G.newsLen;have k:=H.1;have F:=H.arr;by_cases l:s.len+m<=s.cap;rcases H.2 with⟨D,ae⟩|⟨g,cap,M,D,Z,hg,ab,N,E,r⟩;simp only[AP]at D;obtain⟨u,e2,e3⟩:=D;have hm:m=0:=by omega
 subst hm;have J:news=[]:=AO (by simpa using f);subst J;have A:=Q3 (P:=P) (ty:=ty) T (s:=s) (h':=h) G l (λp y=>by rw[u]at y;cases y) (λ_=>rfl);refine⟨_,d,h,A,O ⟨s.a,s.len+0,s.cap⟩ h rfl ?_ (λ_ _ _=>rfl) (Ab _) (λw b=>by rw[show s.a=Te from u]at b;cases b)⟩;rw[AR];exact H;simp only[AP]at D;obtain⟨u,_,e3⟩:=D;have V:h[g]?=Td (.cells M e (0,0)):=hg;have U:(s.len+m)*sz<=cap*sz:=AQ _ (by omega);rw[BZ]at U;obtain⟨h',r1,r2,r3,r4⟩:=zrv (P:=P) V (o:=s.len*sz) (vs:=news) (by rw[E];omega) G.one B d;have A:=Q3 (P:=P) (ty:=ty) T (s:=s) (h':=h') G l (λp y=>by rw[u]at y;cases y;rw[zi,AL];exact r1) (λJ=>by rw[u]at J;cases J);refine⟨_,d,h',A,O ⟨s.a,s.len+m,s.cap⟩ h' rfl ⟨?_,.inr ⟨g,cap,_,?_,Z,r2,(by show s.len+m<=cap;omega),N,?_,?_⟩⟩ (λi hi Q=>r4 i λe'=>Q _ u e') (by omega) (λw b=>.inl ⟨w,b,rfl⟩)⟩;rw[Ah,k,f,BZ];simp[u,e3];simp only[List.size_toArray,Ah,AN,AI,Cx];rw[f,E]at *;omega;simp only;rw[r];have:(xs++news).length=(s.len+m)*sz:=by rw[Ah,k,f,BZ]
 rw[<-this];exact Cu;obtain⟨c,blk,A,L,S,Y,aa⟩:=Wm (P:=P) (ty:=ty) (base:=base) T k (λB d=>Q2 F k T.pos B d) hs q C n (by omega) B d;refine⟨_,d+1,_,A,O ⟨Td ⟨h.size,0,Te⟩,s.len+m,c⟩ _ rfl ⟨?_,.inr ⟨h.size,c,blk,rfl,n,yd _ _,L,S,Y,aa⟩⟩ (λi hi _=>by rw[BV,if_neg (by omega)]) (by simp) (λw b=>.inr (by cases b;rfl))⟩;rw[Ah,k,f,BZ]
def zd0(s:Bt):List Int:=s.data.toList.map λb=>(b.toNat:Int)
def qc9:(ty:Ty)->Bt->Option (List (El ty))
 |.int .u8,s=>Td (zd0 s)
 |_,_=>Te
def qe0(P:Program)(cs:CS)(tx:TypeId)(ty:Ty):AV->Option (List (El ty))
 |.g (.a (.v (.string s)))=>match P.underlying tx with
  |some .string=>qc9 ty s
  |_=>Te
 |.g (.a (.v (.slice Te 0 0)))=>match P.underlying tx with
  |some (.slice _)=>Td []
  |_=>Te
 |.g (.a aa)=>match P.underlying tx with
  |some (.slice _)=>match rowOf cs aa with
   |some r=>Z6 (.row r.1) (.row ty) r.2
   |none=>match aa with
    |.own c=>match Qz cs c with
     |some (.row _ t xs)=>Z6 (.row t) (.row ty) xs
     |_=>Te
    |_=>Te
  |_=>Te
 |_=>Te
theorem RowC.bytes(M:Fr)(s:Bt):RowC M (.int .u8) (zd0 s) (byteCells s):=by
 have c:(byteCells s).length=(zd0 s).length:=by unfold byteCells zd0;simp
 refine⟨by rw[c];simp[sz],λi hi=>?_⟩;have b:i<(byteCells s).length:=by rw[c];exact hi
 have e:(byteCells s)[i]=.int .u8 (zd0 s)[i]:=by simp only[byteCells,zd0,CF]
 have f:((byteCells s).drop (i*1)).take 1=[(byteCells s)[i]]:=by rw[B0,Bw b];rfl
 show((byteCells s).drop (i*1)).take 1=[.int .u8 (zd0 s)[i]];rw[f,e]
theorem Q4{t t':Ty}{xs:List (El t)}{ys:List (El t')}(h:Z6 (.row t) (.row t') xs=Td ys):∃e:t=t',ys=e ▸ xs:=by
 unfold Z6 at h;split at h;rename_i e;have e':t=t':=by injection e
 subst e';simp only[Ac]at h;exact⟨rfl,h.symm⟩;cases h
theorem zxg{cs:CS}(I:Inv h0 W M0 cs γ h){ty:Ty}{av:AV}{ys:List (El ty)}(b:qe0 P cs tx ty av=Td ys)(l:0<sz ty)(q:DenV γ av u):
  ∃news,RowC γ.M ty ys news/\∀B d,Src P (sz ty) tx u ys.length news (mk B d h):=by
 have row:∀{t:Ty} {xs:List (El t)} {n:Nat} {s:Sl} {cells:List Value} {e':TypeId},Z6 (.row t) (.row ty) xs=Td ys->P.underlying tx=Td (.slice e')->u=slV s->s.len=xs.length->RowC γ.M t xs cells->Arr n h s.a cells ->
   ∃news,RowC γ.M ty ys news/\∀B d,Src P (sz ty) tx u ys.length news (mk B d h):=by
  intro t xs n s cells e' w i e k o z;obtain⟨A,x⟩:=Q4 w;subst A;simp only at x;subst x;refine⟨cells,o,λB d=>?_⟩;rw[e,<-k];exact zru z (by rw[k];exact o.1) l o.one i B d
 unfold qe0 at b;split at b
 ·rename_i s;split at b
  ·rename_i i;unfold qc9 at b;split at b;case h_2=>cases b
   simp only[Ac]at b;subst b;refine⟨byteCells s,RowC.bytes _ s,λB d=>?_⟩;rw[show u=.string s from q];have:=Src.ofString (P:=P) (mk B d h) i s;have e:(zd0 s).length=s.size:=by unfold zd0;rw[Ap,Cx];rfl
   rw[e];exact this
  cases b
 split at b;rename_i e' i;simp only[Ac]at b;subst b;refine⟨[],RowC.nil _ _,λB d=>?_⟩;rw[show u=.slice Te 0 0 from q];exact Src.ofNil (mk B d h) i 0;cases b;rename_i C _ _;split at b;rename_i e' i;split at b;rename_i r o;obtain⟨s,e,k,y,cells,f,m⟩:=(zdu I o q).rowC I.ag;exact row b i e k f m;split at b;rename_i c _ _ _;split at b;rename_i e t xs w;obtain⟨cells,p,f,y,k⟩:=I.den _ (qa w);exact row b i (show u=slV _ from q) k f p.arr;cases b;cases b;cases b;cases b
def zh9(P:Program)(el:TypeId)(ty:Ty):Option Nat:=match P.info? el with
 |some i=>match i.zero with
  |some z=>bif (bif Nat.beq i.size (sz ty)then(bif Nat.beq z.cells.size i.size then(bif Nat.blt 0 i.size then Nat.blt 0 i.bytes else Tc)else Tc)else Tc)then Td i.bytes else Te
  |none=>Te
 |none=>Te
theorem zmr{t el:TypeId}{ty:Ty}(k:P.underlying t=Td (.slice el))(h:zh9 P el ty=Td b):(∃z,ElemT P t el z (sz ty) b)/\0<b:=by
 unfold zh9 at h;split at h
 ·rename_i i hi;split at h
  ·rename_i z m;cases h1:Nat.beq i.size (sz ty)with
   |false=>rw[h1]at h;cases h
   |true=>
   cases h2:Nat.beq z.cells.size i.size with
   |false=>rw[h1,h2]at h;cases h
   |true=>
   cases h3:Nat.blt 0 i.size with
   |false=>rw[h1,h2,h3]at h;cases h
   |true=>
   cases h4:Nat.blt 0 i.bytes with
   |false=>rw[h1,h2,h3,h4]at h;cases h
   |true=>
   rw[h1,h2,h3,h4]at h;simp only[cond_true,Ac]at h;have c:=Al h1;have e:=Al h2;have f:0<i.size:=by simpa[Cm]using h3
   have l:0<i.bytes:=by simpa[Cm]using h4
   exact⟨⟨z,k,⟨i,hi,m,c,h⟩,by rw[e,c],by rw[<-c];exact f⟩,by rw[<-h];exact l⟩
  cases h
 cases h
def zaf(P:Program)(tr:TypeId)(t tx:TypeId)(bv sv:AV)(d:Nat)(C R:CS)(K:AV->CS->Option Nat->Prop):Prop:=
 match qaz P t with
 |some el=>match qc8 P tr 8 el with
  |some ty=>match zh9 P el ty,qe0 P (C++R) tx ty sv with
   |some b,some ys=>match bv with
    |.g (.a (.v (.slice Te 0 0)))=>bif qh d R then(ys.length*b<=140737488355328/\K (.g (.a (.own d))) ((d,.row el ty ys)::qk d C) (Td d))else False
    |.g (.a (.own c))=>match Qz C c with
     |some (.row e t' xs)=>match Z6 (.row t') (.row ty) xs with
      |some xs=>bif Nat.beq e el then(bif qh d R then((xs.length+ys.length)*b<=140737488355328/\K (.g (.a (.own d))) ((d,.row el ty (xs++ys))::qk d (Wh c C)) (Td d))else False)else False
      |none=>False
     |_=>False
    |.g (.a (.dc t' xs))=>match Z6 (.row t') (.row ty) xs with
     |some xs=>(xs.length+ys.length)*b<=140737488355328/\K (.g (.a (.d (.row ty) (xs++ys)))) C Te
     |none=>False
    |_=>False
   |_,_=>False
  |none=>False
 |none=>False
theorem zd1{n b k:Nat}(c:0<b)(h:n*b<=k):n<=k:=BX (C7 _ c) h
theorem zms{tr t tx ty':TypeId}{bv sv:AV}{K:AV->CS->Option Nat->Prop}(H:zaf P tr t tx bv sv d C R K)(I:Inv h0 W M0 (C++R) γ h)
  {u v:Value} (U:DenV γ bv u) (ap:DenV γ sv v):XRun P (Au #[t,tx] ty' #[u,v]) h (zce h0 W M0 R γ K):=by
 unfold zaf at H;split at H
 ·rename_i el aA;obtain⟨hu,aG⟩:=Jj aA;split at H
  ·rename_i ty aH;split at H
   ·rename_i b ys n ar;obtain⟨⟨z,T⟩,O⟩:=zmr hu n;obtain⟨news,L,F⟩:=zxg I ar T.pos ap;split at H
    ·cases hR:qh d R with
     |false=>rw[hR]at H;exact H.elim
     |true=>
     rw[hR]at H;obtain⟨A,Y⟩:=H;rw[show u=slV ⟨Te,0,0⟩from U];have w:=zd1 O A;refine zbg T (Owns.nil h h0.size el (sz ty)) F (by simpa using A) (by simpa using w) I.size λs' h' hl J hk hs r=>?_;rw[A8]at J;simp only[AL]at hl;refine⟨_,_,_,zu4 γ d s',Y,?_,I.newRow hR hs (p:=Te) (λi hi _=>hk i hi (by simp)) (λb n=>by cases n) J (λq hq=>?_) L w hl,Z7 _ _ _⟩;simp only[DenV,DenG,DenA,qo];rcases r q hq with⟨p,r,_⟩|r;simp at r;exact .inr r
    ·rename_i c;split at H
     ·rename_i e t' aj hc;split at H
      ·rename_i xs E;cases hee:Nat.beq e el with
       |false=>rw[hee]at H;exact H.elim
       |true=>
       rw[hee]at H;cases hR:qh d R with
       |false=>rw[hR]at H;exact H.elim
       |true=>
       rw[hR]at H;obtain⟨A,Y⟩:=H;have w:=zd1 O A;have G:=qa hc;obtain⟨e1,e2⟩:=Q4 E;subst e1;simp only at e2;subst e2;have e3:=Al hee;subst e3;have ae:=I.den _ (Ar R G);obtain⟨cells,D,k,am,f⟩:=ae;simp only at D k f;rw[show u=slV (γ.σ c)from U];refine zbg T D F (by rw[f];exact A) (by rw[f];exact w) I.size λs' h' hl J hk hs r=>?_;have ab:=I.sep _ (Ar R G);have aM:=Q0 hR;have au:Inv h0 W M0 (Wh c C++R) γ h:=I.sub ((xb c C).append_right R);refine⟨_,_,_,zu4 γ d s',Y,?_,au.newRow hR hs (p:=(γ.σ c).a.map (·.block)) (λi hi V=>hk i hi λp r e=>V (by rw[r,e];rfl)) (λb n=>?_) J (λq hq=>?_) (k.append L) (by rw[Ah];exact w) (by rw[hl,f,Ah]),Z7 _ _ _⟩;simp only[DenV,DenG,DenA,qo];obtain⟨h1,h2⟩:=ab b n;refine⟨?_,h2,λx Z ay=>?_⟩;simp only[Ck]at n;obtain⟨p,r,rfl⟩:=n;exact(D.base_le p r).1;have aB:x∈C++R:=((xb c C).append_right R).subset Z;have V:x≠(c,Ch.row e t' xs):=by rintro rfl;rcases Aw.1 Z with Z|Z;exact(Ys Z).2 rfl;have af:=I.apart;rw[Cs]at af;exact af.2.2 _ G _ Z b n n
       have r:=@zdt _ (λ(x y:Nat×Ch)=>∀b,blk γ x.1 x.2=Td b->blk γ y.1 y.2≠Td b) (λx y h b n N=>h b N n) _ I.apart;exact r aB (Ar R G) V b ay n;rcases r q hq with⟨p,r,aC⟩|r;exact .inl (by rw[r,aC];rfl);exact .inr r
      exact H.elim
     exact H.elim
    rename_i t' aj;split at H;rename_i xs E;obtain⟨A,Y⟩:=H;have w:=zd1 O A;obtain⟨e1,e2⟩:=Q4 E;subst e1;simp only at e2;subst e2;obtain⟨s,e,aI,aa⟩:=(show ∃s:Sl,u=slV s/\s.cap=s.len/\Rd γ.M (.row t') xs [u]from U);subst e;obtain⟨s2,e,f,am,cells,k,ai⟩:=aa.rowC I.ag;have e':s=s2:=by cases s;cases s2;simp only[slV,AP]at e;simp[e]
    subst e';have S:cells.length=s.len*sz t':=by rw[f];exact k.1
    intro B dr;by_cases hm:ys.length=0;have az:ys=[]:=AO hm;subst az;have aF:news=[]:=AO (by rw[L.1];simp);subst aF;have hr:=Q3 (P:=P) (ty:=ty') T (s:=s) (h':=h) (F B dr) (by simp;omega) (λp r=>by simp[storeCells]) (λ_=>rfl);refine⟨_,dr,h,hr,_,C,Te,γ,Y,?_,I,Gx.refl _ _⟩;rw[AR];exact aa;obtain⟨c,l,hr,ak,aJ,aL,ax⟩:=Wm (P:=P) (ty:=ty') (base:=0) T S (λB d=>Q2 ai S T.pos B d) F (by rw[f];exact A) (by rw[f];exact w) (AW _) (by omega) B dr;have aE:γ.M h.size=Te:=I.ag.none (Ab _);have hM:Fr.le γ.M (zg3 γ h.size l).M:=by
     intro b cc Q;have:Nat.beq b h.size=Tc:=by
      cases n:Nat.beq b h.size with
      |false=>rfl
      |true=>rw[Al n,aE]at Q;cases Q
     simp[zg3,this,Q]
    have an:AgM (zg3 γ h.size l).M (h.push (.cells l el)):=by
     intro b cc Q;by_cases n:b=h.size;subst n;have:cc=l:=by simp[zg3]at Q;exact Q.symm
     subst this;exact⟨_,_,yd _ _⟩;have:Nat.beq b h.size=Tc:=by
      cases N:Nat.beq b h.size with
      |false=>rfl
      |true=>exact absurd (Al N) n
     simp only[zg3,this,cond_false]at Q;obtain⟨T',m,e'⟩:=I.ag b cc Q;exact⟨T',m,by rw[BV,if_neg n];exact e'⟩
    refine⟨_,dr+1,_,hr,_,C,Te,zg3 γ h.size l,Y,?_,I.call (Keep.push h _ (Ab _)) hM (λb n=>?_) an,⟨hM,λ_ _=>⟨rfl,rfl⟩⟩⟩;have ah:=((k.append L).mono hM).rd (b:=h.size) (o:=0) (c:=c) (cs:=l) (by simp[zg3]) (by rw[BQ,Ah,<-f];exact ax) (by rw[Ah,<-f];exact⟨by rw[f];exact w,ak⟩);rw[Ah,<-f]at ah;exact ah;have:Nat.beq b h.size=Tc:=by
     cases N:Nat.beq b h.size with
     |false=>rfl
     |true=>have:=Al N;omega
    simp[this];exact H.elim;exact H.elim
   exact H.elim
  exact H.elim
 exact H.elim
end
section
variable {cs C R:CS} {γ b:Gh} {h:zb} {u:Value} {P:Program} {o:Oper} {σ:Operand -> Value} {n:Nat} {gl:Fr} {tr:TypeId} {c:zx} {a:Act} {S:List Nat}
variable {h0 : zb} {W : Nat -> Prop} {M0 : Fr}
def qkp(b:List Int):Bt:=b.foldl (λr n=>r.push (Bb n.toNat)) ByteArray.empty
def qlh(t:Ty)(xs:List (El t)):Option (List Int):=Z6 (.row t) (.row (.int .u8)) xs
def zxh(cs:CS):AA->Option ((t:Ty)×List (El t))
 |.own c=>match Qz cs c with
  |some (.row _ t xs)=>Td ⟨t,xs⟩
  |some (.fz t xs)=>Td ⟨t,xs⟩
  |_=>Te
 |aa=>rowOf cs aa
theorem zmt(I:Inv h0 W M0 cs γ h){o:AA}{r:(t:Ty)×List (El t)}(b:zxh cs o=Td r)(l:DenA γ o u):
  ∃s:Sl,u=slV s/\s.len=r.2.length/\∃cells,RowC γ.M r.1 r.2 cells/\Arr h.size h s.a cells:=by
 unfold zxh at b;split at b;split at b;rename_i c e t xs m;simp only[Ac]at b;subst b;obtain⟨cells,k,i,p,f⟩:=I.den _ (qa m);exact⟨_,l,f,cells,i,k.arr⟩;rename_i c t xs m;simp only[Ac]at b;subst b;have:Rd γ.M (.row t) xs [u]:=by rw[show u=_ from l];exact I.den _ (qa m)
 obtain⟨s,e,f,p,cells,h1,n⟩:=this.rowC I.ag;exact⟨s,e,f,cells,h1,n⟩;cases b;obtain⟨s,e,f,p,cells,h1,n⟩:=(zdu I b l).rowC I.ag;exact⟨s,e,f,cells,h1,n⟩
def zog(P:Program)(s t:TypeId)(av:AV)(cs:CS)(K:AV->Prop):Prop:=
 match P.underlying s,P.underlying t with
 |some (.slice e),Td .string=>match P.underlying e,av with
  |some (.int .u8),.g (.a aa)=>match zxh cs aa with
   |some r=>match qlh r.1 r.2 with
    |some b=>K (.g (.a (.v (.string (qkp b)))))
    |none=>False
   |none=>False
  |_,_=>False
 |some (.int _),Td .string=>match av with
  |.g (.a (.v (.int _ n)))=>K (.g (.a (.v (.string (DR n)))))
  |_=>False
 |_,_=>False
theorem z3t{M:Fr}{k:IntKind}:∀{b:List Int} {cells:List Value},RowC M (.int k) b cells->cells=b.map (Bn k)
 |b,cells,H=>by
  apply Bu;intro i;have f:cells.length=b.length:=by rw[H.1];simp[sz]
  rw[Bf];by_cases hi:i<b.length;have:((cells.drop (i*1)).take 1)=[.int k b[i]]:=H.2 i hi;have e:cells[i]?=Td (.int k b[i]):=by
   have c:((cells.drop (i*1)).take 1)[0]?=Td (.int k b[i]):=by rw[this];rfl
   rw[AK,if_pos (by omega),A9]at c;simpa using c
  rw[e,Ak hi];rfl;rw[BH (by omega),BH (by omega)];rfl
theorem zu9{s t:TypeId}{x:Operand}(V:o.op=.convert s t x){av:AV}{K:AV->Prop}(H:zog P s t av cs K)(I:Inv h0 W M0 cs γ h)(G:DenV γ av (σ x)):
  ∃i v,K i/\DenV γ i v/\QExec P (execOp σ o) h (.value v):=by
 have val:∀{v:Value},QExec P (convert s t (σ x)) h v->QExec P (execOp σ o) h (.value v):=λU=>by simp only[execOp,V];exact QExec.val U
 unfold zog at H;split at H;rename_i e z E;split at H;rename_i Z S;split at H;rename_i r N;split at H;rename_i m u;refine⟨_,.string (qkp m),H,rfl,val λB d=>?_⟩;obtain⟨sl,M,q,cells,f,l⟩:=zmt I N G;obtain⟨tt,xs⟩:=r;obtain⟨F,J⟩:=Q4 u;simp only at F;subst F;simp only at J q f;subst J;have O:=z3t f;subst O;have h1:=QExec.underlying (h:=h) z B d;have y:=QExec.underlying (h:=h) E B d;have Y:=QExec.underlying (h:=h) S B d;have c:(Conv.bytesToString (σ x)).run P (mk B d h)=.ok (.string (qkp m)) (mk B d h):=by
  rw[M];unfold slV;rcases l with D|⟨b,L,A,_,C⟩;have w:m=[]:=by simpa using D
  subst w;simp only[A4]at q;cases ha:sl.a with
  |none=>simp[Conv.bytesToString,qkp]
  |some p=>have:=run_bytesToString (P:=P) (mk B d h) p sl.len sl.cap [] (by rw[q];simp[loadCells,loadCellsFrom]);exact this
  rw[A];refine run_bytesToString (mk B d h) ⟨b,L,Te⟩ sl.len sl.cap m ?_;have:=Q2 (P:=P) (h:=h) (n:=b+1) (sz:=1) (s:=sl) (cells:=m.map (Bn .u8)) (.inr ⟨b,L,A,by omega,C⟩) (by rw[q];simp) (by omega) B d;rw[A]at this;simpa[CE]using this
 unfold convert;rw[Sem.run_bind,h1];simp only[Result.andThen_ok];rw[Sem.run_bind,y];simp only[Result.andThen_ok];rw[M]at c ⊢;unfold slV at c ⊢;simp only[Sem.run_bind,Y,Result.andThen_ok];exact c;exact H.elim;exact H.elim;exact H.elim;rename_i k z E;split at H;rename_i Q n;refine⟨_,.string (DR n),H,rfl,val λB d=>?_⟩;have h1:=QExec.underlying (h:=h) z B d;have y:=QExec.underlying (h:=h) E B d;have e:σ x=.int Q n:=G;unfold convert;rw[Sem.run_bind,h1];simp only[Result.andThen_ok];rw[Sem.run_bind,y,e];rfl;exact H.elim;exact H.elim
def qib:BinOp->Option Bool
 |.eql=>Td Ta
 |.neq=>Td Tc
 |_=>Te
def qli(P:Program)(o:Oper)(ρ:Operand->Option AV)(cs:CS):Option (Bool×Nat):=match o.op with
 |.binOp b t x y _=>match qib b,ρ x,ρ y with
  |some pol,Td (.g (.a aa)),Td (.g (.a (.v (.slice Te 0 0))))=>match zxh cs aa,P.underlying t with
   |some ⟨ty,xs⟩,Td (.slice _)=>bif Nat.blt 0 (sz ty)then Td (pol,xs.length)else Te
   |_,_=>Te
  |_,_,_=>Te
 |_=>Te
theorem zoh(e:BinOp)(t:TypeId)(x y:Operand)(a b:Option Addr)(l c f h:Nat)(w:World):(eqGuard e t x y (.slice a l c) (.slice b f h)).run P w=.ok () w:=by unfold eqGuard;cases e <;> rfl
theorem qe1{ρ:Operand->Option AV}{m:Bool}(c:qli P o ρ (C++R)=Td (m,n)){K:AV->CS->Option Nat->Prop}(H:∀b:Bool,(b=Ta->n=0)->K (.g (.a (.v (.bool (bif m then b else !b))))) C Te)
  (I:Inv h0 W M0 (C++R) γ h) (r:∀x av,ρ x=Td av->DenV γ av (σ x)):ExA P (execOp σ o) h (zce h0 W M0 R γ K):=by
 unfold qli at c;split at c
 ·rename_i M t x y Q J;split at c
  ·rename_i q O f N G;split at c
   ·rename_i ty xs e z w;cases hz:Nat.blt 0 (sz ty)with
    |false=>rw[hz]at c;cases c
    |true=>
     rw[hz]at c;simp only[cond_true,Ac,Bi]at c;obtain⟨rfl,rfl⟩:=c;have F:0<sz ty:=by simpa[Cm]using hz
     obtain⟨s,L,S,cells,k,l⟩:=zmt I z (r _ _ N);have E:σ y=.slice Te 0 0:=r _ _ G;have i:s.a.isNone=Ta->xs.length=0:=by
      intro u;have p:cells=[]:=by rcases l with p|⟨b,o,A,_⟩;exact p;rw[A]at u;cases u
      have:=k.1;rw[p]at this;simp only[A4]at this;rcases Nat.mul_eq_zero.1 this.symm with h1|h1;exact h1;omega
     have D:=H s.a.isNone i;intro B d;refine .inl ⟨_,d,h,?_,_,C,Te,γ,D,rfl,I,Gx.refl _ _⟩;simp only[execOp,J];refine Yh ?_;rw[L,E];simp only[slV];rw[Sem.run_bind,zoh];simp only[Result.andThen_ok];cases M <;> simp only[qib,Ac]at f <;> (try (cases f;done)) <;> subst f;simp only[binOp,Sem.run_bind,run_equal_slice_nil _ t _ _ _ _ w];rfl;simp only[binOp,Sem.run_bind,run_equal_slice_nil _ t _ _ _ _ w];rfl
   cases c
  cases c
 cases c
def hA0(P:Program)(gl:Fr)(tr:TypeId)(o:Oper)(ρ:Operand->Option AV)(C R:CS)(K:AV->CS->Option Nat->Prop):Prop:=
 match o.op with
 |.alloc t=>match o.dst with
  |some d=>z3l P t d C R K
  |none=>False
 |.box t x=>match o.dst,ρ x with
  |some d,some av=>match zz5 av with
   |some l=>qlg t d l C R K
   |none=>False
  |_,_=>False
 |.store t a x=>match ρ a,ρ x with
  |some (.g (.a aa)),some xv=>match zz5 xv with
   |some f=>z3p P t aa f C R K
   |none=>False
  |_,_=>False
 |.buildSlice t n b=>match o.dst,zdx ρ b.toList with
  |some d,some ps=>Wl P tr t n ps d C R K
  |_,_=>False
 |.convert s t x=>bif isQ P o then qA P gl o ρ Te (C++R) (λav=>K av C Te)else(match ρ x with
  |some av=>zog P s t av (C++R) λe=>K e C Te
  |none=>False)
 |.call c=>match c.callee with
  |.builtin .append=>match c.args.toList,c.argTypes.toList,o.dst with
   |[s,x],[t,tx],some d=>match ρ s,ρ x with
    |some bv,some sv=>zaf P tr t tx bv sv d C R K
    |_,_=>False
   |_,_,_=>False
  |.builtin _=>qA P gl o ρ Te (C++R) λav=>K av C Te
  |_=>qex P gl tr o ρ C R λav h=>K av h Te
 |.range t x=>match o.dst,ρ x with
  |some d,some av=>z3r P t av d C R K
  |_,_=>False
 |.next x true=>match ρ x with
  |some av=>qez av C R K
  |none=>False
 |_=>qA P gl o ρ Te (C++R) λav=>K av C Te
theorem toList_eq{α:Type}{x:Array α}{l:List α}(h:x.toList=l):x=l.toArray:=by have:=congrArg List.toArray h;simpa using this
theorem qic(m:Fr.le gl M0){ρ:Operand->Option AV}{K:AV->CS->Option Nat->Prop}(H:hA0 P gl tr o ρ C R K)(I:Inv h0 W M0 (C++R) γ h)
  (S:∀f,σ (.func f)=.func (.func f) #[] #[]) (k:∀x av,ρ x=Td av->DenV γ av (σ x)):ExA P (execOp σ o) h (zce h0 W M0 R γ K):=by
 unfold hA0 at H;split at H;rename_i t i;split at H;exact z3m i H I;exact H.elim;rename_i t x i;split at H;rename_i d av y b;split at H;rename_i l E;exact qey i H I (zdv E (k _ _ b));exact H.elim;exact H.elim;rename_i t a x i;split at H;rename_i V U G u;split at H;rename_i l E;exact z3q i H I (zdv E (k _ _ u)) (k _ _ G);exact H.elim;exact H.elim;rename_i t n A i;split at H;rename_i d ps y D;exact zbx i D H I k;exact H.elim;rename_i s t x i;cases hq:isQ P o with
 |true=>rw[hq]at H;exact qev m H I k
 |false=>rw[hq]at H;simp only[cond_false]at H;split at H;rename_i av b;obtain⟨z,v,h1,N,Q⟩:=zu9 i H I (k _ _ b);exact λB d=>.inl ⟨v,d,h,Q B d,z,C,Te,γ,h1,N,I,Gx.refl _ _⟩;exact H.elim
 rename_i c i;split at H;rename_i L;split at H;rename_i s x t tx d p q y;split at H;rename_i bv sv O u;have w:=zms (ty':=o.type) H I (k _ _ O) (k _ _ u);intro B e;obtain⟨v,J,h',r,F⟩:=w B e;refine .inl ⟨v,J,h',?_,F⟩;have M:execOp σ o=(Au c.argTypes o.type (c.args.map σ) >>= λx=>(C2 (C5 x):Sem Next)):=by simp only[execOp,i,resolve,L];rfl
 rw[M,toList_eq p,toList_eq q];refine Yh ?_;simpa using r;exact H.elim;exact H.elim;exact qev m H I k;exact qa3 m H I S k;rename_i t x i;split at H;rename_i d av y b;exact z3s i H I (k _ _ b);exact H.elim;rename_i x i;split at H;rename_i av b;exact qa4 i H I (k _ _ b);exact H.elim;exact qev m H I k
def hA(P:Program)(gl:Fr)(tr:TypeId)(o:Oper)(ρ:Operand->Option AV)(C R:CS)(K:AV->CS->Option Nat->Prop):Prop:=match qli P o ρ (C++R)with
 |some (pol,n)=>∀b:Bool,(b=Ta->n=0)->K (.g (.a (.v (.bool (bif pol then b else !b))))) C Te
 |none=>hA0 P gl tr o ρ C R K
theorem qlj(b:Fr.le gl M0){ρ:Operand->Option AV}{K:AV->CS->Option Nat->Prop}(H:hA P gl tr o ρ C R K)(I:Inv h0 W M0 (C++R) γ h)
  (e:∀f,σ (.func f)=.func (.func f) #[] #[]) (c:∀x av,ρ x=Td av->DenV γ av (σ x)):ExA P (execOp σ o) h (zce h0 W M0 R γ K):=by
 unfold hA at H;split at H;rename_i i n k;exact qe1 k H I c;exact qic b H I e c
def orA:Option AV->Option AV->Option AV
 |some v,_=>Td v
 |none,w=>w
def qlk(b:Bool)(x y:AV):Option AV:=match exV x,exV y with
 |some u,some v=>Td (zz2 (z2g b u v))
 |_,_=>match x,y with
  |.g (.a (.d t xs)),.g (.a (.d t' ys))=>match Z6 t' t ys with
   |some ys=>Td (.g (.a (.d t (bif b then xs else ys))))
   |none=>Te
  |_,_=>Te
theorem qa5{b:Bool}{x y z:AV}(h:qlk b x y=Td z){u v:Value}(f:b=Ta->DenV γ x u)(c:b=Tc->DenV γ y v):DenV γ z (if b=Ta then u else v):=by
 unfold qlk at h;split at h;rename_i p q i l;simp only[Ac]at h;subst h;have e:(if b=Ta then u else v)=z2g b p q:=by
  rw[zw3];cases b with
  |true=>simp only[if_true];exact zu5 i (f rfl)
  |false=>simp only[Bc,if_false];exact zu5 l (c rfl)
 rw[e];exact Ji γ _;split at h;rename_i t xs t' ys _;split at h;rename_i k m;simp only[Ac]at h;subst h;cases b with
 |true=>exact f rfl
 |false=>exact Wg m (c rfl)
 cases h;cases h
def qa6(e:qg)(c:zx)(x a b:Operand)(K:AV->Prop):Prop:=
 match x with
 |.tmp s=>match zob e s with
  |some (cs,v)=>match zz3 v with
   |some t=>bif suf cs c then(match orA (zhe e c a) (zhe e ((s,Ta)::cs) a),orA (zhe e c b) (zhe e ((s,Tc)::cs) b)with
    |some va,some vb=>match qlk t va vb with
     |some z=>K z
     |none=>False
    |_,_=>False)else False
   |none=>False
  |none=>False
 |_=>False
theorem Wn{e:qg}{x a b:Operand}{K:AV->Prop}(H:qa6 e c x a b K):
  ∃z,K z/\∀(n:Nat) (γ:Gh) (f:Act),SatA n e γ f->valid (zz f) c->∃t,f.eval x=.bool t/\DenV γ z (if t=Ta then f.eval a else f.eval b):=by
 unfold qa6 at H;split at H;rename_i s;split at H;rename_i cs v u;split at H;rename_i t y;cases hsf:suf cs c with
 |false=>rw[hsf]at H;exact H.elim
 |true=>rw[hsf]at H;simp only[cond_true]at H;split at H;rename_i A B l i;split at H;rename_i z r;refine⟨z,H,λn γ f k o=>?_⟩;have h:=Jb hsf o;have q:zz f s=.bool t:=zi9 y ((k.all _ (Zw u)).1 h);refine⟨t,q,qa5 r (λm=>?_) (λp=>?_)⟩;unfold orA at l;split at l;rename_i w _ h1;simp only[Ac]at l;subst l;exact zo k o h1;exact zo k (c:=(s,Ta)::cs) ⟨by rw[q,m],h⟩ l;unfold orA at i;split at i;rename_i w _ h1;simp only[Ac]at i;subst i;exact zo k o h1;exact zo k (c:=(s,Tc)::cs) ⟨by rw[q,p],h⟩ i;exact H.elim;exact H.elim
 exact H.elim;exact H.elim;exact H.elim
def opA(P:Program)(gl:Fr)(tr:TypeId)(o:Oper)(e:qg)(c:zx)(C R:CS)(K:AV->CS->Option Nat->Prop):Prop:=
 match o.op with
 |.pick x a b=>qa6 e c x a b λav=>K av C Te
 |_=>match Wi e c with
  |some none=>hA P gl tr o (zhe e c) C R K
  |some (Td b)=>bif zq6 o then zz7 P gl tr o (zhe e c) b (C++R) (λav=>K av C Te)else qA P gl o (zhe e c) (Td b) (C++R) (λav=>K av C Te)
  |none=>False
theorem qe2(i:Fr.le gl M0){e:qg}{K:AV->CS->Option Nat->Prop}(H:opA P gl tr o e c C R K)(l:SatA n e γ a)(I:Inv h0 W M0 (C++R) γ h)(m:valid (zz a) c):
  ExA P (execOp a.eval o) h (zce h0 W M0 R γ K):=by
 have r:∀f,a.eval (.func f)=.func (.func f) #[] #[]:=λ_=>rfl;have p:∀x av,zhe e c x=Td av->DenV γ av (a.eval x):=λx av M=>zo l m M;unfold opA at H;split at H;rename_i x y z A;obtain⟨av,h1,k⟩:=Wn H;obtain⟨t,J,D⟩:=k n γ a l m;refine λB d=>.inl ⟨_,d,h,?_,av,C,Te,γ,h1,D,I,Gx.refl _ _⟩;simp only[execOp,A,J,asBool,Sem.run_bind,Sem.run_pure,Result.andThen_ok];split at H;exact qlj i H I r p;rename_i b s;have q:=xn l s m;cases hic:zq6 o with
 |true=>rw[hic]at H;simp only[cond_true]at H;obtain⟨f,args,h1,k⟩:=(zcf (h0:=h0) (W:=W) (M0:=M0) H).2 q i γ h a.eval I r p;refine λB d=>.inr (.inr ⟨f,args,h1 _,k.mono ?_⟩);rintro v h' ⟨av,γ',u,G,L,F,_⟩;exact⟨av,C,Te,γ',u,G,L,F⟩
 |false=>rw[hic]at H;simp only[cond_false]at H;obtain⟨av,h1,k⟩:=zh8 (h0:=h0) (W:=W) (M0:=M0) i H;obtain⟨v,w,E⟩:=k q γ h a.eval I p;exact λB d=>.inl ⟨v,d,h,E B d,av,C,Te,γ,h1,w,I,Gx.refl _ _⟩
 exact H.elim
theorem qid{e:qg}{K:AV->CS->Option Nat->Prop}(H:opA P gl tr o e c C R K)(i:SatA n e γ a)(h:¬valid (zz a) c):∃av,K av C Te:=by
 unfold opA at H;split at H;obtain⟨av,h1,_⟩:=Wn H;exact⟨av,h1⟩;split at H;rename_i k;have:=zcb i k h;cases this;rename_i b l;have f:=zcb i l h;simp only[Ac]at f;cases hic:zq6 o with
 |true=>rw[hic]at H;simp only[cond_true]at H;exact(zcf (h0:=#[]) (W:=λ_=>False) (M0:=λ_=>Te) H).1 f
 |false=>rw[hic]at H;simp only[cond_false]at H;obtain⟨av,h1,_⟩:=zh8 (h0:=#[]) (W:=λ_=>False) (M0:=gl) (Fr.le.refl _) H;exact⟨av,h1⟩
 exact H.elim
def GxS(S:List Nat)(γ γ':Gh):Prop:=Fr.le γ.M γ'.M/\∀i,i∉S->γ'.β i=γ.β i/\γ'.σ i=γ.σ i
theorem GxS.refl(S:List Nat)(γ:Gh):GxS S γ γ:=⟨Fr.le.refl _,λ_ _=>⟨rfl,rfl⟩⟩
theorem GxS.trans{a b c:Gh}(h:GxS S a b)(k:GxS S b c):GxS S a c:=⟨h.1.trans k.1,λi hi=>⟨(k.2 i hi).1.trans (h.2 i hi).1,(k.2 i hi).2.trans (h.2 i hi).2⟩⟩
theorem GxS.mono{S c:List Nat}{a b:Gh}(h:GxS S a b)(e:∀x∈S,x∈c):GxS c a b:=⟨h.1,λi hi=>h.2 i λf=>hi (e i f)⟩
def qkq(c:Option Nat)(d:Option Nat):Bool:=match c,d with
 |none,_=>Ta
 |some x,some y=>Nat.beq x y
 |some _,none=>Tc
theorem Gx.toS{c d:Option Nat}{γ γ':Gh}(g:Gx c γ γ')(h:qkq c d=Ta)(b:∀i,d=Td i->i∈S):GxS S γ γ':=by
 refine⟨g.1,λi hi=>g.2 i λe=>?_⟩;subst e;cases d with
 |none=>cases h
 |some y=>have:i=y:=Al h;subst this;exact hi (b _ rfl)
def wRA(P:Program)(gl:Fr)(tr:TypeId)(n:Nat)(ops:Array Oper)(R:CS)(K:qg->CS->Prop):List Oper->qg->CS->Prop
 |[],e,C=>K (zg4 e) C
 |o::rest,e,C=>match Yt ops e o.guard with
  |some c=>bif jk n c o.dst then opA P gl tr o e c C R (λav b i=>bif qkq i o.dst then wRA P gl tr n ops R K rest (qav (zxb i e) o.dst c av) b else False)else False
  |none=>False
theorem zd2{P:Program}{gl:Fr}(s:Fr.le gl M0){tr:TypeId}{n:Nat}{ops:Array Oper}{R:CS}{K:qg->CS->Prop}{Q:Exit->Act->World->Prop}(B:World):
  ∀(l:List Oper) (e:qg) (C:CS) (γ:Gh) (h:zb) (a:Act) (d:Nat),wRA P gl tr n ops R K l e C->SatA n e γ a->Inv h0 W M0 (C++R) γ h -> (∀e' m γ' a' q h',SatA n e' γ' a'->Inv h0 W M0 (m++R) γ' h'->Same (xd l) a a'->GxS (xd l) γ γ'->K e' m->Q .normal a' (mk B q h'))->wpList P ops Q l a (mk B d h)
 |[],e,C,γ,h,a,d,H,hs,I,hQ=>hQ _ _ _ _ _ _ hs.clean I (Same.refl _ _) (GxS.refl _ _) H
 |o::rest,e,C,γ,h,a,d,H,hs,I,hQ=>by
  unfold wRA at H;split at H
  ·rename_i c J;cases hd:jk n c o.dst with
   |false=>rw[hd]at H;exact H.elim
   |true=>
    rw[hd]at H;simp only[cond_true]at H;have D:=xt hs J;have k:∀i,o.dst=Td i->i∈xd (o::rest):=λi hi=>by simp[xd,hi]
    have b:∀x∈xd rest,x∈xd (o::rest):=λx w=>by unfold xd;split;exact Ae _ w;exact w
    have f:∀av u q h' m i γ',(valid (zz a) c->DenV γ' av u)->(¬valid (zz a) c->u=undef)->Inv h0 W M0 (m++R) γ' h'->Gx i γ γ'->(bif qkq i o.dst then wRA P gl tr n ops R K rest (qav (zxb i e) o.dst c av) m else False) ->
      wpList P ops Q rest (a.put o.dst u) (mk B q h'):=λav u q h' m i γ' h1 S Y g t=>by
     cases hid:qkq i o.dst with
     |false=>rw[hid]at t;exact t.elim
     |true=>
      rw[hid]at t;exact zd2 s B rest _ _ _ _ _ _ t ((hs.gx g).putO hd h1 S) Y λe' y A a' z h'' V E M Z U=>
       hQ e' y A a' z h'' V E ((Same.put a o.dst u k).trans (M.mono b)) ((g.toS hid k).trans (Z.mono b)) U
    unfold wpList;by_cases r:valid (zz a) c;rw[if_pos (D.2 r)];refine .inl ((qe2 s H hs I r).upon B d ?_);rintro v q h' ⟨av,m,i,γ',F,L,O,G⟩;exact f av v q h' m i γ' (λ_=>L) (λp=>absurd r p) O G F;rw[if_neg (λw=>r (D.1 w))];obtain⟨av,N⟩:=qid H hs r;exact f av undef d h C Te γ (λp=>absurd p r) (λ_=>rfl) I (Gx.refl _ _) N
  exact H.elim
end
section
variable {cs C R:CS} {γ:Gh} {h:zb} {i:Nat} {e:TypeId} {t:Ty}
variable {h0 : zb} {W : Nat -> Prop} {M0 : Fr}
inductive Shp where
 |dat (t:Ty)
 |own (e:TypeId) (t:Ty)
 deriving DecidableEq
@[reducible] def DS:Shp->Type
 |.dat t=>El t
 |.own _ t=>List (El t)
inductive SG where
 |one (s:Shp)
 |agg (l:List Shp)
structure AnnA where
 slots:List (Nat×SG)
 boxes:List (Nat×List Shp)
 ro:List Nat
 ids:List Nat
abbrev Dy:=(s:Shp)×DS s
@[reducible] def zz9:List Shp->Type->Type
 |[],X=>X
 |s::l,X=>DS s->zz9 l X
def qe3(s b:Shp)(x:DS s):Option (DS b):=if h:s=b then Td (h ▸ x)else Te
def z3u{X:Type}:(l:List Shp)->zz9 l X->(List Dy->X->Prop)->Prop
 |[],f,k=>k [] f
 |s::l,f,k=>∀x:DS s,z3u l (f x) λvs y=>k (⟨s,x⟩::vs) y
def zhg{X:Type}:(l:List Shp)->List Dy->zz9 l X->Option X
 |[],[],f=>Td f
 |s::l,d::ds,f=>match qe3 d.1 s d.2 with
  |some x=>zhg l ds (f x)
  |none=>Te
 |_,_,_=>Te
def qie{X:Type}:(l:List Shp)->(List Dy->X)->zz9 l X
 |[],f=>f []
 |s::l,f=>λx=>qie l λvs=>f (⟨s,x⟩::vs)
def zrw{X Y:Type}:(l:List Shp)->zz9 l X->zz9 l Y->zz9 l (X×Y)
 |[],f,g=>(f,g)
 |_::l,f,g=>λx=>zrw l (f x) (g x)
theorem zxi{s b:Shp}{x:DS s}{y:DS b}(h:qe3 s b x=Td y):(⟨b,y⟩:Dy)=⟨s,x⟩:=by unfold qe3 at h;split at h;rename_i e;subst e;have h:=Az h;rw[<-h];cases h
theorem zmu{X:Type}:∀{l:List Shp} {vs:List Dy} {f:zz9 l X} {x:X} {k:List Dy->X->Prop},zhg l vs f=Td x->z3u l f k->k vs x
 |[],[],f,x,k,h,g=>by have h:=Az h;subst h;exact g
 |[],_::_,f,x,k,h,g=>by simp[zhg]at h
 |_::_,[],f,x,k,h,g=>by simp[zhg]at h
 |s::l,d::ds,f,x,k,h,g=>by simp only[zhg]at h;split at h;rename_i y b;have:=zmu h (g y);rw[zxi b]at this;exact this;cases h
theorem zrx{X:Type}:∀{l:List Shp} {vs:List Dy} {f:List Dy->X} {x:X},zhg l vs (qie l f)=Td x->x=f vs
 |[],[],f,x,h=>(Az h).symm
 |[],_::_,f,x,h=>by simp[zhg]at h
 |_::_,[],f,x,h=>by simp[zhg]at h
 |s::l,d::ds,f,x,h=>by simp only[zhg,qie]at h;split at h;rename_i y b;have:=zrx h;rw[zxi b]at this;exact this;cases h
theorem zry{X:Type}:∀{l:List Shp} {f:List Dy->X} {k:List Dy->X->Prop},(∀vs,k vs (f vs))->z3u l (qie l f) k
 |[],_,_,h=>h []
 |_::_,_,_,h=>λ_=>zry λ_=>h _
structure Pl where
 id:Nat
 s:Shp
 a:AA
def plL(base:Nat):List Shp->List AA->Option (List Pl)
 |[],[]=>Td []
 |s::ss,a::as=>match plL (base+1) ss as with
  |some l=>Td (⟨base,s,a⟩::l)
  |none=>Te
 |_,_=>Te
def zje(e:qg):List (Nat×SG)->Option (List Pl)
 |[]=>Td []
 |(i,sg)::l=>match zob e i,zje e l with
  |some ([],.g x),some r=>match sg,x with
   |.one s,.a a=>Td (⟨100000+64*i,s,a⟩::r)
   |.agg ss,.agg as=>match plL (100000+64*i) ss as with
    |some q=>Td (q++r)
    |none=>Te
   |_,_=>Te
  |_,_=>Te
def zjf(C:CS):List (Nat×List Shp)->Option (List Pl)
 |[]=>Td []
 |(c,ss)::l=>match Qz C c,zjf C l with
  |some (.box as),some r=>match plL (1000000+64*c) ss as with
   |some q=>Td (q++r)
   |none=>Te
  |_,_=>Te
def qif:SG->List Shp
 |.one s=>[s]
 |.agg l=>l
def zxj:List (Nat×SG)->List Shp
 |[]=>[]
 |(_,sg)::l=>qif sg++zxj l
def z3v:List (Nat×List Shp)->List Shp
 |[]=>[]
 |(_,ss)::l=>ss++z3v l
def zci(J:AnnA):List Shp:=zxj J.slots++z3v J.boxes
def z0a:List Pl->List Nat
 |[]=>[]
 |⟨_,.dat _,.own c⟩::l=>c::z0a l
 |_::l=>z0a l
def qig(c:Nat):List Pl->Bool
 |[]=>Tc
 |p::l=>bif (bif Nat.beq p.id c then Ta else zzz c p.a)then Ta else qig c l
def zoi(R:CS):List Pl->CS->Option CS
 |[],C=>Td C
 |p::l,C=>match p.s with
  |.dat _=>zoi R l C
  |.own e t=>bif qig p.id l then Te else(match p.a with
   |.own c=>match Qz C c with
    |some (.row e' t' xs)=>match Z6 (.row t') (.row t) xs with
     |some ys=>bif Nat.beq e e' then(bif Nat.beq c p.id then zoi R l C else(bif qh p.id R then zoi R l ((p.id,.row e t ys)::qk p.id (Wh c C))else Te))else Te
     |none=>Te
    |_=>Te
   |.v (.slice Te 0 0)=>bif qh p.id R then zoi R l ((p.id,.row e t [])::qk p.id C)else Te
   |_=>Te)
theorem zmv(I:Inv h0 W M0 cs γ h){x y:Nat×Ch}(f:x∈cs)(k:y∈cs)(e:x≠y):∀b,blk γ x.1 x.2=Td b->blk γ y.1 y.2≠Td b:= @zdt _ (λ(x y:Nat×Ch)=>∀b,blk γ x.1 x.2=Td b->blk γ y.1 y.2≠Td b) (λx y h b i c=>h b c i) _ I.apart _ _ f k e
theorem Inv.rename(I:Inv h0 W M0 (C++R) γ h){c i:Nat}(s:qh i R=Ta){xs:List (El t)}(r:(c,Ch.row e t xs)∈C):
  Inv h0 W M0 ((i,.row e t xs)::qk i (Wh c C)++R) (zu4 γ i (γ.σ c)) h:=by
 have f:(qk i (Wh c C)++R).Sublist (C++R):=(((wl i _).trans (xb c C))).append_right R;have l:(c,Ch.row e t xs)∈C++R:=Ar R r;have p:∀x∈qk i (Wh c C)++R,∀b,blk γ c (.row e t xs)=Td b->blk γ x.1 x.2≠Td b:=by
  intro x m b k q;have o:x≠(c,Ch.row e t xs):=by rintro rfl;rcases Aw.1 m with m|m;exact(Ys ((wl i _).subset m)).2 rfl;have n:=I.apart;rw[Cs]at n;exact n.2.2 _ r _ m b k k
  exact zmv I (f.subset m) l o b q k
 have w:Inv h0 W M0 (qk i (Wh c C)++R) (zu4 γ i (γ.σ c)) h:= I.rest f (Z7 γ i _) (zca s) (λx m b k=>⟨rfl,(I.sep x (f.subset m) b k).2⟩) I.ag (λ_ _ _=>rfl) (Ab _) (λ_ _=>rfl);obtain⟨cells,h1,y,A,z⟩:=I.den _ l;have u:∀b,blk (zu4 γ i (γ.σ c)) i (.row e t xs)=Td b->blk γ c (.row e t xs)=Td b:=λb k=>by simpa[blk,qo]using k
 refine w.cons ⟨cells,by rw[qo];exact h1,y,A,by rw[qo];exact z⟩ (λb k=>I.sep _ l b (u b k)) (λb k x m e'=>?_);rw[zmm (Z7 γ i _) _ (zca s x m).1]at e';exact p x m b (u b k) e'
theorem Inv.nilRow(I:Inv h0 W M0 (C++R) γ h)(l:qh i R=Ta)(e:TypeId)(t:Ty):
  Inv h0 W M0 ((i,.row e t [])::qk i C++R) (zu4 γ i ⟨Te,0,0⟩) h:=by
 have c:=(wl i C).append_right R;have k:Inv h0 W M0 (qk i C++R) (zu4 γ i ⟨Te,0,0⟩) h:= I.rest c (Z7 γ i _) (zca l) (λx m b f=>⟨rfl,(I.sep x (c.subset m) b f).2⟩) I.ag (λ_ _ _=>rfl) (Ab _) (λ_ _=>rfl);refine k.cons ⟨[],by rw[qo];exact Owns.nil _ _ _ _,RowC.nil _ _,by simp,by rw[qo];rfl⟩ (λb f=>by simp[blk,qo]at f) (λb f=>by simp[blk,qo]at f)
theorem zxk{c:Nat}:∀{l:List Pl},qig c l=Tc->∀p∈l,p.id≠c/\zzz c p.a=Tc
 |[],_,p,b=>by cases b
 |q::l,h,p,b=>by
  simp only[qig]at h;cases hq:(bif Nat.beq q.id c then Ta else zzz c q.a)with
  |true=>rw[hq]at h;cases h
  |false=>
   rw[hq]at h;rcases Ai.1 b with rfl|b;cases hb:Nat.beq p.id c with
   |true=>rw[hb]at hq;cases hq
   |false=>rw[hb]at hq;exact⟨λe=>by rw[e]at hb;simp at hb,hq⟩
   exact zxk h p b
def z0b:List Pl->List Nat
 |[]=>[]
 |p::l=>p.id::z0b l
theorem zcj{R:CS}{h:zb}:∀{l:List Pl} {C A:CS} {γ:Gh},zoi R l C=Td A->Inv h0 W M0 (C++R) γ h ->
  ∃f,Inv h0 W M0 (A++R) f h/\GxS (z0b l) γ f/\(f.M=γ.M/\f.β=γ.β)/\∀p∈l,∀e t,p.s=.own e t->∀u,DenA γ p.a u->DenA f (.own p.id) u
 |[],C,A,γ,hn,I=>by simp only[zoi,Ac]at hn;subst hn;exact⟨γ,I,GxS.refl _ _,⟨rfl,rfl⟩,λp Z=>by cases Z⟩
 |p::l,C,A,γ,hn,I=>by
  have V:∀{S:List Nat} {a b:Gh},GxS (z0b l) a b->GxS (z0b (p::l)) a b:=λg=>g.mono λx hx=>Ae _ hx;have k:∀s,GxS (z0b (p::l)) γ (zu4 γ p.id s):=λs=>⟨Fr.le.refl _,λi hi=>(Z7 γ p.id s).2 i (by simp only[z0b,Ai,not_or]at hi;intro e;simp only[Ac]at e;exact hi.1 e.symm)⟩;simp only[zoi]at hn;split at hn;rename_i t Y;obtain⟨f,O,D,F,h1⟩:=zcj hn I;exact⟨f,O,V (S:=[]) D,F,λq r e t' m=>by rcases Ai.1 r with rfl|r;rw[Y]at m;cases m;exact h1 q r e t' m⟩
  ·rename_i e t Y;cases hm:qig p.id l with
   |true=>rw[hm]at hn;cases hn
   |false=>
    rw[hm]at hn;simp only[cond_false]at hn;have B:=zxk hm;have fin:∀{H:CS} {o:Gh},zoi R l H=Td A->Inv h0 W M0 (H++R) o h->GxS (z0b (p::l)) γ o->(o.M=γ.M/\o.β=γ.β)->(∀i,i≠p.id->o.σ i=γ.σ i/\o.β i=γ.β i)->(∀u,DenA γ p.a u->DenA o (.own p.id) u) ->
      ∃f,Inv h0 W M0 (A++R) f h/\GxS (z0b (p::l)) γ f/\(f.M=γ.M/\f.β=γ.β)/\∀q∈p::l,∀e t,q.s=.own e t->∀u,DenA γ q.a u->DenA f (.own q.id) u:=by
     intro H o P I2 g2 N w G;obtain⟨f,O,D,F,h1⟩:=zcj P I2;refine⟨f,O,g2.trans (V (S:=[]) D),⟨F.1.trans N.1,F.2.trans N.2⟩,λq r e' t' m u n=>?_⟩;rcases Ai.1 r with rfl|r;have h2:=G u n;have Q:q.id∉z0b l:=by
      intro hi;have:∀{l:List Pl},q.id∈z0b l->∃p∈l,p.id=q.id:=by
       intro l;induction l with
       |nil=>intro h;cases h
       |cons x l ih=>intro h;simp only[z0b,Ai]at h;rcases h with h|h;exact⟨x,Am,h.symm⟩;obtain⟨y,L,e⟩:=ih h;exact⟨y,Ae _ L,e⟩
      obtain⟨y,L,e⟩:=this hi;exact(B y L).1 e
     rw[show u=_ from h2];simp only[DenA,(D.2 _ Q).2];refine h1 q r e' t' m u ?_;have gx:Gx (Td p.id) γ o:=⟨by rw[N.1];exact Fr.le.refl _,λi hi=>by have:=w i (λe=>hi (by rw[e]));exact⟨this.2,this.1⟩⟩;exact n.gx gx (B q r).2
    split at hn;rename_i c E;split at hn;rename_i e' t' xs hc;split at hn;rename_i ys z;obtain⟨e1,U⟩:=Q4 z;subst e1;simp only at U;subst U;cases hee:Nat.beq e e' with
    |false=>rw[hee]at hn;cases hn
    |true=>
     rw[hee]at hn;have:=Al hee;subst this;simp only[cond_true]at hn;cases hci:Nat.beq c p.id with
     |true=>rw[hci]at hn;simp only[cond_true]at hn;have J:=Al hci;exact fin hn I (GxS.refl _ _) ⟨rfl,rfl⟩ (λ_ _=>⟨rfl,rfl⟩) (λu n=>by rw[E,J]at n;exact n)
     |false=>
      rw[hci]at hn;simp only[cond_false]at hn;cases hR:qh p.id R with
      |false=>rw[hR]at hn;cases hn
      |true=>rw[hR]at hn;simp only[cond_true]at hn;refine fin hn (I.rename hR (qa hc)) (k _) ⟨rfl,rfl⟩ (λi hi=>?_) (λu n=>?_);have:=(Z7 γ p.id (γ.σ c)).2 i (by simp;exact λe=>hi e.symm);exact⟨this.2,this.1⟩;rw[E]at n;rw[show u=_ from n];simp only[DenA,qo]
    cases hn;cases hn;rename_i E;cases hR:qh p.id R with
    |false=>rw[hR]at hn;cases hn
    |true=>rw[hR]at hn;simp only[cond_true]at hn;refine fin hn (I.nilRow hR e t) (k _) ⟨rfl,rfl⟩ (λi hi=>?_) (λu n=>?_);have:=(Z7 γ p.id ⟨Te,0,0⟩).2 i (by simp;exact λe=>hi e.symm);exact⟨this.2,this.1⟩;rw[E]at n;rw[show u=_ from n];simp only[DenA,qo];rfl
    cases hn
def qih(b cs:CS)(p:Pl):Option Dy:=match p.s with
 |.dat t=>match zlm b t p.a with
  |some x=>Td ⟨.dat t,x⟩
  |none=>Te
 |.own e t=>match Qz cs p.id with
  |some (.row e' t' xs)=>match Z6 (.row t') (.row t) xs with
   |some ys=>bif Nat.beq e e' then Td ⟨.own e t,ys⟩else Te
   |none=>Te
  |_=>Te
def z0c(b cs:CS):List Pl->Option (List Dy)
 |[]=>Td []
 |p::l=>match qih b cs p,z0c b cs l with
  |some d,some v=>Td (d::v)
  |_,_=>Te
def qkr(i:Nat):Dy->AA
 |⟨.dat t,x⟩=>match Jg t x with
  |[a]=>a
  |_=>.v undef
 |⟨.own _ _,_⟩=>.own i
def qks:Nat->List Dy->List AA
 |_,[]=>[]
 |i,d::l=>qkr i d::qks (i+1) l
def qhh(i:Nat):Dy->CS
 |⟨.own e t,xs⟩=>[(i,.row e t xs)]
 |_=>[]
def z0d:Nat->List Dy->CS
 |_,[]=>[]
 |i,d::l=>qhh i d++z0d (i+1) l
theorem zxl{x:El t}{u:Value}(h:Rd γ.M t x [u]):DenA γ (qkr i ⟨.dat t,x⟩) u:=by
 have b:=xm (γ:=γ) h;unfold qkr
 match hx:Jg t x,b with
 |[a],b=>simp only[hx];exact b.1
 |[],b=>exact b.elim
 |_::_::_,b=>exact b.2.elim
theorem z0e{t':Ty}{xs:List (El t')}{ys:List (El t)}(h:Z6 (.row t') (.row t) xs=Td ys):Ch.row e t' xs=Ch.row e t ys:=by obtain⟨c,b⟩:=Q4 h;subst c;simp only at b;rw[b]
theorem zrz{b cs:CS}{p:Pl}{l:List Pl}{v:List Dy}(h:z0c b cs (p::l)=Td v):∃d w,v=d::w/\z0c b cs l=Td w /\
  ((∃t x,p.s=.dat t/\d=⟨.dat t,x⟩/\zlm b t p.a=Td x)\/(∃e t xs,p.s=.own e t/\d=⟨.own e t,xs⟩/\(p.id,Ch.row e t xs)∈cs)):=by
 simp only[z0c]at h;split at h;rename_i d w h1 m;have h:=Az h;refine⟨d,w,h.symm,m,?_⟩;unfold qih at h1;split at h1;rename_i t c;split at h1;rename_i y i;exact .inl ⟨t,y,c,(Az h1).symm,i⟩;cases h1;rename_i e t c;split at h1;rename_i e' t' xs k;split at h1;rename_i ys f;cases he:Nat.beq e e' with
 |false=>rw[he]at h1;cases h1
 |true=>rw[he]at h1;refine .inr ⟨e,t,ys,c,(Az (show Td (⟨.own e t,ys⟩:Dy)=Td d from h1)).symm,?_⟩;have:=qa k;rw[z0e f,<-Al he]at this;exact this
 cases h1;cases h1;cases h
theorem Wo{b cs:CS}:∀{q r:List Pl} {v:List Dy},z0c b cs (q++r)=Td v->∃c e,v=c++e/\c.length=q.length/\z0c b cs q=Td c/\z0c b cs r=Td e
 |[],r,v,h=>⟨[],v,rfl,rfl,rfl,h⟩
 |p::q,r,v,h=>by simp only[AD,z0c]at h;split at h;rename_i d w h1 l;have h:=Az h;obtain⟨c,e,rfl,f,i,k⟩:=Wo l;exact⟨d::c,e,by rw[<-h];rfl,by simp[f],by simp only[z0c,h1,i],k⟩;cases h
theorem zr0{base:Nat}:∀{ss:List Shp} {b:List AA} {l:List Pl},plL base ss b=Td l->l.length=ss.length/\∀{γ n:Gh} {c f:CS} {v:List Dy} {us:List Value},qag γ c->n.M=γ.M->z0c c f l=Td v ->
   (∀p∈l,∀e t,p.s=.own e t->∀u,DenA γ p.a u->DenA n (.own p.id) u)->All2 (DenA γ) b us->All2 (DenA n) (qks base v) us/\∀x∈z0d base v,x∈f:=by
 intro ss;induction ss generalizing base with
 |nil=>
  intro b l h;cases b with
  |nil=>
   simp only[plL,Ac]at h;subst h;refine⟨rfl,λo r m z k=>?_⟩;have m:=Az m;subst m;refine⟨?_,λx L=>by cases L⟩;rename_i us;cases us with
   |nil=>trivial
   |cons _ _=>exact k.elim
  |cons a b=>simp[plL]at h
 |cons s ss q=>
  intro b l h;cases b with
  |nil=>simp[plL]at h
  |cons a b=>
   simp only[plL]at h;split at h;rename_i N H;simp only[Ac]at h;subst h;obtain⟨I,q⟩:=q H;refine⟨by simp[I],λ {γ n c f v us} o r m z k=>?_⟩;obtain⟨d,w,rfl,G,J⟩:=zrz m;cases us with
   |nil=>exact k.elim
   |cons u us=>obtain⟨A,B⟩:=q o r G (λp D=>z p (Ae _ D)) k.2;rcases J with⟨t,x,C,rfl,E⟩|⟨e,t,xs,C,rfl,F⟩;have:=j7 o E k.1;rw[<-r]at this;refine⟨⟨zxl this,A⟩,λy i=>B y ?_⟩;simpa[z0d,qhh]using i;refine⟨⟨z _ Am e t C u k.1,A⟩,λy i=>?_⟩;simp only[z0d,qhh,AD,A8,Ai]at i;rcases i with rfl|i;exact F;exact B y i
   cases h
def zck:List (Nat×SG)->List Dy->qg
 |[],_=>[]
 |(i,.one _)::l,d::ds=>(i,[],.g (.a (qkr (100000+64*i) d)))::zck l ds
 |(_,.one _)::_,[]=>[]
 |(i,.agg ss)::l,ds=>(i,[],.g (.agg (qks (100000+64*i) (ds.take ss.length))))::zck l (ds.drop ss.length)
def Wp:List (Nat×SG)->List Dy->CS
 |[],_=>[]
 |(i,.one _)::l,d::ds=>qhh (100000+64*i) d++Wp l ds
 |(_,.one _)::_,[]=>[]
 |(i,.agg ss)::l,ds=>z0d (100000+64*i) (ds.take ss.length)++Wp l (ds.drop ss.length)
def zoj:List (Nat×List Shp)->List Dy->CS
 |[],_=>[]
 |(c,ss)::l,ds=>(c,.box (qks (1000000+64*c) (ds.take ss.length)))::(z0d (1000000+64*c) (ds.take ss.length)++zoj l (ds.drop ss.length))
def zva:List (Nat×SG)->Nat
 |[]=>0
 |(_,.one _)::l=>1+zva l
 |(_,.agg ss)::l=>ss.length+zva l
def qda(J:AnnA)(b:List Dy):qg:=zck J.slots b
def chJ(J:AnnA)(b:List Dy):CS:=Wp J.slots b++zoj J.boxes (b.drop (zva J.slots))
theorem Wq{e:qg}{n:Nat}{a:Act}:∀{ss:List (Nat×SG)} {l:List Pl},zje e ss=Td l->l.length=zva ss/\∀{γ A:Gh} {f k:CS} {v w:List Dy},SatA n e γ a->qag γ f->A.M=γ.M->z0c f k l=Td v ->
   (∀p∈l,∀e t,p.s=.own e t->∀u,DenA γ p.a u->DenA A (.own p.id) u)->(∀x∈zck ss (v++w),zoc A (zz a) x)/\∀x∈Wp ss (v++w),x∈k
 |[],l,h=>by simp only[zje,Ac]at h;subst h;refine⟨rfl,λ_ _ _ o _=>?_⟩;have o:=Az o;subst o;exact⟨λx Q=>(by cases Q),λx Q=>(by cases Q)⟩
 |(i,sg)::ss,l,h=>by
  simp only[zje]at h;split at h;rename_i x r Y V;split at h;rename_i s aa;simp only[Ac]at h;subst h;obtain⟨P,J⟩:=Wq (n:=n) (a:=a) V;refine⟨by simp[P,zva];omega,λ {γ A f k v w} E G C o D=>?_⟩;obtain⟨d,v',rfl,h2,h3⟩:=zrz o;obtain⟨H,I⟩:=J (w:=w) E G C h2 (λp m=>D p (Ae _ m));have c:DenA γ aa (zz a i):=(E.all _ (Zw Y)).1 trivial;rcases h3 with⟨t,x,z,rfl,hc⟩|⟨e',t,xs,z,rfl,hm⟩;have:=j7 G hc c;rw[<-C]at this;refine⟨λy b=>?_,λy b=>?_⟩;simp only[AD,zck,Ai]at b;rcases b with rfl|b;exact⟨λ_=>zxl this,λF=>absurd trivial F⟩;exact H y b;simp only[AD,Wp,qhh,A8]at b;exact I y b;refine⟨λy b=>?_,λy b=>?_⟩;simp only[AD,zck,Ai]at b;rcases b with rfl|b;exact⟨λ_=>D _ Am e' t z _ c,λF=>absurd trivial F⟩;exact H y b;simp only[AD,Wp,qhh,A8,Ai]at b;rcases b with rfl|b;exact hm;exact I y b;rename_i B as;split at h;rename_i q hq;simp only[Ac]at h;subst h;obtain⟨P,J⟩:=Wq (n:=n) (a:=a) V;obtain⟨L,m⟩:=zr0 hq;refine⟨by simp[P,L,zva],λ {γ A f k v w} E G C o D=>?_⟩;obtain⟨O,N,rfl,U,d1,d2⟩:=Wo o;obtain⟨H,I⟩:=J (w:=w) E G C d2 (λp m=>D p (AC _ m));obtain⟨us,hu,c⟩:=(show ∃us,zz a i=.agg us.toArray/\All2 (DenA γ) as us from(E.all _ (Zw Y)).1 trivial);obtain⟨p1,Z⟩:=m G C d1 (λp m=>D p (Ar _ m)) c;have et:(O++N++w).take B.length=O:=by rw[<-L,<-U,AH,Cu]
  have S:(O++N++w).drop B.length=N++w:=by rw[<-L,<-U,AH,Dl]
  refine⟨λy b=>?_,λy b=>?_⟩;simp only[zck,et,S,Ai]at b;rcases b with rfl|b;exact⟨λ_=>⟨us,hu,p1⟩,λF=>absurd trivial F⟩;exact H y b;simp only[Wp,et,S,Aw]at b;rcases b with b|b;exact Z y b;exact I y b;cases h;cases h;cases h
theorem zd3{A:CS}:∀{bs:List (Nat×List Shp)} {l:List Pl},zjf A bs=Td l->∀{R:CS} {γ m:Gh} {f i:CS} {v:List Dy} {h:zb},Inv h0 W M0 (A++R) γ h->qag γ f->m.M=γ.M->m.β=γ.β->z0c f i l=Td v -> (∀p∈l,∀e t,p.s=.own e t->∀u,DenA γ p.a u->DenA m (.own p.id) u) ->
   ∀x∈zoj bs v,x∈i\/(DenC h0.size m h x.1 x.2/\(∃n,(x.1,Ch.box n)∈A)/\(∃n,x.2=Ch.box n)/\∃ss,(x.1,ss)∈bs)
 |[],l,b,R,γ,m,f,i,v,h,I,hf,hM,hβ,hd,ho,x,k=>by cases k
 |(c,ss)::bs,l,b,R,γ,m,f,i,v,h,I,hf,hM,hβ,hd,ho,x,k=>by
  simp only[zjf]at b;split at b;rename_i n r C F;split at b;rename_i q O;simp only[Ac]at b;subst b;obtain⟨D,y⟩:=zr0 O;obtain⟨z,w,rfl,B,G,d2⟩:=Wo hd;obtain⟨us,P,o⟩:=I.den _ (Ar R (qa C));obtain⟨H,E⟩:=y hf hM G (λp b=>ho p (Ar _ b)) o;have et:(z++w).take ss.length=z:=by rw[<-D,<-B,Cu]
  have S:(z++w).drop ss.length=w:=by rw[<-D,<-B,Dl]
  simp only[zoj,et,S,Ai,Aw]at k;rcases k with rfl|k|k;exact .inr ⟨⟨us,by rw[hβ];exact P,H⟩,⟨n,qa C⟩,⟨_,rfl⟩,ss,Am⟩;exact .inl (E x k);rcases zd3 F I hf hM hβ d2 (λp b=>ho p (AC _ b)) x k with h1|⟨h1,L,Q,J,N⟩;exact .inl h1;exact .inr ⟨h1,L,Q,J,Ae _ N⟩;cases b;cases b
def zjg(C:CS):List (Nat×List Shp)->Bool
 |[]=>Ta
 |(c,_)::l=>match Qz C c with
  |some (.box _)=>zjg C l
  |_=>Tc
theorem zjh{C:CS}:∀{l:List (Nat×List Shp)},zjg C l=Ta->∀c ss,(c,ss)∈l->∃b,(c,Ch.box b)∈C
 |[],_,c,ss,h=>by cases h
 |(c',ss')::l,hb,c,ss,h=>by simp only[zjg]at hb;split at hb;rename_i b e;rcases Ai.1 h with h|h;cases h;exact⟨b,qa e⟩;exact zjh hb c ss h;cases hb
def z0f:CS->Bool
 |[]=>Ta
 |(c,_)::l=>bif z3o c l then z0f l else Tc
theorem zmw:∀{l:CS},z0f l=Ta->l.Pairwise λx y=>x.1≠y.1
 |[],_=>.nil
 |(c,k)::l,h=>by
  simp only[z0f]at h;cases hn:z3o c l with
  |false=>rw[hn]at h;cases h
  |true=>rw[hn]at h;exact Be.2 ⟨λy b e=>zbf hn y b e.symm,zmw h⟩
def allIn(S:List Nat):List Nat->Bool
 |[]=>Ta
 |i::l=>bif memN S i then allIn S l else Tc
theorem zr1{l:List Nat}(h:memN l i=Ta):i∈l:=by
 induction l with
 |nil=>cases h
 |cons j l b=>
  simp only[memN]at h;cases hb:Nat.beq i j with
  |true=>rw[Al hb];exact Am
  |false=>rw[hb]at h;exact Ae _ (b h)
theorem zr2{S:List Nat}:∀{l:List Nat},allIn S l=Ta->∀i∈l,i∈S
 |[],_,i,h=>by cases h
 |j::l,hl,i,h=>by
  simp only[allIn]at hl;cases hm:memN S j with
  |false=>rw[hm]at hl;cases hl
  |true=>rw[hm]at hl;rcases Ai.1 h with rfl|h;exact zr1 hm;exact zr2 hl i h
theorem Inv.pick{C F R:CS}(I:Inv h0 W M0 (C++R) γ h)(hnd:z0f F=Ta)(hsrc:∀x∈F,DenC h0.size γ h x.1 x.2/\∃k,(x.1,k)∈C/\blk γ x.1 k=blk γ x.1 x.2):Inv h0 W M0 (F++R) γ h where
 ag:=I.ag
 frame:=I.frame
 size:=I.size
 old:=I.old
 le:=I.le
 den:=λx hx=>by rcases Aw.1 hx with hx|hx;exact(hsrc x hx).1;exact I.den x (AC _ hx)
 sep:=λx hx b hb=>by rcases Aw.1 hx with hx|hx;obtain⟨_,k,hk,e⟩:=hsrc x hx;exact I.sep _ (Ar _ hk) b (by rw[e];exact hb);exact I.sep x (AC _ hx) b hb
 apart:=by have hI:=I.apart;rw[Cs]at hI ⊢;refine⟨(zmw hnd).imp_of_mem λ {x y} hx hy hne b hb hb'=>?_,hI.2.1,λx hx y hy b hb=>?_⟩;obtain⟨_,k,hk,e⟩:=hsrc x hx;obtain⟨_,k',hk',e'⟩:=hsrc y hy;exact zmv I (Ar R hk) (Ar R hk') (λe2=>hne (Prod.mk.inj e2).1) b (by rw[e];exact hb) (by rw[e'];exact hb');obtain⟨_,k,hk,e⟩:=hsrc x hx;exact hI.2.2 _ hk y hy b (by rw[e];exact hb)
def xtr(J:AnnA)(R:CS)(e:qg)(C:CS):Option (List Dy):=
 match zje e J.slots,zjf C J.boxes with
 |some ps,some pb=>match zjf (frzL (z0a (ps++pb)) C) J.boxes with
  |some b=>match zoi R (ps++b) (frzL (z0a (ps++pb)) C)with
   |some f=>bif zjg f J.boxes then(bif allIn J.ids (z0b (ps++b))then(match z0c (frzL (z0a (ps++pb)) C++R) f (ps++b)with
    |some c=>bif z0f (chJ J c)then Td c else Te
    |none=>Te)else Te)else Te
   |none=>Te
  |none=>Te
 |_,_=>Te
theorem zji{J:AnnA}{e:qg}{o:List Dy}(b:xtr J R e C=Td o){n:Nat}{a:Act}(Y:SatA n e γ a)(I:Inv h0 W M0 (C++R) γ h):
  ∃c,Inv h0 W M0 (chJ J o++R) c h/\GxS J.ids γ c/\∀x∈qda J o,zoc c (zz a) x:=by
 unfold xtr at b;split at b
 ·rename_i ps Q u P;split at b
  ·rename_i y f;split at b
   ·rename_i U B;cases hbi:zjg U J.boxes with
    |false=>rw[hbi]at b;cases b
    |true=>
    rw[hbi]at b;cases hai:allIn J.ids (z0b (ps++y))with
    |false=>rw[hai]at b;cases b
    |true=>
    rw[hai]at b;simp only[cond_true]at b;split at b
    ·rename_i k D;cases hnd:z0f (chJ J k)with
     |false=>rw[hnd]at b;cases b
     |true=>
     rw[hnd]at b;have b:=Az (show Td k=Td o from b);subst b;obtain⟨γ0,l,E⟩:=Inv.frzL (C:=C) (γ:=γ) (z0a (ps++Q)) I;have z:=Y.gx0 E;obtain⟨c,A,F,⟨G,M⟩,H⟩:=zcj B l;obtain⟨Z,r,rfl,N,S,d2⟩:=Wo D;obtain⟨e1,t⟩:=Wq (n:=n) (a:=a) u;obtain⟨L,f2⟩:=t (w:=r) z l.fz G S (λp q=>H p (Ar _ q));have s:=zd3 f l l.fz G M d2 (λp q=>H p (AC _ q));have ed:(Z++r).drop (zva J.slots)=r:=by rw[<-e1,<-N,Dl]
     have O:GxS J.ids γ c:=⟨E.1.trans F.1,λi hi=>by have m:=F.2 i (λhm=>hi (zr2 hai i hm));have h1:=E.2 i (by simp);exact⟨m.1.trans h1.1,m.2.trans h1.2⟩⟩;refine⟨c,A.pick hnd λx b=>?_,O,L⟩;unfold chJ at b;rw[ed]at b;rcases Aw.1 b with b|b;have:=f2 x b;exact⟨A.den x (Ar _ this),x.2,this,rfl⟩;rcases s x b with h1|⟨h1,_,⟨as,m⟩,ss,h3⟩;exact⟨A.den x (Ar _ h1),x.2,h1,rfl⟩;obtain⟨aa,V⟩:=zjh hbi _ _ h3;exact⟨h1,_,V,by rw[m];rfl⟩
    cases b
   cases b
  cases b
 cases b
theorem z3w{α:Type}{R:α->α->Prop}(i:∀x y,R x y->R y x){l f:List α}(p:l.Perm f):l.Pairwise R->f.Pairwise R:=by
 induction p with
 |nil=>exact id
 |cons x p k=>intro h;rw[Be]at h ⊢;exact⟨λy n=>h.1 y (p.symm.subset n),k h.2⟩
 |swap x y l=>intro h;simp only[Be,Ai]at h ⊢;obtain⟨h1,o,m⟩:=h;exact⟨λz b=>by rcases b with rfl|b;exact i _ _ (h1 _ (.inl rfl));exact o z b,λz b=>h1 z (.inr b),m⟩
 |trans _ _ e c=>exact λh=>c (e h)
theorem Inv.perm{cs cs':CS}(I:Inv h0 W M0 cs γ h)(p:cs.Perm cs'):Inv h0 W M0 cs' γ h where
 ag:=I.ag
 frame:=I.frame
 size:=I.size
 old:=I.old
 le:=I.le
 den:=λx hx=>I.den x (p.symm.subset hx)
 sep:=λx hx=>I.sep x (p.symm.subset hx)
 apart:=z3w (λx y h b hb hb'=>h b hb' hb) p I.apart
end
section
variable {P:Program} {gl:Fr}
variable {h0 : zb} {W : Nat -> Prop} {M0 : Fr}
def qa7(P:Program)(gl:Fr)(o:Oper)(e:qg)(c:zx)(cs:CS)(K:AV->Prop):Prop:=
 match o.op with
 |.pick x a b=>qa6 e c x a b K
 |_=>match Wi e c with
  |some g=>qA P gl o (zhe e c) g cs K
  |none=>False
def wQA(P:Program)(gl:Fr)(n:Nat)(ops:Array Oper)(cs:CS)(K:qg->Prop):List Oper->qg->Prop
 |[],e=>K e
 |o::rest,e=>match Yt ops e o.guard with
  |some c=>bif jk n c o.dst then qa7 P gl o e c cs λv=>wQA P gl n ops cs K rest (qav e o.dst c v)else False
  |none=>False
theorem zmx(i:Fr.le gl M0){o:Oper}{e:qg}{c:zx}{cs:CS}{K:AV->Prop}(H:qa7 P gl o e c cs K):∃av,K av/\∀(n:Nat) (γ:Gh) (a:Act) (h:zb),SatA n e γ a->Inv h0 W M0 cs γ h->valid (zz a) c->∃v,DenV γ av v/\QExec P (execOp a.eval o) h (.value v):=by unfold qa7 at H;split at H;rename_i x y z l;obtain⟨av,h1,k⟩:=Wn H;refine⟨av,h1,λn γ a h b I f=>?_⟩;obtain⟨t,q,m⟩:=k n γ a b f;refine⟨_,m,λB d=>?_⟩;simp only[execOp,l,q,asBool,Sem.run_bind,Sem.run_pure,Result.andThen_ok];split at H;rename_i g p;obtain⟨av,h1,k⟩:=zh8 (h0:=h0) (W:=W) (M0:=M0) i H;exact⟨av,h1,λn γ a h b I f=>k (xn b p f) γ h a.eval I λx av r=>zo b f r⟩;exact H.elim
theorem zjj{P:Program}{gl:Fr}(p:Fr.le gl M0){n:Nat}{ops:Array Oper}{cs:CS}{K:qg->Prop}{Q:Act->Prop}{γ:Gh}{h:zb}(I:Inv h0 W M0 cs γ h)(B:World)(d:Nat):
  ∀(l:List Oper) (e:qg) (a:Act),wQA P gl n ops cs K l e->SatA n e γ a->(∀e' a',SatA n e' γ a'->Same (xd l) a a'->K e'->Q a')->wpStill P ops (mk B d h) Q l a
 |[],e,a,H,hs,hQ=>hQ _ _ hs (Same.refl _ _) H
 |o::rest,e,a,H,hs,hQ=>by
  unfold wQA at H;split at H;rename_i c y;cases hd:jk n c o.dst with
  |false=>rw[hd]at H;exact H.elim
  |true=>
   rw[hd]at H;simp only[cond_true]at H;have t:=xt hs y;have q:∀i,o.dst=Td i->i∈xd (o::rest):=λi hi=>by simp[xd,hi]
   have f:∀x∈xd rest,x∈xd (o::rest):=λx r=>by unfold xd;split;exact Ae _ r;exact r
   obtain⟨av,A,C⟩:=zmx (h0:=h0) (W:=W) (M0:=M0) p H;have b:∀u,(valid (zz a) c->DenV γ av u)->(¬valid (zz a) c->u=undef)->wpStill P ops (mk B d h) Q rest (a.put o.dst u):=λu h1 s=>
    zjj p I B d rest _ _ A (hs.putO hd h1 s) λe' a' D w z=>hQ e' a' D ((Same.put a o.dst u q).trans (w.mono f)) z
   unfold wpStill;by_cases m:valid (zz a) c;rw[if_pos (t.2 m)];unfold Oper.still;obtain⟨v,h1,s⟩:=C n γ a h hs I m;rw[s B d,Oper.stillUpon_value];exact b v (λ_=>h1) (λk=>absurd m k);rw[if_neg (λr=>m (t.1 r))];exact b undef (λk=>absurd k m) (λ_=>rfl)
  exact H.elim
abbrev z3x:=List (Nat×Nat)
def zvb(P:Program)(gl:Fr)(tr:TypeId)(n:Nat)(c:z3x)(id:Nat)(ops:Array Oper)(b:Bool)(R:CS)(K:qg->CS->Prop)(e:qg)(C:CS):Prop:=
 bif b then(match z2q c id with
  |none=>bif Region.lexB .any ops then wQA P gl n ops (C++R) (λe'=>K (zg4 e') C) ops.toList e else False
  |some m=>bif Region.lexTailB .any ops m then wQA P gl n ops (C++R) (λe'=>wRA P gl tr n ops R K (ops.toList.drop m) e' C) (ops.toList.take m) e else False)
 else wRA P gl tr n ops R K ops.toList e C
theorem zok(D:P.follows .mixedOrders=Ta)(f:Fr.le gl M0){tr:TypeId}{n:Nat}{L:z3x}{id:Nat}{ops:Array Oper}{c:Bool}{R C:CS}{K:qg->CS->Prop}{e:qg} (H:zvb P gl tr n L id ops c R K e C) {γ:Gh} {h:zb} (B:World) (d:Nat) {a:Act} (u:SatA n e γ a) (I:Inv h0 W M0 (C++R) γ h) {Q:Exit->Act->World->Prop}
  (o:∀e' A γ' a' E h',SatA n e' γ' a'->Inv h0 W M0 (A++R) γ' h'->Same (xd ops.toList) a a'->GxS (xd ops.toList) γ γ'->K e' A->Q .normal a' (mk B E h')):(DO id ops c).wp P Q a (mk B d h):=by
 unfold zvb at H;cases c with
 |false=>exact wp_region_list (zd2 f B _ _ _ _ _ _ _ H u I o)
 |true=>
  simp only[cond_true]at H;split at H;cases hB:Region.lexB .any ops with
  |false=>rw[hB]at H;exact H.elim
  |true=>rw[hB]at H;refine wp_region_still D hB ?_;exact zjj f I B (d+1) _ _ _ H u λe' a' s k q=>o _ _ _ _ _ _ s.clean I k (GxS.refl _ _) q
  rename_i m _;cases hB:Region.lexTailB .any ops m with
  |false=>rw[hB]at H;exact H.elim
  |true=>
   rw[hB]at H;have b:xd ops.toList=xd (ops.toList.take m)++xd (ops.toList.drop m):=by rw[<-Qw,B8]
   have:=wp_region_still_tail (id:=id) (Q:=Q) (a:=a) (w:=mk B d h) (l:=ops.toList) m D (by simpa using hB) (by simp only[Array.toArray_toList];refine zjj f I B (d+1) _ _ _ H u λe' a' s k q=>?_;refine zd2 f B _ _ _ _ _ _ (d+1) q s I λy p z r t h'' M G N J F=>o y p z r t h'' M G ?_ ?_ F;rw[b];exact(k.mono λx i=>Ar _ i).trans (N.mono λx i=>AC _ i);rw[b];exact J.mono λx i=>AC _ i);simpa using this
end
section
variable {P:Program} {t tr tx:TypeId} {n d m i id:Nat} {cs R C:CS} {γ:Gh} {h:zb} {o:Oper} {sv:AV} {gl:Fr} {c:zx} {ops:Array Oper} {pu ord:List Nat} {listed pl:Array Bool} {a:Act}
variable {h0 : zb} {W : Nat -> Prop} {M0 : Fr}
structure It where
 k:Nat
 dst:Option Nat
 ch:zx
 av:AV
 nb:Option (Nat×Ch)
 us:Option Nat:=Te
def itE:List It->qg
 |[]=>[]
 |i::l=>match i.dst with
  |some s=>(s,i.ch,i.av)::itE l
  |none=>itE l
def itC:List It->CS
 |[]=>[]
 |i::l=>match i.nb with
  |some b=>b::itC l
  |none=>itC l
theorem zag{x:Nat×zx×AV}:∀{l:List It},x∈itE l↔∃i∈l,i.dst=Td x.1/\i.ch=x.2.1/\i.av=x.2.2
 |[]=>by simp[itE]
 |i::l=>by simp only[itE];split;rename_i s c;rw[Ai,zag (l:=l)];constructor;rintro(rfl|⟨j,b,h⟩);exact⟨i,Am,c,rfl,rfl⟩;exact⟨j,Ae _ b,h⟩;rintro⟨j,b,h1,f,e⟩;rcases Ai.1 b with rfl|b;left;rw[c]at h1;cases h1;rw[f,e];exact .inr ⟨j,b,h1,f,e⟩;rename_i c;rw[zag (l:=l)];constructor;rintro⟨j,b,h⟩;exact⟨j,Ae _ b,h⟩;rintro⟨j,b,h1,f,e⟩;rcases Ai.1 b with rfl|b;rw[c]at h1;cases h1;exact⟨j,b,h1,f,e⟩
def Xk(S:List Nat):qg->qg
 |[]=>[]
 |(i,c,v)::e=>bif memN S i then(i,c,v)::Xk S e else Xk S e
theorem Jm{S:List Nat}{x:Nat×zx×AV}:∀{e:qg},x∈Xk S e->x∈e/\x.1∈S
 |[],h=>by cases h
 |(i,c,v)::e,h=>by
  simp only[Xk]at h;cases hm:memN S i with
  |true=>rw[hm]at h;rcases Ai.1 h with rfl|h;exact⟨Am,zr1 hm⟩;exact⟨Ae _ (Jm h).1,(Jm h).2⟩
  |false=>rw[hm]at h;exact⟨Ae _ (Jm h).1,(Jm h).2⟩
def qll(P:Program)(tr:TypeId)(t:TypeId)(n:Nat)(ps:List (Nat×AV))(cs:CS)(K:AV->Prop):Prop:=
 match qaz P t with
 |some el=>match qc8 P tr 8 el,zfl P el (n*qi P el)with
  |some ty,some zs=>bif Nat.beq (qi P el) (sz ty)then(bif Nat.ble (n*qi P el) 16777216 then(bif Nat.blt 0 (qi P el)then(match zrq (λi=>Td (i*qi P el,qi P el)) (zs.map .v) ps with
   |some r=>match Wk cs ty n r with
    |some (ys,[])=>K (.g (.a (.dc ty ys)))
    |_=>False
   |none=>False)else False)else False)else False
  |_,_=>False
 |none=>False
theorem zln{t el:TypeId}(u:P.underlying t=Td (.slice el))(k:qc P el=Ta)(w:n*qi P el<=16777216){o:List Value}(b:zfl P el (n*qi P el)=Td o){ps:Array (Nat×Value)}{c1:List Value} (p:D4 (λi=>Td (i*qi P el,qi P el)) o.toArray ps.toList=Td c1.toArray) (B:World) (e:Nat) (h:zb):
  (Instr.buildSlice t n ps).run P (mk B e h)=.ok (.slice (Td ⟨h.size,0,Te⟩) n n) (mk B e (h.push (.cells c1.toArray el))):=by
 have r:=QExec.underlying (h:=h) u B e;have s:=QExec.sizeOf (P:=P) (h:=h) (je k).choose_spec B e;unfold Instr.buildSlice;rw[Sem.run_bind,r];simp only[Result.andThen_ok];rw[Sem.run_bind,s];simp only[Result.andThen_ok];rw[if_neg (by omega)];unfold zfl at b;by_cases c:n*qi P el=0;rw[if_pos c];rw[c]at b ⊢;simp at b;subst b;simp only[Sem.run_bind,Sem.run_pure,Result.andThen_ok];have f:Array.map (λx=>(#[]:Array Value)[x % (#[]:Array Value).size]!) (DX 0)=([]:List Value).toArray:=by simp
 rw[f,p];rfl;rw[if_neg c];have q:Nat.beq (n*qi P el) 0=Tc:=by
  cases hh:Nat.beq (n*qi P el) 0 with
  |false=>rfl
  |true=>exact absurd (Al hh) c
 rw[q]at b;simp only[cond_false]at b;split at b;rename_i z l;have m:=Jl l h B e;simp only[Ac]at b;rw[Sem.run_bind,m];simp only[Result.andThen_ok,Sem.run_bind,Sem.run_pure];have f:Array.map (λx=>z.cells[x % z.cells.size]!) (DX (n*qi P el))=o.toArray:=by rw[<-b]
 rw[f,p];rfl;cases b
theorem Inv.newFrozen(I:Inv h0 W M0 cs γ h)(c:Array Value)(el:TypeId):Inv h0 W M0 cs (zg3 γ h.size c) (h.push (.cells c el))/\Gx Te γ (zg3 γ h.size c)/\(zg3 γ h.size c).M h.size=Td c:=by
 have l:γ.M h.size=Te:=I.ag.none (Ab _);have n:Fr.le γ.M (zg3 γ h.size c).M:=by
  intro b k e;have:Nat.beq b h.size=Tc:=by
   cases f:Nat.beq b h.size with
   |false=>rfl
   |true=>rw[Al f,l]at e;cases e
  simp[zg3,this,e]
 have i:AgM (zg3 γ h.size c).M (h.push (.cells c el)):=by
  intro b k e;by_cases f:b=h.size;subst f;have:k=c:=by simp[zg3]at e;exact e.symm
  subst this;exact⟨_,_,yd _ _⟩;have:Nat.beq b h.size=Tc:=by
   cases hb':Nat.beq b h.size with
   |false=>rfl
   |true=>exact absurd (Al hb') f
  simp only[zg3,this,cond_false]at e;obtain⟨o,m,e'⟩:=I.ag b k e;exact⟨o,m,by rw[BV,if_neg f];exact e'⟩
 refine⟨I.call (Keep.push h _ (Ab _)) n (λb f=>?_) i,⟨n,λ_ _=>⟨rfl,rfl⟩⟩,by simp[zg3]⟩;have:Nat.beq b h.size=Tc:=by
  cases hb':Nat.beq b h.size with
  |false=>rfl
  |true=>have:=Al hb';omega
 simp[this]
def qe4:Option (Nat×Ch)->CS->CS
 |none,C=>C
 |some c,C=>Wh c.1 C
def zjk(h0:zb)(W:Nat->Prop)(M0:Fr)(P:Program)(o:Oper)(a:Act)(γ:Gh)(h:zb)(cs:CS)(b:Option (Nat×Ch))(c:AV->Prop)(eat:Option (Nat×Ch):=Te):Prop:=
 ExA P (execOp a.eval o) h λv h'=>∃av γ',c av/\DenV γ' av v/\Inv h0 W M0 (b.toList++qe4 eat cs) γ' h'/\Gx (b.map (·.1)) γ γ'
theorem qe5{f:Array (Nat×Operand)}(S:o.op=.buildSlice t n f){ps:List (Nat×AV)}{ρ:Operand->Option AV}(y:zdx ρ f.toList=Td ps){K:AV->Prop}(H:qll P tr t n ps cs K):
  ∃av,K av/\∀(γ:Gh) (h:zb) (a:Act) (Y:CS),Inv h0 W M0 (Y++cs) γ h->(∀x av,ρ x=Td av->DenV γ av (a.eval x))->zjk h0 W M0 P o a γ h (Y++cs) Te (· = av):=by
 unfold qll at H;split at H
 ·rename_i el u;obtain⟨U,q⟩:=Jj u;split at H
  ·rename_i ty F J m;cases hz:Nat.beq (qi P el) (sz ty)with
   |false=>rw[hz]at H;exact H.elim
   |true=>
   rw[hz]at H;cases hb1:Nat.ble (n*qi P el) 16777216 with
   |false=>rw[hb1]at H;exact H.elim
   |true=>
   rw[hb1]at H;cases hb2:Nat.blt 0 (qi P el)with
   |false=>rw[hb2]at H;exact H.elim
   |true=>
   rw[hb2]at H;simp only[cond_true]at H;split at H
   ·rename_i r D;split at H
    ·rename_i ys s;refine⟨_,H,λγ h a Y I G=>?_⟩;have L:Inv h0 W M0 cs γ h:=I.sub (by simp);obtain⟨Z,V,E⟩:=Wj D (Zx γ F) (zbd G y);obtain⟨c1,c2,rfl,C,w,Q⟩:=zch L.fz s E;cases c2 with
     |cons _ _=>exact Q.elim
     |nil=>
     rw[AR]at *;have l:=Al hz;have i:0<qi P el:=by simpa[Cm]using hb2
     have z:n*qi P el<=16777216:=BS hb1;have hn:n<=n*qi P el:=C7 _ i;have M:c1.length=n*qi P el:=by rw[C.1,w,l]
     obtain⟨O,A,p⟩:=I.newFrozen c1.toArray el;intro B e;refine .inl ⟨.slice (Td ⟨h.size,0,Te⟩) n n,e,_,?_,_,_,rfl,?_,O,A⟩;have N:(f.map λx=>(x.1,a.eval x.2)).toList=f.toList.map λx=>(x.1,a.eval x.2):=by rw[CQ]
     simp only[execOp,S];refine Yh ?_;exact zln U q z m (by show D4 _ _ (f.map λx=>(x.1,a.eval x.2)).toList=_;rw[N];exact V) B e h;have k:=(C.mono A.1).rd (b:=h.size) (o:=0) (c:=n) (cs:=c1.toArray) p (by rw[BQ,BE (by rw[w,<-l];simp;omega)]) ⟨by omega,by omega⟩;rw[w]at k;exact⟨⟨Td ⟨h.size,0,Te⟩,n,n⟩,rfl,rfl,k⟩
    exact H.elim
   exact H.elim
  exact H.elim
 exact H.elim
def qlm:AV->Bool
 |.g (.a (.dc _ _))=>Ta
 |_=>Tc
theorem qe6{bv sv:AV}{c:Call}(ho:o.op=.call c)(hc:c.callee=.builtin .append){s x:Operand}(w:c.args.toList=[s,x])(C:c.argTypes.toList=[t,tx]){K:AV->Prop}(D:qlm bv=Ta) (H:zaf P tr t tx bv sv 0 [] cs (λav _ _=>K av)) {ρ:Operand->Option AV} (hs:ρ s=Td bv) (hx:ρ x=Td sv):
  ∀(γ:Gh) (h:zb) (a:Act) (Y:CS),Inv h0 W M0 (Y++cs) γ h->(∀x av,ρ x=Td av->DenV γ av (a.eval x))->zjk h0 W M0 P o a γ h (Y++cs) Te K:=by
 intro γ h a Y I hρ;have N:=hρ _ _ hs;have S:=hρ _ _ hx;have I1:Inv h0 W M0 ([]++cs) γ h:=I.sub (by simp);have key:∀{Q:Value->zb->Prop},XRun P (Au #[t,tx] o.type #[a.eval s,a.eval x]) h Q->ExA P (execOp a.eval o) h Q:=by
  intro Q ae B e;obtain⟨v,d',h',r,hp⟩:=ae B e;refine .inl ⟨v,d',h',?_,hp⟩;have ee:execOp a.eval o=(Au c.argTypes o.type (c.args.map a.eval) >>= λx=>(C2 (C5 x):Sem Next)):=by simp only[execOp,ho,resolve,hc];rfl
  rw[ee,toList_eq w,toList_eq C];refine Yh ?_;simpa using r
 refine key ?_;clear key;unfold zaf at H;split at H;rename_i el aa;obtain⟨hu,aj⟩:=Jj aa;split at H;rename_i ty ak;split at H;rename_i b ys hb U;obtain⟨⟨z,T⟩,F⟩:=zmr hu hb;obtain⟨news,l,m⟩:=zxg I1 U T.pos S;split at H;cases D;cases D;rename_i t' ah;split at H;rename_i xs q;obtain⟨J,hK⟩:=H;have A:=zd1 F J;obtain⟨e1,e2⟩:=Q4 q;subst e1;simp only at e2;subst e2;generalize a.eval s=u at *;generalize a.eval x=v at *;obtain⟨s2,e,am,y⟩:=(show ∃s:Sl,u=slV s/\s.cap=s.len/\Rd γ.M (.row t') xs [u]from N);subst e;obtain⟨s3,e,f,ai,cells,i,E⟩:=y.rowC I.ag;have e':s2=s3:=by cases s2;cases s3;simp only[slV,AP]at e;simp[e]
 subst e';have k:cells.length=s2.len*sz t':=by rw[f];exact i.1
 intro B L;by_cases hm:ys.length=0;have Z:ys=[]:=AO hm;subst Z;have af:news=[]:=AO (by rw[l.1];simp);subst af;have hr:=Q3 (P:=P) (ty:=o.type) T (s:=s2) (h':=h) (m B L) (by simp;omega) (λp hp=>by simp[storeCells]) (λ_=>rfl);refine⟨_,L,h,hr,_,γ,hK,?_,I,Gx.refl _ _⟩;rw[AR];exact y;obtain⟨cp,n,hr,O,an,ap,V⟩:=Wm (P:=P) (ty:=o.type) (base:=0) T k (λB d=>Q2 E k T.pos B d) m (by rw[f];exact J) (by rw[f];exact A) (AW _) (by omega) B L;obtain⟨I2,g2,ab⟩:=I.newFrozen n el;refine⟨_,L+1,_,hr,_,_,hK,?_,I2,g2⟩;have G:=((i.append l).mono g2.1).rd (b:=h.size) (o:=0) (c:=cp) (cs:=n) ab (by rw[BQ,Ah,<-f];exact V) (by rw[Ah,<-f];exact⟨by rw[f];exact A,O⟩);rw[Ah,<-f]at G;exact G;exact H.elim;exact H.elim;exact H.elim;exact H.elim;exact H.elim
def qe7(P:Program)(gl:Fr)(tr:TypeId)(o:Oper)(ρ:Operand->Option AV)(cs:CS)(K:AV->Prop):Prop:=
 match o.op with
 |.call c=>match c.callee with
  |.value x=>match qh9 x with
   |some f=>bif zh P f then(match qew P tr f,zu8 ρ c.args.toList with
    |some (ts,rt),some vs=>match jg cs ts vs with
     |some args=>PC P gl f args rt λr=>K (qhg rt r)
     |none=>False
    |_,_=>False)else False
   |none=>False
  |_=>False
 |_=>False
theorem qa8(i:Fr.le gl M0){ρ:Operand->Option AV}{K:AV->Prop}(H:qe7 P gl tr o ρ cs K):
  ∀(γ:Gh) (h:zb) (a:Act) (Y:CS),Inv h0 W M0 (Y++cs) γ h->(∀x av,ρ x=Td av->DenV γ av (a.eval x))->zjk h0 W M0 P o a γ h (Y++cs) Te K:=by
 intro γ h a Y I p;unfold qe7 at H;split at H;rename_i c s;split at H;rename_i x l;split at H;rename_i f y;cases hcal:zh P f with
 |false=>rw[hcal]at H;exact H.elim
 |true=>
  rw[hcal]at H;simp only[cond_true]at H;split at H;rename_i ts rt vs z k;split at H;rename_i args b;intro B d;have e:=zoe y;subst e;have u:Inv h0 W M0 cs γ h:=I.sub (by simp);have m:=wv u.fz b (zae p k);refine .inr (.inr ⟨f,c.args.map a.eval,zdz s l hcal rfl _,?_⟩);have n:c.args.map a.eval=(c.args.toList.map a.eval).toArray:=by rw[<-CQ]
  rw[n];refine(zof i H I m).mono ?_;rintro v h' ⟨r,γ',h1,q,w,t,_⟩;exact⟨_,γ',h1,q,w,t⟩;exact H.elim;exact H.elim
 exact H.elim;exact H.elim;exact H.elim
theorem z0g(k:Fr.le gl M0){ρ:Operand->Option AV}{b:Bool}{K:AV->Prop}(H:zz7 P gl tr o ρ b cs K)(z:b=Ta):
  ∀(γ:Gh) (h:zb) (a:Act) (Y:CS),Inv h0 W M0 (Y++cs) γ h->(∀x av,ρ x=Td av->DenV γ av (a.eval x))->zjk h0 W M0 P o a γ h (Y++cs) Te K:=by
 intro γ h a Y I w;unfold zz7 at H;split at H;rename_i c A;split at H;rename_i x m;split at H;rename_i f D;cases hcal:zh P f with
 |false=>rw[hcal]at H;exact H.elim
 |true=>
  rw[hcal]at H;simp only[cond_true]at H;split at H;rename_i ts rt vs E l;split at H;rename_i args i;obtain⟨J,h1,y⟩:=H;intro B d;have e:=zoe D;subst e;have C:Inv h0 W M0 cs γ h:=I.sub (by simp);have p:=wv C.fz i (zae w l);refine .inr (.inr ⟨f,c.args.map a.eval,zdz A m hcal rfl _,?_⟩);have t:c.args.map a.eval=(c.args.toList.map a.eval).toArray:=by rw[<-CQ]
  rw[t];refine(zof k (h1 z) I p).mono ?_;rintro v h' ⟨r,γ',n,s,u,q,_⟩;exact⟨_,γ',y r (λ_=>n),s,u,q⟩;exact H.elim;exact H.elim
 exact H.elim;exact H.elim;exact H.elim
theorem z3y(k:o.op=.alloc t){z:Value}(i:zeroOf P t=Td z)(f:itB (z.cells.toList.map .v)=Tc):
  ∀(γ:Gh) (h:zb) (a:Act) (Y:CS),Inv h0 W M0 (Y++cs) γ h->qh d (Y++cs)=Ta->zjk h0 W M0 P o a γ h (Y++cs) (Td (d,.box (z.cells.toList.map .v))) (· = .g (.a (.box d 0))):=by
 intro γ h a Y I l B e;refine .inl ⟨.pointer (Td ⟨h.size,0,Te⟩),e,h.push (.cells z.cells t),?_,_,z1x γ d h.size,rfl,?_,?_,zaa _ _ _⟩;have b:=Jl i h B e;simp only[execOp,k];refine Yh ?_;unfold Instr.alloc;rw[Sem.run_bind,b];simp only[Result.andThen_ok];rw[Sem.run_bind,zbe];rfl;simp only[DenV,DenG,DenA,Zv];have:=Inv.newBox (C:=[]) (R:=Y++cs) (by simpa using I) (c:=d) l (Zx γ z.cells.toList) (zfk d _) f t;simpa[qk,qe4]using this
theorem qe8{x:Operand}(i:o.op=.box t x){l:List AA}(k:zqy d l=Tc)(b:itB l=Tc):
  ∀(γ:Gh) (h:zb) (a:Act) (Y:CS),Inv h0 W M0 (Y++cs) γ h->qh d (Y++cs)=Ta->All2 (DenA γ) l (a.eval x).cells.toList->zjk h0 W M0 P o a γ h (Y++cs) (Td (d,.box l)) (· = .g (.a (.box d 0))):=by
 intro γ h a Y I m f B e;refine .inl ⟨.pointer (Td ⟨h.size,0,Te⟩),e,h.push (.cells (a.eval x).cells t),?_,_,z1x γ d h.size,rfl,?_,?_,zaa _ _ _⟩;simp only[execOp,i];refine Yh ?_;unfold Instr.box;rw[Sem.run_bind,zbe];rfl;simp only[DenV,DenG,DenA,Zv];have:=Inv.newBox (C:=[]) (R:=Y++cs) (by simpa using I) (c:=d) m f k b t;simpa[qk,qe4]using this
def ye(o:Oper):Bool:=match o.op with
 |.call c=>match c.callee with
  |.builtin .append=>Ta
  |.builtin _=>Tc
  |_=>Ta
 |_=>Tc
def zd4:List AA->Bool
 |[]=>Ta
 |.v _::l=>zd4 l
 |.d _ _::l=>zd4 l
 |.elt _ _ _::l=>zd4 l
 |.dc _ _::l=>zd4 l
 |_::_=>Tc
theorem Qs{c:Nat}:∀{l:List AA},zd4 l=Ta->zqy c l=Tc
 |[],_=>rfl
 |.v _::l,h=>by simp only[zqy,zzz,cond_false];exact Qs (l:=l) h
 |.d _ _::l,h=>by simp only[zqy,zzz,cond_false];exact Qs (l:=l) h
 |.elt _ _ _::l,h=>by simp only[zqy,zzz,cond_false];exact Qs (l:=l) h
 |.dc _ _::l,h=>by simp only[zqy,zzz,cond_false];exact Qs (l:=l) h
 |.box _ _::_,h=>by cases h
 |.own _::_,h=>by cases h
 |.oelt _ _ _ _::_,h=>by cases h
theorem zg5:∀l:List Value,zd4 (l.map .v)=Ta
 |[]=>rfl
 |_::l=>zg5 l
def z3z(P:Program)(gl:Fr)(tr:TypeId)(o:Oper)(e:qg)(ch:zx)(cs:CS)(K:AV->Option (Nat×Ch)->Prop):Prop:=
 match o.op with
 |.alloc t=>match ch,o.dst,zeroOf P t with
  |[],Td d,some z=>bif qh d cs then(bif itB (z.cells.toList.map .v)then False else K (.g (.a (.box d 0))) (Td (d,.box (z.cells.toList.map .v))))else False
  |_,_,_=>False
 |.box t x=>match ch,o.dst,zhe e [] x with
  |[],Td d,some av=>match zz5 av with
   |some l=>bif qh d cs then(bif zd4 l then(bif itB l then False else K (.g (.a (.box d 0))) (Td (d,.box l)))else False)else False
   |none=>False
  |_,_,_=>False
 |.buildSlice t n f=>match ch,zdx (zhe e []) f.toList with
  |[],some ps=>qll P tr t n ps cs λav=>K av Te
  |_,_=>False
 |.call c=>match c.callee with
  |.builtin .append=>match ch,c.args.toList,c.argTypes.toList with
   |[],[s,x],[t,tx]=>match zhe e [] s,zhe e [] x with
    |some bv,some sv=>bif qlm bv then zaf P tr t tx bv sv 0 [] cs (λav _ _=>K av Te)else False
    |_,_=>False
   |_,_,_=>False
  |.builtin _=>qa7 P gl o e ch cs λav=>K av Te
  |_=>match ch with
   |[]=>qe7 P gl tr o (zhe e []) cs λav=>K av Te
   |_=>match Wi e ch with
    |some (Td b)=>zz7 P gl tr o (zhe e ch) b cs λav=>K av Te
    |_=>False
 |_=>qa7 P gl o e ch cs λav=>K av Te
structure Spec (h0:zb) (W:Nat->Prop) (M0:Fr) (P:Program) (o:Oper) (e:qg) (ch:zx) (cs:CS) (nb:Option (Nat×Ch)) (Kan:AV->Prop) (eat:Option (Nat×Ch):=Te):Prop where
 yes:∀(n:Nat) (γ:Gh) (h:zb) (a:Act) (Y:CS),SatA n e γ a->Inv h0 W M0 (Y++cs) γ h->(∀b,nb=Td b->qh b.1 (Y++cs)=Ta)->(∀c,eat=Td c->c∈Y++cs/\∀x∈Y++cs,x.1=c.1->x.2=c.2)->(∀d,o.dst=Td d->eat≠Te->qh d (Y++cs)=Ta)->valid (zz a) ch->zjk h0 W M0 P o a γ h (Y++cs) nb Kan eat
 no:∀(n:Nat) (γ:Gh) (a:Act),SatA n e γ a->¬valid (zz a) ch->nb=Te/\eat=Te/\∃av,Kan av
 box:∀b,nb=Td b->qh b.1 cs=Ta/\o.dst=Td b.1/\(((∃l,b.2=.box l/\zd4 l=Ta)/\Kan=(· = .g (.a (.box b.1 0))))\/((∃e t xs,b.2=.row e t xs)/\Kan=(· = .g (.a (.own b.1)))))
 dn:eat≠Te->∃d,o.dst=Td d/\qh d cs=Ta
theorem Spec.ofQ(c:Fr.le gl M0){e:qg}{ch:zx}{K:AV->Option (Nat×Ch)->Prop}(H:qa7 P gl o e ch cs λav=>K av Te):∃i Kan,Spec h0 W M0 P o e ch cs i Kan/\(∀av,Kan av->K av i)/\∃av,Kan=(· = av):=by obtain⟨av,h1,s⟩:=zmx (h0:=h0) (W:=W) (M0:=M0) c H;refine⟨Te,(· = av),⟨λn γ h a Y f I _ _ _ k=>?_,λn γ a f k=>⟨rfl,rfl,av,rfl⟩,λb l=>(by cases l),λr=>absurd rfl r⟩,λq e=>e ▸ h1,av,rfl⟩;obtain⟨v,m,p⟩:=s n γ a h f (I.sub (by simp)) k;exact λB d=>.inl ⟨v,d,h,p B d,av,γ,rfl,m,I,Gx.refl _ _⟩
theorem zvc(r:Fr.le gl M0){e:qg}{ch:zx}{K:AV->Option (Nat×Ch)->Prop}(H:z3z P gl tr o e ch cs K):
  ∃y Kan,Spec h0 W M0 P o e ch cs y Kan/\(∀av,Kan av->K av y)/\(ye o=Tc->∃av,Kan=(· = av)):=by
 unfold z3z at H;split at H
 ·rename_i t u;split at H
  ·rename_i d z D U;cases hR:qh d cs with
   |false=>rw[hR]at H;exact H.elim
   |true=>
    rw[hR]at H;cases hit:itB (z.cells.toList.map .v)with
    |true=>rw[hit]at H;exact H.elim
    |false=>
    rw[hit]at H;refine⟨_,(· = .g (.a (.box d 0))),⟨λn γ h a Y k I q _ _ _=>z3y u U hit γ h a Y I (q _ rfl),λn γ a k m=>absurd trivial m,λb p=>?_,λf=>absurd rfl f⟩,λav e=>e ▸ H,λ_=>⟨_,rfl⟩⟩;cases p;exact⟨hR,D,.inl ⟨⟨_,rfl,zg5 _⟩,rfl⟩⟩
  exact H.elim
 ·rename_i t x u;split at H
  ·rename_i d av D E;split at H
   ·rename_i l S;cases hR:qh d cs with
    |false=>rw[hR]at H;exact H.elim
    |true=>
     rw[hR]at H;cases hm:zd4 l with
     |false=>rw[hm]at H;exact H.elim
     |true=>
      rw[hm]at H;cases hit:itB l with
      |true=>rw[hit]at H;exact H.elim
      |false=>
      rw[hit]at H;refine⟨_,(· = .g (.a (.box d 0))),⟨λn γ h a Y k I q _ _ _=>qe8 u (Qs hm) hit γ h a Y I (q _ rfl) (zdv S (zo k (c:=[]) trivial E)),λn γ a k m=>absurd trivial m,λb p=>?_,λf=>absurd rfl f⟩,λav e=>e ▸ H,λ_=>⟨_,rfl⟩⟩;cases p;exact⟨hR,D,.inl ⟨⟨_,rfl,hm⟩,rfl⟩⟩
   exact H.elim
  exact H.elim
 rename_i t n G u;split at H;rename_i ps J;obtain⟨av,h1,A⟩:=qe5 (h0:=h0) (W:=W) (M0:=M0) u J H;exact⟨Te,(· = av),⟨λn γ h a Y k I _ _ _ _=>A γ h a Y I λx av f=>zo k (c:=[]) trivial f,λn γ a k m=>absurd trivial m,λb p=>(by cases p),λf=>absurd rfl f⟩,λQ e=>e ▸ h1,λ_=>⟨_,rfl⟩⟩;exact H.elim;rename_i c u;split at H;rename_i M;have i:ye o=Ta:=by simp[ye,u,M]
 split at H;rename_i s x t tx w B;split at H;rename_i bv sv F C;cases hdc:qlm bv with
 |false=>rw[hdc]at H;exact H.elim
 |true=>rw[hdc]at H;simp only[cond_true]at H;exact⟨Te,λav=>K av Te,⟨λn γ h a Y k I _ _ _ _=>qe6 u M w B hdc H F C γ h a Y I λx av f=>zo k (c:=[]) trivial f,λn γ a k m=>absurd trivial m,λb p=>(by cases p),λf=>absurd rfl f⟩,λav e=>e,λq=>by rw[i]at q;cases q⟩
 exact H.elim;exact H.elim;obtain⟨y,Kan,h1,A,L⟩:=Spec.ofQ (h0:=h0) (W:=W) (M0:=M0) r H;exact⟨y,Kan,h1,A,λ_=>L⟩;rename_i N O;have i:ye o=Ta:=by simp only[ye,u]
 split at H;exact⟨Te,λav=>K av Te,⟨λn γ h a Y k I _ _ _ _=>qa8 r H γ h a Y I λx av f=>zo k (c:=[]) trivial f,λn γ a k m=>absurd trivial m,λb p=>(by cases p),λf=>absurd rfl f⟩,λav e=>e,λq=>by rw[i]at q;cases q⟩;split at H;rename_i b p;refine⟨Te,λav=>K av Te,⟨λn γ h a Y k I _ _ _ m=>z0g r H (xn k p m) γ h a Y I λx av f=>zo k m f,λn γ a k m=>⟨rfl,rfl,?_⟩,λb p=>(by cases p),λf=>absurd rfl f⟩,λav e=>e,λq=>by rw[i]at q;cases q⟩;have:=zcb k p m;simp only[Ac]at this;exact(zcf (h0:=#[]) (W:=λ_=>False) (M0:=λ_=>Te) H).1 this;exact H.elim;obtain⟨y,Kan,h1,A,L⟩:=Spec.ofQ (h0:=h0) (W:=W) (M0:=M0) r H;exact⟨y,Kan,h1,A,λ_=>L⟩
def qa9:List Nat->Nat->Option (Option Nat)
 |[],_=>Te
 |x::l,k=>bif Nat.ble 2000000 x then(bif Nat.beq (x-2000000) k then Td Te else qa9 l k)else(bif Nat.ble 1000000 x then(bif Nat.beq ((x-1000000) / 1000) k then Td (Td ((x-1000000) % 1000))else qa9 l k)else qa9 l k)
def zfm(k:Nat):List It->Option (Nat×Ch)
 |[]=>Te
 |i::l=>bif (match i.us with
  |some j=>Nat.beq j k
  |none=>Tc)then(match i.nb with
  |some b=>Td b
  |none=>zfm k l)else zfm k l
theorem zcl{k:Nat}{c:Nat×Ch}:∀{l:List It},zfm k l=Td c->∃i∈l,i.nb=Td c/\i.us=Td k
 |[],h=>by cases h
 |i::l,h=>by
  simp only[zfm]at h;cases hb:(match i.us with
   |some j=>Nat.beq j k
   |none=>Tc)with
  |false=>rw[hb]at h;obtain⟨x,f,q⟩:=zcl h;exact⟨x,Ae _ f,q⟩
  |true=>rw[hb]at h;simp only[cond_true]at h;split at h;rename_i b e;cases h;refine⟨i,Am,e,?_⟩;split at hb;rename_i j m;rw[m,Al hb];cases hb;obtain⟨x,f,q⟩:=zcl h;exact⟨x,Ae _ f,q⟩
def qln(P:Program)(tr:TypeId)(t:TypeId)(n:Nat)(K:Ch->Prop):Prop:=bif Nat.beq n 0 then(match qaz P t with
 |some el=>match qc8 P tr 8 el,zfl P el (0*qi P el)with
  |some ty,Td []=>bif Nat.beq (qi P el) (sz ty)then(bif Nat.ble (0*qi P el) 16777216 then(bif Nat.blt 0 (qi P el)then K (.row el ty [])else False)else False)else False
  |_,_=>False
 |none=>False)else False
theorem qe9{b:Array (Nat×Operand)}(p:o.op=.buildSlice t n b)(k:b.toList=[]){K:Ch->Prop}(H:qln P tr t n K):
  ∃el ty,K (.row el ty [])/\∀(γ:Gh) (h:zb) (a:Act) (L:CS),Inv h0 W M0 L γ h->qh d L=Ta->ExA P (execOp a.eval o) h (zce h0 W M0 L γ λav l c=>av=.g (.a (.own d))/\l=[(d,.row el ty [])]/\c=Td d):=by
 unfold qln at H;cases hn:Nat.beq n 0 with
 |false=>rw[hn]at H;exact H.elim
 |true=>
  rw[hn]at H;obtain rfl:=Al hn;simp only[cond_true]at H;split at H;rename_i el e;split at H;rename_i ty f i;cases h1:Nat.beq (qi P el) (sz ty)with
  |false=>rw[h1]at H;exact H.elim
  |true=>
   rw[h1]at H;cases h2:Nat.ble (0*qi P el) 16777216 with
   |false=>rw[h2]at H;exact H.elim
   |true=>
    rw[h2]at H;cases h3:Nat.blt 0 (qi P el)with
    |false=>rw[h3]at H;exact H.elim
    |true=>rw[h3]at H;refine⟨el,ty,H,λγ h a L I m=>?_⟩;refine zbx (tr:=tr) (ps:=[]) p (ρ:=λ_=>Te) (by rw[k];rfl) (C:=[]) (R:=L) (d:=d) ?_ (by simpa using I) (λx av q=>by cases q);unfold Wl;rw[e];simp only;rw[f,i];simp only;rw[h1,h2,h3,m];simp[zrq,Wk,qia,Xj,frzL,qk]
  exact H.elim;exact H.elim
def qlo(P:Program)(tx:TypeId)(ty:Ty):AV->Option (List (El ty))
 |.g (.a (.d (.row t) xs))=>match P.underlying tx with
  |some (.slice _)=>Z6 (.row t) (.row ty) xs
  |_=>Te
 |.g (.a (.dc t xs))=>match P.underlying tx with
  |some (.slice _)=>Z6 (.row t) (.row ty) xs
  |_=>Te
 |.g (.a (.v (.slice Te 0 0)))=>match P.underlying tx with
  |some (.slice _)=>Td []
  |_=>Te
 |_=>Te
def qlp(P:Program)(tr:TypeId)(t tx:TypeId)(e:TypeId)(c:Ty)(xs:List (El c))(sv:AV)(K:TypeId->(ty:Ty)->List (El ty)->Prop):Prop:=match qaz P t with
 |some el=>match qc8 P tr 8 el with
  |some ty=>match zh9 P el ty,qlo P tx ty sv with
   |some b,some ys=>match Z6 (.row c) (.row ty) xs with
    |some xs=>bif Nat.beq e el then((xs.length+ys.length)*b<=140737488355328/\K el ty (xs++ys))else False
    |none=>False
   |_,_=>False
  |none=>False
 |none=>False
theorem z4a{L:CS}{ty:Ty}{ys:List (El ty)}(h:qlo P tx ty sv=Td ys):qe0 P L tx ty sv=Td ys:=by unfold qlo at h;split at h;rename_i t xs;split at h;rename_i e b;simp only[qe0,b,rowOf];exact h;cases h;rename_i t xs;split at h;rename_i e b;simp only[qe0,b,rowOf];exact h;cases h;split at h;rename_i e b;simp only[qe0,b];exact h;cases h;cases h
theorem zr3{c:Nat}:∀{l:CS},qh c l=Ta->qk c l=l
 |[],_=>rfl
 |(j,k)::l,h=>by
  simp only[qh]at h;cases hb:(bif Nat.beq j c then Ta else zfh c k)with
  |true=>rw[hb]at h;cases h
  |false=>rw[hb]at h;simp only[qk];rw[hb,cond_false,zr3 h]
theorem zd5{c d:Nat}:∀{l:CS},qh c l=Ta->qh c (Wh d l)=Ta
 |[],_=>rfl
 |(j,k)::l,h=>by
  simp only[qh]at h;cases hb:(bif Nat.beq j c then Ta else zfh c k)with
  |true=>rw[hb]at h;cases h
  |false=>
   rw[hb]at h;simp only[Wh];cases Nat.beq j d with
   |true=>exact zd5 h
   |false=>simp only[cond_false,qh];rw[hb];exact zd5 h
theorem zmy{c:Nat×Ch}:∀{l:CS},c∈l->(∀x∈l,x.1=c.1->x.2=c.2)->Qz l c.1=Td c.2
 |[],h,_=>by cases h
 |(j,k)::l,h,hu=>by
  simp only[Qz];cases hb:Nat.beq c.1 j with
  |true=>have:=Al hb;have:=hu (j,k) Am this.symm;simp only at this;rw[cond_true,this]
  |false=>rw[cond_false];rcases Ai.1 h with rfl|h;simp at hb;exact zmy h λx b=>hu x (Ae _ b)
theorem qfa{c:Call}(M:o.op=.call c)(E:c.callee=.builtin .append){s x:Operand}(k:c.args.toList=[s,x])(m:c.argTypes.toList=[t,tx]){p:TypeId}{q:Ty}{xs:List (El q)}{K:TypeId->(ty:Ty)->List (El ty)->Prop}
  (H:qlp P tr t tx p q xs sv K):∃el ty ys,K el ty ys/\∀(γ:Gh) (h:zb) (a:Act) (L:CS) (c0:Nat),Inv h0 W M0 L γ h->Qz L c0=Td (.row p q xs)->DenV γ (.g (.a (.own c0))) (a.eval s)->DenV γ sv (a.eval x) -> ExA P (execOp a.eval o) h (zce h0 W M0 [] γ λav u A=>av=.g (.a (.own d))/\u=(d,.row el ty ys)::qk d (Wh c0 L)/\A=Td d):=by
 unfold qlp at H;split at H;rename_i el n;split at H;rename_i ty z;split at H;rename_i b ys J y;split at H;rename_i l i;cases hee:Nat.beq p el with
 |false=>rw[hee]at H;exact H.elim
 |true=>
  rw[hee]at H;obtain⟨f,F⟩:=H;refine⟨el,ty,l++ys,F,λγ h a L c0 I O N Q=>?_⟩;have w:zaf P tr t tx (.g (.a (.own c0))) sv d L [] (λav u A=>av=.g (.a (.own d))/\u=(d,.row el ty (l++ys))::qk d (Wh c0 L)/\A=Td d):=by unfold zaf;rw[n];simp only;rw[z];simp only;rw[J,AR,z4a y];simp only;rw[O];simp only;rw[i];simp only;rw[hee];first|exact⟨f,rfl,rfl,rfl⟩|exact⟨f,trivial,trivial,trivial⟩|exact⟨f,by simp⟩
  have:=zms (ty':=o.type) w (by simpa using I) N Q;intro B e;obtain⟨v,D,h',r,C⟩:=this B e;refine .inl ⟨v,D,h',?_,C⟩;have G:execOp a.eval o=(Au c.argTypes o.type (c.args.map a.eval) >>= λx=>(C2 (C5 x):Sem Next)):=by simp only[execOp,M,resolve,E];rfl
  rw[G,toList_eq k,toList_eq m];refine Yh ?_;simpa using r
 exact H.elim;exact H.elim;exact H.elim;exact H.elim
def qfb(P:Program)(tr:TypeId)(o:Oper)(k:Nat)(e:qg)(b:List It)(cs:CS)(own:Bool)(K:AV->Option (Nat×Ch)->Option (Nat×Ch)->Prop):Prop:=
 match o.op,o.dst with
 |.buildSlice t n parts,some d=>bif own then(bif qh d cs then(match parts.toList with
  |[]=>qln P tr t n λch=>K (.g (.a (.own d))) (Td (d,ch)) Te
  |_=>False)else False)else False
 |.call c,some d=>match c.callee,c.args.toList,c.argTypes.toList,zfm k b with
  |.builtin .append,[s,x],[t,tx],Td (c0,.row e0 t0 xs)=>match zhe e [] s,zhe e [] x with
   |some (.g (.a (.own c1))),some sv=>bif Nat.beq c1 c0 then(bif qh d cs then qlp P tr t tx e0 t0 xs sv (λel ty ys=>bif own then K (.g (.a (.own d))) (Td (d,.row el ty ys)) (Td (c0,.row e0 t0 xs))else K (.g (.a (.d (.row ty) ys))) Te (Td (c0,.row e0 t0 xs)))else False)else False
   |_,_=>False
  |_,_,_,_=>False
 |_,_=>False
theorem zvd{k:Nat}{e:qg}{IL:List It}{own:Bool}{K:AV->Option (Nat×Ch)->Option (Nat×Ch)->Prop}(H:qfb P tr o k e IL cs own K):
  ∃nb eat av,Spec h0 W M0 P o e [] cs nb (· = av) eat/\K av nb eat/\∀c,eat=Td c->zfm k IL=Td c:=by
 unfold qfb at H;split at H;rename_i t n ae d ho z;cases own with
 |false=>exact H.elim
 |true=>
  simp only[cond_true]at H;cases hR:qh d cs with
  |false=>rw[hR]at H;exact H.elim
  |true=>rw[hR]at H;simp only[cond_true]at H;split at H;rename_i hp;obtain⟨el,ty,O,m⟩:=qe9 (h0:=h0) (W:=W) (M0:=M0) (d:=d) ho hp H;refine⟨_,Te,_,⟨λn γ h a Y l I w _ _ _=>?_,λn γ a l r=>absurd trivial r,λb f=>?_,λm=>absurd rfl m⟩,O,λc p=>by cases p⟩;refine(m γ h a (Y++cs) I (w _ rfl)).mono ?_;rintro v h' ⟨av,C',c,γ',⟨rfl,rfl,rfl⟩,Z,h3,h4⟩;exact⟨_,γ',rfl,Z,h3,h4⟩;cases f;exact⟨hR,z,.inr ⟨⟨_,_,_,rfl⟩,rfl⟩⟩;exact H.elim
 ·rename_i c d ho z;split at H
  ·rename_i s x t tx c0 e0 V xs p q G D;split at H
   ·rename_i c1 sv aa ab;cases f:Nat.beq c1 c0 with
    |false=>rw[f]at H;exact H.elim
    |true=>
     obtain rfl:=Al f;rw[f]at H;simp only[cond_true]at H;cases hR:qh d cs with
     |false=>rw[hR]at H;exact H.elim
     |true=>
      rw[hR]at H;simp only[cond_true]at H;obtain⟨el,ty,ys,O,m⟩:=qfa (h0:=h0) (W:=W) (M0:=M0) (d:=d) ho p q G H;have run:∀(n:Nat) (γ:Gh) (h:zb) (a:Act) (Y:CS),SatA n e γ a->Inv h0 W M0 (Y++cs) γ h->(∀L,(Td (c1,Ch.row e0 V xs):Option (Nat×Ch))=Td L->L∈Y++cs/\∀x∈Y++cs,x.1=L.1->x.2=L.2)->qh d (Y++cs)=Ta ->
        ExA P (execOp a.eval o) h λv h'=>∃γ',DenV γ' (.g (.a (.own d))) v/\Inv h0 W M0 ((d,.row el ty ys)::Wh c1 (Y++cs)) γ' h'/\Gx (Td d) γ γ':=by
       intro n γ h a Y l I F w;obtain⟨h1,Z⟩:=F _ rfl;have hf:=zmy h1 Z;refine(m γ h a (Y++cs) c1 I hf (zo l (c:=[]) trivial aa) (zo l (c:=[]) trivial ab)).mono ?_;rintro v h' ⟨av,C',L,γ',⟨rfl,rfl,rfl⟩,B,u,y⟩;rw[AR,zr3 (zd5 w)]at u;exact⟨γ',B,u,y⟩
      cases own with
      |true=>refine⟨Td (d,.row el ty ys),Td (c1,.row e0 V xs),.g (.a (.own d)),⟨λn γ h a Y l I w F N _=>?_,λn γ a l r=>absurd trivial r,λb f=>?_,λ_=>⟨d,z,hR⟩⟩,O,λc p=>by cases p;exact D⟩;refine(run n γ h a Y l I F (w _ rfl)).mono ?_;rintro v h' ⟨γ',B,u,y⟩;exact⟨_,γ',rfl,B,u,y⟩;cases f;exact⟨hR,z,.inr ⟨⟨_,_,_,rfl⟩,rfl⟩⟩
      |false=>refine⟨Te,Td (c1,.row e0 V xs),.g (.a (.d (.row ty) ys)),⟨λn γ h a Y l I w F N _=>?_,λn γ a l r=>absurd trivial r,λb f=>(by cases f),λ_=>⟨d,z,hR⟩⟩,O,λc p=>by cases p;exact D⟩;have E:=N d z (by simp);refine(run n γ h a Y l I F E).mono ?_;rintro v h' ⟨γ',B,u,y⟩;obtain⟨C,Q,S⟩:=Inv.freeze1 (A:=[]) u;have U:Rd C.M (.row ty) ys [slV (C.σ d)]:=Q.den (d,.fz ty ys) (by simp);have r:v=slV (γ'.σ d):=B;have hσ:C.σ d=γ'.σ d:=(S.2 d (by simp)).2;have J:=Q0 (zd5 (d:=c1) E);refine⟨_,{ C with β:=γ.β,σ:=γ.σ },rfl,?_,?_,⟨y.1.trans S.1,λi _=>⟨rfl,rfl⟩⟩⟩;show Rd C.M (.row ty) ys [v];rw[r,<-hσ];exact U;refine Q.rest (by simp[qe4]) (c:=Td d) ⟨Fr.le.refl _,λi hi=>?_⟩ (λx m=>⟨(J x m).1,(J x m).2⟩) (λx m b f=>⟨rfl,(Q.sep x (by simp;exact .inr m) b f).2⟩) Q.ag (λ_ _ _=>rfl) (Ab _) (λ_ _=>rfl);have a1:=y.2 i hi;have a2:=S.2 i (by simp);exact⟨a1.1.symm.trans a2.1.symm,a1.2.symm.trans a2.2.symm⟩
   exact H.elim
  exact H.elim
 exact H.elim
def qt(ops:Array Oper)(m:Nat):List Nat:=xd (ops.toList.take m)
def Yu(av:AV):List Nat->Bool
 |[]=>Ta
 |s::l=>bif z2x s av then Tc else Yu av l
theorem zmz{av:AV}:∀{l:List Nat},Yu av l=Ta->∀s∈l,z2x s av=Tc
 |[],_,s,b=>by cases b
 |x::l,h,s,b=>by
  simp only[Yu]at h;cases hb:z2x x av with
  |true=>rw[hb]at h;cases h
  |false=>rw[hb]at h;rcases Ai.1 b with rfl|b;exact hb;exact zmz h s b
def zhh(S:List Nat):qg->qg
 |[]=>[]
 |(i,[],v)::e=>bif memN S i then zhh S e else(bif Yu v S then(i,[],v)::zhh S e else zhh S e)
 |(_,_::_,_)::e=>zhh S e
theorem ww{S:List Nat}{x:Nat×zx×AV}:∀{e:qg},x∈zhh S e->x∈e/\x.2.1=[]/\x.1∉S/\Yu x.2.2 S=Ta
 |[],h=>by cases h
 |(i,[],v)::e,h=>by
  simp only[zhh]at h;cases hm:memN S i with
  |true=>rw[hm]at h;exact⟨Ae _ (ww h).1,(ww h).2⟩
  |false=>
   rw[hm]at h;simp only[cond_false]at h;cases hn:Yu v S with
   |false=>rw[hn]at h;exact⟨Ae _ (ww h).1,(ww h).2⟩
   |true=>rw[hn]at h;rcases Ai.1 h with rfl|h;exact⟨Am,rfl,Qp hm,hn⟩;exact⟨Ae _ (ww h).1,(ww h).2⟩
 |(_,_::_,_)::e,h=>⟨Ae _ (ww (e:=e) h).1,(ww (e:=e) h).2⟩
def qlq(ops:Array Oper)(o:Oper):zx->Bool
 |[]=>Ta
 |[(g,_)]=>match o.guard with
  |some (j,_)=>match yv ops j with
   |some g'=>Nat.beq g g'
   |none=>Tc
  |none=>Tc
 |_=>Tc
def qdb:List Nat->Nat->Bool
 |[x],k=>Nat.beq x k
 |_,_=>Tc
def inL:List Nat->Nat->Bool
 |[],_=>Tc
 |x::l,k=>bif Nat.beq x k then Ta else inL l k
theorem z4b{k:Nat}:∀{l:List Nat},inL l k=Ta->k∈l
 |[],h=>by cases h
 |x::l,h=>by
  simp only[inL]at h;cases hb:Nat.beq x k with
  |true=>rw[Al hb];exact Am
  |false=>rw[hb]at h;exact Ae _ (z4b h)
def zjl(ops:Array Oper)(m:Nat)(o:Oper)(k:Nat)(pl:Array Bool):Bool:=
 bif Nat.blt k m then(bif Qv ops k (Zo ops o) m then(bif ye o then qdb (Region.ready .any ops pl) k else inL (Region.ready .any ops pl) k)else Tc)else Tc
def zr4(S:List Nat)(av:AV)(b:Option (Nat×Ch)):Bool:=match b with
 |none=>Yu av S
 |some _=>Ta
def z0h(pl:Array Bool):Nat->Bool
 |0=>Ta
 |k+1=>bif pl.getD k Tc then z0h pl k else Tc
theorem zm0{pl:Array Bool}:∀{m:Nat},z0h pl m=Ta->∀k,k<m->pl.getD k Tc=Ta
 |0,_,k,hk=>by omega
 |m+1,h,k,hk=>by
  simp only[z0h]at h;cases hb:pl.getD m Tc with
  |false=>rw[hb]at h;cases h
  |true=>
   rw[hb]at h;rcases AX k m with h1|h1;exact zm0 h k h1;have:k=m:=by omega
   subst this;exact hb
def zxm(P:Program)(ρ:Operand->Option AV)(o:Oper):Bool:=bif zll o then(bif isQ P o then(bif Yg o.op then zja ρ o.op.operands.toList else Tc)else Tc)else Tc
def zfn(P:Program)(e:qg)(c:zx)(o:Oper):Bool:=match o.op with
 |.pick _ _ _=>Ta
 |.move _=>Ta
 |.assign _=>Ta
 |.extract _ _=>Ta
 |.alloc _=>Tc
 |.box _ _=>Tc
 |.buildSlice _ _ _=>Tc
 |.call _=>Tc
 |.load _ _=>Tc
 |.indexAddr _ _ _=>Tc
 |_=>zxm P (zhe e c) o
theorem zr5{e:qg}(h:zfn P e c o=Ta):ye o=Tc:=by unfold ye;split;rename_i c b;rw[zfn,b]at h;cases h;rfl
def zd6(P:Program)(o:Oper)(e:qg)(ch:zx)(Kan:AV->Prop):Prop:=
 ∀av,Kan av->∀(n:Nat) (γ:Gh) (a:Act),SatA n e γ a->valid (zz a) ch->∃v,DenV γ av v/\∀w,(execOp a.eval o).run P w=.ok (.value v) w
theorem QExec.all{α:Type}{s:Sem α}{x:α}(H:∀h,QExec P s h x)(w:World):s.run P w=.ok x w:=H w.heap w w.drawn
theorem z4c{e:qg}{K:AV->Prop}(H:qa7 P gl o e c cs K)(A:zfn P e c o=Ta):∃av,K av/\zd6 P o e c (· = av):=by
 unfold qa7 at H;split at H;rename_i x y z r;obtain⟨av,h1,F⟩:=Wn H;refine⟨av,h1,λm e' n γ a k f=>?_⟩;obtain⟨t,Q,N⟩:=F n γ a k f;subst e';refine⟨_,N,QExec.all λh B d=>?_⟩;simp only[execOp,r,Q,asBool,Sem.run_bind,Sem.run_pure,Result.andThen_ok];rename_i J;split at H;rename_i g G;unfold qA at H;split at H;rename_i b s;exact⟨_,H,λm e' n γ a k f=>⟨_,e' ▸ (show DenV γ (.g (.a (.v (.bool b)))) _ from rfl),QExec.all λh=>zrt s (λx av D=>zo k f D) h⟩⟩;split at H;rename_i b s;exact⟨_,H,λm e' n γ a k f=>⟨_,e' ▸ (show DenV γ (.g (.a (.v (.bool b)))) _ from rfl),QExec.all λh=>zmp s (λx av D=>zo k f D) h⟩⟩;split at H;rename_i t b off w;exfalso;unfold qet at w;split at w;rename_i t' x r;rw[zfn,r]at A;cases A;cases w;split at H;rename_i b off n len z w;exfalso;unfold qeu at w;split at w;rename_i t' x i r;rw[zfn,r]at A;cases A;cases w;unfold qA0 at H;cases s:zxm P (zhe e c) o with
 |true=>
  unfold zxm at s;rw[s]at H;cases hfam:zll o with
  |false=>rw[hfam]at s;cases s
  |true=>
   cases hq:isQ P o with
   |false=>rw[hfam,hq]at s;cases s
   |true=>
    cases hns:Yg o.op with
    |false=>rw[hfam,hq,hns]at s;cases s
    |true=>rw[hfam,hq,hns]at s;simp only[cond_true]at s H;obtain⟨v,h1,F⟩:=ze9 hfam H;refine⟨_,h1,λm e' n γ a k f=>⟨v,e' ▸ Ji γ v,QExec.all λh=>?_⟩⟩;rw[zri (γ:=γ) (λx av D=>zo k f D) hns s];exact F (xn k G f) h ⟨by simp,λi hi=>absurd hi (by simp)⟩
 |false=>
  have E:=s;unfold zxm at E;rw[E]at H;simp only[cond_false]at H;unfold zfn at A;split at A;rename_i x y z r;exact absurd r (J x y z);rename_i x r;rw[r]at H;simp only at H;split at H;rename_i av q;exact⟨av,H,λm e' n γ a k f=>⟨_,e' ▸ zo k f q,QExec.all λh=>by simp only[execOp,r];exact QExec.pure _⟩⟩;exact H.elim;rename_i x r;rw[r]at H;simp only at H;split at H;rename_i av q;exact⟨av,H,λm e' n γ a k f=>⟨_,e' ▸ zo k f q,QExec.all λh=>by simp only[execOp,r];exact QExec.pure _⟩⟩;exact H.elim;rename_i x i r;rw[r]at H;simp only at H;split at H;rename_i l q;split at H;rename_i ag I;refine⟨_,H,λm e' n γ a k f=>?_⟩;subst e';obtain⟨us,C,F⟩:=zo k f q;obtain⟨u,O,L⟩:=F.get I;refine⟨u,L,QExec.all λh=>?_⟩;simp only[execOp,r,C];refine QExec.val λB d=>?_;unfold Instr.extract;simp[O];exact H.elim;rename_i b p c q;split at H;refine⟨_,H,λm e' n γ a k f=>⟨_,e' ▸ (show DenV γ (.g (.a (.v (.bool b)))) _ from rfl),QExec.all λh=>?_⟩⟩;obtain⟨C,M⟩:=zo k f q;simp only[execOp,r];refine QExec.val λB d=>?_;cases b with
  |true=>rw[C rfl];rfl
  |false=>rw[M rfl];rfl
  refine⟨_,H.2,λm e' n γ a k f=>⟨_,e' ▸ (show DenV γ (.g (.a (.v (.int .i64 p)))) _ from rfl),QExec.all λh=>?_⟩⟩;obtain⟨C,_⟩:=zo k f q;simp only[execOp,r,C (H.1.out (xn k G f))];exact QExec.val λB d=>rfl;refine⟨_,H.2,λm e' n γ a k f=>⟨_,e' ▸ (show DenV γ (.g (.a (.v (.int .i32 c)))) _ from rfl),QExec.all λh=>?_⟩⟩;obtain⟨C,_⟩:=zo k f q;simp only[execOp,r,C (H.1.out (xn k G f))];exact QExec.val λB d=>rfl;exact H.elim;exact H.elim;cases A;cases A;cases A;cases A;cases A;cases A;rw[s]at A;cases A
 exact H.elim
theorem z0i{e:qg}{ch:zx}{K:AV->Option (Nat×Ch)->Prop}(H:z3z P gl tr o e ch cs K)(f:zfn P e ch o=Ta):
  ∃av,Spec h0 W M0 P o e ch cs Te (· = av)/\K av Te/\zd6 P o e ch (· = av):=by
 have q:qa7 P gl o e ch cs λav=>K av Te:=by unfold z3z at H;split at H;rename_i t i;rw[zfn,i]at f;cases f;rename_i t x i;rw[zfn,i]at f;cases f;rename_i t n ps i;rw[zfn,i]at f;cases f;rename_i c i;rw[zfn,i]at f;cases f;exact H
 obtain⟨av,h1,m⟩:=z4c q f;refine⟨av,⟨λn γ h a Y k I _ _ _ l=>?_,λn γ a k l=>⟨rfl,rfl,av,rfl⟩,λb p=>(by cases p),λu=>absurd rfl u⟩,h1,m⟩;obtain⟨v,r,s⟩:=m av rfl n γ a k l;exact λB d=>.inl ⟨v,d,h,s _,av,γ,rfl,r,I,Gx.refl _ _⟩
def z4d(ops:Array Oper)(k:Nat)(o:Oper)(j:Nat):Bool:=bif Nat.beq j k then Ta else bif Region.waitsFor .any ops j k then Ta else bif Region.waitsFor .any ops k j then Ta else match ops[j]? with
 |some b=>o.apart ops b
 |none=>Ta
def zve(ops:Array Oper)(k:Nat)(o:Oper):Nat->Bool
 |0=>Ta
 |j+1=>bif z4d ops k o j then zve ops k o j else Tc
theorem zm1{ops:Array Oper}{k:Nat}{o:Oper}:∀{n:Nat},zve ops k o n=Ta->∀j b,j<n->ops[j]?=Td b->j≠k->Region.waitsFor .any ops j k=Tc->Region.waitsFor .any ops k j=Tc->o.apart ops b=Ta
 |0,_,j,b,hj,_,_,_,_=>by omega
 |n+1,h,j,b,hj,ho,h1,h2,h3=>by
  simp only[zve]at h;cases hx:z4d ops k o n with
  |false=>rw[hx]at h;cases h
  |true=>
   rw[hx]at h;rcases AX j n with c|c;exact zm1 h j b c ho h1 h2 h3;have:j=n:=by omega
   subst this;have e:Nat.beq j k=Tc:=by
    cases hb:Nat.beq j k with
    |false=>rfl
    |true=>exact absurd (Al hb) h1
   unfold z4d at hx;rw[e,h2,h3,ho]at hx;exact hx
def z4e(P:Program)(ops:Array Oper)(pu:List Nat)(o:Oper)(k:Nat)(e:qg)(ch:zx):Bool:=
 bif memN pu k then(bif zfn P e ch o then zve ops k o ops.size else Tc)else Ta
def qfc(ops:Array Oper)(m k:Nat):Option Nat->Bool
 |none=>Ta
 |some j=>bif Nat.blt j m then Region.waitsFor .any ops j k else Tc
def uC(pu:List Nat)(k:Nat):Option (Option Nat):=bif memN pu k then Te else qa9 pu k
def qfd:List It->List It
 |[]=>[]
 |i::l=>(match i.us with
  |some _=>{ i with nb:=Te }
  |none=>i)::qfd l
def dW(P:Program)(gl:Fr)(tr:TypeId)(n:Nat)(ops:Array Oper)(m:Nat)(pu:List Nat)(b:qg)(cs:CS)(Kt:List It->Prop):List Nat->Array Bool->List It->Prop
 |[],pl,IL=>bif z0h pl m then Kt (qfd IL)else False
 |k::ord,pl,IL=>match ops[k]? with
  |none=>False
  |some o=>bif zjl ops m o k pl then(match Yt ops (Xk (Zo ops o) (itE IL++b)) o.guard with
   |some ch=>bif qlq ops o ch then(bif jk n ch o.dst then(bif z4e P ops pu o k (Xk (Zo ops o) (itE IL++b)) ch then(match uC pu k with
    |none=>z3z P gl tr o (Xk (Zo ops o) (itE IL++b)) ch cs (λav c=>bif zr4 (qt ops m) av c then dW P gl tr n ops m pu b cs Kt ord (pl.setIfInBounds k Ta) (⟨k,o.dst,ch,av,c,Te⟩::IL)else False)
    |some us=>bif qfc ops m k us then(match ch with
     |[]=>qfb P tr o k (Xk (Zo ops o) (itE IL++b)) IL cs us.isSome (λav c _=>bif zr4 (qt ops m) av c then dW P gl tr n ops m pu b cs Kt ord (pl.setIfInBounds k Ta) (⟨k,o.dst,[],av,c,us⟩::IL)else False)
     |_=>False)else False)else False)else False)else False
   |none=>False)else False
def strip(listed:Array Bool)(i:It):It:=match i.us with
 |some j=>bif listed.getD j Tc then { i with nb:=Te } else i
 |none=>i
theorem zfo(listed:Array Bool)(i:It):(strip listed i).k=i.k/\(strip listed i).dst=i.dst/\(strip listed i).ch=i.ch/\(strip listed i).av=i.av/\(strip listed i).us=i.us/\((strip listed i).nb=i.nb\/(strip listed i).nb=Te):=by
 unfold strip;split;cases listed.getD _ Tc with
 |true=>exact⟨rfl,rfl,rfl,rfl,rfl,.inr rfl⟩
 |false=>exact⟨rfl,rfl,rfl,rfl,rfl,.inl rfl⟩
 exact⟨rfl,rfl,rfl,rfl,rfl,.inl rfl⟩
def zfp(k:Nat)(i:It):It:=match i.us with
 |some j=>bif Nat.beq j k then { i with nb:=Te } else i
 |none=>i
theorem zxn(k:Nat)(i:It):(zfp k i).k=i.k/\(zfp k i).dst=i.dst/\(zfp k i).ch=i.ch/\(zfp k i).av=i.av/\(zfp k i).us=i.us/\((zfp k i).nb=i.nb\/(zfp k i).nb=Te):=by
 unfold zfp;split;cases Nat.beq _ k with
 |true=>exact⟨rfl,rfl,rfl,rfl,rfl,.inr rfl⟩
 |false=>exact⟨rfl,rfl,rfl,rfl,rfl,.inl rfl⟩
 exact⟨rfl,rfl,rfl,rfl,rfl,.inl rfl⟩
def Z4(listed:Array Bool):List It->List It
 |[]=>[]
 |i::l=>bif listed.getD i.k Tc then strip listed i::Z4 listed l else Z4 listed l
theorem zol{listed:Array Bool}{i:It}:∀{l:List It},i∈l->listed.getD i.k Tc=Ta->strip listed i∈Z4 listed l
 |j::l,h,hl=>by
  simp only[Z4];rcases Ai.1 h with rfl|h;rw[hl];exact Am;cases listed.getD j.k Tc with
  |true=>exact Ae _ (zol h hl)
  |false=>exact zol h hl
theorem Wr{listed:Array Bool}{x:It}:∀{l:List It},x∈Z4 listed l->∃i∈l,listed.getD i.k Tc=Ta/\x=strip listed i
 |j::l,h=>by
  simp only[Z4]at h;cases hl:listed.getD j.k Tc with
  |true=>rw[hl]at h;rcases Ai.1 h with rfl|h;exact⟨j,Am,hl,rfl⟩;obtain⟨i,hi,q⟩:=Wr h;exact⟨i,Ae _ hi,q⟩
  |false=>rw[hl]at h;obtain⟨i,hi,q⟩:=Wr h;exact⟨i,Ae _ hi,q⟩
structure ItOK (h0:zb) (W:Nat->Prop) (M0:Fr) (P:Program) (n:Nat) (ops:Array Oper) (m:Nat) (pu:List Nat) (e0:qg) (cs:CS) (IL:List It) (it:It) (Kan:AV->Prop):Prop where
 lt:it.k<m
 dst:yv ops it.k=it.dst
 ok:jk n it.ch it.dst=Ta
 chw:∀x∈it.ch,∀p,p<m->yv ops p=Td x.1->Region.waitsFor .any ops it.k p=Ta
 ex:∃o e eat,ops[it.k]?=Td o/\Yt ops e o.guard=Td it.ch/\Spec h0 W M0 P o e it.ch cs it.nb Kan eat /\
  (∀x∈e,x∈e0\/(x∈itE IL/\∀p,p<m->yv ops p=Td x.1->Region.waitsFor .any ops it.k p=Ta)) /\
  (memN pu it.k=Ta->it.nb=Te/\zd6 P o e it.ch Kan/\zve ops it.k o ops.size=Ta/\ye o=Tc) /\
  (∀c,eat=Td c->∃i∈IL,i.nb=Td c/\i.us=Td it.k)
 use:∀j,it.us=Td j->j<m/\Region.waitsFor .any ops j it.k=Ta
 men:∀av,Kan av->it.nb=Te->Yu av (qt ops m)=Ta
theorem ItOK.mono{k:qg}{p b:List It}{it:It}{Kan:AV->Prop}(H:ItOK h0 W M0 P n ops m pu k cs p it Kan)(l:∀i∈p,i∈b):ItOK h0 W M0 P n ops m pu k cs b it Kan:= {lt:=H.lt,dst:=H.dst,ok:=H.ok,chw:=H.chw,men:=H.men,use:=H.use,ex:=by obtain⟨o,e,eat,h1,z,w,s,h,f⟩:=H.ex;refine⟨o,e,eat,h1,z,w,λx y=>(s x y).imp id λ⟨u,r⟩=>⟨?_,r⟩,h,λc t=>by obtain⟨i,hi,q⟩:=f c t;exact⟨i,l i hi,q⟩⟩;obtain⟨i,hi,q⟩:=zag.1 u;exact zag.2 ⟨i,l i hi,q⟩ }
theorem Zz{i p:Nat}(hi:i∈Region.ready .any ops listed)(n:Region.waitsFor .any ops i p=Ta):listed.getD p Tc=Ta:=by obtain⟨l,c,e,h,k,f⟩:=Region.waitsFor_spec n;obtain⟨_,o,m,b⟩:=mem_ready.1 hi;have:l=o:=Az (c.symm.trans m);subst this;rw[<-f];exact b e h k
structure Mid (h0:zb) (W:Nat->Prop) (M0:Fr) (P:Program) (n:Nat) (ops:Array Oper) (m:Nat) (e0:qg) (cs:CS) (listed:Array Bool) (IL:List It) (γ:Gh) (a:Act) (h:zb):Prop where
 sat:SatA n (itE (Z4 listed IL)++e0) γ a
 inv:Inv h0 W M0 (itC (Z4 listed IL)++cs) γ h
theorem Ws{k:Nat}(h:ops[k]?=Td o):yv ops k=o.dst:=by simp[yv,h]
theorem zfq{m k t:Nat}(f:k<m)(h:yv ops k=Td t):t∈qt ops m:=by
 unfold yv at h;split at h;rename_i o e;unfold qt;have b:o∈ops.toList.take m:=by rw[List.mem_iff_getElem?];exact⟨k,by rw[AK,if_pos f];simpa using e⟩
 generalize ops.toList.take m=l at b;induction l with
 |nil=>cases b
 |cons x l c=>simp only[xd];rcases Ai.1 b with rfl|b;rw[h];exact Am;split;exact Ae _ (c b);exact c b
 cases h
theorem zjm{x:Nat×Ch}:∀{l:List It},x∈itC l↔∃i∈l,i.nb=Td x
 |[]=>by simp[itC]
 |i::l=>by simp only[itC];split;rename_i b e;rw[Ai,zjm (l:=l)];constructor;rintro(rfl|⟨j,c,h⟩);exact⟨i,Am,e⟩;exact⟨j,Ae _ c,h⟩;rintro⟨j,c,h⟩;rcases Ai.1 c with rfl|c;left;rw[e]at h;exact(Az h).symm;exact .inr ⟨j,c,h⟩;rename_i e;rw[zjm (l:=l)];constructor;rintro⟨j,c,h⟩;exact⟨j,Ae _ c,h⟩;rintro⟨j,c,h⟩;rcases Ai.1 c with rfl|c;rw[e]at h;cases h;exact⟨j,c,h⟩
theorem zxo{c:Nat}:∀{l:CS},(∀x∈l,x.1≠c/\zfh c x.2=Tc)->qh c l=Ta
 |[],_=>rfl
 |(j,k)::l,h=>by
  obtain⟨h1,e⟩:=h _ Am;simp only[qh];have:Nat.beq j c=Tc:=by
   cases hb:Nat.beq j c with
   |false=>rfl
   |true=>exact absurd (Al hb) h1
  rw[this,e];exact zxo λx b=>h x (Ae _ b)
theorem zm2{e0:qg}(aa:Yp ops m=Ta)(aQ:∀x∈e0,x.2.1=[]/\x.1∉qt ops m/\Yu x.2.2 (qt ops m)=Ta)
  {t:List It} (I:∀i∈t,∃Kan,ItOK h0 W M0 P n ops m pu e0 cs t i Kan/\Kan i.av) (ar:∀i∈t,∀j∈t,i.k=j.k->i=j) (a6:HeadInv .any ops m listed) (M:Mid h0 W M0 P n ops m e0 cs listed t γ a h)
  {it:It} {Kan:AV->Prop} (T:ItOK h0 W M0 P n ops m pu e0 cs t it Kan) (hr:it.k∈Region.ready .any ops listed):
  ∃o e eat,ops[it.k]?=Td o/\o.dst=it.dst/\SatA n e γ a/\Yt ops e o.guard=Td it.ch/\Spec h0 W M0 P o e it.ch cs it.nb Kan eat/\(memN pu it.k=Ta->it.nb=Te/\zd6 P o e it.ch Kan/\zve ops it.k o ops.size=Ta/\ye o=Tc) /\
   (∀b,it.nb=Td b->qh b.1 (itC (Z4 listed t)++cs)=Ta) /\
   (∀c,eat=Td c->c∈itC (Z4 listed t)++cs/\∀x∈itC (Z4 listed t)++cs,x.1=c.1->x.2=c.2)/\(∀d,o.dst=Td d->eat≠Te->qh d (itC (Z4 listed t)++cs)=Ta) /\
   ∀av u γ' h',Kan av->(valid (zz a) it.ch->DenV γ' av u)->(¬valid (zz a) it.ch->u=undef)->Inv h0 W M0 (it.nb.toList++qe4 eat (itC (Z4 listed t)++cs)) γ' h'->Gx (it.nb.map (·.1)) γ γ' ->
    ∀L':List It,L'.Perm ({ it with av:=av }::(Z4 listed t).map (zfp it.k))->SatA n (itE L'++e0) γ' (a.put it.dst u)/\Inv h0 W M0 (itC L'++cs) γ' h':=by
 obtain⟨o,e,eat,ho,aA,sp,aE,aF,U⟩:=T.ex
 have af:o.dst=it.dst:=by rw[<-Ws ho];exact T.dst
 have ap:listed.getD it.k Ta=Tc:=(mem_ready.1 hr).1
 have ai:SatA n e γ a:=M.sat.sub λx r=>by
  rcases aE x r with h1|⟨h1,L⟩
  ·exact AC _ h1
  ·refine Ar _ ?_
   obtain⟨i,hi,q⟩:=zag.1 h1
   obtain⟨Ki,F,_⟩:=I i hi
   have hw:=L i.k F.lt (by rw[F.dst];exact q.1)
   obtain⟨f1,f2,f3,f4,_⟩:=zfo listed i
   exact zag.2 ⟨strip listed i,zol hi (Zz hr hw),by rw[f2];exact q.1,by rw[f3];exact q.2.1,by rw[f4];exact q.2.2⟩
 have hw:=xt ai aA
 have ak:∀i∈Z4 listed t,i.k≠it.k:=by
  intro x hi e
  obtain⟨i,B,this,rfl⟩:=Wr hi
  rw[(zfo listed i).1]at e
  rw[e]at this
  have L:=getD_both ap
  rw[L]at this
  cases this
 have aj:∀d,o.dst=Td d->qh d cs=Ta->qh d (itC (Z4 listed t)++cs)=Ta:=by
  intro d L h1
  refine zxo λx r=>?_
  rcases Aw.1 r with r|r
  ·obtain⟨i',hi,w⟩:=zjm.1 r
   obtain⟨i,B,hi2,rfl⟩:=Wr hi
   have ab:=ak _ hi
   obtain⟨f1,_,_,_,_,H⟩:=zfo listed i
   have z:i.nb=Td x:=by
    rcases H with H|H
    ·rw[<-H];exact w
    ·rw[H]at w;cases w
   obtain⟨Ki,F,ax⟩:=I i B
   obtain⟨oi,ei,aH,Q,_,S,_,_⟩:=F.ex
   obtain⟨_,h4,N⟩:=S.box x z
   refine⟨λe=>ab ?_,?_⟩
   ·rw[f1]
    refine wa aa i.k it.k d F.lt T.lt ?_ (by rw[T.dst,<-af];exact L)
    rw[Ws Q,h4,e]
   ·rcases N with⟨⟨l,N,h6⟩,_⟩|⟨⟨e',t',bg,N⟩,_⟩
    ·rw[N];exact Qs h6
    ·rw[N];rfl
  ·obtain⟨e1,e2⟩:=Q0 h1 x r
   exact⟨λe=>e1 (by rw[e]),e2⟩
 have aB:∀b,it.nb=Td b->qh b.1 (itC (Z4 listed t)++cs)=Ta:=by
  intro b E
  obtain⟨h1,L,_⟩:=sp.box b E
  exact aj b.1 L h1
 have aY:∀d,o.dst=Td d->eat≠Te->qh d (itC (Z4 listed t)++cs)=Ta:=by
  intro d hd he
  obtain⟨d',aT,hn⟩:=sp.dn he
  have:d'=d:=Az (aT.symm.trans hd)
  subst this
  exact aj d' hd hn
 have aJ:∀c,eat=Td c->∀i∈t,∀b,i.nb=Td b->b.1=c.1->i.us=Td it.k/\b=c:=by
  intro c A i hi b E e1
  obtain⟨Y,D,G,J⟩:=U c A
  obtain⟨Ki,F,_⟩:=I i hi
  obtain⟨K3,T3,_⟩:=I Y D
  obtain⟨oi,ei,aH,Q,_,S,_⟩:=F.ex
  obtain⟨o3,e3,aP,aI,_,an,_⟩:=T3.ex
  obtain⟨_,d1,_⟩:=S.box b E
  obtain⟨_,d3,_⟩:=an.box c G
  have hk:i.k=Y.k:=wa aa i.k Y.k c.1 F.lt T3.lt (by rw[Ws Q,d1,e1]) (by rw[Ws aI,d3])
  have:i=Y:=ar i hi Y D hk
  subst this
  exact⟨J,Az (E.symm.trans G)⟩
 have aG:∀c,eat=Td c->qh c.1 cs=Ta:=by
  intro c A
  obtain⟨Y,D,G,J⟩:=U c A
  obtain⟨K3,T3,_⟩:=I Y D
  obtain⟨o3,e3,aP,aI,_,an,_⟩:=T3.ex
  exact(an.box c G).1
 have ba:∀x∈itC (Z4 listed t),∃i∈t,i.nb=Td x:=by
  intro x r
  obtain⟨i',hi,w⟩:=zjm.1 r
  obtain⟨i,B,hi2,rfl⟩:=Wr hi
  rcases(zfo listed i).2.2.2.2.2 with H|H
  ·exact⟨i,B,by rw[<-H];exact w⟩
  ·rw[H]at w;cases w
 have az:∀c,eat=Td c->c∈itC (Z4 listed t)++cs/\∀x∈itC (Z4 listed t)++cs,x.1=c.1->x.2=c.2:=by
  intro c A
  refine⟨Ar _ ?_,λx r e=>?_⟩
  ·obtain⟨Y,D,G,J⟩:=U c A
   obtain⟨K3,T3,_⟩:=I Y D
   have hw:=(T3.use _ J).2
   have hl:=Zz hr hw
   refine zjm.2 ⟨strip listed Y,zol D hl,?_⟩
   unfold strip
   rw[J]
   simp only
   rw[getD_both ap]
   exact G
  ·rcases Aw.1 r with r|r
   ·obtain⟨i,hi,z⟩:=ba x r
    rw[(aJ c A i hi x z e).2]
   ·exact absurd (by rw[e]) (Q0 (aG c A) x r).1
 refine⟨o,e,eat,ho,af,ai,aA,sp,aF,aB,az,aY,?_⟩
 ·intro av u γ' h' be hy hn I' g L' hp
  refine⟨?_,?_⟩
  ·refine⟨by rw[xh];exact M.sat.defers,by rw[size_put];exact M.sat.size,λx r=>?_⟩
   have old:∀x:Nat×zx×AV,x∈itE (Z4 listed t)++e0->(∀s,it.dst=Td s->x.1≠s/\mentions x.2.1 s=Tc)->z2y z2x (it.nb.map (·.1)) x.2.2=Tc->zoc γ' (zz (a.put it.dst u)) x:=by
    intro x r hs Z
    have hf:=M.sat.all x r
    cases hd:it.dst with
    |none=>
     exact⟨λhv=>(hf.1 hv).gx g Z,hf.2⟩
    |some s=>
     obtain⟨h1,L⟩:=hs s hd
     have hv:=Zl (σ:=zz (a.put (Td s) u)) (τ:=zz a) L (λj hj=>qe hj)
     refine⟨λA=>?_,λA=>?_⟩
     ·rw[qe h1];exact(hf.1 (hv.1 A)).gx g Z
     ·exact(qe h1).trans (hf.2 λau=>A (hv.2 au))
   have aC:∀s,it.dst=Td s->s∈qt ops m:=λs hs=>zfq T.lt (by rw[T.dst];exact hs)
   have ah:∀am,(Yu am (qt ops m)=Ta)->z2y z2x (it.nb.map (·.1)) am=Tc:=by
    intro am h1
    cases z:it.nb with
    |none=>rfl
    |some b=>
     obtain⟨_,L,_⟩:=sp.box b z
     exact zmz h1 b.1 (aC _ (by rw[<-af];exact L))
   rcases Aw.1 r with r|r
   ·obtain⟨i,hi,G,J,q3⟩:=zag.1 r
    rcases Ai.1 (hp.subset hi)with rfl|O
    ·-- the new fact
     simp only at G J q3
     have aM:x.1<a.tmps.size:=by
      rw[M.sat.size]
      have:=T.ok
      rw[G]at this
      simp only[jk]at this
      cases Z:mentions it.ch x.1 with
      |true=>rw[Z]at this;cases this
      |false=>rw[Z]at this;simpa[Cm]using this
     have aL:mentions it.ch x.1=Tc:=by
      have:=T.ok
      rw[G]at this
      simp only[jk]at this
      cases Z:mentions it.ch x.1 with
      |true=>rw[Z]at this;cases this
      |false=>rfl
     rw[G]
     have hv:=Zl (σ:=zz (a.put (Td x.1) u)) (τ:=zz a) aL (λj hj=>qe hj)
     refine⟨λA=>?_,λA=>?_⟩
     ·rw[w8 aM,<-q3];rw[<-J]at A;exact hy (hv.1 A)
     ·rw[w8 aM];rw[<-J]at A;exact hn λau=>A (hv.2 au)
    ·obtain⟨i1,aN,rfl⟩:=AJ.1 O
     obtain⟨c1,c2,c3,c4,_⟩:=zxn it.k i1
     rw[c2]at G
     rw[c3]at J
     rw[c4]at q3
     have O:=aN
     obtain⟨i,B,hi2,rfl⟩:=Wr O
     obtain⟨f1,f2,f3,f4,_⟩:=zfo listed i
     have aV:=zag.2 ⟨strip listed i,O,G,J,q3⟩
     rw[f2]at G
     rw[f3]at J
     rw[f4]at q3
     have ab:i.k≠it.k:=by rw[<-f1];exact ak _ O
     obtain⟨Ki,F,ax⟩:=I i B
     obtain⟨oi,ei,aH,Q,_,S,_,_⟩:=F.ex
     refine old x (Ar _ aV) (λs hs=>⟨λe=>ab ?_,?_⟩) ?_
     ·exact wa aa i.k it.k s F.lt T.lt (by rw[F.dst,G,e]) (by rw[T.dst];exact hs)
     ·cases Z:mentions x.2.1 s with
      |false=>rfl
      |true=>
       exfalso
       rw[<-J]at Z
       have:∃y∈i.ch,y.1=s:=by
        have key:∀c:zx,mentions c s=Ta->∃y∈c,y.1=s:=by
         intro c
         induction c with
         |nil=>intro h;cases h
         |cons y c C=>
          intro h
          obtain⟨g,p⟩:=y
          simp only[mentions]at h
          cases E:Nat.beq s g with
          |true=>exact⟨(g,p),Am,(Al E).symm⟩
          |false=>
           rw[E]at h
           obtain⟨y,hy,e⟩:=C h
           exact⟨y,Ae _ hy,e⟩
        exact key _ Z
       obtain⟨y,a7,aS⟩:=this
       have aU:=F.chw y a7 it.k T.lt (by rw[T.dst,hs,aS])
       obtain⟨oj,aO,e',a8,aZ,a1⟩:=Region.waitsFor_spec aU
       have:=a6.closed i.k oj aO hi2 e' a8 aZ
       rw[a1,getD_both ap]at this
       cases this
     ·rw[<-q3]
      cases hnbi:i.nb with
      |none=>exact ah _ (F.men _ ax hnbi)
      |some bi=>
       obtain⟨_,h4,N⟩:=S.box bi hnbi
       have V:i.av=.g (.a (.box bi.1 0))\/i.av=.g (.a (.own bi.1)):=by
        have:=ax
        rcases N with⟨_,N⟩|⟨_,N⟩
        ·rw[N]at this;exact .inl this
        ·rw[N]at this;exact .inr this
       cases z:it.nb with
       |none=>rfl
       |some b=>
        obtain⟨_,L,_⟩:=sp.box b z
        have:Nat.beq bi.1 b.1=Tc->z2y z2x (Option.map (λx=>x.fst) (Td b)) i.av=Tc:=λhq=>by
         rcases V with V|V
         ·rw[V];exact hq
         ·rw[V];exact hq
        apply this
        cases E:Nat.beq bi.1 b.1 with
        |false=>rfl
        |true=>
         exfalso
         have:=Al E
         exact ab (wa aa i.k it.k b.1 F.lt T.lt (by rw[Ws Q,h4,this]) (by rw[T.dst,<-af];exact L))
   ·obtain⟨b1,b2,b3⟩:=aQ x r
    exact old x (AC _ r) (λs hs=>⟨λe=>b2 (e ▸ aC s hs),by rw[b1];rfl⟩) (ah _ b3)
  ·have e1:itC ({ it with av:=av }::(Z4 listed t).map (zfp it.k))=it.nb.toList++itC ((Z4 listed t).map (zfp it.k)):=by
    simp only[itC]
    cases it.nb <;> rfl
   have ay:∀{l l':List It},l.Perm l'->(itC l).Perm (itC l'):=by
    intro l l' hp
    induction hp with
    |nil=>exact .nil
    |cons x p C=>simp only[itC];split;exact C.cons _;exact C
    |swap x y l=>
     simp only[itC]
     split <;> split <;> first|exact .swap _ _ _|exact .refl _
    |trans _ _ i1 i2=>exact i1.trans i2
   have sub:(itC ((Z4 listed t).map (zfp it.k))++cs).Sublist (qe4 eat (itC (Z4 listed t)++cs)):=by
    have s0:∀l:List It,(itC (l.map (zfp it.k))).Sublist (itC l):=by
     intro l
     induction l with
     |nil=>exact .slnil
     |cons x l C=>
      simp only[As,itC]
      rcases(zxn it.k x).2.2.2.2.2 with f|f
      ·rw[f]
       split
       ·exact C.cons_cons _
       ·exact C
      ·rw[f]
       simp only
       split
       ·exact C.cons _
       ·exact C
    cases he:eat with
    |none=>exact(s0 _).append_right cs
    |some c=>
     show(_:CS).Sublist (Wh c.1 (itC (Z4 listed t)++cs))
     have hd:Wh c.1 (itC (Z4 listed t)++cs)=Wh c.1 (itC (Z4 listed t))++cs:=by
      have ha:∀l m:CS,Wh c.1 (l++m)=Wh c.1 l++Wh c.1 m:=by
       intro l m
       induction l with
       |nil=>rfl
       |cons x l C=>
        simp only[AD,Wh]
        cases Nat.beq x.1 c.1 with
        |true=>exact C
        |false=>simp only[cond_false,C,AD]
      have E:∀l:CS,(∀x∈l,x.1≠c.1)->Wh c.1 l=l:=by
       intro l
       induction l with
       |nil=>intro _;rfl
       |cons x l C=>
        intro r
        simp only[Wh]
        cases hq:Nat.beq x.1 c.1 with
        |true=>exact absurd (Al hq) (r x Am)
        |false=>rw[cond_false,C λy hy=>r y (Ae _ hy)]
      rw[ha,E cs λx r e=>(Q0 (aG c he) x r).1 (by rw[e])]
     rw[hd]
     refine List.Sublist.append_right ?_ cs
     have s1:∀l:List It,(∀i∈l,∀b,i.nb=Td b->b.1=c.1->i.us=Td it.k)->(itC (l.map (zfp it.k))).Sublist (Wh c.1 (itC l)):=by
      intro l
      induction l with
      |nil=>intro _;exact .slnil
      |cons x l C=>
       intro hl
       have ae:=C λi hi=>hl i (Ae _ hi)
       simp only[As,itC]
       cases z:x.nb with
       |none=>
        have:(zfp it.k x).nb=Te:=by
         rcases(zxn it.k x).2.2.2.2.2 with f|f
         ·rw[f,z]
         ·exact f
        rw[this]
        exact ae
       |some b=>
        simp only[Wh]
        cases hq:Nat.beq b.1 c.1 with
        |true=>
         have hu:=hl x Am b z (Al hq)
         have:(zfp it.k x).nb=Te:=by
          unfold zfp
          rw[hu]
          simp
         rw[this,cond_true]
         exact ae
        |false=>
         rw[cond_false]
         rcases(zxn it.k x).2.2.2.2.2 with f|f
         ·rw[f,z];exact ae.cons_cons _
         ·rw[f];exact ae.cons _
     refine s1 _ λx r b E e=>?_
     obtain⟨i,B,hi2,rfl⟩:=Wr r
     obtain⟨_,_,_,_,f5,H⟩:=zfo listed i
     rw[f5]
     rcases H with H|H
     ·exact(aJ c he i B b (by rw[<-H];exact E) e).1
     ·rw[H]at E;cases E
   have I2:Inv h0 W M0 (it.nb.toList++(itC ((Z4 listed t).map (zfp it.k))++cs)) γ' h':=I'.sub (sub.append_left _)
   rw[<-AH,<-e1]at I2
   exact I2.perm ((ay hp.symm).append_right cs)
theorem zr6{w:qg}{Q:Exit->Act->World->Prop}(H:Yp ops m=Ta)(E:∀x∈w,x.2.1=[]/\x.1∉qt ops m/\Yu x.2.2 (qt ops m)=Ta) {f:List It} (I:∀i∈f,∃Kan,ItOK h0 W M0 P n ops m pu w cs f i Kan/\Kan i.av) (l:∀i∈f,∀j∈f,i.k=j.k->i=j) (D:HeadInv .any ops m listed) (M:Mid h0 W M0 P n ops m w cs listed f γ a h) {it:It} {Kan:AV->Prop} (T:ItOK h0 W M0 P n ops m pu w cs f it Kan) (Y:it.k∈Region.ready .any ops listed) {O:Act->World->Prop} (B:World) (d:Nat) (S:∀av u γ' h' F,Kan av->(∀G:List It,G.Perm ({ it with av:=av }::(Z4 listed f).map (zfp it.k))->SatA n (itE G++w) γ' (a.put it.dst u)/\Inv h0 W M0 (itC G++cs) γ' h')->Gx (it.nb.map (·.1)) γ γ'->O (a.put it.dst u) (mk B F h')):
  wpOp P ops Q it.k O a (mk B d h):=by
 obtain⟨o,e,eat,ho,A,b,C,sp,U,s,q,J,fin⟩:=zm2 H E I l D M T Y;have V:=xt b C;unfold wpOp;rw[ho];simp only;by_cases r:valid (zz a) it.ch;rw[if_pos (V.2 r)];left;have L:=sp.yes n γ h a (itC (Z4 listed f)) b M.inv s q J r;refine(ExA.upon L B d ?_);rintro v F h' ⟨av,γ',N,Z,g3,t⟩;rw[A];exact S av v γ' h' F N (fin av v γ' h' N (λ_=>Z) (λp=>absurd r p) g3 t) t;rw[if_neg λL=>r (V.1 L)];obtain⟨z,y,av,c⟩:=sp.no n γ a b r;rw[A];have t:Gx (it.nb.map (·.1)) γ γ:=by rw[z];exact Gx.refl _ _
 exact S av undef γ h d c (fin av undef γ h c (λp=>absurd p r) (λ_=>rfl) (by rw[z,y];exact M.inv) t) t
theorem z4f{D:qg}{Q:Exit->Act->World->Prop}(Z:Yp ops m=Ta)(U:∀x∈D,x.2.1=[]/\x.1∉qt ops m/\Yu x.2.2 (qt ops m)=Ta) {q:List It} (am:∀i∈q,∃Kan,ItOK h0 W M0 P n ops m pu D cs q i Kan/\Kan i.av) (s:∀i∈q,∀j∈q,i.k=j.k->i=j) (N:HeadInv .any ops m listed) (M:Mid h0 W M0 P n ops m D cs listed q γ a h) {it:It} {Kan:AV->Prop} (T:ItOK h0 W M0 P n ops m pu D cs q it Kan) (r:Kan it.av) (H:it.k∈Region.ready .any ops listed) (ai:memN pu it.k=Ta) (l:Region.noSelect ops=Ta) (hQ:∀c a w,¬Q (.panic c) a w) (B:World) (d:Nat) {f:Nat} (hK:∀u,(∀Y:List It,Y.Perm (it::(Z4 listed q).map (zfp it.k))->SatA n (itE Y++D) γ (a.put it.dst u)/\Inv h0 W M0 (itC Y++cs) γ h)->Gx (it.nb.map (·.1)) γ γ->wpAny P .any ops Q f (listed.setIfInBounds it.k Ta) (a.put it.dst u) (mk B d h)):
  wpAny P .any ops Q (f+1) listed a (mk B d h):=by
 obtain⟨o,e,eat,ho,G,b,J,sp,E,ap,aj,ar,fin⟩:=zm2 Z U am s N M T H;obtain⟨F,ah,y,_⟩:=E ai;have p:Inv h0 W M0 (it.nb.toList++qe4 eat (itC (Z4 listed q)++cs)) γ h:=by
  rw[F];refine M.inv.sub ?_;cases eat with
  |none=>exact List.Sublist.refl _
  |some c=>exact xb c.1 _
 have hw:=xt b J;have I:Gx (it.nb.map (·.1)) γ γ:=by rw[F];exact Gx.refl _ _
 have A:∀j z,ops[j]?=Td z->j≠it.k->listed.getD j Ta=Tc->(∀e∈z.after,Region.binds .any e=Ta->e.on≠it.k)->o.apart ops z=Ta:=by
  intro j z hj aa an ae;have S:j<ops.size:=(An.1 hj).1;refine zm1 y j z S hj aa ?_ ?_;cases hb:Region.waitsFor .any ops j it.k with
  |false=>rfl
  |true=>obtain⟨af,O,e',ab,V,ak⟩:=Region.waitsFor_spec hb;have:af=z:=Az (O.symm.trans hj);subst this;exact absurd ak (ae e' ab V)
  cases hb:Region.waitsFor .any ops it.k j with
  |false=>rfl
  |true=>have:=Zz H hb;rw[getD_both an]at this;cases this
 by_cases C:valid (zz a) it.ch;obtain⟨v,hd,L⟩:=ah it.av r n γ a b C;refine wpAny_first ho (Region.noSelect_spec l) (λc a w hq=>absurd hq (hQ c _ w)) f listed a (mk B d h) A H (.inl ⟨hw.2 C,L⟩) ?_;rw[G];exact hK v (fin it.av v γ h r (λ_=>hd) (λt=>absurd C t) p I) I;refine wpAny_first ho (Region.noSelect_spec l) (λc a w hq=>absurd hq (hQ c _ w)) f listed a (mk B d h) A H (.inr ⟨by simpa using λL=>C (hw.1 L),rfl⟩) ?_;rw[G];exact hK undef (fin it.av undef γ h r (λt=>absurd t C) (λ_=>rfl) p I) I
structure GInv (h0:zb) (W:Nat->Prop) (M0:Fr) (P:Program) (n:Nat) (ops:Array Oper) (m:Nat) (pu:List Nat) (e0:qg) (cs:CS) (listed pl:Array Bool) (IL:List It):Prop where
 size:pl.size=ops.size
 mem:∀k,pl.getD k Tc=Ta↔∃i∈IL,i.k=k
 dist:IL.Pairwise λi j=>i.k≠j.k
 items:∀i∈IL,∃Kan,ItOK h0 W M0 P n ops m pu e0 cs IL i Kan/\Kan i.av/\(listed.getD i.k Tc=Tc->Kan=(· = i.av))
 sub:∀k,listed.getD k Tc=Ta->pl.getD k Tc=Ta
def zia(ops:Array Oper):List Nat->Bool
 |[]=>Ta
 |k::_=>match ops[k]? with
  |some o=>ye o
  |none=>Tc
theorem getD_lt{k:Nat}(h:k<pl.size):pl.getD k Ta=pl.getD k Tc:=by simp[h]
theorem zvf(Q:Fr.le gl M0){s:qg}{Kt:List It->Prop}{k:Nat}{h:List It}(H:dW P gl tr n ops m pu s cs Kt (k::ord) pl h):
  ∃o ch b us Kan,ops[k]?=Td o/\zjl ops m o k pl=Ta/\(∀av,ItOK h0 W M0 P n ops m pu s cs h ⟨k,o.dst,ch,av,b,us⟩ Kan)/\(∀av,Kan av->dW P gl tr n ops m pu s cs Kt ord (pl.setIfInBounds k Ta) (⟨k,o.dst,ch,av,b,us⟩::h))/\(ye o=Tc->∃av,Kan=(· = av)):=by
 unfold dW at H
 split at H
 ·exact H.elim
 ·rename_i o S
  cases hst:zjl ops m o k pl with
  |false=>rw[hst]at H;exact H.elim
  |true=>
   rw[hst]at H
   simp only[cond_true]at H
   split at H
   ·rename_i ch I
    cases hco:qlq ops o ch with
    |false=>rw[hco]at H;exact H.elim
    |true=>
     rw[hco]at H
     cases hok:jk n ch o.dst with
     |false=>rw[hok]at H;exact H.elim
     |true=>
      rw[hok]at H
      simp only[cond_true]at H
      cases hpo:z4e P ops pu o k (Xk (Zo ops o) (itE h++s)) ch with
      |false=>rw[hpo]at H;exact H.elim
      |true=>
      rw[hpo]at H
      simp only[cond_true]at H
      have u:∃b us eat Kan,Spec h0 W M0 P o (Xk (Zo ops o) (itE h++s)) ch cs b Kan eat/\(∀av,Kan av->(bif zr4 (qt ops m) av b then dW P gl tr n ops m pu s cs Kt ord (pl.setIfInBounds k Ta) (⟨k,o.dst,ch,av,b,us⟩::h)else False))/\(ye o=Tc->∃av,Kan=(· = av)) /\
        (memN pu k=Ta->b=Te/\zd6 P o (Xk (Zo ops o) (itE h++s)) ch Kan/\zve ops k o ops.size=Ta/\ye o=Tc) /\
        (∀c,eat=Td c->∃i∈h,i.nb=Td c/\i.us=Td k)/\(∀j,us=Td j->j<m/\Region.waitsFor .any ops j k=Ta):=by
       unfold z4e at hpo
       unfold uC at H
       cases hmp:memN pu k with
       |false=>
        rw[hmp,cond_false]at H
        split at H
        ·obtain⟨b,Kan,h1,r,F⟩:=zvc (h0:=h0) (W:=W) (M0:=M0) Q H
         exact⟨b,Te,Te,Kan,h1,r,F,λl=>(by cases l),λc l=>(by cases l),λj z=>by cases z⟩
        ·rename_i us Y
         cases huo:qfc ops m k us with
         |false=>rw[huo]at H;exact H.elim
         |true=>
          rw[huo,cond_true]at H
          split at H
          ·obtain⟨b,eat,av,h1,r,F⟩:=zvd (h0:=h0) (W:=W) (M0:=M0) H
           refine⟨b,us,eat,(· = av),h1,λt e=>e ▸ r,λ_=>⟨av,rfl⟩,λl=>(by cases l),λc l=>zcl (F c l),λj z=>?_⟩
           subst z
           simp only[qfc]at huo
           cases hq:Nat.blt j m with
           |false=>rw[hq]at huo;cases huo
           |true=>rw[hq]at huo;exact⟨by simpa[Cm]using hq,huo⟩
          ·exact H.elim
       |true=>
        rw[hmp]at hpo
        simp only[cond_true]at hpo
        rw[hmp,cond_true]at H
        simp only at H
        cases hpb:zfn P (Xk (Zo ops o) (itE h++s)) ch o with
        |false=>rw[hpb]at hpo;cases hpo
        |true=>
         rw[hpb]at hpo
         obtain⟨av,h1,r,F⟩:=z0i (h0:=h0) (W:=W) (M0:=M0) H hpb
         exact⟨Te,Te,Te,(· = av),h1,λt e=>e ▸ r,λ_=>⟨av,rfl⟩,λ_=>⟨rfl,F,hpo,zr5 hpb⟩,λc l=>(by cases l),λj z=>by cases z⟩
      obtain⟨b,us,eat,Kan,sp,V,w,B,C,y⟩:=u
      have E:Qv ops k (Zo ops o) m=Ta:=by
       unfold zjl at hst
       cases h1:Nat.blt k m with
       |false=>rw[h1]at hst;cases hst
       |true=>
        rw[h1]at hst
        cases r:Qv ops k (Zo ops o) m with
        |false=>rw[r]at hst;cases hst
        |true=>rfl
      have L:k<m:=by
       unfold zjl at hst
       cases h1:Nat.blt k m with
       |false=>rw[h1]at hst;cases hst
       |true=>simpa[Cm]using h1
      have A:∀av,Kan av->zr4 (qt ops m) av b=Ta/\dW P gl tr n ops m pu s cs Kt ord (pl.setIfInBounds k Ta) (⟨k,o.dst,ch,av,b,us⟩::h):=by
       intro av f
       have:=V av f
       cases hio:zr4 (qt ops m) av b with
       |false=>rw[hio]at this;exact this.elim
       |true=>rw[hio]at this;exact⟨rfl,this⟩
      refine⟨o,ch,b,us,Kan,S,hst,λav=>⟨L,Ws S,hok,?_,⟨o,_,eat,S,I,sp,λx G=>?_,B,C⟩,y,λt f D=>?_⟩,λav f=>(A av f).2,w⟩
      ·-- the chain's slots
       intro x G p J M
       refine Yo E p x.1 J M ?_
       unfold qlq at hco
       split at hco
       ·cases G
       ·rename_i g q
        have U:x=(g,q):=by simpa using G
        subst U
        split at hco
        ·rename_i j Z N
         split at hco
         ·rename_i g' O
          have e:=Al hco
          unfold Zo
          rw[N]
          simp only[O]
          rw[e]
          exact Ar _ Am
         ·cases hco
        ·cases hco
       ·cases hco
      ·obtain⟨h1,r⟩:=Jm G
       rcases Aw.1 h1 with h1|h1
       ·exact .inr ⟨h1,λp J M=>Yo E p x.1 J M r⟩
       ·exact .inl h1
      ·have:=(A t f).1
       simp only at D
       subst D
       exact this
   ·exact H.elim
theorem z4g{k:Nat}(h:zjl ops m o k pl=Ta):k∈Region.ready .any ops pl/\(ye o=Ta->Region.ready .any ops pl=[k]):=by
 unfold zjl at h;cases h1:Nat.blt k m with
 |false=>rw[h1]at h;cases h
 |true=>
  rw[h1]at h;cases h2:Qv ops k (Zo ops o) m with
  |false=>rw[h2]at h;cases h
  |true=>
   rw[h2]at h;simp only[cond_true]at h;cases ha:ye o with
   |false=>rw[ha]at h;exact⟨z4b h,λb=>by cases b⟩
   |true=>
    rw[ha]at h;simp only[cond_true]at h;have:Region.ready .any ops pl=[k]:=by unfold qdb at h;split at h;rename_i x _ c;rw[c,Al h];cases h
    exact⟨by rw[this];exact Am,λ_=>this⟩
theorem z4h{P:Program}{gl:Fr}(u:Fr.le gl M0){tr:TypeId}{n:Nat}{ops:Array Oper}{m:Nat}{pu:List Nat}{t:qg}{cs:CS}{Kt:List It->Prop}{listed:Array Bool}:∀{ord:List Nat} {pl:Array Bool} {p:List It},dW P gl tr n ops m pu t cs Kt ord pl p->GInv h0 W M0 P n ops m pu t cs listed pl p ->
  ∃b l new,dW P gl tr n ops m pu t cs Kt b l (new++p)/\GInv h0 W M0 P n ops m pu t cs listed l (new++p)/\zia ops b=Ta/\∀i∈new,listed.getD i.k Tc=Tc
 |[],pl,p,H,G=>⟨[],pl,[],H,G,rfl,λi hi=>by cases hi⟩
 |k::ord,pl,p,H,G=>by
  obtain⟨o,ch,E,us,Kan,I,x,B,F,r⟩:=zvf (h0:=h0) (W:=W) (M0:=M0) u H;cases ha:ye o with
  |true=>exact⟨k::ord,pl,[],H,G,by simp[zia,I,ha],λi hi=>by cases hi⟩
  |false=>
   obtain⟨av,rfl⟩:=r ha;have y:=(z4g x).1;have s:pl.getD k Ta=Tc:=(mem_ready.1 y).1;have q:k<pl.size:=by rcases AX k pl.size with h|h;exact h;simp[Array.getElem?_eq_none h]at s
   have c:pl.getD k Tc=Tc:=by rw[<-getD_lt q];exact s
   have C:listed.getD k Tc=Tc:=by
    cases hb:listed.getD k Tc with
    |false=>rfl
    |true=>rw[G.sub k hb]at c;cases c
   have w:∀i∈p,i.k≠k:=λi hi e=>by have:=(G.mem k).2 ⟨i,hi,e⟩;rw[this]at c;cases c
   have L:GInv h0 W M0 P n ops m pu t cs listed (pl.setIfInBounds k Ta) (⟨k,o.dst,ch,av,E,us⟩::p):=by refine⟨by simp[G.size],λj=>?_,Be.2 ⟨λj A=>(w j A).symm,G.dist⟩,λi hi=>?_,λj A=>?_⟩;by_cases f:k=j;subst f;simp only[Ai,exists_eq_or_imp,true_or,iff_true];simp[q];rw[getD_set_ne Tc f,G.mem j];simp only[Ai,exists_eq_or_imp,f,false_or];rcases Ai.1 hi with rfl|hi;exact⟨(· = av),(B av).mono λi hi=>Ae _ hi,rfl,λ_=>rfl⟩;obtain⟨M,h1,z,D⟩:=G.items i hi;exact⟨M,h1.mono λi hi=>Ae _ hi,z,D⟩;by_cases f:k=j;subst f;simp[q];rw[getD_set_ne Tc f];exact G.sub j A
   obtain⟨b,l,new,h1,z,D,J⟩:=z4h u (F av rfl) L;refine⟨b,l,new++[⟨k,o.dst,ch,av,E,us⟩],by simpa using h1,by simpa using z,D,λi hi=>?_⟩;rcases Aw.1 hi with hi|hi;exact J i hi;simp only[AY]at hi;subst hi;exact C
theorem zr7{k:Nat}(h:k<listed.size)(c:listed.getD k Tc=Tc)(i:It):strip (listed.setIfInBounds k Ta) i=zfp k (strip listed i):=by
 unfold strip zfp;cases hu:i.us with
 |none=>simp[hu]
 |some j=>
  simp only;by_cases b:j=k;subst b;have f:(listed.setIfInBounds j Ta).getD j Tc=Ta:=by simp[h]
  rw[f,c];simp[hu];rw[getD_set_ne Tc (Ne.symm b)];have e:Nat.beq j k=Tc:=by
   cases hq:Nat.beq j k with
   |false=>rfl
   |true=>exact absurd (Al hq) b
  cases listed.getD j Tc with
  |true=>simp[e]
  |false=>simp[hu,e]
theorem zvg{listed:Array Bool}{k:Nat}(c:k<listed.size)(b:listed.getD k Tc=Tc):∀{l:List It},(∀j∈l,k≠j.k)->Z4 (listed.setIfInBounds k Ta) l=(Z4 listed l).map (zfp k)
 |[],_=>rfl
 |j::l,hj=>by
  simp only[Z4];rw[getD_set_ne Tc (hj j Am),zvg c b λx e=>hj x (Ae _ e)];cases listed.getD j.k Tc with
  |true=>simp only[cond_true,As];rw[zr7 c b]
  |false=>rfl
theorem zxp{it:It}(b:∀j,it.us=Td j->listed.getD j Tc=Tc):strip listed it=it:=by unfold strip;split;rename_i j c;rw[b j c];rfl;rfl
theorem zxq{listed:Array Bool}{it:It}(e:it.k<listed.size)(b:listed.getD it.k Tc=Tc)(n:∀j,it.us=Td j->(listed.setIfInBounds it.k Ta).getD j Tc=Tc):∀{c:List It},c.Pairwise (λi j=>i.k≠j.k)->it∈c->(Z4 (listed.setIfInBounds it.k Ta) c).Perm (it::(Z4 listed c).map (zfp it.k))
 |[],_,h=>by cases h
 |i::l,hd,h=>by
  rw[Be]at hd;simp only[Z4];rcases Ai.1 h with rfl|h;have o:(listed.setIfInBounds it.k Ta).getD it.k Tc=Ta:=by simp[e]
  rw[o,b,zvg e b hd.1,zxp n];exact .refl _;have f:i.k≠it.k:=hd.1 it h;rw[getD_set_ne Tc (Ne.symm f)];have m:=zxq e b n hd.2 h;cases listed.getD i.k Tc with
  |true=>simp only[cond_true,As];rw[zr7 e b];exact(m.cons _).trans (.swap _ _ _)
  |false=>exact m
theorem zom{listed:Array Bool}{b:List It}:∀{new:List It},(∀i∈new,listed.getD i.k Tc=Tc)->Z4 listed (new++b)=Z4 listed b
 |[],_=>rfl
 |i::l,h=>by simp only[AD,Z4];rw[h i Am];exact zom λx c=>h x (Ae _ c)
theorem zxr{listed:Array Bool}:∀{l:List It},(∀i∈l,listed.getD i.k Tc=Ta/\∀j,i.us=Td j->listed.getD j Tc=Ta)->Z4 listed l=qfd l
 |[],_=>rfl
 |i::l,h=>by simp only[Z4,qfd];obtain⟨h1,e⟩:=h i Am;rw[h1,zxr λx c=>h x (Ae _ c),cond_true];congr 1;unfold strip;split;rename_i j b;rw[e j b];rfl;rfl
theorem GInv.ready_pl{h:qg}{l:List It}(G:GInv h0 W M0 P n ops m pu h cs listed pl l)(hi:i∈Region.ready .any ops listed)(p:pl.getD i Tc=Tc):i∈Region.ready .any ops pl:=by obtain⟨_,o,f,b⟩:=mem_ready.1 hi;have c:i<ops.size:=(An.1 f).1;exact mem_ready.2 ⟨by rw[getD_lt (by rw[G.size];exact c)];exact p,o,f,λe k q=>G.sub _ (b e k q)⟩
theorem z0j(p:m<=ops.size)(b:jl ops ops.size=Ta)(n:listed.size=ops.size)(c:∃k,k<m/\listed.getD k Tc=Tc):∃k,k<m/\k∈Region.ready .any ops listed:=by
 obtain⟨k,⟨h1,o⟩,l⟩:=exists_least c;refine⟨k,h1,mem_ready.2 ⟨by rw[getD_lt (by omega)];exact o,ops[k],Bo (by omega),λe f h=>?_⟩⟩;have i:=yn b k ops[k] (by omega) (Bo (by omega)) e f h;cases hb':listed.getD e.on Tc with
 |true=>rfl
 |false=>have:=l e.on ⟨by omega,hb'⟩;omega
def Wt(N m:Nat):Array Bool:=((Bj N).map λk=>Nat.blt k m).toArray
theorem zvh(f:m<=ops.size)(inv:HeadInv .any ops m listed)(b:∀k,k<m->listed.getD k Tc=Ta):listed=Wt ops.size m:=by
 refine Array.ext (by simp[Wt,inv.size]) λi h1 l=>?_;have hi:i<ops.size:=by rw[<-inv.size];exact h1
 have e:(Wt ops.size m)[i]=Nat.blt i m:=by simp[Wt]
 rw[e];rcases AX i m with h|h;have:=b i h;simp only[Array.getD,h1,dite_true]at this;rw[show Nat.blt i m=Ta by simpa[Cm]using h];exact this;have:=inv.tail i h hi;simp only[Array.getD,h1,dite_true]at this;have c:Nat.blt i m=Tc:=by
  cases hb:Nat.blt i m with
  |false=>rfl
  |true=>have:=Cm.mp hb;omega
 rw[c];exact this
def z4i(ops:Array Oper)(pu:List Nat)(m i:Nat):Nat->Bool
 |0=>Tc
 |j+1=>bif (bif Region.waitsFor .any ops j i then(bif Nat.beq j m then Ta else !(memN pu j))else Tc)then Nat.blt i j else z4i ops pu m i j
theorem zm3{ops:Array Oper}{pu:List Nat}{m i:Nat}:∀{n:Nat},z4i ops pu m i n=Ta->∃j,j<n/\i<j/\Region.waitsFor .any ops j i=Ta/\(j=m\/memN pu j=Tc)
 |0,h=>by cases h
 |n+1,h=>by
  simp only[z4i]at h;cases hb:(bif Region.waitsFor .any ops n i then(bif Nat.beq n m then Ta else !(memN pu n))else Tc)with
  |false=>rw[hb]at h;obtain⟨j,h1,b⟩:=zm3 h;exact⟨j,by omega,b⟩
  |true=>
   rw[hb]at h;refine⟨n,by omega,by simpa[Cm]using h,?_⟩;cases hw:Region.waitsFor .any ops n i with
   |false=>rw[hw]at hb;cases hb
   |true=>
    rw[hw]at hb;refine⟨rfl,?_⟩;cases hm:Nat.beq n m with
    |true=>exact .inl (Al hm)
    |false=>rw[hm]at hb;exact .inr (by simpa using hb)
def z0k(ops:Array Oper)(pu:List Nat)(m:Nat):Nat->Bool
 |0=>Ta
 |i+1=>bif (bif memN pu i then Ta else z4i ops pu m i (m+1))then z0k ops pu m i else Tc
theorem zm4{ops:Array Oper}{pu:List Nat}{m:Nat}:∀{n:Nat},z0k ops pu m n=Ta->∀i,i<n->memN pu i=Tc->∃j,j<=m/\i<j/\Region.waitsFor .any ops j i=Ta/\(j=m\/memN pu j=Tc)
 |0,_,i,hi,_=>by omega
 |n+1,h,i,hi,hp=>by
  simp only[z0k]at h;cases hb:(bif memN pu n then Ta else z4i ops pu m n (m+1))with
  |false=>rw[hb]at h;cases h
  |true=>
   rw[hb]at h;rcases AX i n with h1|h1;exact zm4 h i h1 hp;have:i=n:=by omega
   subst this;rw[hp]at hb;obtain⟨j,b,a2⟩:=zm3 hb;exact⟨j,by omega,a2⟩
def z0l(ops:Array Oper)(pu:List Nat)(m:Nat):Bool:=bif Nat.beq m ops.size then Ta else bif z0k ops pu m m then Region.chainB .any ops m else Tc
theorem zvi(E:m<ops.size)(y:z0k ops pu m m=Ta)(z:Region.chainB .any ops m=Ta)(inv:HeadInv .any ops m listed):
  ∀(d i:Nat),m-i=d->i<m->listed.getD i Tc=Tc->memN pu i=Tc->∀t,m<=t->t∉Region.ready .any ops listed:=by
 intro d;induction d using Dc with
 |_ d B=>
  intro i C hi b o t D h;obtain⟨_,ot,q,r⟩:=mem_ready.1 h;have c:t<ops.size:=(An.1 q).1;by_cases l:t=m;subst l;obtain⟨j,h1,F,s,x⟩:=zm4 y i hi o;by_cases f:j=t;subst f;rw[Zz h s]at b;cases b;have k:memN pu j=Tc:=x.resolve_left f;cases hl:listed.getD j Tc with
  |true=>obtain⟨A,n,e,u,w,p⟩:=Region.waitsFor_spec s;have:=inv.closed j A n hl e u w;rw[p,b]at this;cases this
  |false=>exact B (t-j) (by omega) j rfl (by omega) hl k t (Ab _) h
  have h1:=Av.1 z t (AU.2 c);simp only[BK,decide_eq_true_eq]at h1;rcases h1 with h1|h1;omega;have:=Zz h h1;rw[getD_both (inv.tail (t-1) (by omega) (by omega))]at this;cases this
theorem qba(p:m<=ops.size)(b:z0l ops pu m=Ta)(inv:HeadInv .any ops m listed)(c:∃k,k<m/\k∈Region.ready .any ops listed/\memN pu k=Tc):∀i∈Region.ready .any ops listed,i<m:=by
 intro i hi;obtain⟨_,o,f,_⟩:=mem_ready.1 hi;have e:i<ops.size:=(An.1 f).1;rcases AX i m with h|h;exact h;exfalso;unfold z0l at b;cases hb:Nat.beq m ops.size with
 |true=>have:=Al hb;omega
 |false=>
  rw[hb]at b;simp only[cond_false]at b;cases hs:z0k ops pu m m with
  |false=>rw[hs]at b;cases b
  |true=>rw[hs]at b;obtain⟨k,h1,n,l⟩:=c;exact zvi (by omega) hs b inv _ k rfl h1 (getD_both (mem_ready.1 n).1) l i h hi
theorem qlr(hgl:Fr.le gl M0){e0:qg}{Kt:List It->Prop}{Q:Exit->Act->World->Prop}(hm:m<=ops.size)(hnd:Yp ops m=Ta)(hback:jl ops ops.size=Ta)(hends:z0l ops pu m=Ta)(hsel:Region.noSelect ops=Ta)(hQp:∀c a w,¬Q (.panic c) a w) (he0:∀x∈e0,x.2.1=[]/\x.1∉qt ops m/\Yu x.2.2 (qt ops m)=Ta) (B:World) {g:Nat} {a0:Act} {γ0:Gh} (hQ:∀IL γ a d h,SatA n (itE IL++e0) γ a->Inv h0 W M0 (itC IL++cs) γ h->Same (qt ops m) a0 a->GxS (qt ops m) γ0 γ->Kt IL->wpAny P .any ops Q g (Wt ops.size m) a (mk B d h)):
    ∀(N:Nat) (U:List Nat) (listed:Array Bool) (ord:List Nat) (pl:Array Bool) (IL:List It) (γ:Gh) (a:Act) (d:Nat) (h:zb),U.length=N->U.Nodup->(∀k,k∈U↔k<m/\listed.getD k Tc=Tc)->HeadInv .any ops m listed -> dW P gl tr n ops m pu e0 cs Kt ord pl IL->zia ops ord=Ta->GInv h0 W M0 P n ops m pu e0 cs listed pl IL->Mid h0 W M0 P n ops m e0 cs listed IL γ a h->Same (qt ops m) a0 a->GxS (qt ops m) γ0 γ -> wpAny P .any ops Q (N+g) listed a (mk B d h):=by
  intro N;induction N with
  |zero=>
    intro U listed ord pl IL γ a d h hU _ hmem inv H hanch G M hsame hgx;have hUn:U=[]:=Bl.1 hU;subst hUn;have hall:∀k,k<m->listed.getD k Tc=Ta:=λk hk=>by
      cases hb:listed.getD k Tc with
      |true=>rfl
      |false=>exact absurd ((hmem k).2 ⟨hk,hb⟩) (by simp)
    have hKt:Kt (qfd IL):=by
      cases ord with
      |nil=>
        unfold dW at H;cases hb:z0h pl m with
        |true=>rw[hb]at H;exact H
        |false=>rw[hb]at H;exact H.elim
      |cons k ord=>exfalso;obtain⟨o,ch,nb,us,Kan,ho,hst,hit,_,_⟩:=zvf (h0:=h0) (W:=W) (M0:=M0) hgl H;have hk:k<m:=(hit (.g (.a (.v undef)))).lt;have h1:=(mem_ready.1 (z4g hst).1).1;rw[getD_lt (by rw[G.size];omega),G.sub k (hall k hk)]at h1;cases h1
    have hact:Z4 listed IL=qfd IL:=zxr λi hi=>by obtain⟨Ki,Ti,_⟩:=G.items i hi;exact⟨hall _ Ti.lt,λj hj=>hall j (Ti.use j hj).1⟩
    have h1:=M.sat;have h2:=M.inv;rw[hact]at h1 h2;rw[AL,zvh hm inv hall];exact hQ (qfd IL) γ a d h h1 h2 hsame hgx hKt
  |succ N ih=>
    intro U listed ord pl IL γ a d h hU hdup hmem inv H hanch G M hsame hgx;have hex:∃k,k<m/\listed.getD k Tc=Tc:=by
      cases U with
      |nil=>cases hU
      |cons k U=>exact⟨k,(hmem k).1 Am⟩
    obtain⟨k0,hk0m,hk0⟩:=z0j hm hback inv.size hex;rw[show N+1+g=(N+g)+1 by omega];have gen:∀i,i∈Region.ready .any ops listed->i<m->(memN pu i=Ta->wpAny P .any ops Q (N+g+1) listed a (mk B d h))/\wpOp P ops Q i (wpAny P .any ops Q (N+g) (listed.setIfInBounds i Ta)) a (mk B d h):=by
      intro i hi him;have hun:listed.getD i Tc=Tc:=getD_both (mem_ready.1 hi).1;have hils:i<listed.size:=by rw[inv.size];omega
      have hU':(U.erase i).length=N:=by rw[List.length_erase_of_mem ((hmem i).2 ⟨him,hun⟩),hU];rfl
      have hdup':(U.erase i).Nodup:=hdup.erase i;have hmem':∀k,k∈U.erase i↔k<m/\(listed.setIfInBounds i Ta).getD k Tc=Tc:=λk=>by rw[hdup.mem_erase_iff,hmem k];by_cases hk:i=k;subst hk;simp[hils];rw[getD_set_ne Tc hk];exact⟨λhx=>hx.2,λhx=>⟨λe=>hk e.symm,hx⟩⟩
      have inv':=inv.set hi him;have toS:∀{it:It} {Kan:AV->Prop},ItOK h0 W M0 P n ops m pu e0 cs IL it Kan->∀{γ':Gh},Gx (it.nb.map (·.1)) γ γ'->GxS (qt ops m) γ γ':=by
        intro it Kan T γ' gx;refine⟨gx.1,λj hj=>?_⟩;refine gx.2 j λhc=>hj ?_;obtain⟨o,e,eat,ho,_,sp,_,_⟩:=T.ex;cases hnb:it.nb with
        |none=>rw[hnb]at hc;cases hc
        |some b=>
          rw[hnb]at hc;have:b.1=j:=by simpa using hc
          subst this;obtain⟨_,h2,_⟩:=sp.box b hnb;exact zfq T.lt (by rw[Ws ho];exact h2)
      have toSame:∀{it:It} {Kan:AV->Prop},ItOK h0 W M0 P n ops m pu e0 cs IL it Kan->∀u,Same (qt ops m) a (a.put it.dst u):=λ {it} {Kan} T u=>
        Same.put a it.dst u λj hj=>zfq T.lt (by rw[T.dst];exact hj)
      have hILk:∀x∈IL,∃Kan,ItOK h0 W M0 P n ops m pu e0 cs IL x Kan/\Kan x.av:=λx hx=>by obtain⟨Kx,h1,h2,_⟩:=G.items x hx;exact⟨Kx,h1,h2⟩
      have hdist:∀x∈IL,∀y∈IL,x.k=y.k->x=y:=by
        have key:∀l:List It,l.Pairwise (λi j=>i.k≠j.k)->∀x∈l,∀y∈l,x.k=y.k->x=y:=by
          intro l;induction l with
          |nil=>intro _ x hx;cases hx
          |cons z l ihl=>intro hp x hx y hy e;rw[Be]at hp;rcases Ai.1 hx with hx1|hx1;rcases Ai.1 hy with hy1|hy1;rw[hx1,hy1];rw[hx1]at e;exact absurd e (hp.1 y hy1);rcases Ai.1 hy with hy1|hy1;rw[hy1]at e;exact absurd e.symm (hp.1 x hx1);exact ihl hp.2 x hx1 y hy1 e
        exact key IL G.dist
      cases hpl:pl.getD i Tc with
      |true=>
        obtain⟨it,hit,hik⟩:=(G.mem i).1 hpl;subst hik;obtain⟨Kan,T,_,hdet⟩:=G.items it hit;have fwd:∀u γ' h' d',(∀L':List It,L'.Perm (it::(Z4 listed IL).map (zfp it.k))->SatA n (itE L'++e0) γ' (a.put it.dst u)/\Inv h0 W M0 (itC L'++cs) γ' h')->Gx (it.nb.map (·.1)) γ γ'->wpAny P .any ops Q (N+g) (listed.setIfInBounds it.k Ta) (a.put it.dst u) (mk B d' h'):=by
         intro u γ' h' d' hst hgx';have huse:∀j,it.us=Td j->(listed.setIfInBounds it.k Ta).getD j Tc=Tc:=by
           intro j hj;have hw:=(T.use j hj).2;obtain⟨oj,hoj,e,he,hb,hon⟩:=Region.waitsFor_spec hw;have hjk:it.k≠j:=λe'=>by have:=yn hback j oj (An.1 hoj).1 hoj e he hb;omega
           rw[getD_set_ne Tc hjk];cases hl:listed.getD j Tc with
           |false=>rfl
           |true=>have:=inv.closed j oj hoj hl e he hb;rw[hon,hun]at this;cases this
         obtain⟨s1,s2⟩:=hst _ (zxq hils hun huse G.dist hit);refine ih _ _ ord pl IL γ' _ d' h' hU' hdup' hmem' inv' H hanch ⟨G.size,G.mem,G.dist,λx hx=>?_,λk hk=>?_⟩ ⟨s1,s2⟩ (hsame.trans (toSame T u)) (hgx.trans (toS T hgx'));obtain⟨Kx,h1,h2,h3⟩:=G.items x hx;refine⟨Kx,h1,h2,λhf=>h3 ?_⟩;by_cases hk:it.k=x.k;rw[<-hk];exact hun;rw[getD_set_ne Tc hk]at hf;exact hf;by_cases hk':it.k=k;subst hk';exact hpl;rw[getD_set_ne Tc hk']at hk;exact G.sub k hk
        have hK0:Kan it.av:=by rw[hdet hun]
        refine⟨λhp=>z4f hnd he0 hILk hdist inv M T hK0 hi hp hsel hQp B d λu hst hgx'=>fwd u γ h d hst hgx',zr6 hnd he0 hILk hdist inv M T hi B d λav u γ' h' d' hav hst hgx'=>?_⟩;have hav':av=it.av:=by rw[hdet hun]at hav;exact hav
        subst hav';exact fwd u γ' h' d' hst hgx'
      |false=>
        have hrp:=G.ready_pl hi hpl;cases ord with
        |nil=>
          exfalso;unfold dW at H;cases hb:z0h pl m with
          |true=>rw[zm0 hb i him]at hpl;cases hpl
          |false=>rw[hb]at H;exact H
        |cons k ord=>
          obtain⟨o,ch,nb,us,Kan,ho,hst,hit,hK,_⟩:=zvf (h0:=h0) (W:=W) (M0:=M0) hgl H;have hanc:ye o=Ta:=by simpa[zia,ho]using hanch
          have hrk:=(z4g hst).2 hanc;rw[hrk]at hrp;have hik:i=k:=by simpa using hrp
          subst hik;refine⟨λhp=>?_,zr6 hnd he0 hILk hdist inv M (hit (.g (.a (.v undef)))) hi B d λav u γ' h' d' hav hst' hgx'=>?_⟩;obtain⟨o',_,_,ho',_,_,_,hpp,_⟩:=(hit (.g (.a (.v undef)))).ex;have:=(hpp hp).2.2.2;have e':o'=o:=Az (ho'.symm.trans ho);rw[e',hanc]at this;cases this;have hne:∀j∈IL,i≠j.k:=λj hj e=>by have:=(G.mem i).2 ⟨j,hj,e.symm⟩;rw[hpl]at this;cases this
          have hips:i<pl.size:=by rw[G.size,<-inv.size];exact hils
          have G':GInv h0 W M0 P n ops m pu e0 cs (listed.setIfInBounds i Ta) (pl.setIfInBounds i Ta) (⟨i,o.dst,ch,av,nb,us⟩::IL):=by refine⟨by simp[G.size],λj=>?_,Be.2 ⟨λj hj=>hne j hj,G.dist⟩,λx hx=>?_,λj hj=>?_⟩;by_cases hjk:i=j;subst hjk;simp only[Ai,exists_eq_or_imp,true_or,iff_true];simp[hips];rw[getD_set_ne Tc hjk,G.mem j];simp only[Ai,exists_eq_or_imp,hjk,false_or];rcases Ai.1 hx with rfl|hx;exact⟨Kan,(hit av).mono λx hx=>Ae _ hx,hav,λhf=>by simp[hils]at hf⟩;obtain⟨Kx,h1,h2,h3⟩:=G.items x hx;refine⟨Kx,h1.mono λx hx=>Ae _ hx,h2,λhf=>h3 ?_⟩;rw[getD_set_ne Tc (hne x hx)]at hf;exact hf;by_cases hjk:i=j;subst hjk;simp[hips];rw[getD_set_ne Tc hjk]at hj ⊢;exact G.sub j hj
          obtain⟨ord',pl',new,h1,h2,h3,h4⟩:=z4h hgl (hK av hav) G';have hact:Z4 (listed.setIfInBounds i Ta) (new++⟨i,o.dst,ch,av,nb,us⟩::IL)=⟨i,o.dst,ch,av,nb,us⟩::(Z4 listed IL).map (zfp i):=by
            rw[zom h4];simp only[Z4];rw[show(listed.setIfInBounds i Ta).getD i Tc=Ta by simp[hils],zvg hils hun hne,cond_true,zxp ?_];intro j hj;have hw:=((hit av).use j hj).2;obtain⟨oj,hoj,e,he,hb,hon⟩:=Region.waitsFor_spec hw;have hon:e.on=i:=hon;have hjk:i≠j:=λe'=>by have:=yn hback j oj (An.1 hoj).1 hoj e he hb;omega
            rw[getD_set_ne Tc hjk];cases hl:listed.getD j Tc with
            |false=>rfl
            |true=>have:=inv.closed j oj hoj hl e he hb;rw[hon,hun]at this;cases this
          obtain⟨s1,s2⟩:=hst' (⟨i,o.dst,ch,av,nb,us⟩::(Z4 listed IL).map (zfp i)) (.refl _);exact ih _ _ ord' pl' _ γ' _ d' h' hU' hdup' hmem' inv' h1 h3 h2 ⟨by rw[hact];exact s1,by rw[hact];exact s2⟩ (hsame.trans (toSame (hit av) u)) (hgx.trans (toS (hit av) hgx'))
    by_cases hpe:∃i,i∈Region.ready .any ops listed/\i<m/\memN pu i=Ta;obtain⟨i,hi,him,hp⟩:=hpe;exact(gen i hi him).1 hp;refine⟨λhc=>(by rw[hc]at hk0;cases hk0),λi hi=>(gen i hi (qba hm hends inv ⟨k0,hk0m,hk0,?_⟩ i hi)).2⟩;cases hb:memN pu k0 with
    |false=>rfl
    |true=>exact absurd ⟨k0,hk0,hk0m,hb⟩ hpe
def qfe(ops:Array Oper)(m:Nat)(pu:List Nat):Bool:=
 bif Nat.ble m ops.size then(bif Yp ops m then(bif jl ops ops.size then(bif z0l ops pu m then(bif Region.noSelect ops then Region.seqB .any ops (ops.size-m) m (Wt ops.size m)else Tc)else Tc)else Tc)else Tc)else Tc
def qff(P:Program)(gl:Fr)(tr:TypeId)(n:Nat)(ops:Array Oper)(m:Nat)(ord pu:List Nat)(R:CS)(K:qg->CS->Prop)(e:qg)(C:CS):Prop:=
 bif qfe ops m pu then dW P gl tr n ops m pu (zhh (qt ops m) e) (C++R) (λb=>wRA P gl tr n ops R K (ops.toList.drop m) (itE b++zhh (qt ops m) e) (itC b++C)) ord (BJ ops.size Tc) []else False
theorem zvj(hm:P.follows .mixedOrders=Ta)(r:Fr.le gl M0){K:qg->CS->Prop}{e:qg} (H:qff P gl tr n ops m ord pu R K e C) (B:World) (d:Nat) (hs:SatA n e γ a) (I:Inv h0 W M0 (C++R) γ h) {Q:Exit->Act->World->Prop}
  (hQ:∀e' C' γ' a' J h',SatA n e' γ' a'->Inv h0 W M0 (C'++R) γ' h'->Same (xd ops.toList) a a'->GxS (xd ops.toList) γ γ'->K e' C'->Q .normal a' (mk B J h')):(DO id ops Ta).wp P Q a (mk B d h):=by
 unfold qff at H;cases hB:qfe ops m pu with
 |false=>rw[hB]at H;exact H.elim
 |true=>
  rw[hB]at H;simp only[cond_true]at H;have S:m<=ops.size/\Yp ops m=Ta/\jl ops ops.size=Ta/\z0l ops pu m=Ta/\Region.noSelect ops=Ta/\Region.seqB .any ops (ops.size-m) m (Wt ops.size m)=Ta:=by
   unfold qfe at hB;cases h1:Nat.ble m ops.size with
   |false=>rw[h1]at hB;cases hB
   |true=>
    rw[h1]at hB;cases D:Yp ops m with
    |false=>rw[D]at hB;cases hB
    |true=>
     rw[D]at hB;cases F:jl ops ops.size with
     |false=>rw[F]at hB;cases hB
     |true=>
      rw[F]at hB;cases E:z0l ops pu m with
      |false=>rw[E]at hB;cases hB
      |true=>
       rw[E]at hB;cases h5:Region.noSelect ops with
       |false=>rw[h5]at hB;cases hB
       |true=>rw[h5]at hB;exact⟨BS h1,rfl,rfl,rfl,rfl,hB⟩
  obtain⟨U,N,q,p,u,z⟩:=S;have b:xd ops.toList=xd (ops.toList.take m)++xd (ops.toList.drop m):=by rw[<-Qw,B8]
  have L:∀x∈zhh (qt ops m) e,x.2.1=[]/\x.1∉qt ops m/\Yu x.2.2 (qt ops m)=Ta:=λx f=>(ww f).2;have y:HeadInv .any ops m (BJ ops.size Tc):= ⟨by simp,λj oj _ hl=>(by rw[getD_replicate_false]at hl;cases hl),λt _ ht=>getD_in (by simpa using ht) (getD_replicate_false _ _)⟩;have G0:GInv h0 W M0 P n ops m pu (zhh (qt ops m) e) (C++R) (BJ ops.size Tc) (BJ ops.size Tc) []:= ⟨by simp,λk=>by rw[getD_replicate_false];simp,DG,λi hi=>(by cases hi),λk hk=>hk⟩;obtain⟨A,M,new,h1,D,F,E⟩:=z4h r H G0;have o:Z4 (BJ ops.size Tc) (new++[])=[]:=by rw[zom E];rfl
  have s:SatA n (zhh (qt ops m) e) γ a:=hs.sub λx f=>(ww f).1;let Qn:Exit->Act->World->Prop:=λx a w=>x=.normal/\Q .normal a w;refine wp_mono (Q':=Q) (Q:=Qn) ?_ (λx a w Y=>by obtain⟨rfl,h⟩:=Y;exact h);refine wp_region_any hm ?_;have ab:ops.size=m+(ops.size-m):=by omega
  have key:=qlr (n:=n) (Q:=Qn) (pu:=pu) r U N q p u (λc a w Y=>by cases Y.1) L B (g:=ops.size-m) (a0:=a) (γ0:=γ) (Kt:=λIL=>wRA P gl tr n ops R K (ops.toList.drop m) (itE IL++zhh (qt ops m) e) (itC IL++C)) (λIL γ' a' J h' s1 s2 s3 s4 s5=>?_) m (Bj m) (BJ ops.size Tc) A M (new++[]) γ a (d+1) h C3 List.nodup_range (λk=>by rw[AU,getD_replicate_false];simp) y h1 F D ⟨by rw[o];exact s,by rw[o];exact I⟩ (Same.refl _ _) (GxS.refl _ _);rw[<-ab]at key;exact key;have l:(ops.toList.drop m).length=ops.size-m:=by simp
  rw[<-l];refine wpAny_of_seq (md:=.any) (ops.toList.drop m) m _ a' _ (λj=>by simp[A9]) (by rw[l];exact z) ?_;refine zd2 r B _ _ _ _ _ _ J s5 s1 (by rw[AH];exact s2) λZ G aa O V h'' q4 q5 q6 q7 q8=>⟨rfl,hQ Z G aa O V h'' q4 q5 ?_ ?_ q8⟩;rw[b];exact(s3.mono λx f=>Ar _ f).trans (q6.mono λx f=>AC _ f);rw[b];exact(s4.mono λx f=>Ar _ f).trans (q7.mono λx f=>AC _ f)
abbrev qbb:=List (Nat×Nat×List Nat×List Nat×List Nat)
def qdc:qbb->Nat->Option (Nat×List Nat×List Nat×List Nat)
 |[],_=>Te
 |(j,x)::l,i=>bif Nat.beq i j then Td x else qdc l i
def zvk(P:Program)(gl:Fr)(tr:TypeId)(n:Nat)(f:z3x)(c:qbb)(id:Nat)(ops:Array Oper)(b:Bool)(R:CS)(K:qg->CS->Prop)(e:qg)(C:CS):Prop:=
 match qdc c id with
 |none=>zvb P gl tr n f id ops b R K e C
 |some (m,fz,ord,pu)=>bif b then qff P gl tr n ops m ord pu R K e (frzL fz C)else False
theorem zon(q:P.follows .mixedOrders=Ta)(c:Fr.le gl M0){t:z3x}{y:qbb}{b:Bool}{K:qg->CS->Prop}{e:qg} (H:zvk P gl tr n t y id ops b R K e C) (B:World) (d:Nat) (p:SatA n e γ a) (I:Inv h0 W M0 (C++R) γ h) {Q:Exit->Act->World->Prop}
  (o:∀e' f γ' a' l h',SatA n e' γ' a'->Inv h0 W M0 (f++R) γ' h'->Same (xd ops.toList) a a'->GxS (xd ops.toList) γ γ'->K e' f->Q .normal a' (mk B l h')):(DO id ops b).wp P Q a (mk B d h):=by
 unfold zvk at H;split at H;exact zok q c H B d p I o;rename_i m fz ord pu _;cases b with
 |false=>exact H.elim
 |true=>obtain⟨A,x,k⟩:=Inv.frzL (C:=C) (γ:=γ) fz I;refine zvj q c H B d (p.gx k) x λe' f γ' a' l h' u r w z s=>o e' f γ' a' l h' u r w (GxS.trans ⟨k.1,λi _=>k.2 i (by simp)⟩ z) s
end
section
variable {S:List Nat} {γ γ':Gh} {u:Value} {C R:CS} {h:zb} {n:Nat} {a:Act} {P:Program} {f:FuncId}
variable {h0 : zb} {W : Nat -> Prop} {M0 : Fr}
structure PlanA where
 tails:z3x
 draws:qbb
 loops:List (Nat×AnnA)
 joins:List (Nat×AnnA)
def qii:List (Nat×AnnA)->Option Nat->Option AnnA
 |[],_=>Te
 |(j,m)::l,some i=>bif Nat.beq i j then Td m else qii l (Td i)
 |_,none=>Te
def qhi:AA->List Nat
 |.box j _=>[j]
 |.own j=>[j]
 |.oelt j _ _ _=>[j]
 |_=>[]
def z4j(S:List Nat):List AA->Bool
 |[]=>Ta
 |x::l=>bif (match qhi x with
  |[]=>Ta
  |j::_=>!(memN S j))then z4j S l else Tc
def qbc(S:List Nat):AG->Bool
 |.a x=>z4j S [x]
 |.agg l=>z4j S l
def zxs(S:List Nat):List AG->Bool
 |[]=>Ta
 |x::l=>bif qbc S x then zxs S l else Tc
def qfg(S:List Nat):AV->Bool
 |.g x=>qbc S x
 |.tup l=>zxs S l
 |.nx _ _ _=>Ta
theorem DenA.gxS(g:GxS S γ γ'){x:AA}(l:(match qhi x with
  |[]=>Ta
  |j::_=>!(memN S j))=Ta)(h:DenA γ x u):DenA γ' x u:=by
 have key:∀j,memN S j=Tc->γ'.β j=γ.β j/\γ'.σ j=γ.σ j:=λj m=>g.2 j (Qp m);cases x with
 |v y=>exact h
 |d t y=>exact Rd.mono g.1 h
 |box j o=>rw[show u=_ from h];simp only[DenA,(key j (by simpa[qhi]using l)).1]
 |own j=>rw[show u=_ from h];simp only[DenA,(key j (by simpa[qhi]using l)).2]
 |oelt j z i o=>obtain⟨b,c,k⟩:=h;exact⟨b,by rw[(key j (by simpa[qhi]using l)).2];exact c,k⟩
 |elt t y o=>obtain⟨b,f,cs,e,h1,n⟩:=h;exact⟨b,f,cs,e,g.1 _ _ h1,Rd.mono g.1 n⟩
 |dc t xs=>obtain⟨s,c,k,h⟩:=h;exact⟨s,c,k,Rd.mono g.1 h⟩
theorem DenL.gxS{S:List Nat}{γ γ':Gh}(g:GxS S γ γ'):∀{l:List AA} {us:List Value},z4j S l=Ta->All2 (DenA γ) l us->All2 (DenA γ') l us
 |[],[],_,_=>trivial
 |[],_::_,_,h=>h.elim
 |_::_,[],_,h=>h.elim
 |x::l,u::us,hm,h=>by
  simp only[z4j]at hm;cases hx:(match qhi x with
   |[]=>Ta
   |j::_=>!(memN S j))with
  |false=>rw[hx]at hm;cases hm
  |true=>rw[hx]at hm;exact⟨DenA.gxS g hx h.1,DenL.gxS g hm h.2⟩
theorem DenG.gxS(g:GxS S γ γ'){x:AG}(b:qbc S x=Ta)(h:DenG γ x u):DenG γ' x u:=by
 cases x with
 |a x=>have:All2 (DenA γ') [x] [u]:=DenL.gxS g b (show All2 (DenA γ) [x] [u]from⟨h,trivial⟩);exact this.1
 |agg l=>obtain⟨us,e,h⟩:=h;exact⟨us,e,DenL.gxS g b h⟩
theorem DenV.gxS(g:GxS S γ γ'){x:AV}(f:qfg S x=Ta)(h:DenV γ x u):DenV γ' x u:=by
 cases x with
 |g x=>exact DenG.gxS g f h
 |tup l=>
  obtain⟨us,e,h⟩:=h;refine⟨us,e,?_⟩;have:∀{l:List AG} {us:List Value},zxs S l=Ta->All2 (DenG γ) l us->All2 (DenG γ') l us:=by
   intro l;induction l with
   |nil=>intro us _ h;cases us with
    |nil=>trivial
    |cons _ _=>exact h.elim
   |cons x l i=>
    intro us f h;cases us with
    |nil=>exact h.elim
    |cons u us=>
     simp only[zxs]at f;cases hx:qbc S x with
     |false=>rw[hx]at f;cases f
     |true=>rw[hx]at f;exact⟨DenG.gxS g hx h.1,i f h.2⟩
  exact this f h
 |nx b p c=>exact h
def zjn(ms S:List Nat):qg->qg
 |[]=>[]
 |(i,[],v)::e=>bif memN ms i then zjn ms S e else(bif qfg S v then(i,[],v)::zjn ms S e else zjn ms S e)
 |(_,_::_,_)::e=>zjn ms S e
theorem Wu{ms S:List Nat}{γ l:Gh}{a m:Act}(g:GxS S γ l)(c:Same ms a m):∀{e:qg},(∀x∈e,zoc γ (zz a) x)->∀x∈zjn ms S e,zoc l (zz m) x
 |[],_,x,b=>by cases b
 |(i,[],v)::e,h,x,b=>by
  have f:=Wu g c (e:=e) λx b=>h x (Ae _ b);simp only[zjn]at b;cases hm:memN ms i with
  |true=>rw[hm]at b;exact f x b
  |false=>
   rw[hm]at b;simp only[cond_false]at b;cases hn:qfg S v with
   |false=>rw[hn]at b;exact f x b
   |true=>rw[hn]at b;rcases Ai.1 b with rfl|b;refine⟨λ_=>?_,λk=>absurd trivial k⟩;have:=(h _ Am).1 trivial;simp only at this ⊢;rw[c _ (Qp hm)];exact this.gxS g hn;exact f x b
 |(_,_::_,_)::e,h,x,b=>Wu g c (e:=e) (λx b=>h x (Ae _ b)) x b
def inC(ro:List Nat):CS->CS
 |[]=>[]
 |(c,k)::l=>bif memN ro c then(c,k)::inC ro l else inC ro l
def qfh(ro:List Nat):CS->CS
 |[]=>[]
 |(c,k)::l=>bif memN ro c then qfh ro l else(c,k)::qfh ro l
theorem zm5(ro:List Nat):∀C:CS,(qfh ro C++inC ro C).Perm C
 |[]=>.nil
 |(c,k)::l=>by
  have b:=zm5 ro l;simp only[inC,qfh];cases memN ro c with
  |true=>exact List.perm_middle.trans (b.cons _)
  |false=>exact b.cons _
theorem Inv.part(I:Inv h0 W M0 (C++R) γ h)(ro:List Nat):Inv h0 W M0 (qfh ro C++(inC ro C++R)) γ h:=by rw[<-AH];exact I.perm ((zm5 ro C).symm.append_right R)
abbrev zby:=Exit->qg->CS->Prop
def qij(K:qg->CS->Prop)(Q:zby):zby
 |.normal,e,C=>K e C
 |x,e,C=>Q x e C
def z4k(id:Nat)(Q:zby):zby
 |.exit i,e,C=>bif Nat.beq i id then Q .normal e C else Q (.exit i) e C
 |x,e,C=>Q x e C
def qdd(m:CS)(K:qg->CS->Prop)(Q:zby):zby
 |.normal,e,C=>K e C
 |x,e,C=>Q x e (C++m)
def ze8(pl:PlanA):Code->List Nat
 |.region _ ops _=>xd ops.toList
 |.seq a b=>ze8 pl a++(ze8 pl b++(match qii pl.joins (j6 b)with
  |some J=>J.ids
  |none=>[]))
 |.cond _ a b=>ze8 pl a++ze8 pl b
 |.block _ b=>ze8 pl b
 |.loop b=>ze8 pl b++(match qii pl.loops (j6 b)with
  |some J=>J.ids
  |none=>[])
 |_=>[]
def atA{X:Type}(J:AnnA)(R:CS)(F:zz9 (zci J) X)(e:qg)(C:CS)(k:X->Prop):Prop:=
 match xtr J R e C with
 |some b=>match zhg (zci J) b F with
  |some q=>k q
  |none=>False
 |none=>False
theorem zvl{X:Type}{J:AnnA}{F:zz9 (zci J) X}{e:qg}{k:X->Prop}(h:atA J R F e C k):∃b q,xtr J R e C=Td b/\zhg (zci J) b F=Td q/\k q:=by unfold atA at h;split at h;rename_i b c;split at h;rename_i q f;exact⟨b,q,c,f,h⟩;exact h.elim;exact h.elim
def WA(P:Program)(gl:Fr)(tr:TypeId)(n:Nat)(pl:PlanA):Code->CS->zby->qg->CS->Prop
 |.skip,_,Q,e,C=>Q .normal e C
 |.ret,_,Q,e,C=>Q .ret e C
 |.exit id,_,Q,e,C=>Q (.exit id) e C
 |.label _,_,Q,e,C=>Q .normal e C
 |.goto l,_,Q,e,C=>Q (.goto l) e C
 |.region id ops draw,R,Q,e,C=>zvk P gl tr n pl.tails pl.draws id ops draw R (λe C=>Q .normal e C) e C
 |.seq x y,R,Q,e,C=>match qii pl.joins (j6 y)with
  |none=>WA P gl tr n pl x R (qij (λe C=>WA P gl tr n pl y R Q e C) Q) e C
  |some J=>∀K:zz9 (zci J) Prop,z3u (zci J) K (λf q=>WA P gl tr n pl y R Q (qda J f++zjn (Qd x) (J.ids++ze8 pl x) e) (chJ J f++inC J.ro C)->q) ->
    WA P gl tr n pl x (inC J.ro C++R) (qdd (inC J.ro C) (λh i=>atA J (inC J.ro C++R) K h i λq=>q) Q) e (qfh J.ro C)
 |.cond c x y,R,Q,e,C=>match zhe e [] c with
  |some v=>match zz3 v with
   |some b=>(b=Ta->WA P gl tr n pl x R Q e C)/\(b=Tc->WA P gl tr n pl y R Q e C)
   |none=>False
  |none=>False
 |.block id x,R,Q,e,C=>WA P gl tr n pl x R (z4k id Q) e C
 |.loop x,R,Q,e,C=>match qii pl.loops (j6 x)with
  |some J=>∃(I:zz9 (zci J) Prop) (μ:zz9 (zci J) Nat),atA J (inC J.ro C++R) (zrw (zci J) I μ) e (qfh J.ro C) (λp=>p.1) /\
    z3u (zci J) (zrw (zci J) I μ) λf p=>p.1->WA P gl tr n pl x (inC J.ro C++R) (qdd (inC J.ro C) (λh i=>atA J (inC J.ro C++R) (zrw (zci J) I μ) h i λq=>q.1/\q.2<p.2) Q)
     (qda J f++zjn (Qd x) (J.ids++ze8 pl x) e) (chJ J f)
  |none=>False
 |_,_,_,_,_=>False
def qik(h0:zb)(W:Nat->Prop)(M0:Fr)(n:Nat)(B:World)(ms S:List Nat)(a0:Act)(b:Gh)(R:CS)(Q:zby):Exit->Act->World->Prop:=
 λx a w=>∃e C γ d h,w=mk B d h/\SatA n e γ a/\Inv h0 W M0 (C++R) γ h/\Same ms a0 a/\GxS S b γ/\Q x e C
theorem z0m{e:qg}{i γ h:Gh}{a f:Act}(o:SatA n e i a){ms S ids:List Nat}(m:f.defers=[])(q:f.tmps.size=n)(c:Same ms a f)(g:GxS S i γ)(l:GxS ids γ h){J:AnnA}{k:List Dy}
  (p:∀x∈qda J k,zoc h (zz f) x):SatA n (qda J k++zjn ms (ids++S) e) h f:=by
 refine⟨m,q,λx b=>?_⟩;rcases Aw.1 b with b|b;exact p x b;exact Wu ((g.mono λx b=>AC _ b).trans (l.mono λx b=>Ar _ b)) c o.all x b
theorem qbd(hm:P.follows .mixedOrders=Ta){gl:Fr}(aA:Fr.le gl M0){tr:TypeId}{pl:PlanA}:∀(c:Code) (R:CS) (Q:zby) (e:qg) (C:CS),WA P gl tr n pl c R Q e C ->
  ∀(γ:Gh) (h:zb) (B:World) (d:Nat) (a:Act),SatA n e γ a->Inv h0 W M0 (C++R) γ h->c.wp P (qik h0 W M0 n B (Qd c) (ze8 pl c) a γ R Q) a (mk B d h):=by
 intro c;induction c with
 |skip=>exact λR Q e C H γ h B d a f I=>wp_skip ⟨e,C,γ,d,h,rfl,f,I,Same.refl _ _,GxS.refl _ _,H⟩
 |ret=>exact λR Q e C H γ h B d a f I=>wp_ret ⟨e,C,γ,d,h,rfl,f,I,Same.refl _ _,GxS.refl _ _,H⟩
 |exit id=>exact λR Q e C H γ h B d a f I=>wp_exit ⟨e,C,γ,d,h,rfl,f,I,Same.refl _ _,GxS.refl _ _,H⟩
 |label l=>exact λR Q e C H γ h B d a f I=>wp_label ⟨e,C,γ,d,h,rfl,f,I,Same.refl _ _,GxS.refl _ _,H⟩
 |goto l=>exact λR Q e C H γ h B d a f I=>wp_goto ⟨e,C,γ,d,h,rfl,f,I,Same.refl _ _,GxS.refl _ _,H⟩
 |region id ops aF=>exact λR Q e C H γ h B d a f I=>zon hm aA H B d f I λe' C' γ' a' d' h' r u q3 q4 q5=>⟨e',C',γ',d',h',rfl,r,u,q3,q4,q5⟩
 |seq x y N U=>
  intro R Q e C H γ h B d a f I;simp only[WA]at H;have hl:∀i∈Qd x,i∈Qd (x.seq y):=λi hi=>Ar _ hi;have hr:∀i∈Qd y,i∈Qd (x.seq y):=λi hi=>AC _ hi;have kl:∀i∈ze8 pl x,i∈ze8 pl (x.seq y):=λi hi=>Ar _ hi;have kr:∀i∈ze8 pl y,i∈ze8 pl (x.seq y):=λi hi=>AC _ (Ar _ hi);split at H;refine wp_seq (wp_mono (N _ _ _ _ H γ h B d a f I) ?_);rintro ex w w1 ⟨e1,Y,k,t,h1,rfl,s1,z,E,s,r⟩;cases ex with
  |normal=>refine wp_mono (U _ _ _ _ r k h1 B t w s1 z) ?_;rintro ex a2 w2 ⟨S,O,M,d2,D,rfl,s2,F,G,A,u⟩;exact⟨S,O,M,d2,D,rfl,s2,F,(E.mono hl).trans (G.mono hr),(s.mono kl).trans (A.mono kr),u⟩
  |_=>exact⟨e1,Y,k,t,h1,rfl,s1,z,E.mono hl,s.mono kl,r⟩
  rename_i J hJ;have kJ:∀i∈J.ids,i∈ze8 pl (x.seq y):=λi hi=>by simp only[ze8,hJ];exact AC _ (AC _ hi)
  have H':=H (qie (zci J) λL=>WA P gl tr n pl y R Q (qda J L++zjn (Qd x) (J.ids++ze8 pl x) e) (chJ J L++inC J.ro C)) (zry λL hq=>hq);refine wp_seq (wp_mono (N _ _ _ _ H' γ h B d a f (I.part J.ro)) ?_);rintro ex w w1 ⟨e1,Y,k,t,h1,rfl,s1,z,E,s,r⟩;cases ex with
  |normal=>obtain⟨L,q,hv,hq,hk⟩:=zvl r;have ah:=zrx hq;subst ah;obtain⟨ar,aa,ab,f1⟩:=zji hv s1 z;have au:=z0m f s1.defers s1.size E s ab f1;rw[<-AH]at aa;refine wp_mono (U _ _ _ _ hk ar h1 B t w au aa) ?_;rintro ex a2 w2 ⟨S,O,M,d2,D,rfl,s2,F,G,A,u⟩;exact⟨S,O,M,d2,D,rfl,s2,F,(E.mono hl).trans (G.mono hr),((s.mono kl).trans (ab.mono kJ)).trans (A.mono kr),u⟩
  |_=>exact⟨e1,Y++inC J.ro C,k,t,h1,rfl,s1,by rw[AH];exact z,E.mono hl,s.mono kl,r⟩
 |cond c x y N U=>intro R Q e C H γ h B d a f I;simp only[WA]at H;have hl:∀i∈Qd x,i∈Qd (DL c x y):=λi hi=>Ar _ hi;have hr:∀i∈Qd y,i∈Qd (DL c x y):=λi hi=>AC _ hi;have kl:∀i∈ze8 pl x,i∈ze8 pl (DL c x y):=λi hi=>Ar _ hi;have kr:∀i∈ze8 pl y,i∈ze8 pl (DL c x y):=λi hi=>AC _ hi;split at H;rename_i v hv;split at H;rename_i b V;refine wp_cond_split (zi9 V (zo f (c:=[]) trivial hv)) (λam=>?_) (λaC=>?_);refine wp_mono (N _ _ _ _ (H.1 am) γ h B d a f I) ?_;rintro ex a2 w2 ⟨S,O,M,d2,D,rfl,s2,F,G,A,u⟩;exact⟨S,O,M,d2,D,rfl,s2,F,G.mono hl,A.mono kl,u⟩;refine wp_mono (U _ _ _ _ (H.2 aC) γ h B d a f I) ?_;rintro ex a2 w2 ⟨S,O,M,d2,D,rfl,s2,F,G,A,u⟩;exact⟨S,O,M,d2,D,rfl,s2,F,G.mono hr,A.mono kr,u⟩;exact H.elim;exact H.elim
 |block id x ih=>
  intro R Q e C H γ h B d a f I;refine wp_block (wp_mono (ih _ _ _ _ H γ h B d a f I) ?_);rintro ex w w1 ⟨e1,Y,k,t,h1,rfl,s1,z,E,s,r⟩;cases ex with
  |exit i=>simp only[z4k]at r;simp only[Exit.inBlock];by_cases V:Nat.beq i id=Ta;rw[if_pos (Al V)];simp only[V,cond_true]at r;exact⟨e1,Y,k,t,h1,rfl,s1,z,E,s,r⟩;rw[if_neg (λhe=>V (by rw[he];simp))];simp only[V,cond_false]at r;exact⟨e1,Y,k,t,h1,rfl,s1,z,E,s,r⟩
  |_=>exact⟨e1,Y,k,t,h1,rfl,s1,z,E,s,r⟩
 |loop x ih=>
  intro R Q e C H γ h B d a f I;simp only[WA]at H;split at H;rename_i J hJ;have kx:∀i∈ze8 pl x,i∈ze8 pl (Code.loop x):=λi hi=>Ar _ hi;have kJ:∀i∈J.ids,i∈ze8 pl (Code.loop x):=λi hi=>by simp only[ze8,hJ];exact AC _ hi
  have kS:∀i∈J.ids++ze8 pl x,i∈ze8 pl (Code.loop x):=λi hi=>by rcases Aw.1 hi with hi|hi;exact kJ i hi;exact kx i hi
  obtain⟨Iv,μ,az,Z⟩:=H;obtain⟨ai,p0,ae,af,aE⟩:=zvl az;obtain⟨γ0,I0,g0,f0⟩:=zji ae f (I.part J.ro);refine wp_loop_ghost (λm w w1=>∃t h1 k L p,w1=mk B t h1/\w.defers=[]/\w.tmps.size=n/\Same (Qd x) a w/\GxS (J.ids++ze8 pl x) γ k/\Inv h0 W M0 (chJ J L++(inC J.ro C++R)) k h1/\(∀y∈qda J L,zoc k (zz w) y) /\ zhg (zci J) L (zrw (zci J) Iv μ)=Td p/\p.1/\p.2=m) p0.2 ⟨d,h,γ0,ai,p0,rfl,f.defers,f.size,Same.refl _ _,g0.mono λi hi=>Ar _ hi,I0,f0,af,aE,rfl⟩ ?_;rintro m w w1 ⟨t,h1,k,L,p,rfl,ax,an,o,s,z,f1,hp,aB,rfl⟩;have s1:SatA n (qda J L++zjn (Qd x) (J.ids++ze8 pl x) e) k w:=⟨ax,an,λy hy=>by rcases Aw.1 hy with hy|hy;exact f1 y hy;exact Wu s o f.all y hy⟩;have V:=zmu hp Z aB;refine wp_mono (ih _ _ _ _ V k h1 B t w s1 z) ?_;rintro ex a2 w2 ⟨S,O,M,d2,D,rfl,s2,F,G,A,u⟩;cases ex with
  |normal=>obtain⟨ak,q,aj,hq,ap,ay⟩:=zvl u;obtain⟨γ3,I3,g3,f3⟩:=zji aj s2 F;exact⟨q.2,ay,d2,D,γ3,ak,q,rfl,s2.defers,s2.size,o.trans G,(s.trans (A.mono λi hi=>AC _ hi)).trans (g3.mono λi hi=>Ar _ hi),I3,f3,hq,ap,rfl⟩
  |_=>exact⟨S,O++inC J.ro C,M,d2,D,rfl,s2,by rw[AH];exact F,o.trans G,(s.mono kS).trans (A.mono kx),u⟩
  exact H.elim
 |_=>exact λR Q e C H=>H.elim
def zvm:Nat->List Arg->qg
 |_,[]=>[]
 |i,a::l=>(i,[],.g (gOf a.t a.x))::zvm (i+1) l
def zxt(e:qg)(i:Nat):Option AV:=match zob e i with
 |some ([],v)=>Td v
 |_=>Te
def qbe(P:Program)(cs:CS)(e:qg):List ResultVar->(List AV->Prop)->Prop
 |[],K=>K []
 |.tmp t::l,K=>match zxt e t with
  |some v=>qbe P cs e l λvs=>K (v::vs)
  |none=>False
 |.cell a t::l,K=>match zxt e a with
  |some (.g (.a aa))=>zz4 P cs t aa Te λv=>qbe P cs e l λvs=>K (v::vs)
  |_=>False
def yy(cs:CS):(l:List Ty)->List AV->Option (Els l)
 |[],[]=>Td ()
 |[t],[v]=>zdy cs t v
 |t::t'::l,v::vs=>match zdy cs t v,yy cs (t'::l) vs with
  |some x,some y=>Td (x,y)
  |_,_=>Te
 |_,_=>Te
theorem zd7{γ:Gh}{cs:CS}(b:qag γ cs):∀{l:List Ty} {vs:List AV} {r:Els l} {us:List Value},yy cs l vs=Td r->All2 (DenV γ) vs us->RdL γ.M l r us
 |[],[],r,[],_,_=>rfl
 |[],[],_,_::_,_,h=>h.elim
 |[t],[v],r,[u],h,hd=>⟨u,rfl,zcd b (by simpa[yy]using h) hd.1⟩
 |[t],[v],_,[],_,h=>h.elim
 |[t],[v],_,_::_::_,_,h=>h.2.elim
 |t::t'::l,v::vs,r,[],_,h=>h.elim
 |t::t'::l,v::vs,r,u::us,h,hd=>by simp only[yy]at h;split at h;rename_i x y h1 c;simp only[Ac]at h;subst h;exact⟨u,us,rfl,zcd b h1 hd.1,zd7 b c hd.2⟩;cases h
 |[],_::_,_,_,h,_=>by simp[yy]at h
 |[t],[],_,_,h,_=>by simp[yy]at h
 |[t],_::_::_,_,_,h,_=>by simp[yy]at h
 |t::t'::l,[],_,_,h,_=>by simp[yy]at h
def qls(P:Program)(rs:List ResultVar)(rt:List Ty)(R:Els rt->Prop):zby:=λx e C=>match x with
 |.normal=>qbe P C e rs λvs=>match yy (frzL (Xj vs) C) rt vs with
  |some r=>R r
  |none=>False
 |.ret=>qbe P C e rs λvs=>match yy (frzL (Xj vs) C) rt vs with
  |some r=>R r
  |none=>False
 |_=>False
theorem zfr{P:Program}{n:Nat}{C:CS}{e:qg}{γ:Gh}{a:Act}{h:zb}(E:SatA n e γ a)(I:Inv h0 W M0 C γ h):∀{l:List ResultVar} {K:List AV->Prop},qbe P C e l K->∃vs us,K vs/\All2 (DenV γ) vs us/\us.length=l.length/\QExec P (l.mapM (zi8 a.tmps)) h us
 |[],K,H=>⟨[],[],H,trivial,rfl,λ_ _=>by simp⟩
 |.tmp t::l,K,H=>by
  simp only[qbe]at H;split at H;rename_i v A;obtain⟨vs,us,h1,J,M,L⟩:=zfr E I H;have m:DenV γ v (zz a t):=by unfold zxt at A;split at A;rename_i u q;simp only[Ac]at A;subst A;exact(E.all _ (Zw q)).1 trivial;cases A
  refine⟨v::vs,zz a t::us,h1,⟨m,J⟩,by simp[M],?_⟩;rw[DC];exact QExec.bind (x:=zz a t) (QExec.pure _) (L.bind (QExec.pure _));exact H.elim
 |.cell x t::l,K,H=>by
  simp only[qbe]at H;split at H;rename_i r s;obtain⟨v,O,Q⟩:=zjb (h0:=h0) (W:=W) (M0:=M0) H;obtain⟨vs,us,h1,J,M,L⟩:=zfr E I O;have m:DenA γ r (zz a x):=by unfold zxt at s;split at s;rename_i u q;simp only[Ac]at s;subst s;exact(E.all _ (Zw q)).1 trivial;cases s
  obtain⟨u,S,B⟩:=Q trivial γ h _ I m;refine⟨v::vs,u::us,h1,⟨S,J⟩,by simp[M],?_⟩;rw[DC];refine QExec.bind (x:=u) ?_ (L.bind (QExec.pure _));have F:∃p,zz a x=.pointer (Td p):=by
   have D:∀r,(∀k,qax C k r=Te)->(∀c z i o,r≠.oelt c z i o)->DenA γ r (zz a x)->zz4 P C t r Te (λv=>qbe P C e l λvs=>K (v::vs))->False:=by intro r U G _ q;unfold zz4 at q;split at q;split at q;exact G _ _ _ _ rfl;rw[U]at q;exact q;exact q
   cases r with
   |box c o=>exact⟨_,m⟩
   |oelt c z i o=>obtain⟨g,_,e⟩:=m;exact⟨_,e⟩
   |elt t y o=>obtain⟨b,f,cs,e,_⟩:=m;exact⟨_,e⟩
   |v y=>exact(D _ (λ_=>rfl) (by simp) m H).elim
   |d t y=>exact(D _ (λ_=>rfl) (by simp) m H).elim
   |own c=>exact(D _ (λ_=>rfl) (by simp) m H).elim
   |dc t y=>exact(D _ (λ_=>rfl) (by simp) m H).elim
  obtain⟨p,w⟩:=F;rw[w]at B;have N:a.tmps.getD x undef=.pointer (Td p):=w;simp only[zi8,N];exact B;exact H.elim
theorem zr8{fn:Func}{rs:List ResultVar}(f:fn.results.toList=rs){us:List Value}(c:us.length=rs.length)(e:QExec P (rs.mapM (zi8 a.tmps)) h us):QExec P (results fn a.tmps) h (zi7 us):=by
 intro B d;have b:results fn a.tmps=(fn.results.mapM (zi8 a.tmps) >>= λvs=>C2 (if h:vs.size=1 then vs[0]else .tuple vs)):=by unfold results;congr 1
 rw[b,Array.mapM_eq_mapM_toList,f,Sem.run_bind,Sem.run_map,e B d];simp only[Result.andThen_ok,Sem.run_pure]
 match us,c with
 |[],_=>rfl
 |[v],_=>rfl
 |v::u::vs,_=>simp[zi7]
theorem zjo{γ:Gh}{σ:Nat->Value}:∀{l:List Arg} {i:Nat} {us:List Value},zad γ.M l us->(∀j v,us[j]?=Td v->σ (i+j)=v)->∀x∈zvm i l,zoc γ σ x
 |[],_,_,_,_,x,b=>by cases b
 |a::l,i,[],h,_,x,b=>h.elim
 |a::l,i,u::us,h,hσ,x,b=>by simp only[zvm,Ai]at b;rcases b with rfl|b;refine⟨λ_=>?_,λe=>absurd trivial e⟩;have:=hσ 0 u rfl;simp only at this ⊢;rw[show σ i=u from this];exact zu7 h.1;exact zjo h.2 (λj v c=>by have:=hσ (j+1) v (by simpa using c);rwa[show i+(j+1)=i+1+j by omega]at this) x b
theorem z0n(hm:P.follows .mixedOrders=Ta)(gl:Fr)(tr:TypeId)(pl:PlanA)(args:List Arg){fn:Func}{rs:List ResultVar}{rt:List Ty}(hf:P.funcs[f]?=Td fn)(L:Qy fn=Ta)(Z:fn.results.toList=rs)(hn:fn.ntmps=n)
  (hz:Nat.ble args.length n=Ta) {R:Els rt->Prop} (H:WA P gl tr n pl (codeOf fn) [] (qls P rs rt R) (zvm 0 args) []):PC P gl f args rt R:=by
 intro h M vs G F l B d;subst hn;have A:fn.body=Td (codeOf fn):=by unfold Qy at L;unfold codeOf;split at L;rename_i c D;rw[D];cases L
 refine calls_of_wp hf A ?_;have p:vs.length=args.length:=(All2.length l).symm;have aa:vs.length<=fn.ntmps:=by rw[p];exact BS hz
 let γ:Gh:=⟨M,λ_=>0,λ_=>⟨Te,0,0⟩⟩;have I:Inv h (λ_=>False) M ([]++[]) γ h:={ ag:=F,frame:=λ_ _ _=>rfl,size:=Ab _,old:=λ_ _=>rfl,le:=Fr.le.refl _,den:=λx y=>(by cases y),sep:=λx y=>(by cases y),apart:=DG };have hs:SatA fn.ntmps (zvm 0 args) γ { tmps:=vs.toArray++BJ (fn.ntmps-vs.toArray.size) undef,defers:=[] }:=by refine⟨rfl,by simp;omega,zjo l λj v Q=>?_⟩;have z:j<vs.length:=(A1.1 Q).1;simp only[AL,zz,BI];rw[Cv (by simpa using z)];simp[Q]
 have fin:∀(e:qg) (C:CS) (γ':Gh) (h':zb) (a:Act),SatA fn.ntmps e γ' a->Inv h (λ_=>False) M (C++[]) γ' h'->(qbe P C e rs λvs=>match yy (frzL (Xj vs) C) rt vs with|some r=>R r|none=>False) ->
   ∃v,QExec P (results fn a.tmps) h' v/\Keep h.size h h'/\∃M' r,Fr.le M M'/\(∀b,b<h.size->M' b=M b)/\AgM M' h'/\Y3 M' rt r v/\R r:=by
  intro e C γ' h' a s1 o q;rw[AR]at o;obtain⟨J,us,E,V,hl,s⟩:=zfr s1 o q;split at E;rename_i r D;obtain⟨Y,m,g2⟩:=Inv.frzL (C:=C) (R:=[]) (γ:=γ') (Xj J) (by simpa using o);rw[AR]at m;refine⟨zi7 us,zr8 Z hl s,⟨m.size,λi hi=>m.frame i hi (λh=>h)⟩,Y.M,r,m.le,m.old,m.ag,⟨us,zd7 m.fz D (V.imp λv _ u hu=>hu.gx g2 rfl),rfl⟩,E⟩;exact E.elim
 refine wp_mono (qbd hm G _ _ _ _ _ H γ h B d _ hs I) ?_;rintro ex a w ⟨U,S,O,t,h1,rfl,s1,o,m1,g1,N⟩;cases ex with
 |normal=>obtain⟨v,s,k,rest⟩:=fin U S O h1 a s1 o N;exact⟨s1.defers,v,s B t,v,t,h1,rfl,rfl,k,rest⟩
 |ret=>obtain⟨v,s,k,rest⟩:=fin U S O h1 a s1 o N;exact⟨s1.defers,v,s B t,v,t,h1,rfl,rfl,k,rest⟩
 |_=>exact N.elim
theorem z0o(i:P.follows .mixedOrders=Ta)(gl:Fr)(tr:TypeId)(pl:PlanA)(args:List Arg){fn:Func}{rs:List ResultVar}{rt:List Ty}(k:P.funcs[f]?=Td fn)(b:Qy fn=Ta)(c:fn.results.toList=rs)(h:fn.ntmps=n)
  (l:Nat.ble args.length n=Ta) {R:Els rt->Prop} {F:Prop} (H:F) (e:F=WA P gl tr n pl (codeOf fn) [] (qls P rs rt R) (zvm 0 args) []):PC P gl f args rt R:=
 z0n i gl tr pl args k b c h l (e ▸ H)
end
end Go.X
end
section
namespace Go.X
open Go Go.RowKit
section
variable {P:Program} {f:FuncId} {h:zb} {M gl:Fr} {v:Value} {us:List Value}
theorem XC.of_calls{args:Array Value}{R:Value->zb->Prop}
  (H:∀B d,Calls P f args (mk B d h) λe w'=>∃v,e=.returned v/\w'.os=B.os/\w'.tape=B.tape/\w'.output=B.output/\R v w'.heap):XC P f args h R:=by
 intro B d;refine(H B d).mono ?_;rintro e w' ⟨v,rfl,h1,i,c,b⟩;refine⟨v,w'.drawn,w'.heap,rfl,?_,b⟩;cases w';simp only[mk]at *;subst h1;subst i;subst c;rfl
theorem AgM.keep{h h':zb}(ag:AgM M h)(k:Keep h.size h h'):AgM M h':=λb c e=>by obtain⟨T,m,e'⟩:=ag b c e;exact⟨T,m,by rw[k.get b (ag.lt e)];exact e'⟩
def z0p:Arg->Option Value
 |⟨.int k,x⟩=>Td (.int k x)
 |⟨.bool,x⟩=>Td (.bool x)
 |⟨.str,x⟩=>Td (.string x)
 |_=>Te
def zg6:List Arg->Option (List Value)
 |[]=>Td []
 |a::l=>match z0p a,zg6 l with
  |some v,some vs=>Td (v::vs)
  |_,_=>Te
theorem qbf{a:Arg}{v u:Value}(h:z0p a=Td v)(b:RdV M a.t a.x u):u=v:=by
 obtain⟨t,x⟩:=a;cases t with
 |int k=>simp only[z0p,Ac]at h;subst h;simpa[RdV,Rd,zhf]using b
 |bool=>simp only[z0p,Ac]at h;subst h;simpa[RdV,Rd,zhf]using b
 |str=>simp only[z0p,Ac]at h;subst h;simpa[RdV,Rd,zhf]using b
 |_=>simp[z0p]at h
theorem zd8{M:Fr}:∀{l:List Arg} {vs us:List Value},zg6 l=Td vs->zad M l us->us=vs
 |[],vs,us,h,hd=>by
  simp only[zg6,Ac]at h;subst h;cases us with
  |nil=>rfl
  |cons _ _=>exact hd.elim
 |a::l,vs,us,h,hd=>by
  simp only[zg6]at h;split at h;rename_i v b h1 c;simp only[Ac]at h;subst h;cases us with
  |nil=>exact hd.elim
  |cons u us=>rw[qbf h1 hd.1,zd8 c hd.2]
  cases h
theorem PC.of_scal{args:List Arg}{rt:List Ty}{R:Els rt->Prop}(l:zg6 args=Td us){r:Els rt}(p:∀M,Y3 M rt r v)(m:R r)
  (H:∀w:World,AgM gl w.heap->Calls P f us.toArray w λe w'=>e=.returned v/\Below w.heap.size w w'):PC P gl f args rt R:=by
 intro h M vs o ag n;rw[zd8 l n];refine XC.of_calls λB d=>(H (mk B d h) λb c e=>ag b c (o b c e)).mono ?_;rintro e w' ⟨rfl,i⟩;have k:Keep h.size h w'.heap:=⟨i.size,i.block⟩;exact⟨v,rfl,i.os,i.tape,i.output,k,M,r,Fr.le.refl _,λ_ _=>rfl,ag.keep k,p M,m⟩
theorem PC.of_same{args:List Arg}{rt:List Ty}{R:Els rt->Prop}(b:zg6 args=Td us){r:Els rt}(c:∀M,Y3 M rt r v)(i:R r)
  (H:∀w:World,AgM gl w.heap->Calls P f us.toArray w λe w'=>e=.returned v/\w'=w):PC P gl f args rt R:=
 PC.of_scal b c i λw h=>(H w h).mono λe w' ⟨h1,k⟩=>⟨h1,k ▸ Below.refl _ _⟩
theorem z4l(k:IntKind)(i:Int):Y3 M [.int k] i (.int k i):=⟨[_],⟨_,rfl,rfl⟩,rfl⟩
theorem zoo(b:Bool):Y3 M [.bool] b (.bool b):=⟨[_],⟨_,rfl,rfl⟩,rfl⟩
theorem zjp(s:Bt):Y3 M [.str] s (.string s):=⟨[_],⟨_,rfl,rfl⟩,rfl⟩
theorem AgM.glob{w:World}(ag:AgM gl w.heap){b o:Nat}{cs:Array Value}(c:gl b=Td cs)(f:cs[o]?=Td v):w.cell? ⟨b,o,Option.none⟩=Td v:=by obtain⟨T,m,e⟩:=ag b cs c;simp[World.cell?,e,f]
theorem PC.of_ex{args:List Arg}{rt:List Ty}{R:Els rt->Prop}(l:zg6 args=Td us)
  (H:∀w:World,AgM gl w.heap->Calls P f us.toArray w λe w'=>∃v r,e=.returned v/\(∀M,Y3 M rt r v)/\R r/\Below w.heap.size w w'):PC P gl f args rt R:=by
 intro h M vs n ag m;rw[zd8 l m];refine XC.of_calls λB d=>(H (mk B d h) λb c e=>ag b c (n b c e)).mono ?_;rintro e w' ⟨v,r,rfl,o,p,i⟩;have k:Keep h.size h w'.heap:=⟨i.size,i.block⟩;exact⟨v,rfl,i.os,i.tape,i.output,k,M,r,Fr.le.refl _,λ_ _=>rfl,ag.keep k,o M,p⟩
end
end Go.X
end
