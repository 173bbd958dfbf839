/- A part of the proof: nothing is stated here for its own sake. -/
import Derived.Test.YtlpdhcjkhfkfmaaGreatDoorPmA
import Derived.Laws.StructEq
import Derived.Deep.AppendSrc
import Derived.Laws.BytesString
import Derived.Deep.LoopGhost
import Derived.Below
open _root_.Go.Addr renaming add->NG
open _root_.Array renaming getD_eq_getD_getElem?->OL,getElem?_append_left->Pu,getElem?_eq_getElem->Oy,getElem?_eq_some_iff->NK,getElem?_push->OZ,getElem?_setIfInBounds_ne->NW,length_toList->PP,range->Rx,replicate->OV,size_setIfInBounds->O3,toList_map->PT
open _root_.Bool renaming false_eq_true->OS,or_eq_true->Pi
open _root_.Go.Builtin renaming append_->NX,firstCells->PI,len_->QQ
open _root_.Go.Code renaming cond->Rh,region->Rn
open _root_.Go.Deferred renaming ofValue->QR
open _root_.Go.Instr renaming fill->Rz,indexAt->Rj,next->QE,range->Rk,sliceAt->QX,storeAt->NR,sureAddr->QG
open _root_.List.Pairwise renaming nil->PO
open _root_.List renaming all_eq_true->N3,append_assoc->Od,append_nil->Oe,cons_append->Ox,drop_eq_getElem_cons->Po,drop_zero->Pv,eq_nil_of_length_eq_zero->N5,ext_getElem?->OG,getElem?_append_left->Pb,getElem?_append_right->O9,getElem?_drop->Oj,getElem?_eq_getElem->NL,getElem?_eq_none->Ow,getElem?_eq_some_iff->Ou,getElem?_map->OM,getElem?_take->N4,getElem_map->QT,length_append->NH,length_cons->NU,length_drop->ON,length_eq_zero_iff->Ov,length_map->NM,length_nil->OE,length_range->P7,length_take->N8,mapM_cons->Re,map_cons->N2,mem_append->N0,mem_append_left->NT,mem_append_right->N1,mem_cons->NI,mem_cons_of_mem->NF,mem_cons_self->NQ,mem_map->N9,mem_range->Og,mem_singleton->OO,nil_append->OU,pairwise_append->Oh,pairwise_cons->Oi,range->OB,size_toArray->P8,take_append_drop->OX,take_left->QN,take_of_length_le->Pe,take_succ_eq_append_getElem->Oc
open _root_.List.cons renaming injEq->PE
open _root_.Nat renaming add_assoc->QZ,add_mul->O2,blt_eq->Pp,eq_of_beq_eq_true->NJ,eq_zero_or_pos->QK,le_mul_of_pos_right->QH,le_of_ble_eq_true->OW,le_refl->ND,le_trans->OD,lt_or_ge->Ob,mul_le_mul_right->Oa,mul_one->OI,one_mul->Rc,zero_add->NZ,zero_le->NV
open _root_.Go.Next renaming value->QD
open _root_.Go.Op renaming equal->Rs
open _root_.Option renaming map_eq_some_iff->Pn,map_some->Rq
open _root_.Option.some renaming inj->NY,injEq->NC
open _root_.Prod.mk renaming injEq->OJ
open _root_.Pure renaming pure->PZ
open _root_.UInt8 renaming ofNat->PL
open _root_.Go.Utf8 renaming decode->Rw
open _root_.Go.Value renaming int->OH
open _root_.Go.Value.slice renaming injEq->N6
open _root_.Go.World renaming cell?->Ro
set_option linter.unusedVariables false
set_option maxRecDepth 100000
namespace Go.X
end Go.X
namespace Go.Proofs
end Go.Proofs
open Go Go.X Go.Proofs
open _root_.Bool renaming true->Ta,false->Tc
open _root_.Option renaming some->Td,none->Te
section
namespace Go.X
section
variable {cs:CS} {γ:Gh} {h:za} {u:Value} {t el:TypeId} {a:Option Addr} {n:Int} {av:AV} {P:Program} {cap:Nat} {g:Option Bool} {σ:Operand -> Value} {b:Bool} {o:Oper}
variable {h0 : za} {W : Nat -> Prop} {M0 : Fr}
def rowOf(cs:CS):AA->Option ((t:Ty)×List (El t))
 |.d (.row t) xs=>Td ⟨t,xs⟩
 |.dc t xs=>Td ⟨t,xs⟩
 |.own c=>match Zx cs c with
  |some (.fz t xs)=>Td ⟨t,xs⟩
  |_=>Te
 |_=>Te
theorem lG(I:Inv h0 W M0 cs γ h){e:AA}{r:(t:Ty)×List (El t)}(b:rowOf cs e=Td r)(c:DenA γ e u):Rd γ.M (.row r.1) r.2 [u]:=by unfold rowOf at b;split at b;simp only[NC]at b;subst b;exact c;simp only[NC]at b;subst b;obtain⟨s,_,_,h⟩:=c;exact h;split at b;rename_i t xs f;simp only[NC]at b;subst b;rw[show u=_ from c];exact I.den _ (zu f);cases b;cases b
theorem Rd.sub{M:Fr}{t:Ty}{xs:List (El t)}{n c:Nat}(H:Rd M (.row t) xs [.slice a n c]){l r m:Nat}(A:l<=r)(E:r<=xs.length)(D:r<=m)(B:m<=c):
  Rd M (.row t) ((xs.take r).drop l) [.slice (dP a (sz t) l m) (r-l) (m-l)]:=by
 obtain⟨v,e,x,z,k,C,H⟩:=H;cases e;simp only[N6]at k;obtain⟨rfl,rfl,rfl⟩:=k;have f:((xs.take r).drop l).length=r-l:=by simp;omega
 refine⟨_,rfl,dP a (sz t) l m,m-l,by rw[f],⟨by rw[f];omega,by rw[f];omega⟩,?_⟩;by_cases y:r=l;left;apply N5;omega;rcases H with h|⟨b,o,cs,u,s,hi⟩;left;subst h;simp;right;have j:¬(m=l):=by omega
 refine⟨b,o+l*sz t,cs,?_,s,λi w=>?_⟩;unfold dP;rw[zv j,u];simp[zj];have:=hi (l+i) (by omega);have p:((xs.take r).drop l)[i]=xs[l+i]:=by simp
 rw[p];have q:o+l*sz t+i*sz t=o+(l+i)*sz t:=by rw[O2];omega
 rw[q];exact this
def oe:AV->Option Int
 |.g (.a (.v (.int _ n)))=>Td n
 |_=>Te
theorem zL(h:oe av=Td n)(b:DenV γ av u):∃k,u=.int k n:=by unfold oe at h;split at h;simp only[NC]at h;subst h;exact⟨_,b⟩;cases h
def gH(P:Program)(t:TypeId):Option TypeId:=match P.underlying t with
 |some (.slice el)=>bif qy P el then Td el else Te
 |_=>Te
theorem Yb(h:gH P t=Td el):P.underlying t=Td (.slice el)/\qy P el=Ta:=by
 unfold gH at h;split at h;rename_i e b;cases ho:qy P e with
 |false=>rw[ho]at h;cases h
 |true=>rw[ho]at h;simp only[zI,NC]at h;subst h;exact⟨b,ho⟩
 cases h
def sw(P:Program)(cs:CS)(t:TypeId)(b:AA)(n:Int)(g:Option Bool)(K:AV->Prop):Prop:=
 match gH P t with
 |some el=>match rowOf cs b with
  |some r=>bif Nat.beq (qj P el) (sz r.1)then ∃y:El r.1,req g (0<=n/\r.2[n.toNat]?=Td y)/\K (.g (.a (.elt r.1 y 0)))else False
  |none=>match b with
   |.own c=>match Zx cs c with
    |some (.row e ty xs)=>bif Nat.beq (qj P el) (sz ty)then req g (0<=n/\n.toNat<xs.length)/\K (.g (.a (.oelt c (sz ty) n.toNat 0)))else False
    |_=>False
   |_=>False
 |none=>False
theorem yO(c:P.underlying t=Td (.slice el))(j:qy P el=Ta){a:Addr}{len cap:Nat}{k:IntKind}(o:0<=n)(l:n<(len:Int))(h:za):
  QExec P (Rj t (.slice (Td a) len cap) (.int k n)) h (.pointer (Td (a.add (n.toNat*qj P el)))):=by
 have:=xp (P:=P) (t:=t) (x:=.slice (Td a) len cap) (i:=.int k n) (g:=Te) (K:=λv=>v=.pointer (Td (a.add (n.toNat*qj P el)))) (λe b=>by rcases b with b|⟨m,b⟩;rw[c]at b;cases b;exact q9 j;rw[c]at b;cases b) (by unfold kZ;rw[c];exact⟨a,⟨rfl,o,l⟩,rfl⟩);obtain⟨v,rfl,f⟩:=this;exact f trivial h
theorem Fa{D:AA}{K:AV->Prop}(H:sw P cs t D n g K):
  ∃av,K av/\(dN g->∀γ h u k,Inv h0 W M0 cs γ h->DenA γ D u->∃v,DenV γ av v/\QExec P (Rj t u (.int k n)) h v):=by
 unfold sw at H;split at H;rename_i el z;obtain⟨E,F⟩:=Yb z;split at H;rename_i r L;cases hz:Nat.beq (qj P el) (sz r.1)with
 |false=>rw[hz]at H;exact H.elim
 |true=>rw[hz]at H;obtain⟨y,s,B⟩:=H;refine⟨_,B,λp γ h u k I q=>?_⟩;obtain⟨j,l⟩:=s.out p;have i:=NJ hz;obtain⟨v,e,a,c,U,Z,H⟩:=lG I L q;cases e;subst U;have hi:n.toNat<r.2.length:=(Ou.1 l).1;have Q:r.2[n.toNat]=y:=(Ou.1 l).2;rcases H with w|⟨b,o,T,N,M,x⟩;rw[w]at hi;simp at hi;subst N;refine⟨_,?_,yO E F j (by omega) h⟩;have:=x n.toNat hi;rw[Q]at this;rw[zj,i];exact⟨b,o+n.toNat*sz r.1,T,rfl,M,this⟩
 split at H;rename_i c _;split at H;rename_i e ty xs O;cases hz:Nat.beq (qj P el) (sz ty)with
 |false=>rw[hz]at H;exact H.elim
 |true=>rw[hz]at H;obtain⟨s,B⟩:=H;refine⟨_,B,λp γ h u k I q=>?_⟩;obtain⟨j,hi⟩:=s.out p;have i:=NJ hz;obtain⟨cells,f,G,_,V⟩:=I.den _ (zu O);simp only at V f;rcases f.2 with⟨m,Y⟩|⟨g',cap,J,m,_,S,_,_,_,A⟩;omega;simp only[N6]at m;have C:u=aK (γ.σ c):=q;subst C;unfold aK;rw[m.1];refine⟨_,?_,yO E F j (by omega) h⟩;rw[zj,i,NZ];exact⟨g',m.1,rfl⟩
 exact H.elim;exact H.elim;exact H.elim
def mR(ρ:Operand->Option AV)(d:Int):Option Operand->Option Int
 |none=>Td d
 |some x=>match ρ x with
  |some av=>oe av
  |none=>Te
theorem Yc{ρ:Operand->Option AV}(c:∀x av,ρ x=Td av->DenV γ av (σ x)){d n:Int}{x:Option Operand}(h:mR ρ d x=Td n):ya (x.map σ) d=Td n:=by unfold mR at h;split at h;exact h;rename_i y;split at h;rename_i av b;obtain⟨k,e⟩:=zL h (c _ _ b);simp[ya,e];cases h
def sj(P:Program)(cs:CS)(ρ:Operand->Option AV)(t:TypeId)(b:AA)(lo hi mx:Option Operand)(g:Option Bool)(K:AV->Prop):Prop:=
 match gH P t with
 |some el=>match rowOf cs b with
  |some r=>bif Nat.beq (qj P el) (sz r.1)then(match mR ρ 0 lo,mR ρ (r.2.length:Int) hi with
   |some l,some h=>match mx with
    |none=>req g (0<=l/\l<=h/\h<=(r.2.length:Int))/\K (.g (.a (.d (.row r.1) ((r.2.take h.toNat).drop l.toNat))))
    |some m=>match mR ρ 0 (Td m),hi with
     |some m,some _=>req g (0<=l/\l<=h/\h<=(r.2.length:Int)/\m=h)/\K (.g (.a (.dc r.1 ((r.2.take h.toNat).drop l.toNat))))
     |_,_=>False
   |_,_=>False)else False
  |none=>False
 |none=>False
theorem wC(c:P.underlying t=Td (.slice el))(i:qy P el=Ta){len cap:Nat}{lo hi mx:Option Value}{l r m:Int}(s:ya lo 0=Td l)(f:ya hi (len:Int)=Td r)(p:ya mx (cap:Int)=Td m) (h0:mx=Te\/∃v,hi=Td v) (j:0<=l) (q:l<=r) (k:r<=m) (e:m<=(cap:Int)) (h:za):
  QExec P (QX t (.slice a len cap) lo hi mx) h (.slice (dP a (qj P el) l.toNat m.toNat) (r.toNat-l.toNat) (m.toNat-l.toNat)):=by
 have:=Qj (P:=P) (t:=t) (x:=.slice a len cap) (lo:=lo) (hi:=hi) (mx:=mx) (g:=Te) (K:=λv=>v=.slice (dP a (qj P el) l.toNat m.toNat) (r.toNat-l.toNat) (m.toNat-l.toNat)) (λn b=>by rcases b with b|⟨u,b⟩ <;> (rw[c]at b;cases b);exact q9 i) (by unfold nY;rw[c];simp only[s,f,p];exact⟨h0,⟨j,q,k,e⟩,trivial⟩);obtain⟨v,rfl,o⟩:=this;exact o trivial h
theorem MO{ρ:Operand->Option AV}{C:AA}{lo hi mx:Option Operand}{K:AV->Prop}(H:sj P cs ρ t C lo hi mx g K):
  ∃av,K av/\(dN g->∀γ h u σ,Inv h0 W M0 cs γ h->(∀x av,ρ x=Td av->DenV γ av (σ x))->DenA γ C u->∃v,DenV γ av v/\QExec P (QX t u (lo.map σ) (hi.map σ) (mx.map σ)) h v):=by
 unfold sj at H;split at H;rename_i el y;obtain⟨E,F⟩:=Yb y;split at H;rename_i r D;cases hz:Nat.beq (qj P el) (sz r.1)with
 |false=>rw[hz]at H;exact H.elim
 |true=>
  rw[hz]at H;have k:=NJ hz;simp only[zI]at H;split at H;rename_i l O G n;split at H;obtain⟨s,z⟩:=H;refine⟨_,z,λp γ h u σ I j q=>?_⟩;obtain⟨w,A,M⟩:=s.out p;have f:=lG I D q;have b:=f;obtain⟨v,e,a,c,B,L,_⟩:=b;cases e;subst B;refine⟨_,?_,wC E F (Yc j G) (Yc j n) (m:=(c:Int)) rfl (.inl rfl) w A (by omega) (Int.le_refl _) h⟩;rw[k];exact f.sub (by omega) (by omega) (by omega) (by omega);rename_i m;split at H;rename_i m' Q N;obtain⟨s,z⟩:=H;refine⟨_,z,λp γ h u σ I j q=>?_⟩;obtain⟨w,A,M,J⟩:=s.out p;subst J;have f:=lG I D q;have b:=f;obtain⟨v,e,a,c,B,L,_⟩:=b;cases e;subst B;have i:=Yc j N;have o:ya ((Td m).map σ) (c:Int)=Td m':=by unfold ya at i ⊢;simp only[Rq]at i ⊢;split at i <;> simp_all
  refine⟨_,?_,wC E F (Yc j G) (Yc j n) o (.inr ⟨_,rfl⟩) w A (Int.le_refl _) (by omega) h⟩;rw[k];refine⟨⟨_,_,_⟩,rfl,rfl,f.sub (by omega) (by omega) (by omega) (by omega)⟩;exact H.elim;exact H.elim
 exact H.elim;exact H.elim
def sy(cs:CS):AA->Option Nat
 |.d (.row _) xs=>Td xs.length
 |.dc _ xs=>Td xs.length
 |.own c=>match Zx cs c with
  |some (.fz _ xs)=>Td xs.length
  |some (.row _ _ xs)=>Td xs.length
  |_=>Te
 |_=>Te
theorem GN(I:Inv h0 W M0 cs γ h){j:AA}{n:Nat}(b:sy cs j=Td n)(f:DenA γ j u):∃a c,u=.slice a n c:=by
 have key:∀{t:Ty} {xs:List (El t)},Rd γ.M (.row t) xs [u]->∃a c,u=.slice a xs.length c:=by rintro t xs ⟨v,e,a,c,l,_⟩;cases e;exact⟨a,c,l⟩
 unfold sy at b;split at b;simp only[NC]at b;subst b;exact key f;simp only[NC]at b;subst b;obtain⟨s,_,_,f⟩:=f;exact key f;split at b;rename_i c t xs i;simp only[NC]at b;subst b;rw[show u=_ from f]at key ⊢;exact key (I.den _ (zu i));rename_i c e t xs i;simp only[NC]at b;subst b;obtain⟨cells,_,_,_,k⟩:=I.den _ (zu i);simp only at k;rw[show u=_ from f];exact⟨_,_,by unfold aK;rw[k]⟩;cases b;cases b
def ul:AA->List AA
 |.v x=>x.cells.toList.map .v
 |x=>[x]
def jP:AV->Option (List AA)
 |.g (.a x)=>Td (ul x)
 |.g (.agg l)=>Td l
 |_=>Te
theorem DK(h:u.oneCell'=Ta):u.cells.toList=[u]:=by cases u <;> first|rfl|simp[Value.oneCell']at h
theorem xw(γ:Gh):∀l:List Value,All2 (DenA γ) (l.map .v) l
 |[]=>trivial
 |_::l=>⟨rfl,xw γ l⟩
theorem EI{x:AA}(j:DenA γ x u):All2 (DenA γ) (ul x) u.cells.toList:=by
 have key:u.oneCell'=Ta->All2 (DenA γ) [x] u.cells.toList:=λh=>by rw[DK h];exact⟨j,trivial⟩
 cases x with
 |v y=>rw[show u=y from j];exact xw γ _
 |d t y=>exact key (Rd.one (show Rd γ.M t y [u]from j) u (by simp))
 |box c o=>exact key (by rw[show u=_ from j];rfl)
 |own c=>exact key (by rw[show u=_ from j];rfl)
 |oelt c z i o=>obtain⟨g,_,e⟩:=j;exact key (by rw[e];rfl)
 |elt t y o=>obtain⟨b,f,cs,e,_⟩:=j;exact key (by rw[e];rfl)
 |dc t xs=>obtain⟨s,e,_⟩:=j;exact key (by rw[e];rfl)
theorem oE{l:List AA}(h:jP av=Td l)(b:DenV γ av u):All2 (DenA γ) l u.cells.toList:=by unfold jP at h;split at h;simp only[NC]at h;subst h;exact EI b;simp only[NC]at h;subst h;obtain⟨us,rfl,c⟩:=b;simpa[Value.cells]using c;cases h
def ij(b:Nat->Option (Nat×Nat))(cells:List AA):List (Nat×AV)->Option (List AA)
 |[]=>Td cells
 |(i,av)::rest=>match b i,jP av with
  |some (off,size),some l=>bif Nat.beq l.length size then(bif Nat.ble (off+l.length) cells.length then ij b (cells.take off++l++cells.drop (off+l.length)) rest else Te)else Te
  |_,_=>Te
theorem Lw(vs:List Value):∀(k off:Nat) (cs:Array Value),off+k+vs.length<=cs.size ->
  ((vs.zipIdx k).foldl (λcs (x:Value×Nat)=>cs.setIfInBounds (off+x.2) x.1) cs).toList=cs.toList.take (off+k)++vs++cs.toList.drop (off+k+vs.length):=by
 induction vs with
 |nil=>intro k off cs h;simp
 |cons v vs b=>
  intro k off cs h;simp only[NU]at h;rw[List.zipIdx_cons,List.foldl_cons];refine(b (k+1) off (cs.setIfInBounds (off+k) v) (by rw[O3];omega)).trans ?_;simp only[Array.toList_setIfInBounds,NU];have hi:off+k<cs.toList.length:=by simp;omega
  rw[<-QZ,List.drop_set_of_lt (by omega)];have c:(cs.toList.set (off+k) v).take (off+k+1)=cs.toList.take (off+k)++[v]:=by
   rw[List.take_set,Oc hi,List.set_append_right _ _ (by simp;omega)];have:off+k-(cs.toList.take (off+k)).length=0:=by simp;omega
   rw[this];rfl
  rw[c,show off+k+(vs.length+1)=off+k+1+vs.length by omega];simp
theorem Y5{b:Nat->Option (Nat×Nat)}{γ:Gh}:∀{c:List (Nat×AV)} {cells r:List AA} {us:List Value} {ps:List (Nat×Value)},ij b cells c=Td r->All2 (DenA γ) cells us->All2 (λ(x:Nat×AV) (y:Nat×Value)=>x.1=y.1/\DenV γ x.2 y.2) c ps ->
  ∃o:List Value,Rz b us.toArray ps=Td o.toArray/\All2 (DenA γ) r o
 |[],cells,r,us,[],h,hc,_=>by simp only[ij,NC]at h;subst h;exact⟨us,rfl,hc⟩
 |[],_,_,_,_::_,_,_,e=>e.elim
 |_::_,_,_,_,[],_,_,e=>e.elim
 |(i,av)::rest,cells,r,us,(j,v)::ps,h,hc,e=>by
  obtain⟨⟨n,t⟩,e⟩:=e;simp only at n t;subst n;simp only[ij]at h;split at h;rename_i off size l q B;cases hb:Nat.beq l.length size with
  |false=>rw[hb]at h;cases h
  |true=>
   rw[hb]at h;simp only[zI]at h;cases hb2:Nat.ble (off+l.length) cells.length with
   |false=>rw[hb2]at h;cases h
   |true=>
    rw[hb2]at h;simp only[zI]at h;have k:=oE B t;have m:=k.length;have A:=hc.length;have w:=NJ hb;have C:=OW hb2;have s:v.cells.size=size:=by rw[<-w,m];simp
    have f:All2 (DenA γ) (cells.take off++l++cells.drop (off+l.length)) (us.take off++v.cells.toList++us.drop (off+l.length)):=((hc.take off).append k).append (hc.drop _);obtain⟨o,u,z⟩:=Y5 h f e;refine⟨o,?_,z⟩;simp only[Rz,q];have p:¬((decide (v.cells.size≠size)||decide (off+v.cells.size>us.toArray.size))=Ta):=by rw[s];simp;omega
    rw[zv p];rw[<-u];congr 1;apply Array.ext';have:=Lw v.cells.toList 0 off us.toArray (by simp;omega);rw[<-Array.foldl_toList,Array.toList_zipIdx];refine this.trans ?_;simp[<-m]
  cases h
def lI(P:Program):List Field->Bool
 |[]=>Ta
 |f::l=>bif qy P f.type then lI P l else Tc
theorem A1{P:Program}{h:za}:∀{l:List Field},lI P l=Ta->QExec P (l.mapM λf=>do pure (f.offset,<-Go.sizeOf f.type)) h (l.map λf=>(f.offset,qj P f.type))
 |[],_=>λ_ _=>rfl
 |f::l,H=>by
  simp only[lI]at H;cases ho:qy P f.type with
  |false=>rw[ho]at H;cases H
  |true=>rw[ho]at H;obtain⟨i,hi⟩:=q9 ho;rw[Re];exact QExec.bind (QExec.bind (QExec.sizeOf hi) (QExec.pure _)) (QExec.bind (A1 H) (QExec.pure _))
def placeOf(P:Program)(b:Array Field)(i:Nat):Option (Nat×Nat):=match b[i]? with
 |some f=>Td (f.offset,qj P f.type)
 |none=>Te
def gK(ρ:Operand->Option AV):List (Nat×Operand)->Option (List (Nat×AV))
 |[]=>Td []
 |(i,x)::l=>match ρ x,gK ρ l with
  |some av,some r=>Td ((i,av)::r)
  |_,_=>Te
theorem X6{γ:Gh}{ρ:Operand->Option AV}{σ:Operand->Value}(b:∀x av,ρ x=Td av->DenV γ av (σ x)):∀{l:List (Nat×Operand)} {r:List (Nat×AV)},gK ρ l=Td r ->
  All2 (λ(x:Nat×AV) (y:Nat×Value)=>x.1=y.1/\DenV γ x.2 y.2) r (l.map λx=>(x.1,σ x.2))
 |[],r,h=>by simp only[gK,NC]at h;subst h;trivial
 |(i,x)::l,r,h=>by simp only[gK]at h;split at h;rename_i av f e c;simp only[NC]at h;subst h;exact⟨⟨rfl,b _ _ e⟩,X6 b c⟩;cases h
def zeroOf(P:Program)(t:TypeId):Option Value:=match P.info? t with
 |some i=>i.zero
 |none=>Te
theorem Yd{z:Value}(h:zeroOf P t=Td z)(b:za):QExec P (zeroValue t) b z:=by unfold zeroOf at h;split at h;rename_i i hi;intro B d;simp[zeroValue,typeInfo,program,hi,Sem.run,h];cases h
def tc(P:Program)(t:TypeId)(b:List (Nat×AV)):Option (List AA):=match P.underlying t,zeroOf P t with
 |some (.struct fs),some z=>bif lI P fs.toList then ij (placeOf P fs) (z.cells.toList.map .v) b else Te
 |_,_=>Te
theorem Lm{b:List (Nat×AV)}{r:List AA}(h:tc P t b=Td r){ps:List (Nat×Value)}(o:All2 (λ(x:Nat×AV) (y:Nat×Value)=>x.1=y.1/\DenV γ x.2 y.2) b ps)(j:za):
  ∃e:List Value,QExec P (Instr.build t ps.toArray) j (.agg e.toArray)/\All2 (DenA γ) r e:=by
 unfold tc at h;split at h;rename_i c z u q;cases hof:lI P c.toList with
 |false=>rw[hof]at h;cases h
 |true=>
  rw[hof]at h;simp only[zI]at h;obtain⟨e,m,s⟩:=Y5 h (xw γ _) o;refine⟨e,?_,s⟩;intro B d;have w:=QExec.underlying (h:=j) u B d;have k:=Yd q j B d;have l:=A1 (P:=P) (h:=j) hof B d;unfold Instr.build;rw[Sem.run_bind,k];simp only[Result.andThen_ok];rw[Sem.run_bind,w];simp only[Result.andThen_ok];rw[Sem.run_bind,Array.mapM_eq_mapM_toList,Sem.run_map,l];simp only[Result.andThen_ok];have n:(λi=>((c.toList.map λf=>(f.offset,qj P f.type)).toArray)[i]?)=placeOf P c:=by funext i;unfold placeOf;cases hi:c[i]? <;> simp[hi]
  rw[n];have p:z.cells.toList.toArray=z.cells:=by simp
  rw[p]at m;simp only[m];rfl
 cases h
def tw(P:Program)(t:TypeId)(a b:Value):Option Bool:=match P.underlying t,a,b with
 |some (.int _),.int k x,.int k' y=>if k=k' then Td (x==y)else Te
 |some .string,.string x,.string y=>Td (x.toList==y.toList)
 |some .bool,.bool x,.bool y=>Td (x==y)
 |_,_,_=>Te
def jF(P:Program)(xs ys:List AA):List Field->Option Bool
 |[]=>Td Ta
 | f :: fs => if f.name = "_" then none else match mM P f.type xs f.offset, mM P f.type ys f.offset with
  |some (.a (.v a)),Td (.a (.v b))=>match tw P f.type a b,jF P xs ys fs with
   |some p,some q=>Td (p&&q)
   |_,_=>Te
  |_,_=>Te
def tm(P:Program)(o:Oper)(ρ:Operand->Option AV):Option Bool:=match o.op with
 |.binOp .eql t x y _=>match ρ x,ρ y with
  |some (.g (.agg xs)),Td (.g (.agg ys))=>match P.underlying t with
   |some (.struct _)=>bif P.stoodInHeld t then Te else bif P.eqGuardType P.depth t then Te else jF P xs ys (P.fieldsOf t).toList
   |_=>Te
  |_,_=>Te
 |.binOp .neq t x y _=>match ρ x,ρ y with
  |some (.g (.agg xs)),Td (.g (.agg ys))=>match P.underlying t with
   |some (.struct _)=>bif P.stoodInHeld t then Te else bif P.eqGuardType P.depth t then Te else(match jF P xs ys (P.fieldsOf t).toList with
    |some b=>Td (!b)
    |none=>Te)
   |_=>Te
  |_,_=>Te
 |_=>Te
theorem KT{a b:Value}{r:Bool}(h:tw P t a b=Td r)(d:Nat)(w:World):(Op.equalIn (d+1) t a b).run P w=.ok r w:=by unfold tw at h;split at h;rename_i f k x i y c;split at h;rename_i e;simp only[NC]at h;subst e;subst h;exact run_equalIn_int w d t k f x y c;cases h;rename_i x y c;simp only[NC]at h;subst h;exact run_equalIn_string w d t x y c;rename_i x y c;simp only[NC]at h;subst h;exact run_equalIn_bool' w d t x y c;cases h
theorem vm{P:Program}{γ:Gh}{xs ys:List AA}{us vs:List Value}(n:All2 (DenA γ) xs us)(m:All2 (DenA γ) ys vs)(d:Nat)(h:za):∀(c:List Field) (b:Bool),jF P xs ys c=Td b->QExec P (Op.eqFields (d+1) us.toArray vs.toArray c) h b
 |[],b,hb=>by simp only[jF,NC]at hb;subst hb;exact QExec.pure _
 |f::c,b,hb=>by
  unfold jF at hb;split at hb;cases hb;rename_i x;split at hb;rename_i a u l k;split at hb;rename_i p q w s;simp only[NC]at hb;subst hb;obtain⟨y,t,r⟩:=tF l n h;obtain⟨z,A,o⟩:=tF k m h;have j:y=a:=t;have i:z=u:=A;subst j;subst i;intro B e;unfold Op.eqFields;rw[zz (by exact x)];rw[Sem.run_bind,r B e];simp only[Result.andThen_ok];rw[Sem.run_bind,o B e];simp only[Result.andThen_ok];rw[Sem.run_bind,KT w d];simp only[Result.andThen_ok];cases p with
  |false=>rfl
  |true=>simpa using vm n m d h c q s B e
  cases hb;cases hb
theorem vw{ρ:Operand->Option AV}(H:tm P o ρ=Td b)(j:∀x av,ρ x=Td av->DenV γ av (σ x))(h:za):QExec P (execOp σ o) h (.value (.bool b)):=by
 have key:∀{t:TypeId} {xs ys:List AA} {us vs:List Value} {k:Array Field} {b:Bool},P.underlying t=Td (.struct k)->P.stoodInHeld t=Tc->All2 (DenA γ) xs us->All2 (DenA γ) ys vs->jF P xs ys (P.fieldsOf t).toList=Td b->QExec P (Op.equalIn 10000 t (.agg us.toArray) (.agg vs.toArray)) h b:=by
  intro t xs ys us vs k b e c i f z B d;have u:P.underlying t=Td (.struct (P.fieldsOf t)):=by rw[e];simp[Program.fieldsOf,e]
  rw[run_equalIn_struct _ 9999 t us.toArray vs.toArray u c];exact vm i f 9998 h _ b z B d
 unfold tm at H;split at H;rename_i t x y w m;split at H;rename_i xs ys i f;split at H;rename_i k e;cases c:P.stoodInHeld t with
 |true=>rw[c]at H;cases H
 |false=>
  cases hg:P.eqGuardType P.depth t with
  |true=>rw[c,hg]at H;cases H
  |false=>rw[c,hg]at H;obtain⟨us,r,p⟩:=j _ _ i;obtain⟨vs,s,l⟩:=j _ _ f;have q:=key e c p l H;simp only[execOp,m,r,s];refine QExec.val λB d=>?_;rw[Sem.run_bind,run_eqGuard_agg _ _ _ _ _ _ _ hg];simp only[Result.andThen_ok];rw[run_eql_struct,q B d];rfl
 cases H;cases H;rename_i t x y w m;split at H;rename_i xs ys i f;split at H;rename_i k e;cases c:P.stoodInHeld t with
 |true=>rw[c]at H;cases H
 |false=>
  cases hg:P.eqGuardType P.depth t with
  |true=>rw[c,hg]at H;cases H
  |false=>rw[c,hg]at H;simp only[zJ]at H;split at H;rename_i A n;simp only[NC]at H;subst H;obtain⟨us,r,p⟩:=j _ _ i;obtain⟨vs,s,l⟩:=j _ _ f;have q:=key e c p l n;simp only[execOp,m,r,s];refine QExec.val λB d=>?_;rw[Sem.run_bind,run_eqGuard_agg _ _ _ _ _ _ _ hg];simp only[Result.andThen_ok];rw[run_neq_struct,q B d];rfl;cases H
 cases H;cases H;cases H
def nF(P:Program)(o:Oper)(ρ:Operand->Option AV)(g:Option Bool)(cs:CS)(K:AV->Prop):Prop:=
 bif (bif gp o then(bif gA P o then(bif Qb o.op then jE ρ o.op.operands.toList else Tc)else Tc)else Tc)then Yw P o (nL ρ) g #[] (λv=>K (kT v))else
 match o.op with
 |.move x=>match ρ x with
  |some av=>K av
  |none=>False
 |.assign x=>match ρ x with
  |some av=>K av
  |none=>False
 |.extract x i=>match ρ x with
  |some (.tup l)=>match l[i]? with
   |some ag=>K (.g ag)
   |none=>False
  |some (.nx b p c)=>match i with
   |0=>K (.g (.a (.v (.bool b))))
   |1=>req g (b=Ta)/\K (.g (.a (.v (.int .i64 p))))
   |2=>req g (b=Ta)/\K (.g (.a (.v (.int .i32 c))))
   |_=>False
  |_=>False
 |.field t x f=>match ρ x,kW P t f with
  |some (.g (.agg l)),Td (k,ty)=>match mM P ty l k with
   |some ag=>K (.g ag)
   |none=>False
  |_,_=>False
 |.fieldAddr t x f=>match ρ x,kW P t f with
  |some (.g (.a aa)),Td (k,_)=>match oO k aa with
   |some h=>K (.g (.a h))
   |none=>False
  |_,_=>False
 |.load t x=>match ρ x with
  |some (.g (.a aa))=>kC P cs t aa g K
  |_=>False
 |.indexAddr t x i=>match ρ x,ρ i with
  |some (.g (.a aa)),some iv=>match oe iv with
   |some n=>sw P cs t aa n g K
   |none=>False
  |_,_=>False
 |.slice t x lo hi mx=>match ρ x with
  |some (.g (.a aa))=>sj P cs ρ t aa lo hi mx g K
  |_=>False
 |.nilCheck x=>match ρ x with
  |some (.g (.a aa))=>match oO 0 aa with
   |some _=>K (.g (.a aa))
   |none=>False
  |_=>False
 |.build t e=>match gK ρ e.toList with
  |some ps=>match tc P t ps with
   |some r=>K (.g (.agg r))
   |none=>False
  |none=>False
 |.call c=>match c.callee with
  |.builtin .len=>match c.args.toList,c.argTypes.toList with
   |[x],[t]=>match ρ x,P.underlying t with
    |some (.g (.a (.v (.string s)))),Td .string=>K (.g (.a (.v (.int .i64 (s.size:Int)))))
    |some (.g (.a (.v (.slice _ n _)))),Td (.slice _)=>K (.g (.a (.v (.int .i64 (n:Int)))))
    |some (.g (.a aa)),Td (.slice _)=>match sy cs aa with
     |some n=>K (.g (.a (.v (.int .i64 (n:Int)))))
     |none=>False
    |_,_=>False
   |_,_=>False
  |_=>False
 |_=>False
theorem Np{ρ:Operand->Option AV}{K:AV->Prop}(H:nF P o ρ g cs K):
  ∃av,K av/\(dN g->∀γ h σ,Inv h0 W M0 cs γ h->(∀x av,ρ x=Td av->DenV γ av (σ x))->∃v,DenV γ av v/\QExec P (execOp σ o) h (.value v)):=by
 unfold nF at H;cases hb:(bif gp o then(bif gA P o then(bif Qb o.op then jE ρ o.op.operands.toList else Tc)else Tc)else Tc)with
 |true=>
  rw[hb]at H;cases hfam:gp o with
  |false=>rw[hfam]at hb;cases hb
  |true=>
   cases w:gA P o with
   |false=>rw[hfam,w]at hb;cases hb
   |true=>
    cases hns:Qb o.op with
    |false=>rw[hfam,w,hns]at hb;cases hb
    |true=>rw[hfam,w,hns]at hb;simp only[zI]at hb H;obtain⟨v,G,D⟩:=tJ hfam H;refine⟨_,G,λA γ h σ I m=>⟨v,Ya γ v,?_⟩⟩;rw[yU m hns hb];exact D A h ⟨by simp,λi hi=>absurd hi (by simp)⟩
 |false=>
  rw[hb]at H;simp only[zJ]at H;have val:∀{s:Sem Value} {h:za} {v:Value},QExec P s h v->QExec P (s >>= λx=>(PZ (QD x):Sem Next)) h (.value v):=λw=>QExec.val w;split at H;rename_i x q;split at H;rename_i av j;exact⟨av,H,λ_ γ h σ I m=>⟨_,m _ _ j,by simp only[execOp,q];exact QExec.pure _⟩⟩;exact H.elim;rename_i x q;split at H;rename_i av j;exact⟨av,H,λ_ γ h σ I m=>⟨_,m _ _ j,by simp only[execOp,q];exact QExec.pure _⟩⟩;exact H.elim;rename_i x i q;split at H;rename_i l j;split at H;rename_i ag M;refine⟨_,H,λ_ γ h σ I m=>?_⟩;obtain⟨us,e,D⟩:=m _ _ j;obtain⟨u,F,z⟩:=D.get M;refine⟨u,z,?_⟩;simp only[execOp,q,e];refine val λB d=>?_;unfold Instr.extract;simp[F];exact H.elim;rename_i b p c j;split at H;refine⟨_,H,λ_ γ h σ I m=>⟨_,rfl,?_⟩⟩;obtain⟨S,e2⟩:=m _ _ j;simp only[execOp,q];refine val λB d=>?_;cases b with
  |true=>rw[S rfl];rfl
  |false=>rw[e2 rfl];rfl
  refine⟨_,H.2,λA γ h σ I m=>⟨_,rfl,?_⟩⟩;obtain⟨S,_⟩:=m _ _ j;simp only[execOp,q,S (H.1.out A)];exact val λB d=>rfl;refine⟨_,H.2,λA γ h σ I m=>⟨_,rfl,?_⟩⟩;obtain⟨S,_⟩:=m _ _ j;simp only[execOp,q,S (H.1.out A)];exact val λB d=>rfl;exact H.elim;exact H.elim;rename_i t x f q;split at H;rename_i l k ty j y;split at H;rename_i ag M;refine⟨_,H,λ_ γ h σ I m=>?_⟩;obtain⟨us,e,D⟩:=m _ _ j;obtain⟨v,z,w⟩:=tF M D h;refine⟨v,z,?_⟩;simp only[execOp,q,e];refine val λB d=>?_;unfold kW at y;split at y;rename_i fs F;split at y;rename_i fl ac;split at y;rename_i i hi;cases hz:Nat.beq i.size 0 with
  |true=>rw[hz]at y;cases y
  |false=>rw[hz]at y;simp only[zJ,NC,OJ]at y;obtain⟨rfl,rfl⟩:=y;have V:=QExec.underlying (h:=h) F B d;unfold Instr.field;rw[Sem.run_bind,V];simp only[Result.andThen_ok,ac,asAgg,Sem.run_bind,Sem.run_pure];exact w B d
  cases y;cases y;cases y;exact H.elim;exact H.elim;rename_i t x f q;split at H;rename_i O k ty j y;split at H;rename_i T L;refine⟨_,H,λ_ γ h σ I m=>?_⟩;obtain⟨b,o',e,z⟩:=Cc L (m _ _ j);refine⟨_,z,?_⟩;simp only[execOp,q];rw[e];exact val (EN y b o');exact H.elim;exact H.elim;rename_i t x q;split at H;rename_i O j;obtain⟨av,G,D⟩:=zZ (h0:=h0) (W:=W) (M0:=M0) H;refine⟨av,G,λA γ h σ I m=>?_⟩;obtain⟨v,z,w⟩:=D A γ h _ I (m _ _ j);refine⟨v,z,?_⟩;simp only[execOp,q];exact val w;exact H.elim;rename_i t x i q;split at H;rename_i O iv j ab;split at H;rename_i n Z;obtain⟨av,G,D⟩:=Fa (h0:=h0) (W:=W) (M0:=M0) H;refine⟨av,G,λA γ h σ I m=>?_⟩;obtain⟨k,e⟩:=zL Z (m _ _ ab);obtain⟨v,z,w⟩:=D A γ h _ k I (m _ _ j);refine⟨v,z,?_⟩;simp only[execOp,q];rw[e];exact val w;exact H.elim;exact H.elim;rename_i t x lo hi mx q;split at H;rename_i O j;obtain⟨av,G,D⟩:=MO (h0:=h0) (W:=W) (M0:=M0) H;refine⟨av,G,λA γ h σ I m=>?_⟩;obtain⟨v,z,w⟩:=D A γ h _ σ I m (m _ _ j);refine⟨v,z,?_⟩;simp only[execOp,q];exact val w;exact H.elim;rename_i x q;split at H;rename_i O j;split at H;rename_i T L;refine⟨_,H,λ_ γ h σ I m=>?_⟩;obtain⟨b,o',e,z⟩:=Cc L (m _ _ j);have Y:=m _ _ j;refine⟨σ x,Y,?_⟩;simp only[execOp,q];rw[e];exact QExec.pure _;exact H.elim;exact H.elim;rename_i t C q;split at H;rename_i ps U;split at H;rename_i r hr;refine⟨_,H,λ_ γ h σ I m=>?_⟩;obtain⟨ws,w,z⟩:=Lm hr (X6 m U) h;refine⟨.agg ws.toArray,⟨ws,rfl,z⟩,?_⟩;simp only[execOp,q];have e:(C.map λx=>(x.1,σ x.2))=(C.toList.map λx=>(x.1,σ x.2)).toArray:=by rw[<-PT]
  have:=val w;rw[<-e]at this;exact this;exact H.elim;exact H.elim;rename_i c q;split at H;rename_i hc;split at H;rename_i x t N Q;have E:c.args=#[x]:=by have:=congrArg List.toArray N;simp at this;exact this
  have J:c.argTypes=#[t]:=by have:=congrArg List.toArray Q;simp at this;exact this
  have key:∀(σ:Operand->Value) (h:za) (n:Int),(QExec P (QQ #[t] o.type #[σ x]) h (.int .i64 n))->QExec P (execOp σ o) h (.value (.int .i64 n)):=by
   intro σ h n w;have e:execOp σ o=(QQ c.argTypes o.type (c.args.map σ) >>= λx=>(PZ (QD x):Sem Next)):=by simp only[execOp,q,resolve,hc];rfl
   rw[e,E,J];refine val ?_;simpa using w
  split at H;rename_i s j F;refine⟨_,H,λ_ γ h σ I m=>⟨_,rfl,key σ h _ λB d=>?_⟩⟩;have w:=QExec.underlying (h:=h) F B d;have e:σ x=.string s:=m _ _ j;unfold QQ;simp only[List.getElem?_toArray,List.getElem?_cons_zero,e,Sem.run_bind,w,Result.andThen_ok,Sem.run_pure];rfl;rename_i a n cp el j F;refine⟨_,H,λ_ γ h σ I m=>⟨_,rfl,key σ h _ λB d=>?_⟩⟩;have w:=QExec.underlying (h:=h) F B d;have e:σ x=.slice a n cp:=m _ _ j;unfold QQ;simp only[List.getElem?_toArray,List.getElem?_cons_zero,e,Sem.run_bind,w,Result.andThen_ok,Sem.run_pure];rfl;rename_i O el _ _ j F;split at H;rename_i n Z;refine⟨_,H,λ_ γ h σ I m=>⟨_,rfl,key σ h _ λB d=>?_⟩⟩;have w:=QExec.underlying (h:=h) F B d;obtain⟨a,cp,e⟩:=GN I Z (m _ _ j);unfold QQ;simp only[List.getElem?_toArray,List.getElem?_cons_zero,e,Sem.run_bind,w,Result.andThen_ok,Sem.run_pure];rfl;exact H.elim;exact H.elim;exact H.elim;exact H.elim;exact H.elim
def ru(P:Program)(o:Oper)(ρ:Operand->Option AV):Option Bool:=match o.op with
 |.binOp op t x (.const .nilIface) _=>match ρ x,ρ (.const .nilIface),P.underlying t with
  |some (.g (.a (.d .err b))),Td (.g (.a (.v .nilIface))),Td (.interface _)=>match op with
   |.eql=>Td b
   |.neq=>Td (!b)
   |_=>Te
  |_,_,_=>Te
 |_=>Te
theorem BN{ρ:Operand->Option AV}(H:ru P o ρ=Td b)(m:∀x av,ρ x=Td av->DenV γ av (σ x))(h:za):QExec P (execOp σ o) h (.value (.bool b)):=by
 have key:∀{t:TypeId} {ms:Array (String×TypeId)} {b:Bool} {u:Value},P.underlying t=Td (.interface ms)->((b=Ta/\u=.nilIface)\/(b=Tc/\∃t k,u=.iface t k))->QExec P (Rs t u .nilIface) h b:=by intro t ms b u l j B d;have p:=QExec.underlying (h:=h) l B d;unfold Rs Op.maxDepth;rcases j with⟨rfl,rfl⟩|⟨rfl,t',k,rfl⟩;unfold Op.equalIn;rw[Sem.run_bind,p];rfl;unfold Op.equalIn;rw[Sem.run_bind,p];rfl
 unfold ru at H;split at H;rename_i c t x A s;split at H;rename_i b0 ms z y l;have q:σ (.const .nilIface)=.nilIface:=m _ _ y;obtain⟨u,e,j⟩:=(show Rd γ.M .err b0 [σ x]from m _ _ z);have r:u=σ x:=by simpa using e.symm
 subst r;have n:=key l j;have w:∀c,QExec P (eqGuard c t x (.const .nilIface) (σ x) .nilIface) h ():=by intro c B d;unfold eqGuard;rcases j with⟨_,i⟩|⟨_,t',k,i⟩;rw[i];cases c <;> simp;rw[i];cases c <;> simp
 have f:∀c,(binOp c t (σ x) .nilIface=match c with | .eql=>(do pure (.bool (<-Rs t (σ x) .nilIface))) | .neq=>(do pure (.bool (!(<-Rs t (σ x) .nilIface))))|_=>binOp c t (σ x) .nilIface):=by intro c;rcases j with⟨_,i⟩|⟨_,t',k,i⟩;rw[i];cases c <;> rfl;rw[i];cases c <;> rfl
 simp only[execOp,s,q];refine QExec.val ((w c).bind ?_);split at H;simp only[NC]at H;subst H;rw[f];exact n.bind (QExec.pure _);simp only[NC]at H;subst H;rw[f];exact n.bind (QExec.pure _);cases H;cases H;cases H
def qO(o:Oper)(ρ:Operand->Option AV):Option (TypeId×Nat×Nat):=match o.op with
 |.load t x=>match ρ x with
  |some (.g (.a (.v (.pointer (Td ⟨b,off,Te⟩)))))=>Td (t,b,off)
  |_=>Te
 |_=>Te
def mJ(gl:Fr)(b off:Nat)(v:Value):Prop:=∃cs,gl b=Td cs/\cs[off]?=Td v
def jK(gl:Fr)(b:Nat)(g:Option Bool):List Atom->Nat->(List AA->Prop)->Prop
 |[],_,K=>K []
 |.int k::l,o,K=>∃x:Int,req g (mJ gl b o (.int k x))/\jK gl b g l (o+1) λr=>K (.v (.int k x)::r)
 |.str::l,o,K=>∃x:Bt,req g (mJ gl b o (.string x))/\jK gl b g l (o+1) λr=>K (.v (.string x)::r)
 |.bool::l,o,K=>∃x:Bool,req g (mJ gl b o (.bool x))/\jK gl b g l (o+1) λr=>K (.v (.bool x)::r)
 |_::_,_,_=>False
theorem xx{gl:Fr}{b:Nat}{g:Option Bool}:∀{l:List Atom} {o:Nat} {K:List AA->Prop},jK gl b g l o K->∃vs:List Value,vs.length=l.length/\K (vs.map .v)/\(dN g->∀(j:Nat) (v:Value),vs[j]?=Td v->mJ gl b (o+j) v)
 |[],o,K,H=>⟨[],rfl,H,λ_ j v h=>by simp at h⟩
 |.int k::l,o,K,⟨x,h1,h2⟩=>by
  obtain⟨vs,m,i,f⟩:=xx h2;refine⟨.int k x::vs,by simp[m],i,λe j v c=>?_⟩;cases j with
  |zero=>simp at c;subst c;exact h1.out e
  |succ j=>have:=f e j v (by simpa using c);rwa[show o+1+j=o+(j+1)by omega]at this
 |.str::l,o,K,⟨x,h1,h2⟩=>by
  obtain⟨vs,m,i,f⟩:=xx h2;refine⟨.string x::vs,by simp[m],i,λe j v c=>?_⟩;cases j with
  |zero=>simp at c;subst c;exact h1.out e
  |succ j=>have:=f e j v (by simpa using c);rwa[show o+1+j=o+(j+1)by omega]at this
 |.bool::l,o,K,⟨x,h1,h2⟩=>by
  obtain⟨vs,m,i,f⟩:=xx h2;refine⟨.bool x::vs,by simp[m],i,λe j v c=>?_⟩;cases j with
  |zero=>simp at c;subst c;exact h1.out e
  |succ j=>have:=f e j v (by simpa using c);rwa[show o+1+j=o+(j+1)by omega]at this
 |.sl::_,_,_,H=>H.elim
 |.mp::_,_,_,H=>H.elim
 |.ptr::_,_,_,H=>H.elim
 |.raw::_,_,_,H=>H.elim
def yN(P:Program)(gl:Fr)(t:TypeId)(b off:Nat)(g:Option Bool)(K:AV->Prop):Prop:=match fM P t with
 |some (.one a)=>jK gl b g [a] off λr=>match r with
  |[x]=>K (.g (.a x))
  |_=>False
 |some (.agg l)=>jK gl b g l off λr=>K (.g (.agg r))
 |none=>False
def tX(P:Program)(o:Oper)(ρ:Operand->Option AV):Option (Nat×Nat×Int×Nat×Nat):=match o.op with
 |.indexAddr t x i=>match ρ x,ρ i,P.underlying t with
  |some (.g (.a (.v (.pointer (Td ⟨b,off,Te⟩))))),Td (.g (.a (.v (.int _ n)))),Td (.array len el)=>bif qy P el then Td (b,off,n,len,qj P el)else Te
  |_,_,_=>Te
 |_=>Te
def qA(P:Program)(gl:Fr)(o:Oper)(ρ:Operand->Option AV)(g:Option Bool)(cs:CS)(K:AV->Prop):Prop:=match tm P o ρ with
 |some b=>K (.g (.a (.v (.bool b))))
 |none=>match ru P o ρ with
  |some b=>K (.g (.a (.v (.bool b))))
  |none=>match qO o ρ with
   |some (t,b,off)=>yN P gl t b off g K
   |none=>match tX P o ρ with
    |some (b,off,n,len,z)=>req g (0<=n/\n<(len:Int))/\K (.g (.a (.v (.pointer (Td ⟨b,off+n.toNat*z,Te⟩)))))
    |none=>nF P o ρ g cs K
theorem pd{gl:Fr}(M:Fr.le gl M0){ρ:Operand->Option AV}{K:AV->Prop}(H:qA P gl o ρ g cs K):
  ∃av,K av/\(dN g->∀γ h σ,Inv h0 W M0 cs γ h->(∀x av,ρ x=Td av->DenV γ av (σ x))->∃v,DenV γ av v/\QExec P (execOp σ o) h (.value v)):=by
 unfold qA at H;split at H;rename_i b E;exact⟨_,H,λ_ γ h σ _ p=>⟨_,rfl,vw E p h⟩⟩;split at H;rename_i b E;exact⟨_,H,λ_ γ h σ _ p=>⟨_,rfl,BN E p h⟩⟩;split at H;rename_i t b off e;unfold qO at e;split at e;rename_i t' x J;split at e;rename_i y c N;simp only[NC,OJ]at e;obtain⟨rfl,rfl,rfl⟩:=e;have key:∀{s:Option Nat} {vs:List Value} {ag:AG},Wx P t'=Td s->vs.length=gD s->gO s (vs.map .v)=Td ag->(dN g->∀(j:Nat) (v:Value),vs[j]?=Td v->mJ gl y (c+j) v)->dN g->∀γ h σ,Inv h0 W M0 cs γ h->(∀x av,ρ x=Td av->DenV γ av (σ x))->∃u,DenV γ (.g ag) u/\QExec P (execOp σ o) h (.value u):=by intro s vs ag T hn Z Y e γ h σ I p;have B:σ x=.pointer (Td ⟨y,c,Te⟩):=p _ _ N;obtain⟨u,U,G⟩:=qC (γ:=γ) T (u:=σ x) (us:=vs) ⟨_,_,B,λj w S=>by obtain⟨cc,r,q⟩:=Y e j w S;exact I.ag.cell (I.le _ _ (M _ _ r)) q⟩ hn (xw γ vs) Z;exact⟨u,U,by simp only[execOp,J];exact QExec.val G⟩
 unfold yN at H;split at H;rename_i a C;obtain⟨vs,r,q,A⟩:=xx H
 match vs,r,q,A with
 |[v],r,q,A=>exact⟨_,q,key (s:=Te) (by unfold Wx;rw[C]) rfl rfl A⟩
 rename_i l C;obtain⟨vs,r,q,A⟩:=xx H;exact⟨_,q,key (s:=Td l.length) (by unfold Wx;rw[C]) r rfl A⟩;exact H.elim;cases e;cases e;split at H;rename_i b off n len z e;unfold tX at e;split at e;rename_i t x i J;split at e;rename_i y c k O Q el N hi B;cases hok:qy P el with
 |false=>rw[hok]at e;cases e
 |true=>rw[hok]at e;simp only[zI,NC,OJ]at e;obtain⟨rfl,rfl,rfl,rfl,rfl⟩:=e;refine⟨_,H.2,λF γ h σ I p=>⟨_,rfl,?_⟩⟩;have D:σ x=.pointer (Td ⟨y,c,Te⟩):=p _ _ N;have L:σ i=.int k O:=p _ _ hi;obtain⟨V,h2⟩:=H.1.out F;obtain⟨v,rfl,G⟩:=xp (P:=P) (t:=t) (x:=.pointer (Td ⟨y,c,Te⟩)) (i:=.int k O) (g:=Te) (K:=λv=>v=.pointer (Td (NG ⟨y,c,Te⟩ (O.toNat*qj P el)))) (λaa f=>by rcases f with f|⟨m,f⟩;rw[B]at f;cases f;rw[B]at f;cases f;exact q9 hok) (by unfold kZ;rw[B];exact⟨_,⟨rfl,V,h2⟩,rfl⟩);have:=G trivial h;rw[zj]at this;simp only[execOp,J,D,L];exact QExec.val this
 cases e;cases e;exact Np H
end
section
variable {u:Value} {P:Program} {gl:Fr} {f:FuncId} {γ:Gh} {cs C R:CS} {o:Oper} {σ:Operand -> Value} {h:za} {Post:Value -> za -> Prop} {tr:TypeId}
variable {h0 : za} {W : Nat -> Prop} {M0 : Fr}
def ev:Ty->Bool
 |.tree=>Ta
 |.unit=>Ta
 |.pair _ _=>Ta
 |_=>Tc
def RdV(M:Fr)(t:Ty)(x:El t)(u:Value):Prop:=if ev t=Ta then ∃cs:List Value,u=.agg cs.toArray/\Rd M t x cs else Rd M t x [u]
theorem RdV.mono{M M':Fr}(c:Fr.le M M'){t:Ty}{x:El t}(h:RdV M t x u):RdV M' t x u:=by unfold RdV at *;by_cases b:ev t=Ta;rw[zz b]at *;obtain⟨cs,e,h⟩:=h;exact⟨cs,e,Rd.mono c h⟩;rw[zv b]at *;exact Rd.mono c h
structure Arg where
 t:Ty
 x:El t
def Jy(M:Fr)(l:List Arg)(vs:List Value):Prop:=All2 (λ(a:Arg) u=>RdV M a.t a.x u) l vs
@[reducible] def dQ:List Ty->Type
 |[]=>Unit
 |[t]=>El t
 |t::t'::l=>El t×dQ (t'::l)
def Bn:(l:List Ty)->dQ l
 |[]=>()
 |[t]=>mT t
 |t::t'::l=>(mT t,Bn (t'::l))
def oQ(M:Fr):(l:List Ty)->dQ l->List Value->Prop
 |[],_,us=>us=[]
 |[t],x,us=>∃u,us=[u]/\RdV M t x u
 |t::t'::l,x,us=>∃u b,us=u::b/\RdV M t x.1 u/\oQ M (t'::l) x.2 b
def dX(M:Fr)(l:List Ty)(x:dQ l)(v:Value):Prop:=∃us,oQ M l x us/\v=fU us
def PC(P:Program)(gl:Fr)(f:FuncId)(args:List Arg)(c:List Ty)(R:dQ c->Prop):Prop:=
 ∀(h:za) (M:Fr) (vs:List Value),Fr.le gl M->AgM M h->Jy M args vs->XC P f vs.toArray h λv h'=>
  Keep h.size h h'/\∃M' r,Fr.le M M'/\(∀b,b<h.size->M' b=M b)/\AgM M' h'/\dX M' c r v/\R r
theorem PC.mono{args:List Arg}{b:List Ty}{R c:dQ b->Prop}(H:PC P gl f args b R)(o:∀r,R r->c r):PC P gl f args b c:= λh M vs q m j=>(H h M vs q m j).mono λv h' ⟨k,M',r,n,l,e,i,p⟩=>⟨k,M',r,n,l,e,i,o r p⟩
def mI(t:Ty)(x:El t):AG:=bif ev t then .agg (Q8 t x)else(match Q8 t x with
 |[y]=>.a y
 |l=>.agg l)
theorem rL{t:Ty}{x:El t}(h:RdV γ.M t x u):DenG γ (mI t x) u:=by
 unfold RdV at h;unfold mI;split at h;rename_i c;rw[c];obtain⟨cs,e,h⟩:=h;exact⟨cs,e,j4 h⟩;rename_i c;have f:ev t=Tc:=by simpa using c
 rw[f];simp only[zJ];have b:=j4 (γ:=γ) h
 match hx:Q8 t x,b with
 |[y],b=>exact b.1
 |[],b=>exact b.elim
 |_::_::_,b=>exact b.2.elim
def pk:(l:List Ty)->dQ l->List AG
 |[],_=>[]
 |[t],x=>[mI t x]
 |t::t'::l,x=>mI t x.1::pk (t'::l) x.2
theorem BA{γ:Gh}:∀{l:List Ty} {x:dQ l} {us:List Value},oQ γ.M l x us->All2 (DenG γ) (pk l x) us
 |[],_,_,h=>by rw[h];trivial
 |[_],_,_,⟨u,e,h⟩=>by rw[e];exact⟨rL h,trivial⟩
 |_::_::_,_,_,⟨u,us,e,h,h'⟩=>by rw[e];exact⟨rL h,BA h'⟩
def ke(l:List Ty)(x:dQ l):AV:=match pk l x with
 |[g]=>.g g
 |gs=>.tup gs
theorem Ku{l:List Ty}{x:dQ l}{v:Value}(h:dX γ.M l x v):DenV γ (ke l x) v:=by
 obtain⟨us,h,rfl⟩:=h;have b:=BA (γ:=γ) h;unfold ke;generalize pk l x=gs at *
 match gs,us,b with
 |[],[],_=>exact⟨[],rfl,trivial⟩
 |[g],[u],b=>exact b.1
 |g::g'::gs,u::u'::us,b=>exact⟨_,rfl,b⟩
 |[],_::_,b=>exact b.elim
 |_::_,[],b=>exact b.elim
 |[_],_::_::_,b=>exact b.2.elim
 |_::_::_,[_],b=>exact b.2.elim
def ir(P:Program)(tr:TypeId):Nat->TypeId->Option Ty
 |0,_=>Te
 |n+1,t=>bif Nat.beq t tr then Td .tree else match P.underlying t with
  |some (.int k)=>Td (.int k)
  |some .bool=>Td .bool
  |some .string=>Td .str
  |some (.slice e)=>match ir P tr n e with
   |some x=>Td (.row x)
   |none=>Te
  |some (.struct fs)=>tysOf P (λt=>ir P tr n t) fs.toList
  |some (.interface _)=>Td .err
  |_=>Te
where tysOf (P:Program) (f:TypeId->Option Ty):List Field->Option Ty
 |[]=>Td .unit
 |[x]=>f x.type
 |x::y::l=>match f x.type,tysOf P f (y::l)with
  |some a,some b=>Td (.pair a b)
  |_,_=>Te
def sT(P:Program)(tr:TypeId):List TypeId->Option (List Ty)
 |[]=>Td []
 |t::l=>match ir P tr 8 t,sT P tr l with
  |some a,some b=>Td (a::b)
  |_,_=>Te
def vZ:AA->List Nat
 |.own c=>[c]
 |_=>[]
def kw:List AA->List Nat
 |[]=>[]
 |x::l=>vZ x++kw l
def IU:AV->List Nat
 |.g (.a x)=>vZ x
 |.g (.agg l)=>kw l
 |_=>[]
def Jz:List AV->List Nat
 |[]=>[]
 |v::l=>IU v++Jz l
def frzL:List Nat->CS->CS
 |[],C=>C
 |c::l,C=>frzL l (jJ c C)
theorem Inv.frzL{C R:CS}{γ:Gh}{h:za}:∀(l:List Nat) {C:CS} {γ:Gh},Inv h0 W M0 (C++R) γ h->∃γ',Inv h0 W M0 (frzL l C++R) γ' h/\Gx Te γ γ'
 |[],C,γ,I=>⟨γ,I,Gx.refl _ _⟩
 |c::l,C,γ,I=>by obtain⟨k,j,g1⟩:=Inv.freeze c C [] I;obtain⟨f,e,b⟩:=Inv.frzL (C:=C) (γ:=γ) l j;exact⟨f,e,g1.1.trans b.1,λi hi=>⟨(b.2 i hi).1.trans (g1.2 i hi).1,(b.2 i hi).2.trans (g1.2 i hi).2⟩⟩
def lw(cs:CS)(t:Ty):AV->Option (El t)
 |.g (.agg l)=>bif ev t then(match collect cs t l with
  |some (y,[])=>Td y
  |_=>Te)else Te
 |.g (.a x)=>bif ev t then Te else gm cs t x
 |_=>Te
theorem pw(b:gy γ cs){t:Ty}{av:AV}{y:El t}(h:lw cs t av=Td y)(c:DenV γ av u):RdV γ.M t y u:=by
 unfold lw at h;unfold RdV;split at h;rename_i l;cases ha:ev t with
 |false=>rw[ha]at h;cases h
 |true=>
  rw[ha]at h;simp only[zI]at h;split at h;rename_i m k;simp only[NC]at h;subst h;obtain⟨us,e,j⟩:=c;obtain⟨c1,c2,rfl,i,f⟩:=Q9 b k j;cases c2 with
  |nil=>simp only[if_true];exact⟨c1,by rw[e,Oe],i⟩
  |cons _ _=>exact f.elim
  cases h
 rename_i x;cases ha:ev t with
 |true=>rw[ha]at h;cases h
 |false=>rw[ha]at h;simp only[OS,if_false];exact y8 b h c
 cases h
def yn(cs:CS):List Ty->List AV->Option (List Arg)
 |[],[]=>Td []
 |t::ts,v::vs=>match lw cs t v,yn cs ts vs with
  |some x,some l=>Td (⟨t,x⟩::l)
  |_,_=>Te
 |_,_=>Te
theorem jj{γ:Gh}{cs:CS}(b:gy γ cs):∀{ts:List Ty} {vs:List AV} {l:List Arg},yn cs ts vs=Td l->∀{us:List Value},All2 (DenV γ) vs us->Jy γ.M l us
 |[],[],l,h,[],_=>by simp only[yn,NC]at h;subst h;trivial
 |[],[],_,_,_::_,hd=>hd.elim
 |t::ts,v::vs,l,h,[],hd=>hd.elim
 |t::ts,v::vs,l,h,u::us,hd=>by simp only[yn]at h;split at h;rename_i x f e c;simp only[NC]at h;subst h;exact⟨pw b e hd.1,jj b c hd.2⟩;cases h
 |[],_::_,_,h,_,_=>by simp[yn]at h
 |_::_,[],_,h,_,_=>by simp[yn]at h
def iR(ρ:Operand->Option AV):List Operand->Option (List AV)
 |[]=>Td []
 |x::l=>match ρ x,iR ρ l with
  |some v,some vs=>Td (v::vs)
  |_,_=>Te
theorem Wy{γ:Gh}{ρ:Operand->Option AV}{σ:Operand->Value}(b:∀x av,ρ x=Td av->DenV γ av (σ x)):∀{l:List Operand} {vs:List AV},iR ρ l=Td vs->All2 (DenV γ) vs (l.map σ)
 |[],vs,h=>by simp only[iR,NC]at h;subst h;trivial
 |x::l,vs,h=>by simp only[iR]at h;split at h;rename_i v c f e;simp only[NC]at h;subst h;exact⟨b _ _ f,Wy b e⟩;cases h
def ExA(P:Program)(s:Sem Next)(h:za)(Post:Value->za->Prop):Prop:=∀B d,
 (∃v b h',s.run P (mk B d h)=.ok (.value v) (mk B b h')/\Post v h') \/
 (∃b h',s.run P (mk B d h)=.ok .skip (mk B b h')/\Post undef h') \/
 (∃f args,s.run P (mk B d h)=.ok (.enter f args) (mk B d h)/\XC P f args h Post)
theorem ExA.upon(H:ExA P (execOp σ o) h Post)(B:World)(d:Nat){a:Act}{next:Act->World->Prop}{Q:Exit->Act->World->Prop}
  (i:∀v b h',Post v h'->next (a.put o.dst v) (mk B b h')):o.upon P a next Q ((execOp σ o).run P (mk B d h)):=by
 rcases H B d with⟨v,b,h',e,c⟩|⟨b,h',e,c⟩|⟨f,args,e,k⟩;exact upon_value e (i _ _ _ c);exact upon_skip e (i _ _ _ c);rw[e];refine(k B d).mono ?_;rintro e' w' ⟨v,b,h'',rfl,rfl,j⟩;exact i _ _ _ j
theorem ExA.mono{s:Sem Next}{Post b:Value->za->Prop}(H:ExA P s h Post)(i:∀v h',Post v h'->b v h'):ExA P s h b:=λB d=>by rcases H B d with⟨v,c,h',e,q⟩|⟨c,h',e,q⟩|⟨f,args,e,j⟩;exact .inl ⟨v,c,h',e,i _ _ q⟩;exact .inr (.inl ⟨c,h',e,i _ _ q⟩);exact .inr (.inr ⟨f,args,e,j.mono i⟩)
def eX(h0:za)(W:Nat->Prop)(M0:Fr)(R:CS)(γ:Gh)(K:AV->CS->Option Nat->Prop)(v:Value)(h':za):Prop:=
 ∃av b c γ',K av b c/\DenV γ' av v/\Inv h0 W M0 (b++R) γ' h'/\Gx c γ γ'
theorem p7(b:Fr.le gl M0){ρ:Operand->Option AV}{K:AV->CS->Option Nat->Prop}(H:qA P gl o ρ Te (C++R) λav=>K av C Te)(I:Inv h0 W M0 (C++R) γ h)
  (c:∀x av,ρ x=Td av->DenV γ av (σ x)):ExA P (execOp σ o) h (eX h0 W M0 R γ K):=by
 obtain⟨av,i,f⟩:=pd (h0:=h0) (W:=W) (M0:=M0) b H;obtain⟨v,j,e⟩:=f trivial γ h σ I c;exact λB d=>.inl ⟨v,d,h,e B d,av,C,Te,γ,i,j,I,Gx.refl _ _⟩
def lE:Operand->Option FuncId
 |.func f=>Td f
 |_=>Te
def rq(P:Program)(tr:TypeId)(f:FuncId):Option (List Ty×List Ty):=match P.funcs[f]? with
 |some fn=>match sT P tr fn.params.toList,sT P tr fn.resultTypes.toList with
  |some a,some b=>Td (a,b)
  |_,_=>Te
 |none=>Te
def tE(P:Program)(gl:Fr)(tr:TypeId)(o:Oper)(ρ:Operand->Option AV)(C R:CS)(K:AV->CS->Prop):Prop:=
 match o.op with
 |.call c=>match c.callee with
  |.value x=>match lE x with
   |some f=>bif zr P f then(match rq P tr f,iR ρ c.args.toList with
    |some (ts,rt),some vs=>match yn (frzL (Jz vs) C++R) ts vs with
     |some args=>PC P gl f args rt λr=>K (ke rt r) (frzL (Jz vs) C)
     |none=>False
    |_,_=>False)else False
   |none=>False
  |_=>False
 |_=>False
def kd(P:Program)(gl:Fr)(tr:TypeId)(o:Oper)(ρ:Operand->Option AV)(b:Bool)(cs:CS)(K:AV->Prop):Prop:=
 match o.op with
 |.call c=>match c.callee with
  |.value x=>match lE x with
   |some f=>bif zr P f then(match rq P tr f,iR ρ c.args.toList with
    |some (ts,rt),some vs=>match yn cs ts vs with
     |some args=>∃J:dQ rt->Prop,(b=Ta->PC P gl f args rt J)/\∀r,(b=Ta->J r)->K (ke rt r)
     |none=>False
    |_,_=>False)else False
   |none=>False
  |_=>False
 |_=>False
theorem nH{x:Operand}(h:lE x=Td f):x=.func f:=by unfold lE at h;split at h;simp only[NC]at h;rw[h];cases h
theorem pm{c:Call}(e:o.op=.call c)(i:c.callee=.value (.func f))(h:zr P f=Ta)(b:σ (.func f)=.func (.func f) #[] #[])(w:World):
  (execOp σ o).run P w=.ok (.enter f (c.args.map σ)) w:=by
 simp only[execOp,e,resolve,i,b,QR,Sem.run_bind,Sem.run_pure,Result.andThen_ok,invoke];rw[Wp h];simp
theorem pj(b:Fr.le gl M0){args:List Arg}{c:List Ty}{i:dQ c->Prop}(H:PC P gl f args c i)(I:Inv h0 W M0 cs γ h){us:List Value}(j:Jy γ.M args us):
  XC P f us.toArray h λv h'=>∃r γ',i r/\DenV γ' (ke c r) v/\Inv h0 W M0 cs γ' h'/\Gx Te γ γ'/\Keep h.size h h':=
 (H h γ.M us (b.trans I.le) I.ag j).mono λv h' ⟨k,M',r,e,o,l,m,n⟩=>
  ⟨r,{ γ with M:=M' },n,Ku (γ:={ γ with M:=M' }) m,I.call k e o l,⟨e,λ_ _=>⟨rfl,rfl⟩⟩,k⟩
theorem Ga(k:Fr.le gl M0){ρ:Operand->Option AV}{K:AV->CS->Option Nat->Prop}(H:tE P gl tr o ρ C R λav p=>K av p Te)(I:Inv h0 W M0 (C++R) γ h)
  (q:∀f,σ (.func f)=.func (.func f) #[] #[]) (w:∀x av,ρ x=Td av->DenV γ av (σ x)):ExA P (execOp σ o) h (eX h0 W M0 R γ K):=by
 unfold tE at H;split at H;rename_i c z;split at H;rename_i x F;split at H;rename_i f n;cases hcal:zr P f with
 |false=>rw[hcal]at H;exact H.elim
 |true=>
  rw[hcal]at H;simp only[zI]at H;split at H;rename_i ts J vs G l;split at H;rename_i args b;intro B d;have e:=nH n;subst e;obtain⟨L,m,g1⟩:=Inv.frzL (C:=C) (γ:=γ) (Jz vs) I;have y:=jj m.fz b ((Wy w l).imp λv _ u s=>s.gx g1 rfl);refine .inr (.inr ⟨f,c.args.map σ,pm z F hcal (q f) _,?_⟩);have D:c.args.map σ=(c.args.toList.map σ).toArray:=by rw[<-PT]
  rw[D];refine(pj k H m y).mono ?_;rintro v h' ⟨r,γ',t,E,A,j,_⟩;exact⟨_,_,Te,γ',t,E,A,g1.1.trans j.1,λi hi=>⟨(j.2 i hi).1.trans (g1.2 i hi).1,(j.2 i hi).2.trans (g1.2 i hi).2⟩⟩;exact H.elim;exact H.elim
 exact H.elim;exact H.elim;exact H.elim
theorem rM{ρ:Operand->Option AV}{b:Bool}{K:AV->Prop}(H:kd P gl tr o ρ b cs K):(b=Tc->∃av,K av) /\
  (b=Ta->Fr.le gl M0->∀γ h σ,Inv h0 W M0 cs γ h->(∀f,σ (.func f)=.func (.func f) #[] #[])->(∀x av,ρ x=Td av->DenV γ av (σ x))->∃f args,(∀w,(execOp σ o).run P w=.ok (.enter f args) w) /\ XC P f args h λv h'=>∃av γ',K av/\DenV γ' av v/\Inv h0 W M0 cs γ' h'/\Gx Te γ γ'/\Keep h.size h h'):=by
 unfold kd at H;split at H;rename_i c B;split at H;rename_i x u;split at H;rename_i f n;cases hcal:zr P f with
 |false=>rw[hcal]at H;exact H.elim
 |true=>
  rw[hcal]at H;simp only[zI]at H;split at H;rename_i ts z vs E k;split at H;rename_i args i;obtain⟨J,A,m⟩:=H;refine⟨λl=>⟨_,m (Bn z) (λh=>by rw[l]at h;cases h)⟩,λl j γ h σ I q t=>?_⟩;have e:=nH n;subst e;refine⟨f,c.args.map σ,λw=>pm B u hcal (q f) w,?_⟩;have D:c.args.map σ=(c.args.toList.map σ).toArray:=by rw[<-PT]
  rw[D];refine(pj j (A l) I (jj I.fz i (Wy t k))).mono ?_;rintro v h' ⟨r,γ',g1,C,y,s,p⟩;exact⟨_,γ',m r (λ_=>g1),C,y,s,p⟩;exact H.elim;exact H.elim
 exact H.elim;exact H.elim;exact H.elim
end
section
variable {P:Program} {t:TypeId} {o:Oper} {d:Nat} {C R:CS} {γ:Gh} {h:za} {σ:Operand -> Value} {av:AV}
variable {h0 : za} {W : Nat -> Prop} {M0 : Fr}
def sW(P:Program)(t:TypeId)(d:Nat)(C R:CS)(K:AV->CS->Option Nat->Prop):Prop:=match zeroOf P t with
 |some z=>bif qd d R then(bif eC (z.cells.toList.map .v)then False else K (.g (.a (.box d 0))) ((d,.box (z.cells.toList.map .v))::qe d C) (Td d))else False
 |none=>False
theorem pA(c:Nat):∀l:List Value,eE c (l.map .v)=Tc
 |[]=>rfl
 |_::l=>by simp only[N2,eE,fy,zJ,pA c l]
theorem X7(t:TypeId)(v:Value)(B:World)(d:Nat)(h:za):(newVar t v).run P (mk B d h)=.ok ⟨h.size,0,Te⟩ (mk B d (h.push (.cells v.cells t))):=rfl
theorem Hn(i:o.op=.alloc t){K:AV->CS->Option Nat->Prop}(H:sW P t d C R K)(I:Inv h0 W M0 (C++R) γ h):ExA P (execOp σ o) h (eX h0 W M0 R γ K):=by
 unfold sW at H;split at H
 ·rename_i z f;cases hR:qd d R with
  |false=>rw[hR]at H;exact H.elim
  |true=>
   rw[hR]at H;cases hit:eC (z.cells.toList.map .v)with
   |true=>rw[hit]at H;exact H.elim
   |false=>
   rw[hit]at H;intro B e;refine .inl ⟨.pointer (Td ⟨h.size,0,Te⟩),e,h.push (.cells z.cells t),?_,_,_,_,fK γ d h.size,H,?_,?_,Wv _ _ _⟩;have b:=Yd f h B e;simp only[execOp,i];refine Qc ?_;unfold Instr.alloc;rw[Sem.run_bind,b];simp only[Result.andThen_ok];rw[Sem.run_bind,X7];rfl;simp only[DenV,DenG,DenA,xt];have:=I.newBox (c:=d) hR (xw γ z.cells.toList) (pA d _) hit t;simpa using this
 exact H.elim
def qY(t:TypeId)(d:Nat)(l:List AA)(C R:CS)(K:AV->CS->Option Nat->Prop):Prop:=
 bif qd d R then(bif eE d l then False else(bif eC l then False else K (.g (.a (.box d 0))) ((d,.box l)::qe d C) (Td d)))else False
theorem JC{x:Operand}(b:o.op=.box t x){l:List AA}{K:AV->CS->Option Nat->Prop}(H:qY t d l C R K)(I:Inv h0 W M0 (C++R) γ h)
  (f:All2 (DenA γ) l (σ x).cells.toList):ExA P (execOp σ o) h (eX h0 W M0 R γ K):=by
 unfold qY at H;cases hR:qd d R with
 |false=>rw[hR]at H;exact H.elim
 |true=>
  rw[hR]at H;cases hm:eE d l with
  |true=>rw[hm]at H;exact H.elim
  |false=>
   rw[hm]at H;cases hit:eC l with
   |true=>rw[hit]at H;exact H.elim
   |false=>
   rw[hit]at H;intro B e;refine .inl ⟨.pointer (Td ⟨h.size,0,Te⟩),e,h.push (.cells (σ x).cells t),?_,_,_,_,fK γ d h.size,H,?_,?_,Wv _ _ _⟩;simp only[execOp,b];refine Qc ?_;unfold Instr.box;rw[Sem.run_bind,X7];rfl;simp only[DenV,DenG,DenA,xt];have:=I.newBox (c:=d) hR f hm hit t;simpa using this
def pV:AA->Bool
 |.v x=>x.oneCell'
 |_=>Ta
def me:List AA->Bool
 |[]=>Ta
 |x::l=>bif pV x then me l else Tc
theorem K7{x:AA}{u:Value}(h:pV x=Ta)(j:DenA γ x u):u.oneCell'=Ta:=by
 cases x with
 |v y=>rw[show u=y from j];exact h
 |d t y=>exact Rd.one (show Rd γ.M t y [u]from j) u (by simp)
 |box c o=>rw[show u=_ from j];rfl
 |own c=>rw[show u=_ from j];rfl
 |oelt c z i o=>obtain⟨g,_,e⟩:=j;rw[e];rfl
 |elt t y o=>obtain⟨b,f,cs,e,_⟩:=j;rw[e];rfl
 |dc t xs=>obtain⟨s,e,_⟩:=j;rw[e];rfl
theorem uI{γ:Gh}:∀{l:List AA} {us:List Value},me l=Ta->All2 (DenA γ) l us->∀u∈us,u.oneCell'=Ta
 |[],[],_,_,u,b=>by cases b
 |[],_::_,_,h,_,_=>h.elim
 |_::_,[],_,h,_,_=>h.elim
 |x::l,v::us,h,hd,u,b=>by
  simp only[me]at h;cases hx:pV x with
  |false=>rw[hx]at h;cases h
  |true=>rw[hx]at h;rcases NI.1 b with rfl|b;exact K7 hx hd.1;exact uI h hd.2 u b
def fV(c:Nat):CS->Bool
 |[]=>Ta
 |(j,_)::l=>bif Nat.beq j c then Tc else fV c l
theorem X8{c:Nat}:∀{l:CS},fV c l=Ta->∀x∈l,x.1≠c
 |[],_,x,b=>by cases b
 |(j,k)::l,h,x,b=>by
  simp only[fV]at h;cases hb:Nat.beq j c with
  |true=>rw[hb]at h;cases h
  |false=>rw[hb]at h;rcases NI.1 b with rfl|b;intro e;simp only at e;subst e;simp at hb;exact X8 h x b
theorem sI{P:Program}{g o:Nat}:∀(vs:List Value) (i:Nat) (w:World),(storeCells ⟨g,o,Te⟩ vs i).run P w=(storeCells ⟨g,0,Te⟩ vs (o+i)).run P w
 |[],i,w=>rfl
 |v::vs,i,w=>by unfold storeCells;rw[Sem.run_bind,Sem.run_bind,zj,zj,NZ];congr 1;funext a w';exact sI vs (i+1) w'
theorem Zz{n:Nat}(hi:qy P t=Ta)(i:qj P t=n){b o:Nat}{cs:Array Value}{T:TypeId}(e:h[b]?=Td (.cells cs T (0,0))){v:Value}(c:v.cells.size=n)(r:o+n<=cs.size)(p:∀u∈v.cells.toList,u.oneCell'=Ta)(B:World)(d:Nat):
  ∃h',(NR t (.pointer (Td ⟨b,o,Te⟩)) v).run P (mk B d h)=.ok () (mk B d h')/\h'[b]?=Td (.cells (cs.toList.take o++v.cells.toList++cs.toList.drop (o+n)).toArray T (0,0))/\h'.size=h.size/\∀j,j≠b->h'[j]?=h[j]?:=by
 obtain⟨h',k,f,q,m⟩:=xl (P:=P) B d v.cells.toList (o+0) h cs e (by simp;omega) p;refine⟨h',?_,by rw[f];simp[c],q,m⟩;have l:=QExec.sizeOf (P:=P) (h:=h) (q9 hi).choose_spec B d;unfold NR QG;simp only[Sem.run_bind,Sem.run_pure,Result.andThen_ok];unfold storeVar;rw[Sem.run_bind,l];simp only[Result.andThen_ok];rw[i,c];simp only[ne_eq,not_true_eq_false,if_false];rw[sI];exact k
theorem Zp{α:Type}{L vs:List α}{p:Nat}(h:p+vs.length<=L.length)(q:Nat):(L.take p++vs++L.drop (p+vs.length))[q]?=if q<p then L[q]? else if q<p+vs.length then vs[q-p]? else L[q]?:=by
 have b:(L.take p).length=p:=by simp;omega
 by_cases c:q<p;rw[zz c,Od,Pb (by omega),N4,zz c];rw[zv c];by_cases e:q<p+vs.length;rw[zz e,Pb (by rw[NH,b];omega),O9 (by omega),b];rw[zv e,O9 (by rw[NH,b];omega),Oj,NH,b];congr 1;omega
theorem RowC.set{M:Fr}{t:Ty}{xs:List (El t)}{cells:List Value}(H:RowC M t xs cells){i:Nat}(hi:i<xs.length){y:El t}{o:Nat}{vs:List Value}(p:o+vs.length<=sz t) (n:Rd M t y ((((cells.drop (i*sz t)).take (sz t)).take o)++vs++(((cells.drop (i*sz t)).take (sz t)).drop (o+vs.length)))):
  RowC M t (xs.set i y) (cells.take (i*sz t+o)++vs++cells.drop (i*sz t+o+vs.length)):=by
 have l:(i+1)*sz t<=cells.length:=by rw[H.1];exact Oa _ hi
 rw[O2,Rc]at l;have q:((cells.drop (i*sz t)).take (sz t)).length=sz t:=by rw[N8,ON];omega
 refine⟨?_,λj m=>?_⟩;rw[List.length_set,<-H.1];simp only[NH,N8,ON];omega;rw[List.length_set]at m;by_cases b:i=j;subst b;rw[List.getElem_set_self];have e:(((cells.take (i*sz t+o)++vs++cells.drop (i*sz t+o+vs.length)).drop (i*sz t)).take (sz t))=(((cells.drop (i*sz t)).take (sz t)).take o)++vs++(((cells.drop (i*sz t)).take (sz t)).drop (o+vs.length)):=by apply OG;intro k;rw[Zp (by rw[q];exact p),N4,N4,Oj,Oj,Zp (by omega)];by_cases c:k<sz t;simp only[c,if_true];by_cases f:k<o;rw[zz (by omega),zz f];rw[zv (by omega),zv f];by_cases h:k<o+vs.length;rw[zz (by omega),zz h];congr 1;omega;rw[zv (by omega),zv h];simp only[c,if_false];rw[zv (by omega),zv (by omega)]
 rw[e];exact n;rw[List.getElem_set_ne b];have e:(((cells.take (i*sz t+o)++vs++cells.drop (i*sz t+o+vs.length)).drop (j*sz t)).take (sz t))=(cells.drop (j*sz t)).take (sz t):=by
  apply OG;intro k;rw[N4,N4,Oj,Oj,Zp (by omega)];by_cases c:k<sz t;simp only[c,if_true];rcases Ob j i with f|f;have:(j+1)*sz t<=i*sz t:=Oa _ f;rw[O2,Rc]at this;rw[zz (by omega)];have h:i+1<=j:=by omega
  have:(i+1)*sz t<=j*sz t:=Oa _ h;rw[O2,Rc]at this;rw[zv (by omega),zv (by omega)];simp only[c,if_false]
 rw[e];exact H.2 j m
theorem Inv.setRow{h h':za}(I:Inv h0 W M0 (C++R) γ h){c:Nat}{e:TypeId}{t:Ty}{xs o:List (El t)}(B:(c,Ch.row e t xs)∈C){g:Nat}(p:(γ.σ c).a.map (·.block)=Td g)
  (w:∀i,i≠g->h'[i]?=h[i]?) (N:h'.size=h.size) (E:DenC h0.size γ h' c (.row e t o)) (M:∀x∈R,x.1≠c):Inv h0 W M0 ((c,.row e t o)::Y3 c C++R) γ h':=by
 have j:=I.sep _ (NT R B) g p;have l:∀x∈Y3 c C++R,blk γ x.1 x.2≠Td g:=by
  intro x k;have s:x≠(c,Ch.row e t xs):=by rintro rfl;rcases N0.1 k with k|k;exact(Qp k).2 rfl;exact M _ k rfl
  have q:x∈C++R:=((jr c C).append_right R).subset k;have F:=@mX _ (λ(x y:Nat×Ch)=>∀b,blk γ x.1 x.2=Td b->blk γ y.1 y.2≠Td b) (λx y h b f r=>h b r f) _ I.apart;intro f;exact F (NT R B) q (λe=>s e.symm) _ p f
 have D:Inv h0 W M0 (Y3 c C++R) γ h':=by refine I.rest ((jr c C).append_right R) (c:=Te) (Gx.refl _ _) (λx _=>⟨by simp,rfl⟩) (λx k b f=>?_) (λb H u=>?_) (λi hi z=>?_) (by omega) (λb f=>rfl);exact⟨w b λn=>l x k (n ▸ f),(I.sep x (((jr c C).append_right R).subset k) b f).2⟩;obtain⟨G,m,n⟩:=I.ag b H u;exact⟨G,m,by rw[w b λJ=>by rw[J,j.2]at u;cases u];exact n⟩;refine w i λn=>?_;have L:=j.1;rcases L with A|A;omega;rw[n]at z;exact z A
 refine D.cons E (λb f=>?_) (λb f x k=>?_);simp only[blk,p,NC]at f;subst f;exact j;simp only[blk,p,NC]at f;subst f;exact l x k
def pT(P:Program)(t:TypeId)(f:AA)(b:List AA)(C R:CS)(K:AV->CS->Option Nat->Prop):Prop:=
 bif qy P t then(bif Nat.beq b.length (qj P t)then(bif me b then(match f with
 |.box c o=>match Zx C c with
  |some (.box l)=>bif fV c R then(bif (bif eC l then Ta else eC (l.take o++b++l.drop (o+b.length)))then False else(bif Nat.ble (o+b.length) l.length then K (kT undef) ((c,.box (l.take o++b++l.drop (o+b.length)))::Y3 c C) Te else False))else False
  |_=>False
 |.oelt c z i o=>match Zx (frzL (kw b) C) c with
  |some (.row e ty xs)=>bif fV c R then(bif Nat.beq z (sz ty)then(bif Nat.ble (o+b.length) (sz ty)then ∃y:El ty,xs[i]?=Td y/\(match collect (frzL (kw b) C++R) ty ((Q8 ty y).take o++b++(Q8 ty y).drop (o+b.length))with
   |some (y',[])=>K (kT undef) ((c,.row e ty (xs.set i y'))::Y3 c (frzL (kw b) C)) Te
   |_=>False)else False)else False)else False
  |_=>False
 |_=>False)else False)else False)else False
theorem Hz{a x:Operand}(ho:o.op=.store t a x){aa:AA}{m:List AA}{K:AV->CS->Option Nat->Prop}(H:pT P t aa m C R K)(I:Inv h0 W M0 (C++R) γ h)
  (J:All2 (DenA γ) m (σ x).cells.toList) (ha:DenA γ aa (σ a)):ExA P (execOp σ o) h (eX h0 W M0 R γ K):=by
 unfold pT at H;cases hi:qy P t with
 |false=>rw[hi]at H;exact H.elim
 |true=>
  rw[hi]at H;cases hn:Nat.beq m.length (qj P t)with
  |false=>rw[hn]at H;exact H.elim
  |true=>
   rw[hn]at H;cases hok:me m with
   |false=>rw[hok]at H;exact H.elim
   |true=>
    rw[hok]at H;have N:m.length=qj P t:=NJ hn;have q:(σ x).cells.size=qj P t:=by rw[<-N,J.length];simp
    have h1:=uI hok J;simp only[zI]at H;split at H
    ·rename_i c off;split at H
     ·rename_i l hc;cases hR:fV c R with
      |false=>rw[hR]at H;exact H.elim
      |true=>
       rw[hR]at H;cases hit:eC l with
       |true=>rw[hit]at H;exact H.elim
       |false=>
       rw[hit]at H;cases hit2:eC (l.take off++m++l.drop (off+m.length))with
       |true=>rw[hit2]at H;exact H.elim
       |false=>
       rw[hit2]at H;simp only[zI,zJ]at H;cases hble:Nat.ble (off+m.length) l.length with
       |false=>rw[hble]at H;exact H.elim
       |true=>
        rw[hble]at H;have ab:=OW hble;obtain⟨us,e,G⟩:=I.den _ (NT R (zu hc));rcases e with⟨⟨T,e⟩,_⟩|⟨s,p,e,_⟩;case inr=>exact absurd e (oF hit G s p)
        have an:=G.length;intro B d;obtain⟨h',r1,r2,r3,r4⟩:=Zz (P:=P) hi rfl e (o:=off) q (by simp;omega) h1 B d;refine .inr (.inl ⟨d,h',?_,_,_,_,γ,H,Ya _ _,?_,Gx.refl _ _⟩);simp only[execOp,ho];rw[show σ a=_ from ha];exact kE r1;refine I.setBox (zu hc) (us:=us.take off++(σ x).cells.toList++us.drop (off+m.length)) (.inl ⟨⟨T,?_⟩,λs p=>oF hit2 (((G.take off).append J).append (G.drop _)) s p⟩) r4 r3 ?_ (X8 hR);rw[r2,N];exact((G.take off).append J).append (G.drop _)
     exact H.elim
    rename_i c z i off;split at H;rename_i e ty xs hc;cases hR:fV c R with
    |false=>rw[hR]at H;exact H.elim
    |true=>
     rw[hR]at H;cases hz:Nat.beq z (sz ty)with
     |false=>rw[hz]at H;exact H.elim
     |true=>
      rw[hz]at H;cases hble:Nat.ble (off+m.length) (sz ty)with
      |false=>rw[hble]at H;exact H.elim
      |true=>
       rw[hble]at H;simp only[zI]at H;obtain⟨y,hy,H⟩:=H;split at H;rename_i y' M;have ab:=OW hble;obtain⟨γ1,I1,g1⟩:=Inv.frzL (C:=C) (γ:=γ) (kw m) I;have Y:=ha.gx g1 rfl;have aj:=DenL.gx (c:=Te) g1 rfl J;rw[NJ hz]at Y;obtain⟨g,hg,ae⟩:=Y;have w:=zu hc;obtain⟨cells,r,j,f,b⟩:=I1.den _ (NT R w);simp only at r j f b;have D:i<xs.length:=(Ou.1 hy).1;have af:xs[i]=y:=(Ou.1 hy).2;rcases r.2 with⟨hv,ap⟩|⟨g',cap,U,hv,ah,al,ai,Z,A,F⟩;omega;simp only[N6]at hv;have ak:g'=g:=by have:=hv.1;rw[hg]at this;simp only[NC,Addr.mk.injEq]at this;exact this.1.symm
       subst ak;have n:cells.length=xs.length*sz ty:=j.1;have V:(i+1)*sz ty<=xs.length*sz ty:=Oa _ D;rw[O2,Rc]at V;have ac:xs.length*sz ty<=cap*sz ty:=Oa _ (by omega);have E:(σ x).cells.toList.length=m.length:=J.length.symm;intro B d;obtain⟨h',r1,r2,r3,r4⟩:=Zz (P:=P) hi rfl al (o:=i*sz ty+off) q (by rw[A];omega) h1 B d;refine .inr (.inl ⟨d,h',?_,_,_,_,γ1,H,Ya _ _,?_,g1⟩);simp only[execOp,ho];rw[ae];exact kE r1;refine I1.setRow w (g:=g') (by rw[hg];rfl) r4 r3 ?_ (X8 hR);have hE:=j.2 i D;rw[af]at hE;have O:=j4 (γ:=γ1) hE;have S:=((O.take off).append aj).append (O.drop (off+m.length));obtain⟨c1,c2,e1,r5,r6⟩:=Q9 I1.fz M S;cases c2 with
       |cons _ _=>exact r6.elim
       |nil=>
        rw[Oe]at e1;rw[<-e1]at r5;have u:=j.set D (o:=off) (vs:=(σ x).cells.toList) (by rw[E];exact ab) (by rw[E];exact r5);refine⟨_,⟨?_,.inr ⟨g',cap,_,by simp[hv],ah,r2,ai,Z,?_,?_⟩⟩,u,by simpa using f,by simpa using b⟩;rw[u.1,b,List.length_set];simp only[P8,NH,N8,ON,PP];have:(σ x).cells.toList.length=qj P t:=by simpa using q
        simp only[PP]at this;rw[this,A];omega;apply OG;intro k;have Q:(σ x).cells.toList.length=qj P t:=by simpa using q
        rw[N4,<-Q];simp only;rw[Zp (L:=cells) (by rw[n];omega)];have am:cells=U.toList.take (xs.length*sz ty):=by rw[<-F,b]
        rw[Zp (L:=U.toList) (by simp only[PP];rw[A];simp only[PP]at E;omega),am,b];by_cases hk:k<xs.length*sz ty;rw[zz hk,N4,zz hk];rw[zv hk,N4,zv hk];rw[zv (by omega),zv (by omega)]
       exact H.elim
    exact H.elim;exact H.elim
def ew(s:Bt)(p:Nat):Bool:=Nat.blt p s.size
def ek(s:Bt)(p:Nat):Nat:=bif Nat.blt p s.size then p+(Rw s p).2 else p
def fp(s:Bt)(p:Nat):Int:=((Rw s p).1:Int)
def pp(P:Program)(t:TypeId)(av:AV)(d:Nat)(C R:CS)(K:AV->CS->Option Nat->Prop):Prop:=match av,P.underlying t with
 |.g (.a (.v (.string s))),Td .string=>bif qd d R then K (.g (.a (.box d 0))) ((d,.box [.d .iter (s,0)])::qe d C) (Td d)else False
 |_,_=>False
theorem JJ{x:Operand}(f:o.op=.range t x){K:AV->CS->Option Nat->Prop}(H:pp P t av d C R K)(I:Inv h0 W M0 (C++R) γ h)
  (j:DenV γ av (σ x)):ExA P (execOp σ o) h (eX h0 W M0 R γ K):=by
 unfold pp at H;split at H;rename_i s i;cases hR:qd d R with
 |false=>rw[hR]at H;exact H.elim
 |true=>rw[hR]at H;intro B e;refine .inl ⟨.pointer (Td ⟨h.size,0,Te⟩),e,h.push (.stringIter s 0),?_,_,_,_,fK γ d h.size,H,?_,?_,Wv _ _ _⟩;simp only[execOp,f,show σ x=.string s from j];refine Qc ?_;have b:=QExec.underlying (h:=h) i B e;unfold Rk;rw[Sem.run_bind,b];rfl;simp only[DenV,DenG,DenA,xt];exact Inv.newBoxO (c:=d) I hR (l:=[.d .iter (s,0)]) (us:=[xe s 0]) ⟨rfl,trivial⟩ rfl (.inr ⟨s,0,rfl,rfl⟩)
 exact H.elim
def qG(av:AV)(C R:CS)(K:AV->CS->Option Nat->Prop):Prop:=match av with
 |.g (.a (.box c 0))=>match Zx C c with
  |some (.box [.d .iter x])=>bif fV c R then K (.nx (ew x.1 x.2) (x.2:Int) (fp x.1 x.2)) ((c,.box [.d .iter (x.1,ek x.1 x.2)])::Y3 c C) Te else False
  |_=>False
 |_=>False
theorem IZ{x:Operand}(D:o.op=.next x Ta){K:AV->CS->Option Nat->Prop}(H:qG av C R K)(I:Inv h0 W M0 (C++R) γ h)
  (G:DenV γ av (σ x)):ExA P (execOp σ o) h (eX h0 W M0 R γ K):=by
 unfold qG at H;split at H;rename_i c;split at H;rename_i y f;cases hR:fV c R with
 |false=>rw[hR]at H;exact H.elim
 |true=>
  rw[hR]at H;simp only[zI]at H;obtain⟨us,L,r⟩:=I.den _ (NT R (zu f));have q:us=[xe y.1 y.2]:=by
   match us,r with
   |[u],r=>have J:Rd γ.M .iter y [u]:=r.1;simpa[Rd]using J
  subst q;have b:h[γ.β c]?=Td (.stringIter y.1 y.2):=by
   rcases L with⟨_,e⟩|⟨s,p,A,N⟩;exact absurd rfl (e _ _);have t:y.1=s/\y.2=p:=by simp only[xe,PE,Value.iface.injEq,Value.agg.injEq,Array.mk.injEq,Value.string.injEq,Value.int.injEq,and_true,true_and]at A;exact⟨A.1,by omega⟩
   rw[N,t.1,t.2]
  have n:γ.β c<h.size:=(NK.1 b).1;intro B d;have z:∀(w:World),w.heap[γ.β c]?=Td (.stringIter y.1 y.2)->(getObj (γ.β c)).run P w=.ok (.stringIter y.1 y.2) w:=λw e=>by simp[getObj,Sem.run,e]
  have F:∀(w:World) (l:Obj),w.heap[γ.β c]?=Td (.stringIter y.1 y.2)->(setObj (γ.β c) l).run P w=.ok () { w with heap:=w.heap.setIfInBounds (γ.β c) l }:=λw l e=>by simp[setObj,Sem.run,e]
  have E:σ x=.pointer (Td ⟨γ.β c,0,Te⟩):=G;by_cases k:y.2<y.1.size;have j:ew y.1 y.2=Ta:=by simpa[ew,Pp]using k
  have m:ek y.1 y.2=y.2+(Rw y.1 y.2).2:=by unfold ek;rw[show Nat.blt y.2 y.1.size=Ta from j];rfl
  refine .inl ⟨.tuple #[.bool Ta,.int .i64 y.2,.int .i32 (fp y.1 y.2)],d,h.setIfInBounds (γ.β c) (.stringIter y.1 (ek y.1 y.2)),?_,_,_,_,γ,H,⟨λ_=>rfl,λf=>by rw[j]at f;cases f⟩,?_,Gx.refl _ _⟩;simp only[execOp,D,E];refine Qc ?_;unfold QE;simp only;rw[Sem.run_bind,z _ b];simp only[Result.andThen_ok,k,if_true];rw[Sem.run_bind,F _ _ b,m];rfl;refine I.setBox (zu f) (us:=[xe y.1 (ek y.1 y.2)]) (.inr ⟨_,_,rfl,by simp[n]⟩) (λi hi=>by simp[NW (Ne.symm hi)]) (by simp) ⟨rfl,trivial⟩ (X8 hR);have j:ew y.1 y.2=Tc:=by
   cases h:ew y.1 y.2 with
   |false=>rfl
   |true=>exact absurd (by simpa[ew,Pp]using h) k
  have m:ek y.1 y.2=y.2:=by unfold ek;rw[show Nat.blt y.2 y.1.size=Tc from j];rfl
  refine .inl ⟨.tuple #[.bool Tc],d,h,?_,_,_,_,γ,H,⟨λf=>(by rw[j]at f;cases f),λ_=>rfl⟩,?_,Gx.refl _ _⟩;simp only[execOp,D,E];refine Qc ?_;unfold QE;simp only;rw[Sem.run_bind,z _ b];simp only[Result.andThen_ok,k,if_false];rfl;refine I.setBox (zu f) (us:=[xe y.1 (ek y.1 y.2)]) (.inr ⟨_,_,rfl,by rw[m];exact b⟩) (λi hi=>rfl) rfl ⟨rfl,trivial⟩ (X8 hR)
 exact H.elim;exact H.elim
end
section
variable {P:Program} {tr t tx e ty:TypeId} {n d m b:Nat} {C R:CS} {γ:Gh} {h:za} {s:Sl} {z x u:Value} {xs news:List Value}
variable {h0 : za} {W : Nat -> Prop} {M0 : Fr}
def Y6(cs:CS)(t:Ty):Nat->List AA->Option (List (El t)×List AA)
 |0,l=>Td ([],l)
 |n+1,l=>match collect cs t l with
  |some (y,l')=>match Y6 cs t n l' with
   |some (ys,l'')=>Td (y::ys,l'')
   |none=>Te
  |none=>Te
theorem pI{γ:Gh}{cs:CS}(c:gy γ cs){t:Ty}:∀{n:Nat} {l b:List AA} {ys:List (El t)},Y6 cs t n l=Td (ys,b)->∀{us:List Value},All2 (DenA γ) l us->∃c1 c2,us=c1++c2/\RowC γ.M t ys c1/\ys.length=n/\All2 (DenA γ) b c2
 |0,l,b,ys,h,us,hu=>by simp only[Y6,NC,OJ]at h;obtain⟨rfl,rfl⟩:=h;exact⟨[],us,rfl,RowC.nil _ _,rfl,hu⟩
 |n+1,l,b,ys,h,us,hu=>by simp only[Y6]at h;split at h;rename_i y s q;split at h;rename_i o u m;simp only[NC,OJ]at h;obtain⟨rfl,rfl⟩:=h;obtain⟨c1,c2,rfl,i,f⟩:=Q9 c q hu;obtain⟨k,p,rfl,r,j,e⟩:=pI c m f;exact⟨c1++k,p,by simp,by simpa using (RowC.single i).append r,by simp[j],e⟩;cases h;cases h
def kL(P:Program)(el:TypeId)(k:Nat):Option (List Value):=bif Nat.beq k 0 then Td []else(match zeroOf P el with
 |some z=>Td ((Rx k).map (z.cells[· % z.cells.size]!)).toList
 |none=>Te)
def my:List (Nat×AV)->List AV
 |[]=>[]
 |(_,v)::l=>v::my l
def Y7(P:Program)(tr:TypeId)(t:TypeId)(n:Nat)(ps:List (Nat×AV))(d:Nat)(C R:CS)(K:AV->CS->Option Nat->Prop):Prop:=
 match gH P t with
 |some el=>match ir P tr 8 el,kL P el (n*qj P el)with
  |some ty,some zs=>bif Nat.beq (qj P el) (sz ty)then(bif Nat.ble (n*qj P el) 16777216 then(bif Nat.blt 0 (qj P el)then(bif qd d R then(match ij (λi=>Td (i*qj P el,qj P el)) (zs.map .v) ps with
   |some r=>match Y6 (frzL (Jz (my ps)) C++R) ty n r with
    |some (ys,[])=>K (.g (.a (.own d))) ((d,.row el ty ys)::qe d (frzL (Jz (my ps)) C)) (Td d)
    |_=>False
   |none=>False)else False)else False)else False)else False
  |_,_=>False
 |none=>False
theorem uG{c:Array (Nat×Operand)}{o:Oper}(ho:o.op=.buildSlice t n c){ps:List (Nat×AV)}{ρ:Operand->Option AV}(D:gK ρ c.toList=Td ps){K:AV->CS->Option Nat->Prop}
  (H:Y7 P tr t n ps d C R K) {σ:Operand->Value} (I:Inv h0 W M0 (C++R) γ h) (hρ:∀x av,ρ x=Td av->DenV γ av (σ x)):ExA P (execOp σ o) h (eX h0 W M0 R γ K):=by
 unfold Y7 at H;split at H
 ·rename_i el G;obtain⟨hu,M⟩:=Yb G;split at H
  ·rename_i ty A aa f;cases hz:Nat.beq (qj P el) (sz ty)with
   |false=>rw[hz]at H;exact H.elim
   |true=>
   rw[hz]at H;cases hb1:Nat.ble (n*qj P el) 16777216 with
   |false=>rw[hb1]at H;exact H.elim
   |true=>
   rw[hb1]at H;cases hb2:Nat.blt 0 (qj P el)with
   |false=>rw[hb2]at H;exact H.elim
   |true=>
   rw[hb2]at H;cases hR:qd d R with
   |false=>rw[hR]at H;exact H.elim
   |true=>
   rw[hR]at H;simp only[zI]at H;split at H
   ·rename_i r Y;split at H
    ·rename_i ys w;obtain⟨m,N,g1⟩:=Inv.frzL (C:=C) (γ:=γ) (Jz (my ps)) I;have J:∀x av,ρ x=Td av->DenV m av (σ x):=λx av hx=>(hρ x av hx).gx g1 rfl;obtain⟨ws,e1,e2⟩:=Y5 Y (xw m A) (X6 J D);obtain⟨c1,c2,rfl,S,Q,T⟩:=pI N.fz w e2;cases c2 with
     |cons _ _=>exact T.elim
     |nil=>
     rw[Oe]at *;have k:=NJ hz;have l:0<qj P el:=by simpa[Pp]using hb2
     have U:n*qj P el<=16777216:=OW hb1;have hn:n<=n*qj P el:=QH _ l;have s:c1.length=n*qj P el:=by rw[S.1,Q,k]
     intro B e;refine .inl ⟨.slice (Td ⟨h.size,0,Te⟩) n n,e,h.push (.cells c1.toArray el),?_,_,_,_,eW m d ⟨Td ⟨h.size,0,Te⟩,n,n⟩,H,?_,?_,?_⟩;have F:=QExec.underlying (h:=h) hu B e;have V:=QExec.sizeOf (P:=P) (h:=h) (q9 M).choose_spec B e;have Z:(c.map λx=>(x.1,σ x.2)).toList=c.toList.map λx=>(x.1,σ x.2):=by rw[PT]
     have O:Rz (λi=>Td (i*qj P el,qj P el)) A.toArray (c.map λx=>(x.1,σ x.2)).toList=Td c1.toArray:=by rw[Z];exact e1
     simp only[execOp,ho];refine Qc ?_;unfold Instr.buildSlice;rw[Sem.run_bind,F];simp only[Result.andThen_ok];rw[Sem.run_bind,V];simp only[Result.andThen_ok];rw[zv (by omega)];unfold kL at f;by_cases j:n*qj P el=0;rw[zz j];rw[j]at f ⊢;simp at f;subst f;simp only[Sem.run_bind,Sem.run_pure,Result.andThen_ok];have u:Array.map (λx=>(#[]:Array Value)[x % (#[]:Array Value).size]!) (Rx 0)=([]:List Value).toArray:=by simp
     rw[u,O];rfl;rw[zv j];have E:Nat.beq (n*qj P el) 0=Tc:=by
      cases hh:Nat.beq (n*qj P el) 0 with
      |false=>rfl
      |true=>exact absurd (NJ hh) j
     rw[E]at f;simp only[zJ]at f;split at f;rename_i z y;have L:=Yd y h B e;simp only[NC]at f;rw[Sem.run_bind,L];simp only[Result.andThen_ok,Sem.run_bind,Sem.run_pure];have u:Array.map (λx=>z.cells[x % z.cells.size]!) (Rx (n*qj P el))=A.toArray:=by rw[<-f]
     rw[u,O];rfl;cases f;simp only[DenV,DenG,DenA,qi];rfl;refine N.newRow hR (by simp) (p:=Te) (λi hi _=>by rw[OZ,zv (by omega)]) (λb E=>by cases E) (cells:=c1) ⟨by rw[s,<-k],.inr ⟨h.size,n,c1.toArray,rfl,I.size,qq _ _,ND _,by unfold maxLen;omega,by rw[<-k];simpa using s,?_⟩⟩ (λq F=>.inr (by cases F;rfl)) S (by omega) Q.symm;rw[Pe];rw[<-k];simp;omega;exact⟨g1.1,λi hi=>⟨((Zb m d _).2 i hi).1.trans (g1.2 i (by simp)).1,((Zb m d _).2 i hi).2.trans (g1.2 i (by simp)).2⟩⟩
    exact H.elim
   exact H.elim
  exact H.elim
 exact H.elim
theorem Z0{n sz:Nat}{cells:List Value}(i:Arr n h s.a cells)(f:cells.length=s.len*sz)(c:0<sz)(B:World)(d:Nat):
  (PI sz s.len (.slice s.a s.len s.cap)).run P (mk B d h)=.ok cells.toArray (mk B d h):=by
 rcases i with rfl|⟨b,o,e,_,l⟩;have h0:s.len=0:=by rcases QK s.len with h0|h0;exact h0;have:=Nat.mul_pos h0 c;simp at f;omega
 rw[h0];cases s.a with
 |none=>simp[PI]
 |some p=>simp[PI,loadCells,loadCellsFrom]
 rw[e];exact run_firstCells_some (mk B d h) sz s.len ⟨b,o,Te⟩ s.len s.cap cells f λj u k=>by rw[zj];exact l j u k
theorem Co{n sz:Nat}{cells:List Value}(e:Arr n h s.a cells)(c:cells.length=s.len*sz)(b:0<sz)(j:∀u∈cells,u.oneCell'=Ta){tx f:TypeId}(i:P.underlying tx=Td (.slice f))(B:World)(d:Nat):
  Src P sz tx (aK s) s.len cells (mk B d h):=
 ⟨.inl ⟨f,i⟩,λ_=>rfl,Z0 e c b B d,Z0 e c b B (d+1),c,j⟩
theorem vR{g o:Nat}{b:Array Value}{T:TypeId}(k:h[g]?=Td (.cells b T (0,0))){vs:List Value}(m:o+vs.length<=b.size)(f:∀u∈vs,u.oneCell'=Ta)(B:World)(d:Nat):
  ∃h',(storeCells ⟨g,o,Te⟩ vs 0).run P (mk B d h)=.ok () (mk B d h')/\h'[g]?=Td (.cells (b.toList.take o++vs++b.toList.drop (o+vs.length)).toArray T (0,0))/\h'.size=h.size/\∀j,j≠g->h'[j]?=h[j]?:=by
 obtain⟨h',i,c,l,e⟩:=xl (P:=P) B d vs (o+0) h b k (by omega) f;exact⟨h',by rw[sI];exact i,c,l,e⟩
theorem Y8{sz bytes:Nat}(T:ElemT P t e z sz bytes){base:Nat}(j:xs.length=s.len*sz)(k:∀B d,(PI sz s.len (aK s)).run P (mk B d h)=.ok xs.toArray (mk B d h))(w:∀B d,Src P sz tx x m news (mk B d h))(b:(s.len+m)*bytes<=140737488355328)(u:s.len+m<=140737488355328)(l:base<=h.size)(A:s.cap<s.len+m)(B:World)(d:Nat):
  ∃c blk,(NX #[t,tx] ty #[aK s,x]).run P (mk B d h)=.ok (.slice (Td ⟨h.size,0,Te⟩) (s.len+m) c) (mk B (d+1) (h.push (.cells blk e)))/\s.len+m<=c/\c<=maxLen/\blk.size=c*sz/\blk.toList.take ((s.len+m)*sz)=xs++news:=by
 obtain⟨i,hi,C,q,o⟩:=T.info;subst q;subst o;have r:=w B d;have f:=r.newsLen;have y:=run_append_grow_src (P:=P) (mk B d h) t tx ty e i z T.slice hi C s.a s.len s.cap xs (k B (d+1)) x m news r A (by omega) (growslice_fits (by omega) b);have p:=grownCap_ge (mk B d h) (s.len+m) s.cap e;have n:=grownCap_le_maxLen (mk B d h) (s.len+m) s.cap e (by unfold maxLen;omega);generalize grownCap (mk B d h) (s.len+m) s.cap e=c at *;refine⟨c,_,y,p,n,?_,?_⟩;simp only[Array.size_append,P8,size_zeroCells,NH,T.zero,j,f,<-O2];congr 1;omega;simp only[Array.toList_append];have:(xs++news).length=(s.len+m)*i.size:=by rw[NH,j,f,O2]
 rw[<-this];exact QN
theorem Z1{sz bytes:Nat}(T:ElemT P t e z sz bytes){h h':za}{B:World}(c:Src P sz tx x m news (mk B d h))(b:s.len+m<=s.cap)
  (j:∀p,s.a=Td p->(storeCells (p.add (s.len*sz)) news 0).run P (mk B d h)=.ok () (mk B d h')) (f:s.a=Te->h'=h):(NX #[t,tx] ty #[aK s,x]).run P (mk B d h)=.ok (.slice s.a (s.len+m) s.cap) (mk B d h'):=by
 obtain⟨i,hi,r,n,o⟩:=T.info;subst n;have l:=T.slice;unfold aK;rcases c.kind with⟨q,k⟩|k;cases ha:s.a with
 |none=>rw[f ha];simp[NX,run_underlying l,run_underlying k,sizeOf,typeInfo,hi,c.len,b,c.cells]
 |some p=>simp[NX,run_underlying l,run_underlying k,sizeOf,typeInfo,hi,c.len,b,c.cells,j p ha]
 cases ha:s.a with
 |none=>rw[f ha];simp[NX,run_underlying l,run_underlying k,sizeOf,typeInfo,hi,c.len,b,c.cells]
 |some p=>simp[NX,run_underlying l,run_underlying k,sizeOf,typeInfo,hi,c.len,b,c.cells,j p ha]
theorem X9{sz bytes:Nat}(T:ElemT P t e z sz bytes){base:Nat}(H:Owns h base e sz s xs)(hs:∀B d,Src P sz tx x m news (mk B d h)) (n:(s.len+m)*bytes<=140737488355328) (E:s.len+m<=140737488355328) (j:base<=h.size) {K:Value->za->Prop} (Y:∀(F:Sl) (h':za),F.len=s.len+m->Owns h' base e sz F (xs++news)->(∀i,i<h.size->(∀p,s.a=Td p->i≠p.block)->h'[i]?=h[i]?)->h.size<=h'.size->(∀r,F.a=Td r->(∃p,s.a=Td p/\r.block=p.block)\/r.block=h.size)->K (aK F) h'):
  jh P (NX #[t,tx] ty #[aK s,x]) h K:=by
 intro B d;have I:=hs B d;have f:=I.newsLen;have k:=H.1;have A:=H.arr;by_cases l:s.len+m<=s.cap;rcases H.2 with⟨w,aa⟩|⟨g,cap,L,w,Z,hg,ab,M,D,u⟩;simp only[N6]at w;obtain⟨q,e2,e3⟩:=w;have hm:m=0:=by omega
 subst hm;have G:news=[]:=N5 (by simpa using f);subst G;have y:=Z1 (P:=P) (ty:=ty) T (s:=s) (h':=h) I l (λp C=>by rw[q]at C;cases C) (λ_=>rfl);refine⟨_,d,h,y,Y ⟨s.a,s.len+0,s.cap⟩ h rfl ?_ (λ_ _ _=>rfl) (ND _) (λr b=>by rw[show s.a=Te from q]at b;cases b)⟩;rw[Oe];exact H;simp only[N6]at w;obtain⟨q,_,e3⟩:=w;have V:h[g]?=Td (.cells L e (0,0)):=hg;have Q:(s.len+m)*sz<=cap*sz:=Oa _ (by omega);rw[O2]at Q;obtain⟨h',r1,r2,r3,r4⟩:=vR (P:=P) V (o:=s.len*sz) (vs:=news) (by rw[D];omega) I.one B d;have y:=Z1 (P:=P) (ty:=ty) T (s:=s) (h':=h') I l (λp C=>by rw[q]at C;cases C;rw[zj,NZ];exact r1) (λG=>by rw[q]at G;cases G);refine⟨_,d,h',y,Y ⟨s.a,s.len+m,s.cap⟩ h' rfl ⟨?_,.inr ⟨g,cap,_,?_,Z,r2,(by show s.len+m<=cap;omega),M,?_,?_⟩⟩ (λi hi O=>r4 i λe'=>O _ q e') (by omega) (λr b=>.inl ⟨r,b,rfl⟩)⟩;rw[NH,k,f,O2];simp[q,e3];simp only[P8,NH,N8,ON,PP];rw[f,D]at *;omega;simp only;rw[u];have:(xs++news).length=(s.len+m)*sz:=by rw[NH,k,f,O2]
 rw[<-this];exact QN;obtain⟨c,blk,y,J,N,U,S⟩:=Y8 (P:=P) (ty:=ty) (base:=base) T k (λB d=>Z0 A k T.pos B d) hs n E j (by omega) B d;refine⟨_,d+1,_,y,Y ⟨Td ⟨h.size,0,Te⟩,s.len+m,c⟩ _ rfl ⟨?_,.inr ⟨h.size,c,blk,rfl,j,qq _ _,J,N,U,S⟩⟩ (λi hi _=>by rw[OZ,zv (by omega)]) (by simp) (λr b=>.inr (by cases b;rfl))⟩;rw[NH,k,f,O2]
def hC(s:Bt):List Int:=s.data.toList.map λb=>(b.toNat:Int)
def uc:(ty:Ty)->Bt->Option (List (El ty))
 |.int .u8,s=>Td (hC s)
 |_,_=>Te
def jC(P:Program)(cs:CS)(tx:TypeId)(ty:Ty):AV->Option (List (El ty))
 |.g (.a (.v (.string s)))=>match P.underlying tx with
  |some .string=>uc ty s
  |_=>Te
 |.g (.a (.v (.slice Te 0 0)))=>match P.underlying tx with
  |some (.slice _)=>Td []
  |_=>Te
 |.g (.a aa)=>match P.underlying tx with
  |some (.slice _)=>match rowOf cs aa with
   |some r=>Za (.row r.1) (.row ty) r.2
   |none=>match aa with
    |.own c=>match Zx cs c with
     |some (.row _ t xs)=>Za (.row t) (.row ty) xs
     |_=>Te
    |_=>Te
  |_=>Te
 |_=>Te
theorem RowC.bytes(M:Fr)(s:Bt):RowC M (.int .u8) (hC s) (byteCells s):=by
 have c:(byteCells s).length=(hC s).length:=by unfold byteCells hC;simp
 refine⟨by rw[c];simp[sz],λi hi=>?_⟩;have b:i<(byteCells s).length:=by rw[c];exact hi
 have e:(byteCells s)[i]=.int .u8 (hC s)[i]:=by simp only[byteCells,hC,QT]
 have f:((byteCells s).drop (i*1)).take 1=[(byteCells s)[i]]:=by rw[OI,Po b];rfl
 show((byteCells s).drop (i*1)).take 1=[.int .u8 (hC s)[i]];rw[f,e]
theorem Z2{t t':Ty}{xs:List (El t)}{ys:List (El t')}(h:Za (.row t) (.row t') xs=Td ys):∃e:t=t',ys=e ▸ xs:=by
 unfold Za at h;split at h;rename_i e;have b:t=t':=by injection e
 subst b;simp only[NC]at h;exact⟨rfl,h.symm⟩;cases h
theorem Cn{cs:CS}(I:Inv h0 W M0 cs γ h){ty:Ty}{av:AV}{ys:List (El ty)}(b:jC P cs tx ty av=Td ys)(m:0<sz ty)(q:DenV γ av u):
  ∃news,RowC γ.M ty ys news/\∀B d,Src P (sz ty) tx u ys.length news (mk B d h):=by
 have row:∀{t:Ty} {xs:List (El t)} {n:Nat} {s:Sl} {cells:List Value} {p:TypeId},Za (.row t) (.row ty) xs=Td ys->P.underlying tx=Td (.slice p)->u=aK s->s.len=xs.length->RowC γ.M t xs cells->Arr n h s.a cells ->
   ∃news,RowC γ.M ty ys news/\∀B d,Src P (sz ty) tx u ys.length news (mk B d h):=by
  intro t xs n s cells p w i e j k y;obtain⟨A,x⟩:=Z2 w;subst A;simp only at x;subst x;refine⟨cells,k,λB d=>?_⟩;rw[e,<-j];exact Co y (by rw[j];exact k.1) m k.one i B d
 unfold jC at b;split at b
 ·rename_i s;split at b
  ·rename_i i;unfold uc at b;split at b;case h_2=>cases b
   simp only[NC]at b;subst b;refine⟨byteCells s,RowC.bytes _ s,λB d=>?_⟩;rw[show u=.string s from q];have:=Src.ofString (P:=P) (mk B d h) i s;have e:(hC s).length=s.size:=by unfold hC;rw[NM,PP];rfl
   rw[e];exact this
  cases b
 split at b;rename_i p i;simp only[NC]at b;subst b;refine⟨[],RowC.nil _ _,λB d=>?_⟩;rw[show u=.slice Te 0 0 from q];exact Src.ofNil (mk B d h) i 0;cases b;rename_i C _ _;split at b;rename_i p i;split at b;rename_i r k;obtain⟨s,e,j,z,cells,f,o⟩:=(lG I k q).rowC I.ag;exact row b i e j f o;split at b;rename_i c _ _ _;split at b;rename_i e t xs w;obtain⟨cells,l,f,z,j⟩:=I.den _ (zu w);exact row b i (show u=aK _ from q) j f l.arr;cases b;cases b;cases b;cases b
def oS(P:Program)(el:TypeId)(ty:Ty):Option Nat:=match P.info? el with
 |some i=>match i.zero with
  |some z=>bif (bif Nat.beq i.size (sz ty)then(bif Nat.beq z.cells.size i.size then(bif Nat.blt 0 i.size then Nat.blt 0 i.bytes else Tc)else Tc)else Tc)then Td i.bytes else Te
  |none=>Te
 |none=>Te
theorem vQ{t el:TypeId}{ty:Ty}(l:P.underlying t=Td (.slice el))(h:oS P el ty=Td b):(∃z,ElemT P t el z (sz ty) b)/\0<b:=by
 unfold oS at h;split at h
 ·rename_i i hi;split at h
  ·rename_i z e;cases h1:Nat.beq i.size (sz ty)with
   |false=>rw[h1]at h;cases h
   |true=>
   cases h2:Nat.beq z.cells.size i.size with
   |false=>rw[h1,h2]at h;cases h
   |true=>
   cases h3:Nat.blt 0 i.size with
   |false=>rw[h1,h2,h3]at h;cases h
   |true=>
   cases h4:Nat.blt 0 i.bytes with
   |false=>rw[h1,h2,h3,h4]at h;cases h
   |true=>
   rw[h1,h2,h3,h4]at h;simp only[zI,NC]at h;have c:=NJ h1;have j:=NJ h2;have f:0<i.size:=by simpa[Pp]using h3
   have k:0<i.bytes:=by simpa[Pp]using h4
   exact⟨⟨z,l,⟨i,hi,e,c,h⟩,by rw[j,c],by rw[<-c];exact f⟩,by rw[<-h];exact k⟩
  cases h
 cases h
def Wz(P:Program)(tr:TypeId)(t tx:TypeId)(bv sv:AV)(d:Nat)(C R:CS)(K:AV->CS->Option Nat->Prop):Prop:=
 match gH P t with
 |some el=>match ir P tr 8 el with
  |some ty=>match oS P el ty,jC P (C++R) tx ty sv with
   |some b,some ys=>match bv with
    |.g (.a (.v (.slice Te 0 0)))=>bif qd d R then(ys.length*b<=140737488355328/\K (.g (.a (.own d))) ((d,.row el ty ys)::qe d C) (Td d))else False
    |.g (.a (.own c))=>match Zx C c with
     |some (.row e t' xs)=>match Za (.row t') (.row ty) xs with
      |some xs=>bif Nat.beq e el then(bif qd d R then((xs.length+ys.length)*b<=140737488355328/\K (.g (.a (.own d))) ((d,.row el ty (xs++ys))::qe d (Y3 c C)) (Td d))else False)else False
      |none=>False
     |_=>False
    |.g (.a (.dc t' xs))=>match Za (.row t') (.row ty) xs with
     |some xs=>(xs.length+ys.length)*b<=140737488355328/\K (.g (.a (.d (.row ty) (xs++ys)))) C Te
     |none=>False
    |_=>False
   |_,_=>False
  |none=>False
 |none=>False
theorem m5{n b k:Nat}(c:0<b)(h:n*b<=k):n<=k:=OD (QH _ c) h
theorem t6{tr t tx ty':TypeId}{bv sv:AV}{K:AV->CS->Option Nat->Prop}(H:Wz P tr t tx bv sv d C R K)(I:Inv h0 W M0 (C++R) γ h)
  {u v:Value} (U:DenV γ bv u) (an:DenV γ sv v):jh P (NX #[t,tx] ty' #[u,v]) h (eX h0 W M0 R γ K):=by
 unfold Wz at H;split at H
 ·rename_i el ay;obtain⟨hu,aG⟩:=Yb ay;split at H
  ·rename_i ty aD;split at H
   ·rename_i b ys l ai;obtain⟨⟨z,T⟩,L⟩:=vQ hu l;obtain⟨news,E,F⟩:=Cn I ai T.pos an;split at H
    ·cases hR:qd d R with
     |false=>rw[hR]at H;exact H.elim
     |true=>
     rw[hR]at H;obtain⟨w,Y⟩:=H;rw[show u=aK ⟨Te,0,0⟩from U];have r:=m5 L w;refine X9 T (Owns.nil h h0.size el (sz ty)) F (by simpa using w) (by simpa using r) I.size λs' h' hl G hk hs n=>?_;rw[OU]at G;simp only[NZ]at hl;refine⟨_,_,_,eW γ d s',Y,?_,I.newRow hR hs (p:=Te) (λi hi _=>hk i hi (by simp)) (λb l=>by cases l) G (λq hq=>?_) E r hl,Zb _ _ _⟩;simp only[DenV,DenG,DenA,qi];rcases n q hq with⟨p,n,_⟩|n;simp at n;exact .inr n
    ·rename_i c;split at H
     ·rename_i e t' az hc;split at H
      ·rename_i xs D;cases hee:Nat.beq e el with
       |false=>rw[hee]at H;exact H.elim
       |true=>
       rw[hee]at H;cases hR:qd d R with
       |false=>rw[hR]at H;exact H.elim
       |true=>
       rw[hR]at H;obtain⟨w,Y⟩:=H;have r:=m5 L w;have J:=zu hc;obtain⟨e1,e2⟩:=Z2 D;subst e1;simp only at e2;subst e2;have e3:=NJ hee;subst e3;have ae:=I.den _ (NT R J);obtain⟨cells,A,j,am,f⟩:=ae;simp only at A j f;rw[show u=aK (γ.σ c)from U];refine X9 T A F (by rw[f];exact w) (by rw[f];exact r) I.size λs' h' hl G hk hs n=>?_;have Z:=I.sep _ (NT R J);have aC:=Zy hR;have ax:Inv h0 W M0 (Y3 c C++R) γ h:=I.sub ((jr c C).append_right R);refine⟨_,_,_,eW γ d s',Y,?_,ax.newRow hR hs (p:=(γ.σ c).a.map (·.block)) (λi hi S=>hk i hi λp n e=>S (by rw[n,e];rfl)) (λb l=>?_) G (λq hq=>?_) (j.append E) (by rw[NH];exact r) (by rw[hl,f,NH]),Zb _ _ _⟩;simp only[DenV,DenG,DenA,qi];obtain⟨h1,h2⟩:=Z b l;refine⟨?_,h2,λx V al=>?_⟩;simp only[Pn]at l;obtain⟨p,n,rfl⟩:=l;exact(A.base_le p n).1;have au:x∈C++R:=((jr c C).append_right R).subset V;have S:x≠(c,Ch.row e t' xs):=by rintro rfl;rcases N0.1 V with V|V;exact(Qp V).2 rfl;have aa:=I.apart;rw[Oh]at aa;exact aa.2.2 _ J _ V b l l
       have n:=@mX _ (λ(x y:Nat×Ch)=>∀b,blk γ x.1 x.2=Td b->blk γ y.1 y.2≠Td b) (λx y h b l N=>h b N l) _ I.apart;exact n au (NT R J) S b al l;rcases n q hq with⟨p,n,aj⟩|n;exact .inl (by rw[n,aj];rfl);exact .inr n
      exact H.elim
     exact H.elim
    rename_i t' az;split at H;rename_i xs D;obtain⟨w,Y⟩:=H;have r:=m5 L w;obtain⟨e1,e2⟩:=Z2 D;subst e1;simp only at e2;subst e2;obtain⟨s,e,aH,ab⟩:=(show ∃s:Sl,u=aK s/\s.cap=s.len/\Rd γ.M (.row t') xs [u]from U);subst e;obtain⟨s2,e,f,am,cells,j,af⟩:=ab.rowC I.ag;have e':s=s2:=by cases s;cases s2;simp only[aK,N6]at e;simp[e]
    subst e';have O:cells.length=s.len*sz t':=by rw[f];exact j.1
    intro B dr;by_cases hm:ys.length=0;have aB:ys=[]:=N5 hm;subst aB;have ak:news=[]:=N5 (by rw[E.1];simp);subst ak;have hr:=Z1 (P:=P) (ty:=ty') T (s:=s) (h':=h) (F B dr) (by simp;omega) (λp n=>by simp[storeCells]) (λ_=>rfl);refine⟨_,dr,h,hr,_,C,Te,γ,Y,?_,I,Gx.refl _ _⟩;rw[Oe];exact ab;obtain⟨c,k,hr,ah,aF,aE,aA⟩:=Y8 (P:=P) (ty:=ty') (base:=0) T O (λB d=>Z0 af O T.pos B d) F (by rw[f];exact w) (by rw[f];exact r) (NV _) (by omega) B dr;have ap:γ.M h.size=Te:=I.ag.none (ND _);have hM:Fr.le γ.M (dY γ h.size k).M:=by
     intro b cc Q;have:Nat.beq b h.size=Tc:=by
      cases l:Nat.beq b h.size with
      |false=>rfl
      |true=>rw[NJ l,ap]at Q;cases Q
     simp[dY,this,Q]
    have ar:AgM (dY γ h.size k).M (h.push (.cells k el)):=by
     intro b cc Q;by_cases l:b=h.size;subst l;have:cc=k:=by simp[dY]at Q;exact Q.symm
     subst this;exact⟨_,_,qq _ _⟩;have:Nat.beq b h.size=Tc:=by
      cases N:Nat.beq b h.size with
      |false=>rfl
      |true=>exact absurd (NJ N) l
     simp only[dY,this,zJ]at Q;obtain⟨T',m,e'⟩:=I.ag b cc Q;exact⟨T',m,by rw[OZ,zv l];exact e'⟩
    refine⟨_,dr+1,_,hr,_,C,Te,dY γ h.size k,Y,?_,I.call (Keep.push h _ (ND _)) hM (λb l=>?_) ar,⟨hM,λ_ _=>⟨rfl,rfl⟩⟩⟩;have ac:=((j.append E).mono hM).rd (b:=h.size) (o:=0) (c:=c) (cs:=k) (by simp[dY]) (by rw[Pv,NH,<-f];exact aA) (by rw[NH,<-f];exact⟨by rw[f];exact r,ah⟩);rw[NH,<-f]at ac;exact ac;have:Nat.beq b h.size=Tc:=by
     cases N:Nat.beq b h.size with
     |false=>rfl
     |true=>have:=NJ N;omega
    simp[this];exact H.elim;exact H.elim
   exact H.elim
  exact H.elim
 exact H.elim
end
section
variable {cs C R:CS} {γ b:Gh} {h:za} {u:Value} {P:Program} {o:Oper} {σ:Operand -> Value} {n:Nat} {gl:Fr} {tr:TypeId} {c:zq} {a:Act} {S:List Nat}
variable {h0 : za} {W : Nat -> Prop} {M0 : Fr}
def oH(b:List Int):Bt:=b.foldl (λr n=>r.push (PL n.toNat)) ByteArray.empty
def LZ(t:Ty)(xs:List (El t)):Option (List Int):=Za (.row t) (.row (.int .u8)) xs
def pn(cs:CS):AA->Option ((t:Ty)×List (El t))
 |.own c=>match Zx cs c with
  |some (.row _ t xs)=>Td ⟨t,xs⟩
  |some (.fz t xs)=>Td ⟨t,xs⟩
  |_=>Te
 |aa=>rowOf cs aa
theorem Ac(I:Inv h0 W M0 cs γ h){o:AA}{r:(t:Ty)×List (El t)}(b:pn cs o=Td r)(k:DenA γ o u):
  ∃s:Sl,u=aK s/\s.len=r.2.length/\∃cells,RowC γ.M r.1 r.2 cells/\Arr h.size h s.a cells:=by
 unfold pn at b;split at b;split at b;rename_i c e t xs n;simp only[NC]at b;subst b;obtain⟨cells,f,i,p,j⟩:=I.den _ (zu n);exact⟨_,k,j,cells,i,f.arr⟩;rename_i c t xs n;simp only[NC]at b;subst b;have:Rd γ.M (.row t) xs [u]:=by rw[show u=_ from k];exact I.den _ (zu n)
 obtain⟨s,e,j,p,cells,m,l⟩:=this.rowC I.ag;exact⟨s,e,j,cells,m,l⟩;cases b;obtain⟨s,e,j,p,cells,m,l⟩:=(lG I b k).rowC I.ag;exact⟨s,e,j,cells,m,l⟩
def qP(P:Program)(s t:TypeId)(av:AV)(cs:CS)(K:AV->Prop):Prop:=
 match P.underlying s,P.underlying t with
 |some (.slice e),Td .string=>match P.underlying e,av with
  |some (.int .u8),.g (.a aa)=>match pn cs aa with
   |some r=>match LZ r.1 r.2 with
    |some b=>K (.g (.a (.v (.string (oH b)))))
    |none=>False
   |none=>False
  |_,_=>False
 |some (.int _),Td .string=>match av with
  |.g (.a (.v (.int _ n)))=>K (.g (.a (.v (.string (Utf8.encode n)))))
  |_=>False
 |_,_=>False
theorem Ea{M:Fr}{k:IntKind}:∀{b:List Int} {cells:List Value},RowC M (.int k) b cells->cells=b.map (OH k)
 |b,cells,H=>by
  apply OG;intro i;have f:cells.length=b.length:=by rw[H.1];simp[sz]
  rw[OM];by_cases hi:i<b.length;have:((cells.drop (i*1)).take 1)=[.int k b[i]]:=H.2 i hi;have e:cells[i]?=Td (.int k b[i]):=by
   have c:((cells.drop (i*1)).take 1)[0]?=Td (.int k b[i]):=by rw[this];rfl
   rw[N4,zz (by omega),Oj]at c;simpa using c
  rw[e,NL hi];rfl;rw[Ow (by omega),Ow (by omega)];rfl
theorem G6{s t:TypeId}{x:Operand}(U:o.op=.convert s t x){av:AV}{K:AV->Prop}(H:qP P s t av cs K)(I:Inv h0 W M0 cs γ h)(J:DenV γ av (σ x)):
  ∃l v,K l/\DenV γ l v/\QExec P (execOp σ o) h (.value v):=by
 have val:∀{v:Value},QExec P (convert s t (σ x)) h v->QExec P (execOp σ o) h (.value v):=λN=>by simp only[execOp,U];exact QExec.val N
 unfold qP at H;split at H;rename_i e A q;split at H;rename_i Y V;split at H;rename_i r Q;split at H;rename_i j y;refine⟨_,.string (oH j),H,rfl,val λB d=>?_⟩;obtain⟨sl,L,m,cells,f,i⟩:=Ac I Q J;obtain⟨tt,xs⟩:=r;obtain⟨M,F⟩:=Z2 y;simp only at M;subst M;simp only at F m f;subst F;have S:=Ea f;subst S;have C:=QExec.underlying (h:=h) A B d;have E:=QExec.underlying (h:=h) q B d;have O:=QExec.underlying (h:=h) V B d;have c:(Conv.bytesToString (σ x)).run P (mk B d h)=.ok (.string (oH j)) (mk B d h):=by
  rw[L];unfold aK;rcases i with w|⟨b,G,u,_,D⟩;have z:j=[]:=by simpa using w
  subst z;simp only[OE]at m;cases ha:sl.a with
  |none=>simp[Conv.bytesToString,oH]
  |some p=>have:=run_bytesToString (P:=P) (mk B d h) p sl.len sl.cap [] (by rw[m];simp[loadCells,loadCellsFrom]);exact this
  rw[u];refine run_bytesToString (mk B d h) ⟨b,G,Te⟩ sl.len sl.cap j ?_;have:=Z0 (P:=P) (h:=h) (n:=b+1) (sz:=1) (s:=sl) (cells:=j.map (OH .u8)) (.inr ⟨b,G,u,by omega,D⟩) (by rw[m];simp) (by omega) B d;rw[u]at this;simpa[PI]using this
 unfold convert;rw[Sem.run_bind,C];simp only[Result.andThen_ok];rw[Sem.run_bind,E];simp only[Result.andThen_ok];rw[L]at c ⊢;unfold aK at c ⊢;simp only[Sem.run_bind,O,Result.andThen_ok];exact c;exact H.elim;exact H.elim;exact H.elim;rename_i k A q;split at H;rename_i T n;refine⟨_,.string (Utf8.encode n),H,rfl,val λB d=>?_⟩;have C:=QExec.underlying (h:=h) A B d;have E:=QExec.underlying (h:=h) q B d;have e:σ x=.int T n:=J;unfold convert;rw[Sem.run_bind,C];simp only[Result.andThen_ok];rw[Sem.run_bind,E,e];rfl;exact H.elim;exact H.elim
def yP:BinOp->Option Bool
 |.eql=>Td Ta
 |.neq=>Td Tc
 |_=>Te
def rD(P:Program)(o:Oper)(ρ:Operand->Option AV)(cs:CS):Option (Bool×Nat):=match o.op with
 |.binOp b t x y _=>match yP b,ρ x,ρ y with
  |some pol,Td (.g (.a aa)),Td (.g (.a (.v (.slice Te 0 0))))=>match pn cs aa,P.underlying t with
   |some ⟨ty,xs⟩,Td (.slice _)=>bif Nat.blt 0 (sz ty)then Td (pol,xs.length)else Te
   |_,_=>Te
  |_,_,_=>Te
 |_=>Te
theorem H9(e:BinOp)(t:TypeId)(x y:Operand)(a b:Option Addr)(l c h f:Nat)(w:World):(eqGuard e t x y (.slice a l c) (.slice b h f)).run P w=.ok () w:=by unfold eqGuard;cases e <;> rfl
theorem LP{ρ:Operand->Option AV}{l:Bool}(c:rD P o ρ (C++R)=Td (l,n)){K:AV->CS->Option Nat->Prop}(H:∀b:Bool,(b=Ta->n=0)->K (.g (.a (.v (.bool (bif l then b else !b))))) C Te)
  (I:Inv h0 W M0 (C++R) γ h) (q:∀x av,ρ x=Td av->DenV γ av (σ x)):ExA P (execOp σ o) h (eX h0 W M0 R γ K):=by
 unfold rD at c;split at c
 ·rename_i L t x y O J;split at c
  ·rename_i u Q f A F;split at c
   ·rename_i ty xs e E p;cases hz:Nat.blt 0 (sz ty)with
    |false=>rw[hz]at c;cases c
    |true=>
     rw[hz]at c;simp only[zI,NC,OJ]at c;obtain⟨rfl,rfl⟩:=c;have D:0<sz ty:=by simpa[Pp]using hz
     obtain⟨s,G,S,cells,i,k⟩:=Ac I E (q _ _ A);have N:σ y=.slice Te 0 0:=q _ _ F;have j:s.a.isNone=Ta->xs.length=0:=by
      intro r;have m:cells=[]:=by rcases k with m|⟨b,o,z,_⟩;exact m;rw[z]at r;cases r
      have:=i.1;rw[m]at this;simp only[OE]at this;rcases Nat.mul_eq_zero.1 this.symm with w|w;exact w;omega
     have M:=H s.a.isNone j;intro B d;refine .inl ⟨_,d,h,?_,_,C,Te,γ,M,rfl,I,Gx.refl _ _⟩;simp only[execOp,J];refine Qc ?_;rw[G,N];simp only[aK];rw[Sem.run_bind,H9];simp only[Result.andThen_ok];cases L <;> simp only[yP,NC]at f <;> (try (cases f;done)) <;> subst f;simp only[binOp,Sem.run_bind,run_equal_slice_nil _ t _ _ _ _ p];rfl;simp only[binOp,Sem.run_bind,run_equal_slice_nil _ t _ _ _ _ p];rfl
   cases c
  cases c
 cases c
def eF(P:Program)(gl:Fr)(tr:TypeId)(o:Oper)(ρ:Operand->Option AV)(C R:CS)(K:AV->CS->Option Nat->Prop):Prop:=
 match o.op with
 |.alloc t=>match o.dst with
  |some d=>sW P t d C R K
  |none=>False
 |.box t x=>match o.dst,ρ x with
  |some d,some av=>match jP av with
   |some l=>qY t d l C R K
   |none=>False
  |_,_=>False
 |.store t a x=>match ρ a,ρ x with
  |some (.g (.a aa)),some xv=>match jP xv with
   |some h=>pT P t aa h C R K
   |none=>False
  |_,_=>False
 |.buildSlice t n b=>match o.dst,gK ρ b.toList with
  |some d,some ps=>Y7 P tr t n ps d C R K
  |_,_=>False
 |.convert s t x=>bif gA P o then qA P gl o ρ Te (C++R) (λav=>K av C Te)else(match ρ x with
  |some av=>qP P s t av (C++R) λe=>K e C Te
  |none=>False)
 |.call c=>match c.callee with
  |.builtin .append=>match c.args.toList,c.argTypes.toList,o.dst with
   |[s,x],[t,tx],some d=>match ρ s,ρ x with
    |some bv,some sv=>Wz P tr t tx bv sv d C R K
    |_,_=>False
   |_,_,_=>False
  |.builtin _=>qA P gl o ρ Te (C++R) λav=>K av C Te
  |_=>tE P gl tr o ρ C R λav f=>K av f Te
 |.range t x=>match o.dst,ρ x with
  |some d,some av=>pp P t av d C R K
  |_,_=>False
 |.next x true=>match ρ x with
  |some av=>qG av C R K
  |none=>False
 |_=>qA P gl o ρ Te (C++R) λav=>K av C Te
theorem toList_eq{α:Type}{x:Array α}{l:List α}(h:x.toList=l):x=l.toArray:=by have:=congrArg List.toArray h;simpa using this
theorem EQ(k:Fr.le gl M0){ρ:Operand->Option AV}{K:AV->CS->Option Nat->Prop}(H:eF P gl tr o ρ C R K)(I:Inv h0 W M0 (C++R) γ h)
  (F:∀f,σ (.func f)=.func (.func f) #[] #[]) (j:∀x av,ρ x=Td av->DenV γ av (σ x)):ExA P (execOp σ o) h (eX h0 W M0 R γ K):=by
 unfold eF at H;split at H;rename_i t i;split at H;exact Hn i H I;exact H.elim;rename_i t x i;split at H;rename_i d av w b;split at H;rename_i l D;exact JC i H I (oE D (j _ _ b));exact H.elim;exact H.elim;rename_i t a x i;split at H;rename_i T U N A;split at H;rename_i l D;exact Hz i H I (oE D (j _ _ A)) (j _ _ N);exact H.elim;exact H.elim;rename_i t n y i;split at H;rename_i d ps w u;exact uG i u H I j;exact H.elim;rename_i s t x i;cases hq:gA P o with
 |true=>rw[hq]at H;exact p7 k H I j
 |false=>rw[hq]at H;simp only[zJ]at H;split at H;rename_i av b;obtain⟨z,v,J,S,Q⟩:=G6 i H I (j _ _ b);exact λB d=>.inl ⟨v,d,h,Q B d,z,C,Te,γ,J,S,I,Gx.refl _ _⟩;exact H.elim
 rename_i c i;split at H;rename_i L;split at H;rename_i s x t tx d m p w;split at H;rename_i bv sv E A;have q:=t6 (ty':=o.type) H I (j _ _ E) (j _ _ A);intro B e;obtain⟨v,M,h',r,O⟩:=q B e;refine .inl ⟨v,M,h',?_,O⟩;have G:execOp σ o=(NX c.argTypes o.type (c.args.map σ) >>= λx=>(PZ (QD x):Sem Next)):=by simp only[execOp,i,resolve,L];rfl
 rw[G,toList_eq m,toList_eq p];refine Qc ?_;simpa using r;exact H.elim;exact H.elim;exact p7 k H I j;exact Ga k H I F j;rename_i t x i;split at H;rename_i d av w b;exact JJ i H I (j _ _ b);exact H.elim;rename_i x i;split at H;rename_i av b;exact IZ i H I (j _ _ b);exact H.elim;exact p7 k H I j
def hA(P:Program)(gl:Fr)(tr:TypeId)(o:Oper)(ρ:Operand->Option AV)(C R:CS)(K:AV->CS->Option Nat->Prop):Prop:=match rD P o ρ (C++R)with
 |some (pol,n)=>∀b:Bool,(b=Ta->n=0)->K (.g (.a (.v (.bool (bif pol then b else !b))))) C Te
 |none=>eF P gl tr o ρ C R K
theorem Es(b:Fr.le gl M0){ρ:Operand->Option AV}{K:AV->CS->Option Nat->Prop}(H:hA P gl tr o ρ C R K)(I:Inv h0 W M0 (C++R) γ h)
  (e:∀f,σ (.func f)=.func (.func f) #[] #[]) (c:∀x av,ρ x=Td av->DenV γ av (σ x)):ExA P (execOp σ o) h (eX h0 W M0 R γ K):=by
 unfold hA at H;split at H;rename_i j n i;exact LP i H I c;exact EQ b H I e c
def o8:Option AV->Option AV->Option AV
 |some v,_=>Td v
 |none,w=>w
def tQ(b:Bool)(x y:AV):Option AV:=match kN x,kN y with
 |some u,some v=>Td (kT (mj b u v))
 |_,_=>match x,y with
  |.g (.a (.d t xs)),.g (.a (.d t' ys))=>match Za t' t ys with
   |some ys=>Td (.g (.a (.d t (bif b then xs else ys))))
   |none=>Te
  |_,_=>Te
theorem KI{b:Bool}{x y z:AV}(h:tQ b x y=Td z){u v:Value}(f:b=Ta->DenV γ x u)(c:b=Tc->DenV γ y v):DenV γ z (if b=Ta then u else v):=by
 unfold tQ at h;split at h;rename_i p q i j;simp only[NC]at h;subst h;have e:(if b=Ta then u else v)=mj b p q:=by
  rw[wN];cases b with
  |true=>simp only[if_true];exact rY i (f rfl)
  |false=>simp only[OS,if_false];exact rY j (c rfl)
 rw[e];exact Ya γ _;split at h;rename_i t xs t' ys _;split at h;rename_i k l;simp only[NC]at h;subst h;cases b with
 |true=>exact f rfl
 |false=>exact Y2 l (c rfl)
 cases h;cases h
def om(e:qc)(c:zq)(x a b:Operand)(K:AV->Prop):Prop:=
 match x with
 |.tmp s=>match gT e s with
  |some (cs,v)=>match kA v with
   |some t=>bif suf cs c then(match o8 (dZ e c a) (dZ e ((s,Ta)::cs) a),o8 (dZ e c b) (dZ e ((s,Tc)::cs) b)with
    |some va,some vb=>match tQ t va vb with
     |some z=>K z
     |none=>False
    |_,_=>False)else False
   |none=>False
  |none=>False
 |_=>False
theorem Y9{e:qc}{x a b:Operand}{K:AV->Prop}(H:om e c x a b K):
  ∃z,K z/\∀(n:Nat) (γ:Gh) (f:Act),SatA n e γ f->valid (zt f) c->∃t,f.eval x=.bool t/\DenV γ z (if t=Ta then f.eval a else f.eval b):=by
 unfold om at H;split at H;rename_i s;split at H;rename_i cs v y;split at H;rename_i t r;cases hsf:suf cs c with
 |false=>rw[hsf]at H;exact H.elim
 |true=>rw[hsf]at H;simp only[zI]at H;split at H;rename_i A B i k;split at H;rename_i z u;refine⟨z,H,λn γ f j m=>?_⟩;have h:=Q3 hsf m;have o:zt f s=.bool t:=rZ r ((j.all _ (xu y)).1 h);refine⟨t,o,KI u (λp=>?_) (λl=>?_)⟩;unfold o8 at i;split at i;rename_i w _ q;simp only[NC]at i;subst i;exact zl j m q;exact zl j (c:=(s,Ta)::cs) ⟨by rw[o,p],h⟩ i;unfold o8 at k;split at k;rename_i w _ q;simp only[NC]at k;subst k;exact zl j m q;exact zl j (c:=(s,Tc)::cs) ⟨by rw[o,l],h⟩ k;exact H.elim;exact H.elim
 exact H.elim;exact H.elim;exact H.elim
def lP(P:Program)(gl:Fr)(tr:TypeId)(o:Oper)(e:qc)(c:zq)(C R:CS)(K:AV->CS->Option Nat->Prop):Prop:=
 match o.op with
 |.pick x a b=>om e c x a b λav=>K av C Te
 |_=>match Y4 e c with
  |some none=>hA P gl tr o (dZ e c) C R K
  |some (Td b)=>bif mL o then kd P gl tr o (dZ e c) b (C++R) (λav=>K av C Te)else qA P gl o (dZ e c) (Td b) (C++R) (λav=>K av C Te)
  |none=>False
theorem Nr(i:Fr.le gl M0){e:qc}{K:AV->CS->Option Nat->Prop}(H:lP P gl tr o e c C R K)(p:SatA n e γ a)(I:Inv h0 W M0 (C++R) γ h)(m:valid (zt a) c):
  ExA P (execOp a.eval o) h (eX h0 W M0 R γ K):=by
 have q:∀f,a.eval (.func f)=.func (.func f) #[] #[]:=λ_=>rfl;have l:∀x av,dZ e c x=Td av->DenV γ av (a.eval x):=λx av L=>zl p m L;unfold lP at H;split at H;rename_i x y z u;obtain⟨av,k,j⟩:=Y9 H;obtain⟨t,w,s⟩:=j n γ a p m;refine λB d=>.inl ⟨_,d,h,?_,av,C,Te,γ,k,s,I,Gx.refl _ _⟩;simp only[execOp,u,w,asBool,Sem.run_bind,Sem.run_pure,Result.andThen_ok];split at H;exact Es i H I q l;rename_i b D;have r:=j5 p D m;cases hic:mL o with
 |true=>rw[hic]at H;simp only[zI]at H;obtain⟨f,args,k,j⟩:=(rM (h0:=h0) (W:=W) (M0:=M0) H).2 r i γ h a.eval I q l;refine λB d=>.inr (.inr ⟨f,args,k _,j.mono ?_⟩);rintro v h' ⟨av,γ',g1,F,E,G,_⟩;exact⟨av,C,Te,γ',g1,F,E,G⟩
 |false=>rw[hic]at H;simp only[zJ]at H;obtain⟨av,k,j⟩:=pd (h0:=h0) (W:=W) (M0:=M0) i H;obtain⟨v,A,J⟩:=j r γ h a.eval I l;exact λB d=>.inl ⟨v,d,h,J B d,av,C,Te,γ,k,A,I,Gx.refl _ _⟩
 exact H.elim
theorem HO{e:qc}{K:AV->CS->Option Nat->Prop}(H:lP P gl tr o e c C R K)(j:SatA n e γ a)(i:¬valid (zt a) c):∃av,K av C Te:=by
 unfold lP at H;split at H;obtain⟨av,h,_⟩:=Y9 H;exact⟨av,h⟩;split at H;rename_i l;have:=rV j l i;cases this;rename_i b k;have f:=rV j k i;simp only[NC]at f;cases hic:mL o with
 |true=>rw[hic]at H;simp only[zI]at H;exact(rM (h0:=#[]) (W:=λ_=>False) (M0:=λ_=>Te) H).1 f
 |false=>rw[hic]at H;simp only[zJ]at H;obtain⟨av,h,_⟩:=pd (h0:=#[]) (W:=λ_=>False) (M0:=gl) (Fr.le.refl _) H;exact⟨av,h⟩
 exact H.elim
def GxS(S:List Nat)(γ γ':Gh):Prop:=Fr.le γ.M γ'.M/\∀i,i∉S->γ'.β i=γ.β i/\γ'.σ i=γ.σ i
theorem GxS.refl(S:List Nat)(γ:Gh):GxS S γ γ:=⟨Fr.le.refl _,λ_ _=>⟨rfl,rfl⟩⟩
theorem GxS.trans{a b c:Gh}(h:GxS S a b)(k:GxS S b c):GxS S a c:=⟨h.1.trans k.1,λi hi=>⟨(k.2 i hi).1.trans (h.2 i hi).1,(k.2 i hi).2.trans (h.2 i hi).2⟩⟩
theorem GxS.mono{S c:List Nat}{a b:Gh}(h:GxS S a b)(e:∀x∈S,x∈c):GxS c a b:=⟨h.1,λi hi=>h.2 i λf=>hi (e i f)⟩
def ov(c:Option Nat)(d:Option Nat):Bool:=match c,d with
 |none,_=>Ta
 |some x,some y=>Nat.beq x y
 |some _,none=>Tc
theorem Gx.toS{c d:Option Nat}{γ γ':Gh}(g:Gx c γ γ')(h:ov c d=Ta)(b:∀i,d=Td i->i∈S):GxS S γ γ':=by
 refine⟨g.1,λi hi=>g.2 i λe=>?_⟩;subst e;cases d with
 |none=>cases h
 |some y=>have:i=y:=NJ h;subst this;exact hi (b _ rfl)
def iD(P:Program)(gl:Fr)(tr:TypeId)(n:Nat)(ops:Array Oper)(R:CS)(K:qc->CS->Prop):List Oper->qc->CS->Prop
 |[],e,C=>K (iB e) C
 |o::rest,e,C=>match Qq ops e o.guard with
  |some c=>bif yr n c o.dst then lP P gl tr o e c C R (λav b i=>bif ov i o.dst then iD P gl tr n ops R K rest (np (oq i e) o.dst c av) b else False)else False
  |none=>False
theorem oD{P:Program}{gl:Fr}(s:Fr.le gl M0){tr:TypeId}{n:Nat}{ops:Array Oper}{R:CS}{K:qc->CS->Prop}{Q:Exit->Act->World->Prop}(B:World):
  ∀(l:List Oper) (e:qc) (C:CS) (γ:Gh) (h:za) (a:Act) (d:Nat),iD P gl tr n ops R K l e C->SatA n e γ a->Inv h0 W M0 (C++R) γ h -> (∀t f γ' r q h',SatA n t γ' r->Inv h0 W M0 (f++R) γ' h'->Same (js l) a r->GxS (js l) γ γ'->K t f->Q .normal r (mk B q h'))->wpList P ops Q l a (mk B d h)
 |[],e,C,γ,h,a,d,H,hs,I,hQ=>hQ _ _ _ _ _ _ hs.clean I (Same.refl _ _) (GxS.refl _ _) H
 |o::rest,e,C,γ,h,a,d,H,hs,I,hQ=>by
  unfold iD at H;split at H
  ·rename_i c O;cases hd:yr n c o.dst with
   |false=>rw[hd]at H;exact H.elim
   |true=>
    rw[hd]at H;simp only[zI]at H;have E:=j8 hs O;have j:∀i,o.dst=Td i->i∈js (o::rest):=λi hi=>by simp[js,hi]
    have b:∀x∈js rest,x∈js (o::rest):=λx y=>by unfold js;split;exact NF _ y;exact y
    have k:∀av u q h' f i γ',(valid (zt a) c->DenV γ' av u)->(¬valid (zt a) c->u=undef)->Inv h0 W M0 (f++R) γ' h'->Gx i γ γ'->(bif ov i o.dst then iD P gl tr n ops R K rest (np (oq i e) o.dst c av) f else False) ->
      wpList P ops Q rest (a.put o.dst u) (mk B q h'):=λav u q h' f i γ' N Z T g w=>by
     cases hid:ov i o.dst with
     |false=>rw[hid]at w;exact w.elim
     |true=>
      rw[hid]at w;exact oD s B rest _ _ _ _ _ _ w ((hs.gx g).putO hd N Z) T λt z A r D h'' F J Y S G=>
       hQ t z A r D h'' F J ((Same.put a o.dst u j).trans (Y.mono b)) ((g.toS hid j).trans (S.mono b)) G
    unfold wpList;by_cases p:valid (zt a) c;rw[zz (E.2 p)];refine .inl ((Nr s H hs I p).upon B d ?_);rintro v q h' ⟨av,f,i,γ',g1,U,L,M⟩;exact k av v q h' f i γ' (λ_=>U) (λm=>absurd p m) L M g1;rw[zv (λy=>p (E.1 y))];obtain⟨av,V⟩:=HO H hs p;exact k av undef d h C Te γ (λm=>absurd m p) (λ_=>rfl) I (Gx.refl _ _) V
  exact H.elim
end
section
variable {cs C R:CS} {γ:Gh} {h:za} {i:Nat} {e:TypeId} {t:Ty}
variable {h0 : za} {W : Nat -> Prop} {M0 : Fr}
inductive Shp where
 |dat (t:Ty)
 |own (e:TypeId) (t:Ty)
 deriving DecidableEq
@[reducible] def DS:Shp->Type
 |.dat t=>El t
 |.own _ t=>List (El t)
inductive SG where
 |one (s:Shp)
 |agg (l:List Shp)
structure AnnA where
 slots:List (Nat×SG)
 boxes:List (Nat×List Shp)
 ro:List Nat
 ids:List Nat
abbrev Dy:=(s:Shp)×DS s
@[reducible] def fo:List Shp->Type->Type
 |[],X=>X
 |s::l,X=>DS s->fo l X
def tU(s b:Shp)(x:DS s):Option (DS b):=if h:s=b then Td (h ▸ x)else Te
def mh{X:Type}:(l:List Shp)->fo l X->(List Dy->X->Prop)->Prop
 |[],f,k=>k [] f
 |s::l,f,k=>∀x:DS s,mh l (f x) λvs y=>k (⟨s,x⟩::vs) y
def fJ{X:Type}:(l:List Shp)->List Dy->fo l X->Option X
 |[],[],f=>Td f
 |s::l,d::ds,f=>match tU d.1 s d.2 with
  |some x=>fJ l ds (f x)
  |none=>Te
 |_,_,_=>Te
def lH{X:Type}:(l:List Shp)->(List Dy->X)->fo l X
 |[],f=>f []
 |s::l,f=>λx=>lH l λvs=>f (⟨s,x⟩::vs)
def mZ{X Y:Type}:(l:List Shp)->fo l X->fo l Y->fo l (X×Y)
 |[],f,g=>(f,g)
 |_::l,f,g=>λx=>mZ l (f x) (g x)
theorem Cz{s b:Shp}{x:DS s}{y:DS b}(h:tU s b x=Td y):(⟨b,y⟩:Dy)=⟨s,x⟩:=by unfold tU at h;split at h;rename_i e;subst e;have h:=NY h;rw[<-h];cases h
theorem A8{X:Type}:∀{l:List Shp} {vs:List Dy} {f:fo l X} {x:X} {k:List Dy->X->Prop},fJ l vs f=Td x->mh l f k->k vs x
 |[],[],f,x,k,h,g=>by have h:=NY h;subst h;exact g
 |[],_::_,f,x,k,h,g=>by simp[fJ]at h
 |_::_,[],f,x,k,h,g=>by simp[fJ]at h
 |s::l,d::ds,f,x,k,h,g=>by simp only[fJ]at h;split at h;rename_i y b;have:=A8 h (g y);rw[Cz b]at this;exact this;cases h
theorem BU{X:Type}:∀{l:List Shp} {vs:List Dy} {f:List Dy->X} {x:X},fJ l vs (lH l f)=Td x->x=f vs
 |[],[],f,x,h=>(NY h).symm
 |[],_::_,f,x,h=>by simp[fJ]at h
 |_::_,[],f,x,h=>by simp[fJ]at h
 |s::l,d::ds,f,x,h=>by simp only[fJ,lH]at h;split at h;rename_i y b;have:=BU h;rw[Cz b]at this;exact this;cases h
theorem Bu{X:Type}:∀{l:List Shp} {f:List Dy->X} {k:List Dy->X->Prop},(∀vs,k vs (f vs))->mh l (lH l f) k
 |[],_,_,h=>h []
 |_::_,_,_,h=>λ_=>Bu λ_=>h _
structure Pl where
 id:Nat
 s:Shp
 a:AA
def iy(base:Nat):List Shp->List AA->Option (List Pl)
 |[],[]=>Td []
 |s::ss,a::as=>match iy (base+1) ss as with
  |some l=>Td (⟨base,s,a⟩::l)
  |none=>Te
 |_,_=>Te
def mq(e:qc):List (Nat×SG)->Option (List Pl)
 |[]=>Td []
 |(i,sg)::l=>match gT e i,mq e l with
  |some ([],.g x),some r=>match sg,x with
   |.one s,.a a=>Td (⟨100000+64*i,s,a⟩::r)
   |.agg ss,.agg as=>match iy (100000+64*i) ss as with
    |some q=>Td (q++r)
    |none=>Te
   |_,_=>Te
  |_,_=>Te
def mo(C:CS):List (Nat×List Shp)->Option (List Pl)
 |[]=>Td []
 |(c,ss)::l=>match Zx C c,mo C l with
  |some (.box as),some r=>match iy (1000000+64*c) ss as with
   |some q=>Td (q++r)
   |none=>Te
  |_,_=>Te
def KM:SG->List Shp
 |.one s=>[s]
 |.agg l=>l
def BP:List (Nat×SG)->List Shp
 |[]=>[]
 |(_,sg)::l=>KM sg++BP l
def Ak:List (Nat×List Shp)->List Shp
 |[]=>[]
 |(_,ss)::l=>ss++Ak l
def eP(J:AnnA):List Shp:=BP J.slots++Ak J.boxes
def jM:List Pl->List Nat
 |[]=>[]
 |⟨_,.dat _,.own c⟩::l=>c::jM l
 |_::l=>jM l
def lM(c:Nat):List Pl->Bool
 |[]=>Tc
 |p::l=>bif (bif Nat.beq p.id c then Ta else fy c p.a)then Ta else lM c l
def gW(R:CS):List Pl->CS->Option CS
 |[],C=>Td C
 |p::l,C=>match p.s with
  |.dat _=>gW R l C
  |.own e t=>bif lM p.id l then Te else(match p.a with
   |.own c=>match Zx C c with
    |some (.row e' t' xs)=>match Za (.row t') (.row t) xs with
     |some ys=>bif Nat.beq e e' then(bif Nat.beq c p.id then gW R l C else(bif qd p.id R then gW R l ((p.id,.row e t ys)::qe p.id (Y3 c C))else Te))else Te
     |none=>Te
    |_=>Te
   |.v (.slice Te 0 0)=>bif qd p.id R then gW R l ((p.id,.row e t [])::qe p.id C)else Te
   |_=>Te)
theorem wZ(I:Inv h0 W M0 cs γ h){x y:Nat×Ch}(j:x∈cs)(i:y∈cs)(e:x≠y):∀b,blk γ x.1 x.2=Td b->blk γ y.1 y.2≠Td b:= @mX _ (λ(x y:Nat×Ch)=>∀b,blk γ x.1 x.2=Td b->blk γ y.1 y.2≠Td b) (λx y h b f c=>h b c f) _ I.apart _ _ j i e
theorem Inv.rename(I:Inv h0 W M0 (C++R) γ h){c i:Nat}(u:qd i R=Ta){xs:List (El t)}(r:(c,Ch.row e t xs)∈C):
  Inv h0 W M0 ((i,.row e t xs)::qe i (Y3 c C)++R) (eW γ i (γ.σ c)) h:=by
 have k:(qe i (Y3 c C)++R).Sublist (C++R):=(((je i _).trans (jr c C))).append_right R;have j:(c,Ch.row e t xs)∈C++R:=NT R r;have n:∀x∈qe i (Y3 c C)++R,∀b,blk γ c (.row e t xs)=Td b->blk γ x.1 x.2≠Td b:=by
  intro x l b f p;have o:x≠(c,Ch.row e t xs):=by rintro rfl;rcases N0.1 l with l|l;exact(Qp ((je i _).subset l)).2 rfl;have m:=I.apart;rw[Oh]at m;exact m.2.2 _ r _ l b f f
  exact wZ I (k.subset l) j o b p f
 have w:Inv h0 W M0 (qe i (Y3 c C)++R) (eW γ i (γ.σ c)) h:= I.rest k (Zb γ i _) (iK u) (λx l b f=>⟨rfl,(I.sep x (k.subset l) b f).2⟩) I.ag (λ_ _ _=>rfl) (ND _) (λ_ _=>rfl);obtain⟨cells,y,B,A,z⟩:=I.den _ j;have s:∀b,blk (eW γ i (γ.σ c)) i (.row e t xs)=Td b->blk γ c (.row e t xs)=Td b:=λb f=>by simpa[blk,qi]using f
 refine w.cons ⟨cells,by rw[qi];exact y,B,A,by rw[qi];exact z⟩ (λb f=>I.sep _ j b (s b f)) (λb f x l q=>?_);rw[jR (Zb γ i _) _ (iK u x l).1]at q;exact n x l b (s b f) q
theorem Inv.nilRow(I:Inv h0 W M0 (C++R) γ h)(k:qd i R=Ta)(e:TypeId)(t:Ty):
  Inv h0 W M0 ((i,.row e t [])::qe i C++R) (eW γ i ⟨Te,0,0⟩) h:=by
 have c:=(je i C).append_right R;have j:Inv h0 W M0 (qe i C++R) (eW γ i ⟨Te,0,0⟩) h:= I.rest c (Zb γ i _) (iK k) (λx l b f=>⟨rfl,(I.sep x (c.subset l) b f).2⟩) I.ag (λ_ _ _=>rfl) (ND _) (λ_ _=>rfl);refine j.cons ⟨[],by rw[qi];exact Owns.nil _ _ _ _,RowC.nil _ _,by simp,by rw[qi];rfl⟩ (λb f=>by simp[blk,qi]at f) (λb f=>by simp[blk,qi]at f)
theorem wB{c:Nat}:∀{l:List Pl},lM c l=Tc->∀p∈l,p.id≠c/\fy c p.a=Tc
 |[],_,p,b=>by cases b
 |q::l,h,p,b=>by
  simp only[lM]at h;cases hq:(bif Nat.beq q.id c then Ta else fy c q.a)with
  |true=>rw[hq]at h;cases h
  |false=>
   rw[hq]at h;rcases NI.1 b with rfl|b;cases hb:Nat.beq p.id c with
   |true=>rw[hb]at hq;cases hq
   |false=>rw[hb]at hq;exact⟨λe=>by rw[e]at hb;simp at hb,hq⟩
   exact wB h p b
def fF:List Pl->List Nat
 |[]=>[]
 |p::l=>p.id::fF l
theorem pZ{R:CS}{h:za}:∀{l:List Pl} {C z:CS} {γ:Gh},gW R l C=Td z->Inv h0 W M0 (C++R) γ h ->
  ∃f,Inv h0 W M0 (z++R) f h/\GxS (fF l) γ f/\(f.M=γ.M/\f.β=γ.β)/\∀p∈l,∀e t,p.s=.own e t->∀u,DenA γ p.a u->DenA f (.own p.id) u
 |[],C,z,γ,hn,I=>by simp only[gW,NC]at hn;subst hn;exact⟨γ,I,GxS.refl _ _,⟨rfl,rfl⟩,λp hp=>by cases hp⟩
 |p::l,C,z,γ,hn,I=>by
  have T:∀{S:List Nat} {a b:Gh},GxS (fF l) a b->GxS (fF (p::l)) a b:=λg=>g.mono λx hx=>NF _ hx;have m:∀s,GxS (fF (p::l)) γ (eW γ p.id s):=λs=>⟨Fr.le.refl _,λi hi=>(Zb γ p.id s).2 i (by simp only[fF,NI,not_or]at hi;intro e;simp only[NC]at e;exact hi.1 e.symm)⟩;simp only[gW]at hn;split at hn;rename_i t U;obtain⟨f,O,g1,B,N⟩:=pZ hn I;exact⟨f,O,T (S:=[]) g1,B,λq o e t' k=>by rcases NI.1 o with rfl|o;rw[U]at k;cases k;exact N q o e t' k⟩
  ·rename_i e t U;cases hm:lM p.id l with
   |true=>rw[hm]at hn;cases hn
   |false=>
    rw[hm]at hn;simp only[zJ]at hn;have A:=wB hm;have fin:∀{P:CS} {n:Gh},gW R l P=Td z->Inv h0 W M0 (P++R) n h->GxS (fF (p::l)) γ n->(n.M=γ.M/\n.β=γ.β)->(∀i,i≠p.id->n.σ i=γ.σ i/\n.β i=γ.β i)->(∀u,DenA γ p.a u->DenA n (.own p.id) u) ->
      ∃f,Inv h0 W M0 (z++R) f h/\GxS (fF (p::l)) γ f/\(f.M=γ.M/\f.β=γ.β)/\∀q∈p::l,∀e t,q.s=.own e t->∀u,DenA γ q.a u->DenA f (.own q.id) u:=by
     intro P n G I2 g2 L w J;obtain⟨f,O,g1,B,N⟩:=pZ G I2;refine⟨f,O,g2.trans (T (S:=[]) g1),⟨B.1.trans L.1,B.2.trans L.2⟩,λq o F t' k u j=>?_⟩;rcases NI.1 o with rfl|o;have h2:=J u j;have E:q.id∉fF l:=by
      intro hi;have:∀{l:List Pl},q.id∈fF l->∃p∈l,p.id=q.id:=by
       intro l;induction l with
       |nil=>intro h;cases h
       |cons x l Y=>intro h;simp only[fF,NI]at h;rcases h with h|h;exact⟨x,NQ,h.symm⟩;obtain⟨y,H,e⟩:=Y h;exact⟨y,NF _ H,e⟩
      obtain⟨y,H,e⟩:=this hi;exact(A y H).1 e
     rw[show u=_ from h2];simp only[DenA,(g1.2 _ E).2];refine N q o F t' k u ?_;have gx:Gx (Td p.id) γ n:=⟨by rw[L.1];exact Fr.le.refl _,λi hi=>by have:=w i (λe=>hi (by rw[e]));exact⟨this.2,this.1⟩⟩;exact j.gx gx (A q o).2
    split at hn;rename_i c D;split at hn;rename_i F t' xs hc;split at hn;rename_i ys r;obtain⟨Z,V⟩:=Z2 r;subst Z;simp only at V;subst V;cases hee:Nat.beq e F with
    |false=>rw[hee]at hn;cases hn
    |true=>
     rw[hee]at hn;have:=NJ hee;subst this;simp only[zI]at hn;cases hci:Nat.beq c p.id with
     |true=>rw[hci]at hn;simp only[zI]at hn;have Q:=NJ hci;exact fin hn I (GxS.refl _ _) ⟨rfl,rfl⟩ (λ_ _=>⟨rfl,rfl⟩) (λu j=>by rw[D,Q]at j;exact j)
     |false=>
      rw[hci]at hn;simp only[zJ]at hn;cases hR:qd p.id R with
      |false=>rw[hR]at hn;cases hn
      |true=>rw[hR]at hn;simp only[zI]at hn;refine fin hn (I.rename hR (zu hc)) (m _) ⟨rfl,rfl⟩ (λi hi=>?_) (λu j=>?_);have:=(Zb γ p.id (γ.σ c)).2 i (by simp;exact λe=>hi e.symm);exact⟨this.2,this.1⟩;rw[D]at j;rw[show u=_ from j];simp only[DenA,qi]
    cases hn;cases hn;rename_i D;cases hR:qd p.id R with
    |false=>rw[hR]at hn;cases hn
    |true=>rw[hR]at hn;simp only[zI]at hn;refine fin hn (I.nilRow hR e t) (m _) ⟨rfl,rfl⟩ (λi hi=>?_) (λu j=>?_);have:=(Zb γ p.id ⟨Te,0,0⟩).2 i (by simp;exact λe=>hi e.symm);exact⟨this.2,this.1⟩;rw[D]at j;rw[show u=_ from j];simp only[DenA,qi];rfl
    cases hn
def Ck(b cs:CS)(p:Pl):Option Dy:=match p.s with
 |.dat t=>match gm b t p.a with
  |some x=>Td ⟨.dat t,x⟩
  |none=>Te
 |.own e t=>match Zx cs p.id with
  |some (.row e' t' xs)=>match Za (.row t') (.row t) xs with
   |some ys=>bif Nat.beq e e' then Td ⟨.own e t,ys⟩else Te
   |none=>Te
  |_=>Te
def fv(b cs:CS):List Pl->Option (List Dy)
 |[]=>Td []
 |p::l=>match Ck b cs p,fv b cs l with
  |some d,some v=>Td (d::v)
  |_,_=>Te
def ou(i:Nat):Dy->AA
 |⟨.dat t,x⟩=>match Q8 t x with
  |[a]=>a
  |_=>.v undef
 |⟨.own _ _,_⟩=>.own i
def nq:Nat->List Dy->List AA
 |_,[]=>[]
 |i,d::l=>ou i d::nq (i+1) l
def kf(i:Nat):Dy->CS
 |⟨.own e t,xs⟩=>[(i,.row e t xs)]
 |_=>[]
def jS:Nat->List Dy->CS
 |_,[]=>[]
 |i,d::l=>kf i d++jS (i+1) l
theorem yB{x:El t}{u:Value}(h:Rd γ.M t x [u]):DenA γ (ou i ⟨.dat t,x⟩) u:=by
 have b:=j4 (γ:=γ) h;unfold ou
 match hx:Q8 t x,b with
 |[a],b=>simp only[hx];exact b.1
 |[],b=>exact b.elim
 |_::_::_,b=>exact b.2.elim
theorem Gp{t':Ty}{xs:List (El t')}{ys:List (El t)}(h:Za (.row t') (.row t) xs=Td ys):Ch.row e t' xs=Ch.row e t ys:=by obtain⟨c,b⟩:=Z2 h;subst c;simp only at b;rw[b]
theorem wK{c cs:CS}{p:Pl}{l:List Pl}{v:List Dy}(h:fv c cs (p::l)=Td v):∃d w,v=d::w/\fv c cs l=Td w /\
  ((∃t x,p.s=.dat t/\d=⟨.dat t,x⟩/\gm c t p.a=Td x)\/(∃e t xs,p.s=.own e t/\d=⟨.own e t,xs⟩/\(p.id,Ch.row e t xs)∈cs)):=by
 simp only[fv]at h;split at h;rename_i d w b m;have h:=NY h;refine⟨d,w,h.symm,m,?_⟩;unfold Ck at b;split at b;rename_i t f;split at b;rename_i y k;exact .inl ⟨t,y,f,(NY b).symm,k⟩;cases b;rename_i e t f;split at b;rename_i j t' xs i;split at b;rename_i ys n;cases he:Nat.beq e j with
 |false=>rw[he]at b;cases b
 |true=>rw[he]at b;refine .inr ⟨e,t,ys,f,(NY (show Td (⟨.own e t,ys⟩:Dy)=Td d from b)).symm,?_⟩;have:=zu i;rw[Gp n,<-NJ he]at this;exact this
 cases b;cases b;cases h
theorem Ja{b cs:CS}:∀{q r:List Pl} {v:List Dy},fv b cs (q++r)=Td v->∃c e,v=c++e/\c.length=q.length/\fv b cs q=Td c/\fv b cs r=Td e
 |[],r,v,h=>⟨[],v,rfl,rfl,rfl,h⟩
 |p::q,r,v,h=>by simp only[Ox,fv]at h;split at h;rename_i d w l j;have h:=NY h;obtain⟨c,e,rfl,k,i,f⟩:=Ja j;exact⟨d::c,e,by rw[<-h];rfl,by simp[k],by simp only[fv,l,i],f⟩;cases h
theorem BO{base:Nat}:∀{ss:List Shp} {b:List AA} {l:List Pl},iy base ss b=Td l->l.length=ss.length/\∀{γ m:Gh} {f c:CS} {v:List Dy} {us:List Value},gy γ f->m.M=γ.M->fv f c l=Td v ->
   (∀p∈l,∀e t,p.s=.own e t->∀u,DenA γ p.a u->DenA m (.own p.id) u)->All2 (DenA γ) b us->All2 (DenA m) (nq base v) us/\∀x∈jS base v,x∈c:=by
 intro ss;induction ss generalizing base with
 |nil=>
  intro b l h;cases b with
  |nil=>
   simp only[iy,NC]at h;subst h;refine⟨rfl,λo q k r j=>?_⟩;have k:=NY k;subst k;refine⟨?_,λx F=>by cases F⟩;rename_i us;cases us with
   |nil=>trivial
   |cons _ _=>exact j.elim
  |cons a b=>simp[iy]at h
 |cons s ss n=>
  intro b l h;cases b with
  |nil=>simp[iy]at h
  |cons a b=>
   simp only[iy]at h;split at h;rename_i L J;simp only[NC]at h;subst h;obtain⟨C,n⟩:=n J;refine⟨by simp[C],λ {γ m f c v us} o q k r j=>?_⟩;obtain⟨d,w,rfl,H,G⟩:=wK k;cases us with
   |nil=>exact j.elim
   |cons u us=>obtain⟨A,B⟩:=n o q H (λp E=>r p (NF _ E)) j.2;rcases G with⟨t,x,z,rfl,D⟩|⟨e,t,xs,z,rfl,I⟩;have:=y8 o D j.1;rw[<-q]at this;refine⟨⟨yB this,A⟩,λy i=>B y ?_⟩;simpa[jS,kf]using i;refine⟨⟨r _ NQ e t z u j.1,A⟩,λy i=>?_⟩;simp only[jS,kf,Ox,OU,NI]at i;rcases i with rfl|i;exact I;exact B y i
   cases h
def jc:List (Nat×SG)->List Dy->qc
 |[],_=>[]
 |(i,.one _)::l,d::ds=>(i,[],.g (.a (ou (100000+64*i) d)))::jc l ds
 |(_,.one _)::_,[]=>[]
 |(i,.agg ss)::l,ds=>(i,[],.g (.agg (nq (100000+64*i) (ds.take ss.length))))::jc l (ds.drop ss.length)
def Jb:List (Nat×SG)->List Dy->CS
 |[],_=>[]
 |(i,.one _)::l,d::ds=>kf (100000+64*i) d++Jb l ds
 |(_,.one _)::_,[]=>[]
 |(i,.agg ss)::l,ds=>jS (100000+64*i) (ds.take ss.length)++Jb l (ds.drop ss.length)
def oC:List (Nat×List Shp)->List Dy->CS
 |[],_=>[]
 |(c,ss)::l,ds=>(c,.box (nq (1000000+64*c) (ds.take ss.length)))::(jS (1000000+64*c) (ds.take ss.length)++oC l (ds.drop ss.length))
def iZ:List (Nat×SG)->Nat
 |[]=>0
 |(_,.one _)::l=>1+iZ l
 |(_,.agg ss)::l=>ss.length+iZ l
def ig(J:AnnA)(b:List Dy):qc:=jc J.slots b
def iG(J:AnnA)(b:List Dy):CS:=Jb J.slots b++oC J.boxes (b.drop (iZ J.slots))
theorem Jc{e:qc}{n:Nat}{a:Act}:∀{ss:List (Nat×SG)} {l:List Pl},mq e ss=Td l->l.length=iZ ss/\∀{γ F:Gh} {j f:CS} {v w:List Dy},SatA n e γ a->gy γ j->F.M=γ.M->fv j f l=Td v ->
   (∀p∈l,∀e t,p.s=.own e t->∀u,DenA γ p.a u->DenA F (.own p.id) u)->(∀x∈jc ss (v++w),g8 F (zt a) x)/\∀x∈Jb ss (v++w),x∈f
 |[],l,h=>by simp only[mq,NC]at h;subst h;refine⟨rfl,λ_ _ _ k _=>?_⟩;have k:=NY k;subst k;exact⟨λx L=>(by cases L),λx L=>(by cases L)⟩
 |(i,sg)::ss,l,h=>by
  simp only[mq]at h;split at h;rename_i x r U Q;split at h;rename_i s Y;simp only[NC]at h;subst h;obtain⟨J,I⟩:=Jc (n:=n) (a:=a) Q;refine⟨by simp[J,iZ];omega,λ {γ F j f v w} z o B k D=>?_⟩;obtain⟨d,v',rfl,h2,h3⟩:=wK k;obtain⟨G,H⟩:=I (w:=w) z o B h2 (λp m=>D p (NF _ m));have c:DenA γ Y (zt a i):=(z.all _ (xu U)).1 trivial;rcases h3 with⟨t,x,C,rfl,hc⟩|⟨Z,t,xs,C,rfl,hm⟩;have:=y8 o hc c;rw[<-B]at this;refine⟨λy b=>?_,λy b=>?_⟩;simp only[Ox,jc,NI]at b;rcases b with rfl|b;exact⟨λ_=>yB this,λE=>absurd trivial E⟩;exact G y b;simp only[Ox,Jb,kf,OU]at b;exact H y b;refine⟨λy b=>?_,λy b=>?_⟩;simp only[Ox,jc,NI]at b;rcases b with rfl|b;exact⟨λ_=>D _ NQ Z t C _ c,λE=>absurd trivial E⟩;exact G y b;simp only[Ox,Jb,kf,OU,NI]at b;rcases b with rfl|b;exact hm;exact H y b;rename_i A as;split at h;rename_i q hq;simp only[NC]at h;subst h;obtain⟨J,I⟩:=Jc (n:=n) (a:=a) Q;obtain⟨P,m⟩:=BO hq;refine⟨by simp[J,P,iZ],λ {γ F j f v w} z o B k D=>?_⟩;obtain⟨N,O,rfl,T,d1,V⟩:=Ja k;obtain⟨G,H⟩:=I (w:=w) z o B V (λp m=>D p (N1 _ m));obtain⟨us,hu,c⟩:=(show ∃us,zt a i=.agg us.toArray/\All2 (DenA γ) as us from(z.all _ (xu U)).1 trivial);obtain⟨p1,p2⟩:=m o B d1 (λp m=>D p (NT _ m)) c;have et:(N++O++w).take A.length=N:=by rw[<-P,<-T,Od,QN]
  have S:(N++O++w).drop A.length=O++w:=by rw[<-P,<-T,Od,List.drop_left]
  refine⟨λy b=>?_,λy b=>?_⟩;simp only[jc,et,S,NI]at b;rcases b with rfl|b;exact⟨λ_=>⟨us,hu,p1⟩,λE=>absurd trivial E⟩;exact G y b;simp only[Jb,et,S,N0]at b;rcases b with b|b;exact p2 y b;exact H y b;cases h;cases h;cases h
theorem zT{o:CS}:∀{bs:List (Nat×List Shp)} {l:List Pl},mo o bs=Td l->∀{R:CS} {γ k:Gh} {i f:CS} {v:List Dy} {h:za},Inv h0 W M0 (o++R) γ h->gy γ i->k.M=γ.M->k.β=γ.β->fv i f l=Td v -> (∀p∈l,∀e t,p.s=.own e t->∀u,DenA γ p.a u->DenA k (.own p.id) u) ->
   ∀x∈oC bs v,x∈f\/(DenC h0.size k h x.1 x.2/\(∃n,(x.1,Ch.box n)∈o)/\(∃n,x.2=Ch.box n)/\∃ss,(x.1,ss)∈bs)
 |[],l,b,R,γ,k,i,f,v,h,I,hf,hM,hβ,hd,ho,x,j=>by cases j
 |(c,ss)::bs,l,b,R,γ,k,i,f,v,h,I,hf,hM,hβ,hd,ho,x,j=>by
  simp only[mo]at b;split at b;rename_i n r B F;split at b;rename_i q J;simp only[NC]at b;subst b;obtain⟨C,A⟩:=BO J;obtain⟨y,z,rfl,D,L,E⟩:=Ja hd;obtain⟨us,Q,m⟩:=I.den _ (NT R (zu B));obtain⟨T,N⟩:=A hf hM L (λp b=>ho p (NT _ b)) m;have et:(y++z).take ss.length=y:=by rw[<-C,<-D,QN]
  have G:(y++z).drop ss.length=z:=by rw[<-C,<-D,List.drop_left]
  simp only[oC,et,G,NI,N0]at j;rcases j with rfl|j|j;exact .inr ⟨⟨us,by rw[hβ];exact Q,T⟩,⟨n,zu B⟩,⟨_,rfl⟩,ss,NQ⟩;exact .inl (N x j);rcases zT F I hf hM hβ E (λp b=>ho p (N1 _ b)) x j with w|⟨w,S,P,H,O⟩;exact .inl w;exact .inr ⟨w,S,P,H,NF _ O⟩;cases b;cases b
def mw(C:CS):List (Nat×List Shp)->Bool
 |[]=>Ta
 |(c,_)::l=>match Zx C c with
  |some (.box _)=>mw C l
  |_=>Tc
theorem Cb{C:CS}:∀{l:List (Nat×List Shp)},mw C l=Ta->∀c ss,(c,ss)∈l->∃b,(c,Ch.box b)∈C
 |[],_,c,ss,h=>by cases h
 |(c',ss')::l,hb,c,ss,h=>by simp only[mw]at hb;split at hb;rename_i b e;rcases NI.1 h with h|h;cases h;exact⟨b,zu e⟩;exact Cb hb c ss h;cases hb
def kv:CS->Bool
 |[]=>Ta
 |(c,_)::l=>bif fV c l then kv l else Tc
theorem AC:∀{l:CS},kv l=Ta->l.Pairwise λx y=>x.1≠y.1
 |[],_=>.nil
 |(c,k)::l,h=>by
  simp only[kv]at h;cases hn:fV c l with
  |false=>rw[hn]at h;cases h
  |true=>rw[hn]at h;exact Oi.2 ⟨λy b e=>X8 hn y b e.symm,AC h⟩
def allIn(S:List Nat):List Nat->Bool
 |[]=>Ta
 |i::l=>bif memN S i then allIn S l else Tc
theorem ue{l:List Nat}(h:memN l i=Ta):i∈l:=by
 induction l with
 |nil=>cases h
 |cons j l b=>
  simp only[memN]at h;cases hb:Nat.beq i j with
  |true=>rw[NJ hb];exact NQ
  |false=>rw[hb]at h;exact NF _ (b h)
theorem BM{S:List Nat}:∀{l:List Nat},allIn S l=Ta->∀i∈l,i∈S
 |[],_,i,h=>by cases h
 |j::l,hl,i,h=>by
  simp only[allIn]at hl;cases hm:memN S j with
  |false=>rw[hm]at hl;cases hl
  |true=>rw[hm]at hl;rcases NI.1 h with rfl|h;exact ue hm;exact BM hl i h
theorem Inv.pick{C F R:CS}(I:Inv h0 W M0 (C++R) γ h)(hnd:kv F=Ta)(hsrc:∀x∈F,DenC h0.size γ h x.1 x.2/\∃k,(x.1,k)∈C/\blk γ x.1 k=blk γ x.1 x.2):Inv h0 W M0 (F++R) γ h where
 ag:=I.ag
 frame:=I.frame
 size:=I.size
 old:=I.old
 le:=I.le
 den:=λx hx=>by rcases N0.1 hx with hx|hx;exact(hsrc x hx).1;exact I.den x (N1 _ hx)
 sep:=λx hx b hb=>by rcases N0.1 hx with hx|hx;obtain⟨_,k,hk,e⟩:=hsrc x hx;exact I.sep _ (NT _ hk) b (by rw[e];exact hb);exact I.sep x (N1 _ hx) b hb
 apart:=by have hI:=I.apart;rw[Oh]at hI ⊢;refine⟨(AC hnd).imp_of_mem λ {x y} hx hy hne b hb hb'=>?_,hI.2.1,λx hx y hy b hb=>?_⟩;obtain⟨_,k,hk,e⟩:=hsrc x hx;obtain⟨_,k',hk',e'⟩:=hsrc y hy;exact wZ I (NT R hk) (NT R hk') (λe2=>hne (Prod.mk.inj e2).1) b (by rw[e];exact hb) (by rw[e'];exact hb');obtain⟨_,k,hk,e⟩:=hsrc x hx;exact hI.2.2 _ hk y hy b (by rw[e];exact hb)
def oN(J:AnnA)(R:CS)(e:qc)(C:CS):Option (List Dy):=
 match mq e J.slots,mo C J.boxes with
 |some ps,some pb=>match mo (frzL (jM (ps++pb)) C) J.boxes with
  |some b=>match gW R (ps++b) (frzL (jM (ps++pb)) C)with
   |some f=>bif mw f J.boxes then(bif allIn J.ids (fF (ps++b))then(match fv (frzL (jM (ps++pb)) C++R) f (ps++b)with
    |some c=>bif kv (iG J c)then Td c else Te
    |none=>Te)else Te)else Te
   |none=>Te
  |none=>Te
 |_,_=>Te
theorem pO{J:AnnA}{e:qc}{m:List Dy}(b:oN J R e C=Td m){n:Nat}{a:Act}(L:SatA n e γ a)(I:Inv h0 W M0 (C++R) γ h):
  ∃f,Inv h0 W M0 (iG J m++R) f h/\GxS J.ids γ f/\∀x∈ig J m,g8 f (zt a) x:=by
 unfold oN at b;split at b
 ·rename_i ps pb r aa;split at b
  ·rename_i q j;split at b
   ·rename_i Z E;cases hbi:mw Z J.boxes with
    |false=>rw[hbi]at b;cases b
    |true=>
    rw[hbi]at b;cases hai:allIn J.ids (fF (ps++q))with
    |false=>rw[hai]at b;cases b
    |true=>
    rw[hai]at b;simp only[zI]at b;split at b
    ·rename_i k s;cases hnd:kv (iG J k)with
     |false=>rw[hnd]at b;cases b
     |true=>
     rw[hnd]at b;have b:=NY (show Td k=Td m from b);subst b;obtain⟨γ0,l,t⟩:=Inv.frzL (C:=C) (γ:=γ) (jM (ps++pb)) I;have u:=L.gx0 t;obtain⟨f,B,g1,⟨F,S⟩,G⟩:=pZ E l;obtain⟨V,D,rfl,l1,T,H⟩:=Ja s;obtain⟨Q,z⟩:=Jc (n:=n) (a:=a) r;obtain⟨M,N⟩:=z (w:=D) u l.fz F T (λp A=>G p (NT _ A));have y:=zT j l l.fz F S H (λp A=>G p (N1 _ A));have P:(V++D).drop (iZ J.slots)=D:=by rw[<-Q,<-l1,List.drop_left]
     have gS:GxS J.ids γ f:=⟨t.1.trans g1.1,λi hi=>by have o:=g1.2 i (λhm=>hi (BM hai i hm));have c:=t.2 i (by simp);exact⟨o.1.trans c.1,o.2.trans c.2⟩⟩;refine⟨f,B.pick hnd λx b=>?_,gS,M⟩;unfold iG at b;rw[P]at b;rcases N0.1 b with b|b;have:=N x b;exact⟨B.den x (NT _ this),x.2,this,rfl⟩;rcases y x b with c|⟨c,_,⟨as,o⟩,ss,Y⟩;exact⟨B.den x (NT _ c),x.2,c,rfl⟩;obtain⟨O,U⟩:=Cb hbi _ _ Y;exact⟨c,_,U,by rw[o];rfl⟩
    cases b
   cases b
  cases b
 cases b
theorem Ix{α:Type}{R:α->α->Prop}(k:∀x y,R x y->R y x){l f:List α}(p:l.Perm f):l.Pairwise R->f.Pairwise R:=by
 induction p with
 |nil=>exact id
 |cons x p j=>intro h;rw[Oi]at h ⊢;exact⟨λy n=>h.1 y (p.symm.subset n),j h.2⟩
 |swap x y l=>intro h;simp only[Oi,NI]at h ⊢;obtain⟨i,o,m⟩:=h;exact⟨λz b=>by rcases b with rfl|b;exact k _ _ (i _ (.inl rfl));exact o z b,λz b=>i z (.inr b),m⟩
 |trans _ _ e c=>exact λh=>c (e h)
theorem Inv.perm{cs cs':CS}(I:Inv h0 W M0 cs γ h)(p:cs.Perm cs'):Inv h0 W M0 cs' γ h where
 ag:=I.ag
 frame:=I.frame
 size:=I.size
 old:=I.old
 le:=I.le
 den:=λx hx=>I.den x (p.symm.subset hx)
 sep:=λx hx=>I.sep x (p.symm.subset hx)
 apart:=Ix (λx y h b hb hb'=>h b hb' hb) p I.apart
end
section
variable {P:Program} {gl:Fr}
variable {h0 : za} {W : Nat -> Prop} {M0 : Fr}
def hX(P:Program)(gl:Fr)(o:Oper)(e:qc)(c:zq)(cs:CS)(K:AV->Prop):Prop:=
 match o.op with
 |.pick x a b=>om e c x a b K
 |_=>match Y4 e c with
  |some g=>qA P gl o (dZ e c) g cs K
  |none=>False
def lU(P:Program)(gl:Fr)(n:Nat)(ops:Array Oper)(cs:CS)(K:qc->Prop):List Oper->qc->Prop
 |[],e=>K e
 |o::rest,e=>match Qq ops e o.guard with
  |some c=>bif yr n c o.dst then hX P gl o e c cs λv=>lU P gl n ops cs K rest (np e o.dst c v)else False
  |none=>False
theorem Az(i:Fr.le gl M0){o:Oper}{e:qc}{c:zq}{cs:CS}{K:AV->Prop}(H:hX P gl o e c cs K):∃av,K av/\∀(n:Nat) (γ:Gh) (a:Act) (h:za),SatA n e γ a->Inv h0 W M0 cs γ h->valid (zt a) c->∃v,DenV γ av v/\QExec P (execOp a.eval o) h (.value v):=by unfold hX at H;split at H;rename_i x y z m;obtain⟨av,k,j⟩:=Y9 H;refine⟨av,k,λn γ a h f I b=>?_⟩;obtain⟨t,q,l⟩:=j n γ a f b;refine⟨_,l,λB d=>?_⟩;simp only[execOp,m,q,asBool,Sem.run_bind,Sem.run_pure,Result.andThen_ok];split at H;rename_i g p;obtain⟨av,k,j⟩:=pd (h0:=h0) (W:=W) (M0:=M0) i H;exact⟨av,k,λn γ a h f I b=>j (j5 f p b) γ h a.eval I λx av r=>zl f b r⟩;exact H.elim
theorem pL{P:Program}{gl:Fr}(p:Fr.le gl M0){n:Nat}{ops:Array Oper}{cs:CS}{K:qc->Prop}{Q:Act->Prop}{γ:Gh}{h:za}(I:Inv h0 W M0 cs γ h)(B:World)(d:Nat):
  ∀(l:List Oper) (e:qc) (a:Act),lU P gl n ops cs K l e->SatA n e γ a->(∀r m,SatA n r γ m->Same (js l) a m->K r->Q m)->wpStill P ops (mk B d h) Q l a
 |[],e,a,H,hs,hQ=>hQ _ _ hs (Same.refl _ _) H
 |o::rest,e,a,H,hs,hQ=>by
  unfold lU at H;split at H;rename_i c D;cases hd:yr n c o.dst with
  |false=>rw[hd]at H;exact H.elim
  |true=>
   rw[hd]at H;simp only[zI]at H;have y:=j8 hs D;have q:∀i,o.dst=Td i->i∈js (o::rest):=λi hi=>by simp[js,hi]
   have j:∀x∈js rest,x∈js (o::rest):=λx s=>by unfold js;split;exact NF _ s;exact s
   obtain⟨av,E,A⟩:=Az (h0:=h0) (W:=W) (M0:=M0) p H;have b:∀u,(valid (zt a) c->DenV γ av u)->(¬valid (zt a) c->u=undef)->wpStill P ops (mk B d h) Q rest (a.put o.dst u):=λu t w=>
    pL p I B d rest _ _ E (hs.putO hd t w) λr m z C F=>hQ r m z ((Same.put a o.dst u q).trans (C.mono j)) F
   unfold wpStill;by_cases k:valid (zt a) c;rw[zz (y.2 k)];unfold Oper.still;obtain⟨v,t,w⟩:=A n γ a h hs I k;rw[w B d,Oper.stillUpon_value];exact b v (λ_=>t) (λf=>absurd k f);rw[zv (λs=>k (y.1 s))];exact b undef (λf=>absurd f k) (λ_=>rfl)
  exact H.elim
abbrev ll:=List (Nat×Nat)
def sX(P:Program)(gl:Fr)(tr:TypeId)(n:Nat)(f:ll)(id:Nat)(ops:Array Oper)(b:Bool)(R:CS)(K:qc->CS->Prop)(e:qc)(C:CS):Prop:=
 bif b then(match tg f id with
  |none=>bif Region.lexB .any ops then lU P gl n ops (C++R) (λc=>K (iB c) C) ops.toList e else False
  |some m=>bif Region.lexTailB .any ops m then lU P gl n ops (C++R) (λc=>iD P gl tr n ops R K (ops.toList.drop m) c C) (ops.toList.take m) e else False)
 else iD P gl tr n ops R K ops.toList e C
theorem GR(E:P.follows .mixedOrders=Ta)(f:Fr.le gl M0){tr:TypeId}{n:Nat}{G:ll}{id:Nat}{ops:Array Oper}{c:Bool}{R C:CS}{K:qc->CS->Prop}{e:qc} (H:sX P gl tr n G id ops c R K e C) {γ:Gh} {h:za} (B:World) (d:Nat) {a:Act} (p:SatA n e γ a) (I:Inv h0 W M0 (C++R) γ h) {Q:Exit->Act->World->Prop}
  (u:∀k D γ' i N h',SatA n k γ' i->Inv h0 W M0 (D++R) γ' h'->Same (js ops.toList) a i->GxS (js ops.toList) γ γ'->K k D->Q .normal i (mk B N h')):(Rn id ops c).wp P Q a (mk B d h):=by
 unfold sX at H;cases c with
 |false=>exact wp_region_list (oD f B _ _ _ _ _ _ _ H p I u)
 |true=>
  simp only[zI]at H;split at H;cases hB:Region.lexB .any ops with
  |false=>rw[hB]at H;exact H.elim
  |true=>rw[hB]at H;refine wp_region_still E hB ?_;exact pL f I B (d+1) _ _ _ H p λk i o q z=>u _ _ _ _ _ _ o.clean I q (GxS.refl _ _) z
  rename_i m _;cases hB:Region.lexTailB .any ops m with
  |false=>rw[hB]at H;exact H.elim
  |true=>
   rw[hB]at H;have b:js ops.toList=js (ops.toList.take m)++js (ops.toList.drop m):=by rw[<-Zu,OX]
   have:=wp_region_still_tail (id:=id) (Q:=Q) (a:=a) (w:=mk B d h) (l:=ops.toList) m E (by simpa using hB) (by simp only[Array.toArray_toList];refine pL f I B (d+1) _ _ _ H p λk i o q z=>?_;refine oD f B _ _ _ _ _ _ (d+1) z o I λs r t y A h'' O L M J F=>u s r t y A h'' O L ?_ ?_ F;rw[b];exact(q.mono λx j=>NT _ j).trans (M.mono λx j=>N1 _ j);rw[b];exact J.mono λx j=>N1 _ j);simpa using this
end
section
variable {P:Program} {t tr tx:TypeId} {n d m i id:Nat} {cs R C:CS} {γ:Gh} {h:za} {o:Oper} {sv:AV} {gl:Fr} {c:zq} {ops:Array Oper} {pu ord:List Nat} {listed pl:Array Bool} {a:Act}
variable {h0 : za} {W : Nat -> Prop} {M0 : Fr}
structure It where
 k:Nat
 dst:Option Nat
 ch:zq
 av:AV
 nb:Option (Nat×Ch)
 us:Option Nat:=Te
def d8:List It->qc
 |[]=>[]
 |i::l=>match i.dst with
  |some s=>(s,i.ch,i.av)::d8 l
  |none=>d8 l
def dw:List It->CS
 |[]=>[]
 |i::l=>match i.nb with
  |some b=>b::dw l
  |none=>dw l
theorem W0{x:Nat×zq×AV}:∀{l:List It},x∈d8 l↔∃i∈l,i.dst=Td x.1/\i.ch=x.2.1/\i.av=x.2.2
 |[]=>by simp[d8]
 |i::l=>by simp only[d8];split;rename_i s e;rw[NI,W0 (l:=l)];constructor;rintro(rfl|⟨j,b,h⟩);exact⟨i,NQ,e,rfl,rfl⟩;exact⟨j,NF _ b,h⟩;rintro⟨j,b,c,k,f⟩;rcases NI.1 b with rfl|b;left;rw[e]at c;cases c;rw[k,f];exact .inr ⟨j,b,c,k,f⟩;rename_i e;rw[W0 (l:=l)];constructor;rintro⟨j,b,h⟩;exact⟨j,NF _ b,h⟩;rintro⟨j,b,c,k,f⟩;rcases NI.1 b with rfl|b;rw[e]at c;cases c;exact⟨j,b,c,k,f⟩
def J0(S:List Nat):qc->qc
 |[]=>[]
 |(i,c,v)::e=>bif memN S i then(i,c,v)::J0 S e else J0 S e
theorem Ye{S:List Nat}{x:Nat×zq×AV}:∀{e:qc},x∈J0 S e->x∈e/\x.1∈S
 |[],h=>by cases h
 |(i,c,v)::e,h=>by
  simp only[J0]at h;cases hm:memN S i with
  |true=>rw[hm]at h;rcases NI.1 h with rfl|h;exact⟨NQ,ue hm⟩;exact⟨NF _ (Ye h).1,(Ye h).2⟩
  |false=>rw[hm]at h;exact⟨NF _ (Ye h).1,(Ye h).2⟩
def pM(P:Program)(tr:TypeId)(t:TypeId)(n:Nat)(ps:List (Nat×AV))(cs:CS)(K:AV->Prop):Prop:=
 match gH P t with
 |some el=>match ir P tr 8 el,kL P el (n*qj P el)with
  |some ty,some zs=>bif Nat.beq (qj P el) (sz ty)then(bif Nat.ble (n*qj P el) 16777216 then(bif Nat.blt 0 (qj P el)then(match ij (λi=>Td (i*qj P el,qj P el)) (zs.map .v) ps with
   |some r=>match Y6 cs ty n r with
    |some (ys,[])=>K (.g (.a (.dc ty ys)))
    |_=>False
   |none=>False)else False)else False)else False
  |_,_=>False
 |none=>False
theorem Ks{t el:TypeId}(u:P.underlying t=Td (.slice el))(m:qy P el=Ta)(q:n*qj P el<=16777216){l:List Value}(b:kL P el (n*qj P el)=Td l){ps:Array (Nat×Value)}{c1:List Value} (o:Rz (λi=>Td (i*qj P el,qj P el)) l.toArray ps.toList=Td c1.toArray) (B:World) (e:Nat) (h:za):
  (Instr.buildSlice t n ps).run P (mk B e h)=.ok (.slice (Td ⟨h.size,0,Te⟩) n n) (mk B e (h.push (.cells c1.toArray el))):=by
 have s:=QExec.underlying (h:=h) u B e;have p:=QExec.sizeOf (P:=P) (h:=h) (q9 m).choose_spec B e;unfold Instr.buildSlice;rw[Sem.run_bind,s];simp only[Result.andThen_ok];rw[Sem.run_bind,p];simp only[Result.andThen_ok];rw[zv (by omega)];unfold kL at b;by_cases c:n*qj P el=0;rw[zz c];rw[c]at b ⊢;simp at b;subst b;simp only[Sem.run_bind,Sem.run_pure,Result.andThen_ok];have f:Array.map (λx=>(#[]:Array Value)[x % (#[]:Array Value).size]!) (Rx 0)=([]:List Value).toArray:=by simp
 rw[f,o];rfl;rw[zv c];have r:Nat.beq (n*qj P el) 0=Tc:=by
  cases hh:Nat.beq (n*qj P el) 0 with
  |false=>rfl
  |true=>exact absurd (NJ hh) c
 rw[r]at b;simp only[zJ]at b;split at b;rename_i z j;have k:=Yd j h B e;simp only[NC]at b;rw[Sem.run_bind,k];simp only[Result.andThen_ok,Sem.run_bind,Sem.run_pure];have f:Array.map (λx=>z.cells[x % z.cells.size]!) (Rx (n*qj P el))=l.toArray:=by rw[<-b]
 rw[f,o];rfl;cases b
theorem Inv.newFrozen(I:Inv h0 W M0 cs γ h)(c:Array Value)(el:TypeId):Inv h0 W M0 cs (dY γ h.size c) (h.push (.cells c el))/\Gx Te γ (dY γ h.size c)/\(dY γ h.size c).M h.size=Td c:=by
 have i:γ.M h.size=Te:=I.ag.none (ND _);have l:Fr.le γ.M (dY γ h.size c).M:=by
  intro b k e;have:Nat.beq b h.size=Tc:=by
   cases f:Nat.beq b h.size with
   |false=>rfl
   |true=>rw[NJ f,i]at e;cases e
  simp[dY,this,e]
 have j:AgM (dY γ h.size c).M (h.push (.cells c el)):=by
  intro b k e;by_cases f:b=h.size;subst f;have:k=c:=by simp[dY]at e;exact e.symm
  subst this;exact⟨_,_,qq _ _⟩;have:Nat.beq b h.size=Tc:=by
   cases hb':Nat.beq b h.size with
   |false=>rfl
   |true=>exact absurd (NJ hb') f
  simp only[dY,this,zJ]at e;obtain⟨o,m,n⟩:=I.ag b k e;exact⟨o,m,by rw[OZ,zv f];exact n⟩
 refine⟨I.call (Keep.push h _ (ND _)) l (λb f=>?_) j,⟨l,λ_ _=>⟨rfl,rfl⟩⟩,by simp[dY]⟩;have:Nat.beq b h.size=Tc:=by
  cases hb':Nat.beq b h.size with
  |false=>rfl
  |true=>have:=NJ hb';omega
 simp[this]
def jn:Option (Nat×Ch)->CS->CS
 |none,C=>C
 |some c,C=>Y3 c.1 C
def i9(h0:za)(W:Nat->Prop)(M0:Fr)(P:Program)(o:Oper)(a:Act)(γ:Gh)(h:za)(cs:CS)(b:Option (Nat×Ch))(c:AV->Prop)(eat:Option (Nat×Ch):=Te):Prop:=
 ExA P (execOp a.eval o) h λv h'=>∃av γ',c av/\DenV γ' av v/\Inv h0 W M0 (b.toList++jn eat cs) γ' h'/\Gx (b.map (·.1)) γ γ'
theorem Hm{f:Array (Nat×Operand)}(Q:o.op=.buildSlice t n f){ps:List (Nat×AV)}{ρ:Operand->Option AV}(q:gK ρ f.toList=Td ps){K:AV->Prop}(H:pM P tr t n ps cs K):
  ∃av,K av/\∀(γ:Gh) (h:za) (a:Act) (Y:CS),Inv h0 W M0 (Y++cs) γ h->(∀x av,ρ x=Td av->DenV γ av (a.eval x))->i9 h0 W M0 P o a γ h (Y++cs) Te (· = av):=by
 unfold pM at H;split at H
 ·rename_i el w;obtain⟨D,y⟩:=Yb w;split at H
  ·rename_i ty C G l;cases hz:Nat.beq (qj P el) (sz ty)with
   |false=>rw[hz]at H;exact H.elim
   |true=>
   rw[hz]at H;cases hb1:Nat.ble (n*qj P el) 16777216 with
   |false=>rw[hb1]at H;exact H.elim
   |true=>
   rw[hb1]at H;cases hb2:Nat.blt 0 (qj P el)with
   |false=>rw[hb2]at H;exact H.elim
   |true=>
   rw[hb2]at H;simp only[zI]at H;split at H
   ·rename_i r N;split at H
    ·rename_i ys p;refine⟨_,H,λγ h a Y I F=>?_⟩;have J:Inv h0 W M0 cs γ h:=I.sub (by simp);obtain⟨V,O,S⟩:=Y5 N (xw γ C) (X6 F q);obtain⟨c1,c2,rfl,z,s,M⟩:=pI J.fz p S;cases c2 with
     |cons _ _=>exact M.elim
     |nil=>
     rw[Oe]at *;have j:=NJ hz;have i:0<qj P el:=by simpa[Pp]using hb2
     have m:n*qj P el<=16777216:=OW hb1;have U:n<=n*qj P el:=QH _ i;have T:c1.length=n*qj P el:=by rw[z.1,s,j]
     obtain⟨E,A,u⟩:=I.newFrozen c1.toArray el;intro B e;refine .inl ⟨.slice (Td ⟨h.size,0,Te⟩) n n,e,_,?_,_,_,rfl,?_,E,A⟩;have L:(f.map λx=>(x.1,a.eval x.2)).toList=f.toList.map λx=>(x.1,a.eval x.2):=by rw[PT]
     simp only[execOp,Q];refine Qc ?_;exact Ks D y m l (by show Rz _ _ (f.map λx=>(x.1,a.eval x.2)).toList=_;rw[L];exact O) B e h;have k:=(z.mono A.1).rd (b:=h.size) (o:=0) (c:=n) (cs:=c1.toArray) u (by rw[Pv,Pe (by rw[s,<-j];simp;omega)]) ⟨by omega,by omega⟩;rw[s]at k;exact⟨⟨Td ⟨h.size,0,Te⟩,n,n⟩,rfl,rfl,k⟩
    exact H.elim
   exact H.elim
  exact H.elim
 exact H.elim
def rC:AV->Bool
 |.g (.a (.dc _ _))=>Ta
 |_=>Tc
theorem CW{bv sv:AV}{c:Call}(ho:o.op=.call c)(hc:c.callee=.builtin .append){s x:Operand}(n:c.args.toList=[s,x])(C:c.argTypes.toList=[t,tx]){K:AV->Prop}(A:rC bv=Ta) (H:Wz P tr t tx bv sv 0 [] cs (λav _ _=>K av)) {ρ:Operand->Option AV} (hs:ρ s=Td bv) (hx:ρ x=Td sv):
  ∀(γ:Gh) (h:za) (a:Act) (Y:CS),Inv h0 W M0 (Y++cs) γ h->(∀x av,ρ x=Td av->DenV γ av (a.eval x))->i9 h0 W M0 P o a γ h (Y++cs) Te K:=by
 intro γ h a Y I hρ;have ab:=hρ _ _ hs;have V:=hρ _ _ hx;have I1:Inv h0 W M0 ([]++cs) γ h:=I.sub (by simp);have key:∀{N:Value->za->Prop},jh P (NX #[t,tx] o.type #[a.eval s,a.eval x]) h N->ExA P (execOp a.eval o) h N:=by
  intro N Z B e;obtain⟨v,d',h',r,hp⟩:=Z B e;refine .inl ⟨v,d',h',?_,hp⟩;have ee:execOp a.eval o=(NX c.argTypes o.type (c.args.map a.eval) >>= λx=>(PZ (QD x):Sem Next)):=by simp only[execOp,ho,resolve,hc];rfl
  rw[ee,toList_eq n,toList_eq C];refine Qc ?_;simpa using r
 refine key ?_;clear key;unfold Wz at H;split at H;rename_i el Q;obtain⟨hu,aj⟩:=Yb Q;split at H;rename_i ty ae;split at H;rename_i b ys hb U;obtain⟨⟨z,T⟩,w⟩:=vQ hu hb;obtain⟨news,j,k⟩:=Cn I1 U T.pos V;split at H;cases A;cases A;rename_i t' ai;split at H;rename_i xs q;obtain⟨y,hK⟩:=H;have E:=m5 w y;obtain⟨e1,e2⟩:=Z2 q;subst e1;simp only at e2;subst e2;generalize a.eval s=u at *;generalize a.eval x=v at *;obtain⟨s2,e,al,D⟩:=(show ∃s:Sl,u=aK s/\s.cap=s.len/\Rd γ.M (.row t') xs [u]from ab);subst e;obtain⟨s3,e,f,af,cells,i,G⟩:=D.rowC I.ag;have e':s2=s3:=by cases s2;cases s3;simp only[aK,N6]at e;simp[e]
 subst e';have m:cells.length=s2.len*sz t':=by rw[f];exact i.1
 intro B J;by_cases hm:ys.length=0;have ac:ys=[]:=N5 hm;subst ac;have O:news=[]:=N5 (by rw[j.1];simp);subst O;have hr:=Z1 (P:=P) (ty:=o.type) T (s:=s2) (h':=h) (k B J) (by simp;omega) (λp hp=>by simp[storeCells]) (λ_=>rfl);refine⟨_,J,h,hr,_,γ,hK,?_,I,Gx.refl _ _⟩;rw[Oe];exact D;obtain⟨cp,l,hr,L,ah,ak,S⟩:=Y8 (P:=P) (ty:=o.type) (base:=0) T m (λB d=>Z0 G m T.pos B d) k (by rw[f];exact y) (by rw[f];exact E) (NV _) (by omega) B J;obtain⟨I2,g2,aa⟩:=I.newFrozen l el;refine⟨_,J+1,_,hr,_,_,hK,?_,I2,g2⟩;have F:=((i.append j).mono g2.1).rd (b:=h.size) (o:=0) (c:=cp) (cs:=l) aa (by rw[Pv,NH,<-f];exact S) (by rw[NH,<-f];exact⟨by rw[f];exact E,L⟩);rw[NH,<-f]at F;exact F;exact H.elim;exact H.elim;exact H.elim;exact H.elim;exact H.elim
def tp(P:Program)(gl:Fr)(tr:TypeId)(o:Oper)(ρ:Operand->Option AV)(cs:CS)(K:AV->Prop):Prop:=
 match o.op with
 |.call c=>match c.callee with
  |.value x=>match lE x with
   |some f=>bif zr P f then(match rq P tr f,iR ρ c.args.toList with
    |some (ts,rt),some vs=>match yn cs ts vs with
     |some args=>PC P gl f args rt λr=>K (ke rt r)
     |none=>False
    |_,_=>False)else False
   |none=>False
  |_=>False
 |_=>False
theorem EK(i:Fr.le gl M0){ρ:Operand->Option AV}{K:AV->Prop}(H:tp P gl tr o ρ cs K):
  ∀(γ:Gh) (h:za) (a:Act) (Y:CS),Inv h0 W M0 (Y++cs) γ h->(∀x av,ρ x=Td av->DenV γ av (a.eval x))->i9 h0 W M0 P o a γ h (Y++cs) Te K:=by
 intro γ h a Y I n;unfold tp at H;split at H;rename_i c q;split at H;rename_i x y;split at H;rename_i f k;cases hcal:zr P f with
 |false=>rw[hcal]at H;exact H.elim
 |true=>
  rw[hcal]at H;simp only[zI]at H;split at H;rename_i ts A vs z j;split at H;rename_i args b;intro B d;have e:=nH k;subst e;have s:Inv h0 W M0 cs γ h:=I.sub (by simp);have p:=jj s.fz b (Wy n j);refine .inr (.inr ⟨f,c.args.map a.eval,pm q y hcal rfl _,?_⟩);have u:c.args.map a.eval=(c.args.toList.map a.eval).toArray:=by rw[<-PT]
  rw[u];refine(pj i H I p).mono ?_;rintro v h' ⟨r,γ',l,w,t,m,_⟩;exact⟨_,γ',l,w,t,m⟩;exact H.elim;exact H.elim
 exact H.elim;exact H.elim;exact H.elim
theorem I9(j:Fr.le gl M0){ρ:Operand->Option AV}{b:Bool}{K:AV->Prop}(H:kd P gl tr o ρ b cs K)(m:b=Ta):
  ∀(γ:Gh) (h:za) (a:Act) (Y:CS),Inv h0 W M0 (Y++cs) γ h->(∀x av,ρ x=Td av->DenV γ av (a.eval x))->i9 h0 W M0 P o a γ h (Y++cs) Te K:=by
 intro γ h a Y I s;unfold kd at H;split at H;rename_i c u;split at H;rename_i x C;split at H;rename_i f l;cases hcal:zr P f with
 |false=>rw[hcal]at H;exact H.elim
 |true=>
  rw[hcal]at H;simp only[zI]at H;split at H;rename_i ts E vs D k;split at H;rename_i args i;obtain⟨J,q,A⟩:=H;intro B d;have e:=nH l;subst e;have w:Inv h0 W M0 cs γ h:=I.sub (by simp);have t:=jj w.fz i (Wy s k);refine .inr (.inr ⟨f,c.args.map a.eval,pm u C hcal rfl _,?_⟩);have z:c.args.map a.eval=(c.args.toList.map a.eval).toArray:=by rw[<-PT]
  rw[z];refine(pj j (q m) I t).mono ?_;rintro v h' ⟨r,γ',g1,y,n,p,_⟩;exact⟨_,γ',A r (λ_=>g1),y,n,p⟩;exact H.elim;exact H.elim
 exact H.elim;exact H.elim;exact H.elim
theorem Ns(j:o.op=.alloc t){z:Value}(i:zeroOf P t=Td z)(b:eC (z.cells.toList.map .v)=Tc):
  ∀(γ:Gh) (h:za) (a:Act) (Y:CS),Inv h0 W M0 (Y++cs) γ h->qd d (Y++cs)=Ta->i9 h0 W M0 P o a γ h (Y++cs) (Td (d,.box (z.cells.toList.map .v))) (· = .g (.a (.box d 0))):=by
 intro γ h a Y I k B e;refine .inl ⟨.pointer (Td ⟨h.size,0,Te⟩),e,h.push (.cells z.cells t),?_,_,fK γ d h.size,rfl,?_,?_,Wv _ _ _⟩;have f:=Yd i h B e;simp only[execOp,j];refine Qc ?_;unfold Instr.alloc;rw[Sem.run_bind,f];simp only[Result.andThen_ok];rw[Sem.run_bind,X7];rfl;simp only[DenV,DenG,DenA,xt];have:=Inv.newBox (C:=[]) (R:=Y++cs) (by simpa using I) (c:=d) k (xw γ z.cells.toList) (pA d _) b t;simpa[qe,jn]using this
theorem Du{x:Operand}(i:o.op=.box t x){l:List AA}(f:eE d l=Tc)(b:eC l=Tc):
  ∀(γ:Gh) (h:za) (a:Act) (Y:CS),Inv h0 W M0 (Y++cs) γ h->qd d (Y++cs)=Ta->All2 (DenA γ) l (a.eval x).cells.toList->i9 h0 W M0 P o a γ h (Y++cs) (Td (d,.box l)) (· = .g (.a (.box d 0))):=by
 intro γ h a Y I j k B e;refine .inl ⟨.pointer (Td ⟨h.size,0,Te⟩),e,h.push (.cells (a.eval x).cells t),?_,_,fK γ d h.size,rfl,?_,?_,Wv _ _ _⟩;simp only[execOp,i];refine Qc ?_;unfold Instr.box;rw[Sem.run_bind,X7];rfl;simp only[DenV,DenG,DenA,xt];have:=Inv.newBox (C:=[]) (R:=Y++cs) (by simpa using I) (c:=d) j k f b t;simpa[qe,jn]using this
def qt(o:Oper):Bool:=match o.op with
 |.call c=>match c.callee with
  |.builtin .append=>Ta
  |.builtin _=>Tc
  |_=>Ta
 |_=>Tc
def gX:List AA->Bool
 |[]=>Ta
 |.v _::l=>gX l
 |.d _ _::l=>gX l
 |.elt _ _ _::l=>gX l
 |.dc _ _::l=>gX l
 |_::_=>Tc
theorem Zq{c:Nat}:∀{l:List AA},gX l=Ta->eE c l=Tc
 |[],_=>rfl
 |.v _::l,h=>by simp only[eE,fy,zJ];exact Zq (l:=l) h
 |.d _ _::l,h=>by simp only[eE,fy,zJ];exact Zq (l:=l) h
 |.elt _ _ _::l,h=>by simp only[eE,fy,zJ];exact Zq (l:=l) h
 |.dc _ _::l,h=>by simp only[eE,fy,zJ];exact Zq (l:=l) h
 |.box _ _::_,h=>by cases h
 |.own _::_,h=>by cases h
 |.oelt _ _ _ _::_,h=>by cases h
theorem yV:∀l:List Value,gX (l.map .v)=Ta
 |[]=>rfl
 |_::l=>yV l
def l7(P:Program)(gl:Fr)(tr:TypeId)(o:Oper)(e:qc)(ch:zq)(cs:CS)(K:AV->Option (Nat×Ch)->Prop):Prop:=
 match o.op with
 |.alloc t=>match ch,o.dst,zeroOf P t with
  |[],Td d,some z=>bif qd d cs then(bif eC (z.cells.toList.map .v)then False else K (.g (.a (.box d 0))) (Td (d,.box (z.cells.toList.map .v))))else False
  |_,_,_=>False
 |.box t x=>match ch,o.dst,dZ e [] x with
  |[],Td d,some av=>match jP av with
   |some l=>bif qd d cs then(bif gX l then(bif eC l then False else K (.g (.a (.box d 0))) (Td (d,.box l)))else False)else False
   |none=>False
  |_,_,_=>False
 |.buildSlice t n f=>match ch,gK (dZ e []) f.toList with
  |[],some ps=>pM P tr t n ps cs λav=>K av Te
  |_,_=>False
 |.call c=>match c.callee with
  |.builtin .append=>match ch,c.args.toList,c.argTypes.toList with
   |[],[s,x],[t,tx]=>match dZ e [] s,dZ e [] x with
    |some bv,some sv=>bif rC bv then Wz P tr t tx bv sv 0 [] cs (λav _ _=>K av Te)else False
    |_,_=>False
   |_,_,_=>False
  |.builtin _=>hX P gl o e ch cs λav=>K av Te
  |_=>match ch with
   |[]=>tp P gl tr o (dZ e []) cs λav=>K av Te
   |_=>match Y4 e ch with
    |some (Td b)=>kd P gl tr o (dZ e ch) b cs λav=>K av Te
    |_=>False
 |_=>hX P gl o e ch cs λav=>K av Te
structure Spec (h0:za) (W:Nat->Prop) (M0:Fr) (P:Program) (o:Oper) (e:qc) (ch:zq) (cs:CS) (nb:Option (Nat×Ch)) (Kan:AV->Prop) (eat:Option (Nat×Ch):=Te):Prop where
 yes:∀(n:Nat) (γ:Gh) (h:za) (a:Act) (Y:CS),SatA n e γ a->Inv h0 W M0 (Y++cs) γ h->(∀b,nb=Td b->qd b.1 (Y++cs)=Ta)->(∀c,eat=Td c->c∈Y++cs/\∀x∈Y++cs,x.1=c.1->x.2=c.2)->(∀d,o.dst=Td d->eat≠Te->qd d (Y++cs)=Ta)->valid (zt a) ch->i9 h0 W M0 P o a γ h (Y++cs) nb Kan eat
 no:∀(n:Nat) (γ:Gh) (a:Act),SatA n e γ a->¬valid (zt a) ch->nb=Te/\eat=Te/\∃av,Kan av
 box:∀b,nb=Td b->qd b.1 cs=Ta/\o.dst=Td b.1/\(((∃l,b.2=.box l/\gX l=Ta)/\Kan=(· = .g (.a (.box b.1 0))))\/((∃e t xs,b.2=.row e t xs)/\Kan=(· = .g (.a (.own b.1)))))
 dn:eat≠Te->∃d,o.dst=Td d/\qd d cs=Ta
theorem Spec.ofQ(c:Fr.le gl M0){e:qc}{ch:zq}{K:AV->Option (Nat×Ch)->Prop}(H:hX P gl o e ch cs λav=>K av Te):∃j Kan,Spec h0 W M0 P o e ch cs j Kan/\(∀av,Kan av->K av j)/\∃av,Kan=(· = av):=by obtain⟨av,s,q⟩:=Az (h0:=h0) (W:=W) (M0:=M0) c H;refine⟨Te,(· = av),⟨λn γ h a Y i I _ _ _ f=>?_,λn γ a i f=>⟨rfl,rfl,av,rfl⟩,λb m=>(by cases m),λr=>absurd rfl r⟩,λk e=>e ▸ s,av,rfl⟩;obtain⟨v,l,p⟩:=q n γ a h i (I.sub (by simp)) f;exact λB d=>.inl ⟨v,d,h,p B d,av,γ,rfl,l,I,Gx.refl _ _⟩
theorem Kq(r:Fr.le gl M0){e:qc}{ch:zq}{K:AV->Option (Nat×Ch)->Prop}(H:l7 P gl tr o e ch cs K):
  ∃w Kan,Spec h0 W M0 P o e ch cs w Kan/\(∀av,Kan av->K av w)/\(qt o=Tc->∃av,Kan=(· = av)):=by
 unfold l7 at H;split at H
 ·rename_i t q;split at H
  ·rename_i d z D Q;cases hR:qd d cs with
   |false=>rw[hR]at H;exact H.elim
   |true=>
    rw[hR]at H;cases hit:eC (z.cells.toList.map .v)with
    |true=>rw[hit]at H;exact H.elim
    |false=>
    rw[hit]at H;refine⟨_,(· = .g (.a (.box d 0))),⟨λn γ h a Y j I p _ _ _=>Ns q Q hit γ h a Y I (p _ rfl),λn γ a j k=>absurd trivial k,λb m=>?_,λi=>absurd rfl i⟩,λav e=>e ▸ H,λ_=>⟨_,rfl⟩⟩;cases m;exact⟨hR,D,.inl ⟨⟨_,rfl,yV _⟩,rfl⟩⟩
  exact H.elim
 ·rename_i t x q;split at H
  ·rename_i d av D G;split at H
   ·rename_i l T;cases hR:qd d cs with
    |false=>rw[hR]at H;exact H.elim
    |true=>
     rw[hR]at H;cases hm:gX l with
     |false=>rw[hm]at H;exact H.elim
     |true=>
      rw[hm]at H;cases hit:eC l with
      |true=>rw[hit]at H;exact H.elim
      |false=>
      rw[hit]at H;refine⟨_,(· = .g (.a (.box d 0))),⟨λn γ h a Y j I p _ _ _=>Du q (Zq hm) hit γ h a Y I (p _ rfl) (oE T (zl j (c:=[]) trivial G)),λn γ a j k=>absurd trivial k,λb m=>?_,λi=>absurd rfl i⟩,λav e=>e ▸ H,λ_=>⟨_,rfl⟩⟩;cases m;exact⟨hR,D,.inl ⟨⟨_,rfl,hm⟩,rfl⟩⟩
   exact H.elim
  exact H.elim
 rename_i t n E q;split at H;rename_i ps C;obtain⟨av,A,B⟩:=Hm (h0:=h0) (W:=W) (M0:=M0) q C H;exact⟨Te,(· = av),⟨λn γ h a Y j I _ _ _ _=>B γ h a Y I λx av i=>zl j (c:=[]) trivial i,λn γ a j k=>absurd trivial k,λb m=>(by cases m),λi=>absurd rfl i⟩,λS e=>e ▸ A,λ_=>⟨_,rfl⟩⟩;exact H.elim;rename_i c q;split at H;rename_i N;have f:qt o=Ta:=by simp[qt,q,N]
 split at H;rename_i s x t tx u y;split at H;rename_i bv sv J F;cases hdc:rC bv with
 |false=>rw[hdc]at H;exact H.elim
 |true=>rw[hdc]at H;simp only[zI]at H;exact⟨Te,λav=>K av Te,⟨λn γ h a Y j I _ _ _ _=>CW q N u y hdc H J F γ h a Y I λx av i=>zl j (c:=[]) trivial i,λn γ a j k=>absurd trivial k,λb m=>(by cases m),λi=>absurd rfl i⟩,λav e=>e,λp=>by rw[f]at p;cases p⟩
 exact H.elim;exact H.elim;obtain⟨w,Kan,A,B,L⟩:=Spec.ofQ (h0:=h0) (W:=W) (M0:=M0) r H;exact⟨w,Kan,A,B,λ_=>L⟩;rename_i M O;have f:qt o=Ta:=by simp only[qt,q]
 split at H;exact⟨Te,λav=>K av Te,⟨λn γ h a Y j I _ _ _ _=>EK r H γ h a Y I λx av i=>zl j (c:=[]) trivial i,λn γ a j k=>absurd trivial k,λb m=>(by cases m),λi=>absurd rfl i⟩,λav e=>e,λp=>by rw[f]at p;cases p⟩;split at H;rename_i b m;refine⟨Te,λav=>K av Te,⟨λn γ h a Y j I _ _ _ k=>I9 r H (j5 j m k) γ h a Y I λx av i=>zl j k i,λn γ a j k=>⟨rfl,rfl,?_⟩,λb m=>(by cases m),λi=>absurd rfl i⟩,λav e=>e,λp=>by rw[f]at p;cases p⟩;have:=rV j m k;simp only[NC]at this;exact(rM (h0:=#[]) (W:=λ_=>False) (M0:=λ_=>Te) H).1 this;exact H.elim;obtain⟨w,Kan,A,B,L⟩:=Spec.ofQ (h0:=h0) (W:=W) (M0:=M0) r H;exact⟨w,Kan,A,B,λ_=>L⟩
def ni:List Nat->Nat->Option (Option Nat)
 |[],_=>Te
 |x::l,k=>bif Nat.ble 2000000 x then(bif Nat.beq (x-2000000) k then Td Te else ni l k)else(bif Nat.ble 1000000 x then(bif Nat.beq ((x-1000000) / 1000) k then Td (Td ((x-1000000) % 1000))else ni l k)else ni l k)
def jL(k:Nat):List It->Option (Nat×Ch)
 |[]=>Te
 |i::l=>bif (match i.us with
  |some j=>Nat.beq j k
  |none=>Tc)then(match i.nb with
  |some b=>Td b
  |none=>jL k l)else jL k l
theorem sC{k:Nat}{c:Nat×Ch}:∀{l:List It},jL k l=Td c->∃i∈l,i.nb=Td c/\i.us=Td k
 |[],h=>by cases h
 |i::l,h=>by
  simp only[jL]at h;cases hb:(match i.us with
   |some j=>Nat.beq j k
   |none=>Tc)with
  |false=>rw[hb]at h;obtain⟨x,e,q⟩:=sC h;exact⟨x,NF _ e,q⟩
  |true=>rw[hb]at h;simp only[zI]at h;split at h;rename_i b f;cases h;refine⟨i,NQ,f,?_⟩;split at hb;rename_i j m;rw[m,NJ hb];cases hb;obtain⟨x,e,q⟩:=sC h;exact⟨x,NF _ e,q⟩
def qI(P:Program)(tr:TypeId)(t:TypeId)(n:Nat)(K:Ch->Prop):Prop:=bif Nat.beq n 0 then(match gH P t with
 |some el=>match ir P tr 8 el,kL P el (0*qj P el)with
  |some ty,Td []=>bif Nat.beq (qj P el) (sz ty)then(bif Nat.ble (0*qj P el) 16777216 then(bif Nat.blt 0 (qj P el)then K (.row el ty [])else False)else False)else False
  |_,_=>False
 |none=>False)else False
theorem GP{b:Array (Nat×Operand)}(l:o.op=.buildSlice t n b)(k:b.toList=[]){K:Ch->Prop}(H:qI P tr t n K):
  ∃el ty,K (.row el ty [])/\∀(γ:Gh) (h:za) (a:Act) (L:CS),Inv h0 W M0 L γ h->qd d L=Ta->ExA P (execOp a.eval o) h (eX h0 W M0 L γ λav j c=>av=.g (.a (.own d))/\j=[(d,.row el ty [])]/\c=Td d):=by
 unfold qI at H;cases hn:Nat.beq n 0 with
 |false=>rw[hn]at H;exact H.elim
 |true=>
  rw[hn]at H;obtain rfl:=NJ hn;simp only[zI]at H;split at H;rename_i el f;split at H;rename_i ty i e;cases h1:Nat.beq (qj P el) (sz ty)with
  |false=>rw[h1]at H;exact H.elim
  |true=>
   rw[h1]at H;cases h2:Nat.ble (0*qj P el) 16777216 with
   |false=>rw[h2]at H;exact H.elim
   |true=>
    rw[h2]at H;cases h3:Nat.blt 0 (qj P el)with
    |false=>rw[h3]at H;exact H.elim
    |true=>rw[h3]at H;refine⟨el,ty,H,λγ h a L I m=>?_⟩;refine uG (tr:=tr) (ps:=[]) l (ρ:=λ_=>Te) (by rw[k];rfl) (C:=[]) (R:=L) (d:=d) ?_ (by simpa using I) (λx av p=>by cases p);unfold Y7;rw[f];simp only;rw[i,e];simp only;rw[h1,h2,h3,m];simp[ij,Y6,my,Jz,frzL,qe]
  exact H.elim;exact H.elim
def rK(P:Program)(tx:TypeId)(ty:Ty):AV->Option (List (El ty))
 |.g (.a (.d (.row t) xs))=>match P.underlying tx with
  |some (.slice _)=>Za (.row t) (.row ty) xs
  |_=>Te
 |.g (.a (.dc t xs))=>match P.underlying tx with
  |some (.slice _)=>Za (.row t) (.row ty) xs
  |_=>Te
 |.g (.a (.v (.slice Te 0 0)))=>match P.underlying tx with
  |some (.slice _)=>Td []
  |_=>Te
 |_=>Te
def sN(P:Program)(tr:TypeId)(t tx:TypeId)(e:TypeId)(c:Ty)(xs:List (El c))(sv:AV)(K:TypeId->(ty:Ty)->List (El ty)->Prop):Prop:=match gH P t with
 |some el=>match ir P tr 8 el with
  |some ty=>match oS P el ty,rK P tx ty sv with
   |some b,some ys=>match Za (.row c) (.row ty) xs with
    |some xs=>bif Nat.beq e el then((xs.length+ys.length)*b<=140737488355328/\K el ty (xs++ys))else False
    |none=>False
   |_,_=>False
  |none=>False
 |none=>False
theorem GK{L:CS}{ty:Ty}{ys:List (El ty)}(h:rK P tx ty sv=Td ys):jC P L tx ty sv=Td ys:=by unfold rK at h;split at h;rename_i t xs;split at h;rename_i e b;simp only[jC,b,rowOf];exact h;cases h;rename_i t xs;split at h;rename_i e b;simp only[jC,b,rowOf];exact h;cases h;split at h;rename_i e b;simp only[jC,b];exact h;cases h;cases h
theorem y4{c:Nat}:∀{l:CS},qd c l=Ta->qe c l=l
 |[],_=>rfl
 |(j,k)::l,h=>by
  simp only[qd]at h;cases hb:(bif Nat.beq j c then Ta else fB c k)with
  |true=>rw[hb]at h;cases h
  |false=>rw[hb]at h;simp only[qe];rw[hb,zJ,y4 h]
theorem oR{c d:Nat}:∀{l:CS},qd c l=Ta->qd c (Y3 d l)=Ta
 |[],_=>rfl
 |(j,k)::l,h=>by
  simp only[qd]at h;cases hb:(bif Nat.beq j c then Ta else fB c k)with
  |true=>rw[hb]at h;cases h
  |false=>
   rw[hb]at h;simp only[Y3];cases Nat.beq j d with
   |true=>exact oR h
   |false=>simp only[zJ,qd];rw[hb];exact oR h
theorem zY{c:Nat×Ch}:∀{l:CS},c∈l->(∀x∈l,x.1=c.1->x.2=c.2)->Zx l c.1=Td c.2
 |[],h,_=>by cases h
 |(j,k)::l,h,hu=>by
  simp only[Zx];cases hb:Nat.beq c.1 j with
  |true=>have:=NJ hb;have:=hu (j,k) NQ this.symm;simp only at this;rw[zI,this]
  |false=>rw[zJ];rcases NI.1 h with rfl|h;simp at hb;exact zY h λx b=>hu x (NF _ b)
theorem Ef{c:Call}(N:o.op=.call c)(G:c.callee=.builtin .append){s x:Operand}(j:c.args.toList=[s,x])(l:c.argTypes.toList=[t,tx]){y:TypeId}{z:Ty}{xs:List (El z)}{K:TypeId->(ty:Ty)->List (El ty)->Prop}
  (H:sN P tr t tx y z xs sv K):∃el ty ys,K el ty ys/\∀(γ:Gh) (h:za) (a:Act) (L:CS) (k:Nat),Inv h0 W M0 L γ h->Zx L k=Td (.row y z xs)->DenV γ (.g (.a (.own k))) (a.eval s)->DenV γ sv (a.eval x) -> ExA P (execOp a.eval o) h (eX h0 W M0 [] γ λav p A=>av=.g (.a (.own d))/\p=(d,.row el ty ys)::qe d (Y3 k L)/\A=Td d):=by
 unfold sN at H;split at H;rename_i el u;split at H;rename_i ty w;split at H;rename_i b ys E n;split at H;rename_i m f;cases hee:Nat.beq y el with
 |false=>rw[hee]at H;exact H.elim
 |true=>
  rw[hee]at H;obtain⟨i,O⟩:=H;refine⟨el,ty,m++ys,O,λγ h a L k I C D Q=>?_⟩;have q:Wz P tr t tx (.g (.a (.own k))) sv d L [] (λav p A=>av=.g (.a (.own d))/\p=(d,.row el ty (m++ys))::qe d (Y3 k L)/\A=Td d):=by unfold Wz;rw[u];simp only;rw[w];simp only;rw[E,Oe,GK n];simp only;rw[C];simp only;rw[f];simp only;rw[hee];first|exact⟨i,rfl,rfl,rfl⟩|exact⟨i,trivial,trivial,trivial⟩|exact⟨i,by simp⟩
  have:=t6 (ty':=o.type) q (by simpa using I) D Q;intro B e;obtain⟨v,J,h',r,M⟩:=this B e;refine .inl ⟨v,J,h',?_,M⟩;have F:execOp a.eval o=(NX c.argTypes o.type (c.args.map a.eval) >>= λx=>(PZ (QD x):Sem Next)):=by simp only[execOp,N,resolve,G];rfl
  rw[F,toList_eq j,toList_eq l];refine Qc ?_;simpa using r
 exact H.elim;exact H.elim;exact H.elim;exact H.elim
def tv(P:Program)(tr:TypeId)(o:Oper)(k:Nat)(e:qc)(b:List It)(cs:CS)(own:Bool)(K:AV->Option (Nat×Ch)->Option (Nat×Ch)->Prop):Prop:=
 match o.op,o.dst with
 |.buildSlice t n parts,some d=>bif own then(bif qd d cs then(match parts.toList with
  |[]=>qI P tr t n λch=>K (.g (.a (.own d))) (Td (d,ch)) Te
  |_=>False)else False)else False
 |.call c,some d=>match c.callee,c.args.toList,c.argTypes.toList,jL k b with
  |.builtin .append,[s,x],[t,tx],Td (c0,.row e0 t0 xs)=>match dZ e [] s,dZ e [] x with
   |some (.g (.a (.own c1))),some sv=>bif Nat.beq c1 c0 then(bif qd d cs then sN P tr t tx e0 t0 xs sv (λel ty ys=>bif own then K (.g (.a (.own d))) (Td (d,.row el ty ys)) (Td (c0,.row e0 t0 xs))else K (.g (.a (.d (.row ty) ys))) Te (Td (c0,.row e0 t0 xs)))else False)else False
   |_,_=>False
  |_,_,_,_=>False
 |_,_=>False
theorem CX{k:Nat}{e:qc}{IL:List It}{own:Bool}{K:AV->Option (Nat×Ch)->Option (Nat×Ch)->Prop}(H:tv P tr o k e IL cs own K):
  ∃nb eat av,Spec h0 W M0 P o e [] cs nb (· = av) eat/\K av nb eat/\∀c,eat=Td c->jL k IL=Td c:=by
 unfold tv at H;split at H;rename_i t n S d V u;cases own with
 |false=>exact H.elim
 |true=>
  simp only[zI]at H;cases hR:qd d cs with
  |false=>rw[hR]at H;exact H.elim
  |true=>rw[hR]at H;simp only[zI]at H;split at H;rename_i hp;obtain⟨el,ty,O,j⟩:=GP (h0:=h0) (W:=W) (M0:=M0) (d:=d) V hp H;refine⟨_,Te,_,⟨λn γ h a Y l I w _ _ _=>?_,λn γ a l p=>absurd trivial p,λb f=>?_,λj=>absurd rfl j⟩,O,λc q=>by cases q⟩;refine(j γ h a (Y++cs) I (w _ rfl)).mono ?_;rintro v h' ⟨av,C',c,γ',⟨rfl,rfl,rfl⟩,h2,h3,h4⟩;exact⟨_,γ',rfl,h2,h3,h4⟩;cases f;exact⟨hR,u,.inr ⟨⟨_,_,_,rfl⟩,rfl⟩⟩;exact H.elim
 ·rename_i c d V u;split at H
  ·rename_i s x t tx c0 Z t0 xs q m z F;split at H
   ·rename_i c1 sv Q T;cases f:Nat.beq c1 c0 with
    |false=>rw[f]at H;exact H.elim
    |true=>
     obtain rfl:=NJ f;rw[f]at H;simp only[zI]at H;cases hR:qd d cs with
     |false=>rw[hR]at H;exact H.elim
     |true=>
      rw[hR]at H;simp only[zI]at H;obtain⟨el,ty,ys,O,j⟩:=Ef (h0:=h0) (W:=W) (M0:=M0) (d:=d) V q m z H;have run:∀(n:Nat) (γ:Gh) (h:za) (a:Act) (Y:CS),SatA n e γ a->Inv h0 W M0 (Y++cs) γ h->(∀L,(Td (c1,Ch.row Z t0 xs):Option (Nat×Ch))=Td L->L∈Y++cs/\∀x∈Y++cs,x.1=L.1->x.2=L.2)->qd d (Y++cs)=Ta ->
        ExA P (execOp a.eval o) h λv h'=>∃γ',DenV γ' (.g (.a (.own d))) v/\Inv h0 W M0 ((d,.row el ty ys)::Y3 c1 (Y++cs)) γ' h'/\Gx (Td d) γ γ':=by
       intro n γ h a Y l I J w;obtain⟨h1,h2⟩:=J _ rfl;have hf:=zY h1 h2;refine(j γ h a (Y++cs) c1 I hf (zl l (c:=[]) trivial Q) (zl l (c:=[]) trivial T)).mono ?_;rintro v h' ⟨av,C',L,γ',⟨rfl,rfl,rfl⟩,B,y,r⟩;rw[Oe,y4 (oR w)]at y;exact⟨γ',B,y,r⟩
      cases own with
      |true=>refine⟨Td (d,.row el ty ys),Td (c1,.row Z t0 xs),.g (.a (.own d)),⟨λn γ h a Y l I w J D _=>?_,λn γ a l p=>absurd trivial p,λb f=>?_,λ_=>⟨d,u,hR⟩⟩,O,λc q=>by cases q;exact F⟩;refine(run n γ h a Y l I J (w _ rfl)).mono ?_;rintro v h' ⟨γ',B,y,r⟩;exact⟨_,γ',rfl,B,y,r⟩;cases f;exact⟨hR,u,.inr ⟨⟨_,_,_,rfl⟩,rfl⟩⟩
      |false=>refine⟨Te,Td (c1,.row Z t0 xs),.g (.a (.d (.row ty) ys)),⟨λn γ h a Y l I w J D _=>?_,λn γ a l p=>absurd trivial p,λb f=>(by cases f),λ_=>⟨d,u,hR⟩⟩,O,λc q=>by cases q;exact F⟩;have C:=D d u (by simp);refine(run n γ h a Y l I J C).mono ?_;rintro v h' ⟨γ',B,y,r⟩;obtain⟨E,N,g2⟩:=Inv.freeze1 (A:=[]) y;have U:Rd E.M (.row ty) ys [aK (E.σ d)]:=N.den (d,.fz ty ys) (by simp);have p:v=aK (γ'.σ d):=B;have hσ:E.σ d=γ'.σ d:=(g2.2 d (by simp)).2;have G:=Zy (oR (d:=c1) C);refine⟨_,{ E with β:=γ.β,σ:=γ.σ },rfl,?_,?_,⟨r.1.trans g2.1,λi _=>⟨rfl,rfl⟩⟩⟩;show Rd E.M (.row ty) ys [v];rw[p,<-hσ];exact U;refine N.rest (by simp[jn]) (c:=Td d) ⟨Fr.le.refl _,λi hi=>?_⟩ (λx j=>⟨(G x j).1,(G x j).2⟩) (λx j b f=>⟨rfl,(N.sep x (by simp;exact .inr j) b f).2⟩) N.ag (λ_ _ _=>rfl) (ND _) (λ_ _=>rfl);have a1:=r.2 i hi;have a2:=g2.2 i (by simp);exact⟨a1.1.symm.trans a2.1.symm,a1.2.symm.trans a2.2.symm⟩
   exact H.elim
  exact H.elim
 exact H.elim
def qk(ops:Array Oper)(m:Nat):List Nat:=js (ops.toList.take m)
def Qr(av:AV):List Nat->Bool
 |[]=>Ta
 |s::l=>bif gg s av then Tc else Qr av l
theorem wk{av:AV}:∀{l:List Nat},Qr av l=Ta->∀s∈l,gg s av=Tc
 |[],_,s,b=>by cases b
 |x::l,h,s,b=>by
  simp only[Qr]at h;cases hb:gg x av with
  |true=>rw[hb]at h;cases h
  |false=>rw[hb]at h;rcases NI.1 b with rfl|b;exact hb;exact wk h s b
def fN(S:List Nat):qc->qc
 |[]=>[]
 |(i,[],v)::e=>bif memN S i then fN S e else(bif Qr v S then(i,[],v)::fN S e else fN S e)
 |(_,_::_,_)::e=>fN S e
theorem jk{S:List Nat}{x:Nat×zq×AV}:∀{e:qc},x∈fN S e->x∈e/\x.2.1=[]/\x.1∉S/\Qr x.2.2 S=Ta
 |[],h=>by cases h
 |(i,[],v)::e,h=>by
  simp only[fN]at h;cases hm:memN S i with
  |true=>rw[hm]at h;exact⟨NF _ (jk h).1,(jk h).2⟩
  |false=>
   rw[hm]at h;simp only[zJ]at h;cases hn:Qr v S with
   |false=>rw[hn]at h;exact⟨NF _ (jk h).1,(jk h).2⟩
   |true=>rw[hn]at h;rcases NI.1 h with rfl|h;exact⟨NQ,rfl,Zn hm,hn⟩;exact⟨NF _ (jk h).1,(jk h).2⟩
 |(_,_::_,_)::e,h=>⟨NF _ (jk (e:=e) h).1,(jk (e:=e) h).2⟩
def qZ(ops:Array Oper)(o:Oper):zq->Bool
 |[]=>Ta
 |[(g,_)]=>match o.guard with
  |some (j,_)=>match yd ops j with
   |some g'=>Nat.beq g g'
   |none=>Tc
  |none=>Tc
 |_=>Tc
def yZ:List Nat->Nat->Bool
 |[x],k=>Nat.beq x k
 |_,_=>Tc
def ow:List Nat->Nat->Bool
 |[],_=>Tc
 |x::l,k=>bif Nat.beq x k then Ta else ow l k
theorem vc{k:Nat}:∀{l:List Nat},ow l k=Ta->k∈l
 |[],h=>by cases h
 |x::l,h=>by
  simp only[ow]at h;cases hb:Nat.beq x k with
  |true=>rw[NJ hb];exact NQ
  |false=>rw[hb]at h;exact NF _ (vc h)
def i8(ops:Array Oper)(m:Nat)(o:Oper)(k:Nat)(pl:Array Bool):Bool:=
 bif Nat.blt k m then(bif Zt ops k (xc ops o) m then(bif qt o then yZ (Region.ready .any ops pl) k else ow (Region.ready .any ops pl) k)else Tc)else Tc
def lJ(S:List Nat)(av:AV)(b:Option (Nat×Ch)):Bool:=match b with
 |none=>Qr av S
 |some _=>Ta
def jW(pl:Array Bool):Nat->Bool
 |0=>Ta
 |k+1=>bif pl.getD k Tc then jW pl k else Tc
theorem vH{pl:Array Bool}:∀{m:Nat},jW pl m=Ta->∀k,k<m->pl.getD k Tc=Ta
 |0,_,k,hk=>by omega
 |m+1,h,k,hk=>by
  simp only[jW]at h;cases hb:pl.getD m Tc with
  |false=>rw[hb]at h;cases h
  |true=>
   rw[hb]at h;rcases Ob k m with b|b;exact vH h k b;have:k=m:=by omega
   subst this;exact hb
def nS(P:Program)(ρ:Operand->Option AV)(o:Oper):Bool:=bif gp o then(bif gA P o then(bif Qb o.op then jE ρ o.op.operands.toList else Tc)else Tc)else Tc
def fH(P:Program)(e:qc)(c:zq)(o:Oper):Bool:=match o.op with
 |.pick _ _ _=>Ta
 |.move _=>Ta
 |.assign _=>Ta
 |.extract _ _=>Ta
 |.alloc _=>Tc
 |.box _ _=>Tc
 |.buildSlice _ _ _=>Tc
 |.call _=>Tc
 |.load _ _=>Tc
 |.indexAddr _ _ _=>Tc
 |_=>nS P (dZ e c) o
theorem Lz{e:qc}(h:fH P e c o=Ta):qt o=Tc:=by unfold qt;split;rename_i c b;rw[fH,b]at h;cases h;rfl
def lR(P:Program)(o:Oper)(e:qc)(ch:zq)(Kan:AV->Prop):Prop:=
 ∀av,Kan av->∀(n:Nat) (γ:Gh) (a:Act),SatA n e γ a->valid (zt a) ch->∃v,DenV γ av v/\∀w,(execOp a.eval o).run P w=.ok (.value v) w
theorem QExec.all{α:Type}{s:Sem α}{x:α}(H:∀h,QExec P s h x)(w:World):s.run P w=.ok x w:=H w.heap w w.drawn
theorem FA{e:qc}{K:AV->Prop}(H:hX P gl o e c cs K)(A:fH P e c o=Ta):∃av,K av/\lR P o e c (· = av):=by
 unfold hX at H;split at H;rename_i x y z r;obtain⟨av,I,E⟩:=Y9 H;refine⟨av,I,λm k n γ a j f=>?_⟩;obtain⟨t,Q,O⟩:=E n γ a j f;subst k;refine⟨_,O,QExec.all λh B d=>?_⟩;simp only[execOp,r,Q,asBool,Sem.run_bind,Sem.run_pure,Result.andThen_ok];rename_i J;split at H;rename_i g G;unfold qA at H;split at H;rename_i b s;exact⟨_,H,λm k n γ a j f=>⟨_,k ▸ (show DenV γ (.g (.a (.v (.bool b)))) _ from rfl),QExec.all λh=>vw s (λx av F=>zl j f F) h⟩⟩;split at H;rename_i b s;exact⟨_,H,λm k n γ a j f=>⟨_,k ▸ (show DenV γ (.g (.a (.v (.bool b)))) _ from rfl),QExec.all λh=>BN s (λx av F=>zl j f F) h⟩⟩;split at H;rename_i t b off w;exfalso;unfold qO at w;split at w;rename_i t' x r;rw[fH,r]at A;cases A;cases w;split at H;rename_i b off n len z w;exfalso;unfold tX at w;split at w;rename_i t' x i r;rw[fH,r]at A;cases A;cases w;unfold nF at H;cases s:nS P (dZ e c) o with
 |true=>
  unfold nS at s;rw[s]at H;cases hfam:gp o with
  |false=>rw[hfam]at s;cases s
  |true=>
   cases hq:gA P o with
   |false=>rw[hfam,hq]at s;cases s
   |true=>
    cases hns:Qb o.op with
    |false=>rw[hfam,hq,hns]at s;cases s
    |true=>rw[hfam,hq,hns]at s;simp only[zI]at s H;obtain⟨v,I,E⟩:=tJ hfam H;refine⟨_,I,λm k n γ a j f=>⟨v,k ▸ Ya γ v,QExec.all λh=>?_⟩⟩;rw[yU (γ:=γ) (λx av F=>zl j f F) hns s];exact E (j5 j G f) h ⟨by simp,λi hi=>absurd hi (by simp)⟩
 |false=>
  have D:=s;unfold nS at D;rw[D]at H;simp only[zJ]at H;unfold fH at A;split at A;rename_i x y z r;exact absurd r (J x y z);rename_i x r;rw[r]at H;simp only at H;split at H;rename_i av q;exact⟨av,H,λm k n γ a j f=>⟨_,k ▸ zl j f q,QExec.all λh=>by simp only[execOp,r];exact QExec.pure _⟩⟩;exact H.elim;rename_i x r;rw[r]at H;simp only at H;split at H;rename_i av q;exact⟨av,H,λm k n γ a j f=>⟨_,k ▸ zl j f q,QExec.all λh=>by simp only[execOp,r];exact QExec.pure _⟩⟩;exact H.elim;rename_i x i r;rw[r]at H;simp only at H;split at H;rename_i l q;split at H;rename_i ag L;refine⟨_,H,λm k n γ a j f=>?_⟩;subst k;obtain⟨us,C,E⟩:=zl j f q;obtain⟨u,N,M⟩:=E.get L;refine⟨u,M,QExec.all λh=>?_⟩;simp only[execOp,r,C];refine QExec.val λB d=>?_;unfold Instr.extract;simp[N];exact H.elim;rename_i b p c q;split at H;refine⟨_,H,λm k n γ a j f=>⟨_,k ▸ (show DenV γ (.g (.a (.v (.bool b)))) _ from rfl),QExec.all λh=>?_⟩⟩;obtain⟨C,S⟩:=zl j f q;simp only[execOp,r];refine QExec.val λB d=>?_;cases b with
  |true=>rw[C rfl];rfl
  |false=>rw[S rfl];rfl
  refine⟨_,H.2,λm k n γ a j f=>⟨_,k ▸ (show DenV γ (.g (.a (.v (.int .i64 p)))) _ from rfl),QExec.all λh=>?_⟩⟩;obtain⟨C,_⟩:=zl j f q;simp only[execOp,r,C (H.1.out (j5 j G f))];exact QExec.val λB d=>rfl;refine⟨_,H.2,λm k n γ a j f=>⟨_,k ▸ (show DenV γ (.g (.a (.v (.int .i32 c)))) _ from rfl),QExec.all λh=>?_⟩⟩;obtain⟨C,_⟩:=zl j f q;simp only[execOp,r,C (H.1.out (j5 j G f))];exact QExec.val λB d=>rfl;exact H.elim;exact H.elim;cases A;cases A;cases A;cases A;cases A;cases A;rw[s]at A;cases A
 exact H.elim
theorem Dw{e:qc}{ch:zq}{K:AV->Option (Nat×Ch)->Prop}(H:l7 P gl tr o e ch cs K)(f:fH P e ch o=Ta):
  ∃av,Spec h0 W M0 P o e ch cs Te (· = av)/\K av Te/\lR P o e ch (· = av):=by
 have q:hX P gl o e ch cs λav=>K av Te:=by unfold l7 at H;split at H;rename_i t i;rw[fH,i]at f;cases f;rename_i t x i;rw[fH,i]at f;cases f;rename_i t n ps i;rw[fH,i]at f;cases f;rename_i c i;rw[fH,i]at f;cases f;exact H
 obtain⟨av,u,l⟩:=FA q f;refine⟨av,⟨λn γ h a Y k I _ _ _ j=>?_,λn γ a k j=>⟨rfl,rfl,av,rfl⟩,λb p=>(by cases p),λs=>absurd rfl s⟩,u,l⟩;obtain⟨v,m,r⟩:=l av rfl n γ a k j;exact λB d=>.inl ⟨v,d,h,r _,av,γ,rfl,m,I,Gx.refl _ _⟩
def sD(ops:Array Oper)(k:Nat)(o:Oper)(j:Nat):Bool:=bif Nat.beq j k then Ta else bif Region.waitsFor .any ops j k then Ta else bif Region.waitsFor .any ops k j then Ta else match ops[j]? with
 |some b=>o.apart ops b
 |none=>Ta
def jH(ops:Array Oper)(k:Nat)(o:Oper):Nat->Bool
 |0=>Ta
 |j+1=>bif sD ops k o j then jH ops k o j else Tc
theorem uW{ops:Array Oper}{k:Nat}{o:Oper}:∀{n:Nat},jH ops k o n=Ta->∀j b,j<n->ops[j]?=Td b->j≠k->Region.waitsFor .any ops j k=Tc->Region.waitsFor .any ops k j=Tc->o.apart ops b=Ta
 |0,_,j,b,hj,_,_,_,_=>by omega
 |n+1,h,j,b,hj,ho,h1,h2,h3=>by
  simp only[jH]at h;cases hx:sD ops k o n with
  |false=>rw[hx]at h;cases h
  |true=>
   rw[hx]at h;rcases Ob j n with c|c;exact uW h j b c ho h1 h2 h3;have:j=n:=by omega
   subst this;have e:Nat.beq j k=Tc:=by
    cases hb:Nat.beq j k with
    |false=>rfl
    |true=>exact absurd (NJ hb) h1
   unfold sD at hx;rw[e,h2,h3,ho]at hx;exact hx
def pq(P:Program)(ops:Array Oper)(pu:List Nat)(o:Oper)(k:Nat)(e:qc)(ch:zq):Bool:=
 bif memN pu k then(bif fH P e ch o then jH ops k o ops.size else Tc)else Ta
def rv(ops:Array Oper)(m k:Nat):Option Nat->Bool
 |none=>Ta
 |some j=>bif Nat.blt j m then Region.waitsFor .any ops j k else Tc
def uC(pu:List Nat)(k:Nat):Option (Option Nat):=bif memN pu k then Te else ni pu k
def iT:List It->List It
 |[]=>[]
 |i::l=>(match i.us with
  |some _=>{ i with nb:=Te }
  |none=>i)::iT l
def dW(P:Program)(gl:Fr)(tr:TypeId)(n:Nat)(ops:Array Oper)(m:Nat)(pu:List Nat)(b:qc)(cs:CS)(Kt:List It->Prop):List Nat->Array Bool->List It->Prop
 |[],pl,IL=>bif jW pl m then Kt (iT IL)else False
 |k::ord,pl,IL=>match ops[k]? with
  |none=>False
  |some o=>bif i8 ops m o k pl then(match Qq ops (J0 (xc ops o) (d8 IL++b)) o.guard with
   |some ch=>bif qZ ops o ch then(bif yr n ch o.dst then(bif pq P ops pu o k (J0 (xc ops o) (d8 IL++b)) ch then(match uC pu k with
    |none=>l7 P gl tr o (J0 (xc ops o) (d8 IL++b)) ch cs (λav c=>bif lJ (qk ops m) av c then dW P gl tr n ops m pu b cs Kt ord (pl.setIfInBounds k Ta) (⟨k,o.dst,ch,av,c,Te⟩::IL)else False)
    |some us=>bif rv ops m k us then(match ch with
     |[]=>tv P tr o k (J0 (xc ops o) (d8 IL++b)) IL cs us.isSome (λav c _=>bif lJ (qk ops m) av c then dW P gl tr n ops m pu b cs Kt ord (pl.setIfInBounds k Ta) (⟨k,o.dst,[],av,c,us⟩::IL)else False)
     |_=>False)else False)else False)else False)else False
   |none=>False)else False
def strip(listed:Array Bool)(i:It):It:=match i.us with
 |some j=>bif listed.getD j Tc then { i with nb:=Te } else i
 |none=>i
theorem kq(listed:Array Bool)(i:It):(strip listed i).k=i.k/\(strip listed i).dst=i.dst/\(strip listed i).ch=i.ch/\(strip listed i).av=i.av/\(strip listed i).us=i.us/\((strip listed i).nb=i.nb\/(strip listed i).nb=Te):=by
 unfold strip;split;cases listed.getD _ Tc with
 |true=>exact⟨rfl,rfl,rfl,rfl,rfl,.inr rfl⟩
 |false=>exact⟨rfl,rfl,rfl,rfl,rfl,.inl rfl⟩
 exact⟨rfl,rfl,rfl,rfl,rfl,.inl rfl⟩
def dT(k:Nat)(i:It):It:=match i.us with
 |some j=>bif Nat.beq j k then { i with nb:=Te } else i
 |none=>i
theorem oL(k:Nat)(i:It):(dT k i).k=i.k/\(dT k i).dst=i.dst/\(dT k i).ch=i.ch/\(dT k i).av=i.av/\(dT k i).us=i.us/\((dT k i).nb=i.nb\/(dT k i).nb=Te):=by
 unfold dT;split;cases Nat.beq _ k with
 |true=>exact⟨rfl,rfl,rfl,rfl,rfl,.inr rfl⟩
 |false=>exact⟨rfl,rfl,rfl,rfl,rfl,.inl rfl⟩
 exact⟨rfl,rfl,rfl,rfl,rfl,.inl rfl⟩
def x8(listed:Array Bool):List It->List It
 |[]=>[]
 |i::l=>bif listed.getD i.k Tc then strip listed i::x8 listed l else x8 listed l
theorem oY{listed:Array Bool}{i:It}:∀{l:List It},i∈l->listed.getD i.k Tc=Ta->strip listed i∈x8 listed l
 |j::l,h,hl=>by
  simp only[x8];rcases NI.1 h with rfl|h;rw[hl];exact NQ;cases listed.getD j.k Tc with
  |true=>exact NF _ (oY h hl)
  |false=>exact oY h hl
theorem Jd{listed:Array Bool}{x:It}:∀{l:List It},x∈x8 listed l->∃i∈l,listed.getD i.k Tc=Ta/\x=strip listed i
 |j::l,h=>by
  simp only[x8]at h;cases hl:listed.getD j.k Tc with
  |true=>rw[hl]at h;rcases NI.1 h with rfl|h;exact⟨j,NQ,hl,rfl⟩;obtain⟨i,hi,q⟩:=Jd h;exact⟨i,NF _ hi,q⟩
  |false=>rw[hl]at h;obtain⟨i,hi,q⟩:=Jd h;exact⟨i,NF _ hi,q⟩
structure ItOK (h0:za) (W:Nat->Prop) (M0:Fr) (P:Program) (n:Nat) (ops:Array Oper) (m:Nat) (pu:List Nat) (e0:qc) (cs:CS) (IL:List It) (it:It) (Kan:AV->Prop):Prop where
 lt:it.k<m
 dst:yd ops it.k=it.dst
 ok:yr n it.ch it.dst=Ta
 chw:∀x∈it.ch,∀p,p<m->yd ops p=Td x.1->Region.waitsFor .any ops it.k p=Ta
 ex:∃o e eat,ops[it.k]?=Td o/\Qq ops e o.guard=Td it.ch/\Spec h0 W M0 P o e it.ch cs it.nb Kan eat /\
  (∀x∈e,x∈e0\/(x∈d8 IL/\∀p,p<m->yd ops p=Td x.1->Region.waitsFor .any ops it.k p=Ta)) /\
  (memN pu it.k=Ta->it.nb=Te/\lR P o e it.ch Kan/\jH ops it.k o ops.size=Ta/\qt o=Tc) /\
  (∀c,eat=Td c->∃i∈IL,i.nb=Td c/\i.us=Td it.k)
 use:∀j,it.us=Td j->j<m/\Region.waitsFor .any ops j it.k=Ta
 men:∀av,Kan av->it.nb=Te->Qr av (qk ops m)=Ta
theorem ItOK.mono{k:qc}{l b:List It}{it:It}{Kan:AV->Prop}(H:ItOK h0 W M0 P n ops m pu k cs l it Kan)(j:∀i∈l,i∈b):ItOK h0 W M0 P n ops m pu k cs b it Kan:= {lt:=H.lt,dst:=H.dst,ok:=H.ok,chw:=H.chw,men:=H.men,use:=H.use,ex:=by obtain⟨o,e,eat,y,u,r,p,h,f⟩:=H.ex;refine⟨o,e,eat,y,u,r,λx w=>(p x w).imp id λ⟨s,t⟩=>⟨?_,t⟩,h,λc z=>by obtain⟨i,hi,q⟩:=f c z;exact⟨i,j i hi,q⟩⟩;obtain⟨i,hi,q⟩:=W0.1 s;exact W0.2 ⟨i,j i hi,q⟩ }
theorem xy{i p:Nat}(hi:i∈Region.ready .any ops listed)(k:Region.waitsFor .any ops i p=Ta):listed.getD p Tc=Ta:=by obtain⟨l,f,e,h,j,c⟩:=Region.waitsFor_spec k;obtain⟨_,o,m,b⟩:=mem_ready.1 hi;have:l=o:=NY (f.symm.trans m);subst this;rw[<-c];exact b e h j
structure Mid (h0:za) (W:Nat->Prop) (M0:Fr) (P:Program) (n:Nat) (ops:Array Oper) (m:Nat) (e0:qc) (cs:CS) (listed:Array Bool) (IL:List It) (γ:Gh) (a:Act) (h:za):Prop where
 sat:SatA n (d8 (x8 listed IL)++e0) γ a
 inv:Inv h0 W M0 (dw (x8 listed IL)++cs) γ h
theorem Je{k:Nat}(h:ops[k]?=Td o):yd ops k=o.dst:=by simp[yd,h]
theorem rH{m k t:Nat}(e:k<m)(h:yd ops k=Td t):t∈qk ops m:=by
 unfold yd at h;split at h;rename_i o f;unfold qk;have b:o∈ops.toList.take m:=by rw[List.mem_iff_getElem?];exact⟨k,by rw[N4,zz e];simpa using f⟩
 generalize ops.toList.take m=l at b;induction l with
 |nil=>cases b
 |cons x l c=>simp only[js];rcases NI.1 b with rfl|b;rw[h];exact NQ;split;exact NF _ (c b);exact c b
 cases h
theorem lB{x:Nat×Ch}:∀{l:List It},x∈dw l↔∃i∈l,i.nb=Td x
 |[]=>by simp[dw]
 |i::l=>by simp only[dw];split;rename_i b e;rw[NI,lB (l:=l)];constructor;rintro(rfl|⟨j,c,h⟩);exact⟨i,NQ,e⟩;exact⟨j,NF _ c,h⟩;rintro⟨j,c,h⟩;rcases NI.1 c with rfl|c;left;rw[e]at h;exact(NY h).symm;exact .inr ⟨j,c,h⟩;rename_i e;rw[lB (l:=l)];constructor;rintro⟨j,c,h⟩;exact⟨j,NF _ c,h⟩;rintro⟨j,c,h⟩;rcases NI.1 c with rfl|c;rw[e]at h;cases h;exact⟨j,c,h⟩
theorem x4{c:Nat}:∀{l:CS},(∀x∈l,x.1≠c/\fB c x.2=Tc)->qd c l=Ta
 |[],_=>rfl
 |(j,k)::l,h=>by
  obtain⟨f,b⟩:=h _ NQ;simp only[qd];have:Nat.beq j c=Tc:=by
   cases hb:Nat.beq j c with
   |false=>rfl
   |true=>exact absurd (NJ hb) f
  rw[this,b];exact x4 λx e=>h x (NF _ e)
theorem BH{e0:qc}(af:Ql ops m=Ta)(aN:∀x∈e0,x.2.1=[]/\x.1∉qk ops m/\Qr x.2.2 (qk ops m)=Ta)
  {t:List It} (E:∀i∈t,∃Kan,ItOK h0 W M0 P n ops m pu e0 cs t i Kan/\Kan i.av) (am:∀i∈t,∀j∈t,i.k=j.k->i=j) (bb:HeadInv .any ops m listed) (M:Mid h0 W M0 P n ops m e0 cs listed t γ a h)
  {it:It} {Kan:AV->Prop} (T:ItOK h0 W M0 P n ops m pu e0 cs t it Kan) (hr:it.k∈Region.ready .any ops listed):
  ∃o e eat,ops[it.k]?=Td o/\o.dst=it.dst/\SatA n e γ a/\Qq ops e o.guard=Td it.ch/\Spec h0 W M0 P o e it.ch cs it.nb Kan eat/\(memN pu it.k=Ta->it.nb=Te/\lR P o e it.ch Kan/\jH ops it.k o ops.size=Ta/\qt o=Tc) /\
   (∀b,it.nb=Td b->qd b.1 (dw (x8 listed t)++cs)=Ta) /\
   (∀c,eat=Td c->c∈dw (x8 listed t)++cs/\∀x∈dw (x8 listed t)++cs,x.1=c.1->x.2=c.2)/\(∀d,o.dst=Td d->eat≠Te->qd d (dw (x8 listed t)++cs)=Ta) /\
   ∀av u γ' h',Kan av->(valid (zt a) it.ch->DenV γ' av u)->(¬valid (zt a) it.ch->u=undef)->Inv h0 W M0 (it.nb.toList++jn eat (dw (x8 listed t)++cs)) γ' h'->Gx (it.nb.map (·.1)) γ γ' ->
    ∀L':List It,L'.Perm ({ it with av:=av }::(x8 listed t).map (dT it.k))->SatA n (d8 L'++e0) γ' (a.put it.dst u)/\Inv h0 W M0 (dw L'++cs) γ' h':=by
 obtain⟨o,e,eat,ho,aE,sp,aB,az,S⟩:=T.ex
 have ac:o.dst=it.dst:=by rw[<-Je ho];exact T.dst
 have al:listed.getD it.k Ta=Tc:=(mem_ready.1 hr).1
 have ak:SatA n e γ a:=M.sat.sub λx r=>by
  rcases aB x r with N|⟨N,L⟩
  ·exact N1 _ N
  ·refine NT _ ?_
   obtain⟨i,hi,q⟩:=W0.1 N
   obtain⟨Ki,F,_⟩:=E i hi
   have hw:=L i.k F.lt (by rw[F.dst];exact q.1)
   obtain⟨f1,f2,f3,f4,_⟩:=kq listed i
   exact W0.2 ⟨strip listed i,oY hi (xy hr hw),by rw[f2];exact q.1,by rw[f3];exact q.2.1,by rw[f4];exact q.2.2⟩
 have hw:=j8 ak aE
 have ah:∀i∈x8 listed t,i.k≠it.k:=by
  intro x hi e
  obtain⟨i,A,this,rfl⟩:=Jd hi
  rw[(kq listed i).1]at e
  rw[e]at this
  have L:=getD_both al
  rw[L]at this
  cases this
 have ai:∀d,o.dst=Td d->qd d cs=Ta->qd d (dw (x8 listed t)++cs)=Ta:=by
  intro d L N
  refine x4 λx r=>?_
  rcases N0.1 r with r|r
  ·obtain⟨i',hi,z⟩:=lB.1 r
   obtain⟨i,A,ab,rfl⟩:=Jd hi
   have aa:=ah _ hi
   obtain⟨f1,_,_,_,_,G⟩:=kq listed i
   have w:i.nb=Td x:=by
    rcases G with G|G
    ·rw[<-G];exact z
    ·rw[G]at z;cases z
   obtain⟨Ki,F,ap⟩:=E i A
   obtain⟨oi,ei,aF,O,_,Q,_,_⟩:=F.ex
   obtain⟨_,h4,U⟩:=Q.box x w
   refine⟨λe=>aa ?_,?_⟩
   ·rw[f1]
    refine jb af i.k it.k d F.lt T.lt ?_ (by rw[T.dst,<-ac];exact L)
    rw[Je O,h4,e]
   ·rcases U with⟨⟨l,U,h6⟩,_⟩|⟨⟨e',t',be,U⟩,_⟩
    ·rw[U];exact Zq h6
    ·rw[U];rfl
  ·obtain⟨e1,e2⟩:=Zy N x r
   exact⟨λe=>e1 (by rw[e]),e2⟩
 have aI:∀b,it.nb=Td b->qd b.1 (dw (x8 listed t)++cs)=Ta:=by
  intro b H
  obtain⟨N,L,_⟩:=sp.box b H
  exact ai b.1 L N
 have aP:∀d,o.dst=Td d->eat≠Te->qd d (dw (x8 listed t)++cs)=Ta:=by
  intro d hd he
  obtain⟨d',a7,hn⟩:=sp.dn he
  have:d'=d:=NY (a7.symm.trans hd)
  subst this
  exact ai d' hd hn
 have aJ:∀c,eat=Td c->∀i∈t,∀b,i.nb=Td b->b.1=c.1->i.us=Td it.k/\b=c:=by
  intro c B i hi b H e1
  obtain⟨Z,I,D,J⟩:=S c B
  obtain⟨Ki,F,_⟩:=E i hi
  obtain⟨K3,T3,_⟩:=E Z I
  obtain⟨oi,ei,aF,O,_,Q,_⟩:=F.ex
  obtain⟨o3,e3,aQ,aC,_,ax,_⟩:=T3.ex
  obtain⟨_,d1,_⟩:=Q.box b H
  obtain⟨_,d3,_⟩:=ax.box c D
  have hk:i.k=Z.k:=jb af i.k Z.k c.1 F.lt T3.lt (by rw[Je O,d1,e1]) (by rw[Je aC,d3])
  have:i=Z:=am i hi Z I hk
  subst this
  exact⟨J,NY (H.symm.trans D)⟩
 have aL:∀c,eat=Td c->qd c.1 cs=Ta:=by
  intro c B
  obtain⟨Z,I,D,J⟩:=S c B
  obtain⟨K3,T3,_⟩:=E Z I
  obtain⟨o3,e3,aQ,aC,_,ax,_⟩:=T3.ex
  exact(ax.box c D).1
 have a6:∀x∈dw (x8 listed t),∃i∈t,i.nb=Td x:=by
  intro x r
  obtain⟨i',hi,z⟩:=lB.1 r
  obtain⟨i,A,ab,rfl⟩:=Jd hi
  rcases(kq listed i).2.2.2.2.2 with G|G
  ·exact⟨i,A,by rw[<-G];exact z⟩
  ·rw[G]at z;cases z
 have ar:∀c,eat=Td c->c∈dw (x8 listed t)++cs/\∀x∈dw (x8 listed t)++cs,x.1=c.1->x.2=c.2:=by
  intro c B
  refine⟨NT _ ?_,λx r e=>?_⟩
  ·obtain⟨Z,I,D,J⟩:=S c B
   obtain⟨K3,T3,_⟩:=E Z I
   have hw:=(T3.use _ J).2
   have hl:=xy hr hw
   refine lB.2 ⟨strip listed Z,oY I hl,?_⟩
   unfold strip
   rw[J]
   simp only
   rw[getD_both al]
   exact D
  ·rcases N0.1 r with r|r
   ·obtain⟨i,hi,w⟩:=a6 x r
    rw[(aJ c B i hi x w e).2]
   ·exact absurd (by rw[e]) (Zy (aL c B) x r).1
 refine⟨o,e,eat,ho,ac,ak,aE,sp,az,aI,ar,aP,?_⟩
 ·intro av u γ' h' bd hy hn I' g L' hp
  refine⟨?_,?_⟩
  ·refine⟨by rw[jy];exact M.sat.defers,by rw[size_put];exact M.sat.size,λx r=>?_⟩
   have old:∀x:Nat×zq×AV,x∈d8 (x8 listed t)++e0->(∀s,it.dst=Td s->x.1≠s/\mentions x.2.1 s=Tc)->fS gg (it.nb.map (·.1)) x.2.2=Tc->g8 γ' (zt (a.put it.dst u)) x:=by
    intro x r hs hm
    have hf:=M.sat.all x r
    cases hd:it.dst with
    |none=>
     exact⟨λhv=>(hf.1 hv).gx g hm,hf.2⟩
    |some s=>
     obtain⟨N,L⟩:=hs s hd
     have hv:=w8 (σ:=zt (a.put (Td s) u)) (τ:=zt a) L (λj hj=>qa hj)
     refine⟨λB=>?_,λB=>?_⟩
     ·rw[qa N];exact(hf.1 (hv.1 B)).gx g hm
     ·exact(qa N).trans (hf.2 λan=>B (hv.2 an))
   have aG:∀s,it.dst=Td s->s∈qk ops m:=λs hs=>rH T.lt (by rw[T.dst];exact hs)
   have aj:∀au,(Qr au (qk ops m)=Ta)->fS gg (it.nb.map (·.1)) au=Tc:=by
    intro au N
    cases w:it.nb with
    |none=>rfl
    |some b=>
     obtain⟨_,L,_⟩:=sp.box b w
     exact wk N b.1 (aG _ (by rw[<-ac];exact L))
   rcases N0.1 r with r|r
   ·obtain⟨i,hi,D,J,q3⟩:=W0.1 r
    rcases NI.1 (hp.subset hi)with rfl|Y
    ·-- the new fact
     simp only at D J q3
     have aD:x.1<a.tmps.size:=by
      rw[M.sat.size]
      have:=T.ok
      rw[D]at this
      simp only[yr]at this
      cases hm:mentions it.ch x.1 with
      |true=>rw[hm]at this;cases this
      |false=>rw[hm]at this;simpa[Pp]using this
     have aH:mentions it.ch x.1=Tc:=by
      have:=T.ok
      rw[D]at this
      simp only[yr]at this
      cases hm:mentions it.ch x.1 with
      |true=>rw[hm]at this;cases this
      |false=>rfl
     rw[D]
     have hv:=w8 (σ:=zt (a.put (Td x.1) u)) (τ:=zt a) aH (λj hj=>qa hj)
     refine⟨λB=>?_,λB=>?_⟩
     ·rw[jo aD,<-q3];rw[<-J]at B;exact hy (hv.1 B)
     ·rw[jo aD];rw[<-J]at B;exact hn λan=>B (hv.2 an)
    ·obtain⟨i1,aA,rfl⟩:=N9.1 Y
     obtain⟨c1,c2,c3,c4,_⟩:=oL it.k i1
     rw[c2]at D
     rw[c3]at J
     rw[c4]at q3
     have Y:=aA
     obtain⟨i,A,ab,rfl⟩:=Jd Y
     obtain⟨f1,f2,f3,f4,_⟩:=kq listed i
     have aZ:=W0.2 ⟨strip listed i,Y,D,J,q3⟩
     rw[f2]at D
     rw[f3]at J
     rw[f4]at q3
     have aa:i.k≠it.k:=by rw[<-f1];exact ah _ Y
     obtain⟨Ki,F,ap⟩:=E i A
     obtain⟨oi,ei,aF,O,_,Q,_,_⟩:=F.ex
     refine old x (NT _ aZ) (λs hs=>⟨λe=>aa ?_,?_⟩) ?_
     ·exact jb af i.k it.k s F.lt T.lt (by rw[F.dst,D,e]) (by rw[T.dst];exact hs)
     ·cases hm:mentions x.2.1 s with
      |false=>rfl
      |true=>
       exfalso
       rw[<-J]at hm
       have:∃y∈i.ch,y.1=s:=by
        have key:∀c:zq,mentions c s=Ta->∃y∈c,y.1=s:=by
         intro c
         induction c with
         |nil=>intro h;cases h
         |cons y c C=>
          intro h
          obtain⟨g,p⟩:=y
          simp only[mentions]at h
          cases H:Nat.beq s g with
          |true=>exact⟨(g,p),NQ,(NJ H).symm⟩
          |false=>
           rw[H]at h
           obtain⟨y,hy,e⟩:=C h
           exact⟨y,NF _ hy,e⟩
        exact key _ hm
       obtain⟨y,a8,aY⟩:=this
       have aV:=F.chw y a8 it.k T.lt (by rw[T.dst,hs,aY])
       obtain⟨oj,aO,e',aS,aU,ba⟩:=Region.waitsFor_spec aV
       have:=bb.closed i.k oj aO ab e' aS aU
       rw[ba,getD_both al]at this
       cases this
     ·rw[<-q3]
      cases hnbi:i.nb with
      |none=>exact aj _ (F.men _ ap hnbi)
      |some bi=>
       obtain⟨_,h4,U⟩:=Q.box bi hnbi
       have V:i.av=.g (.a (.box bi.1 0))\/i.av=.g (.a (.own bi.1)):=by
        have:=ap
        rcases U with⟨_,U⟩|⟨_,U⟩
        ·rw[U]at this;exact .inl this
        ·rw[U]at this;exact .inr this
       cases w:it.nb with
       |none=>rfl
       |some b=>
        obtain⟨_,L,_⟩:=sp.box b w
        have:Nat.beq bi.1 b.1=Tc->fS gg (Option.map (λx=>x.fst) (Td b)) i.av=Tc:=λhq=>by
         rcases V with V|V
         ·rw[V];exact hq
         ·rw[V];exact hq
        apply this
        cases H:Nat.beq bi.1 b.1 with
        |false=>rfl
        |true=>
         exfalso
         have:=NJ H
         exact aa (jb af i.k it.k b.1 F.lt T.lt (by rw[Je O,h4,this]) (by rw[T.dst,<-ac];exact L))
   ·obtain⟨b1,b2,b3⟩:=aN x r
    exact old x (N1 _ r) (λs hs=>⟨λe=>b2 (e ▸ aG s hs),by rw[b1];rfl⟩) (aj _ b3)
  ·have e1:dw ({ it with av:=av }::(x8 listed t).map (dT it.k))=it.nb.toList++dw ((x8 listed t).map (dT it.k)):=by
    simp only[dw]
    cases it.nb <;> rfl
   have ay:∀{l l':List It},l.Perm l'->(dw l).Perm (dw l'):=by
    intro l l' hp
    induction hp with
    |nil=>exact .nil
    |cons x p C=>simp only[dw];split;exact C.cons _;exact C
    |swap x y l=>
     simp only[dw]
     split <;> split <;> first|exact .swap _ _ _|exact .refl _
    |trans _ _ i1 i2=>exact i1.trans i2
   have sub:(dw ((x8 listed t).map (dT it.k))++cs).Sublist (jn eat (dw (x8 listed t)++cs)):=by
    have s0:∀l:List It,(dw (l.map (dT it.k))).Sublist (dw l):=by
     intro l
     induction l with
     |nil=>exact .slnil
     |cons x l C=>
      simp only[N2,dw]
      rcases(oL it.k x).2.2.2.2.2 with f|f
      ·rw[f]
       split
       ·exact C.cons_cons _
       ·exact C
      ·rw[f]
       simp only
       split
       ·exact C.cons _
       ·exact C
    cases he:eat with
    |none=>exact(s0 _).append_right cs
    |some c=>
     show(_:CS).Sublist (Y3 c.1 (dw (x8 listed t)++cs))
     have hd:Y3 c.1 (dw (x8 listed t)++cs)=Y3 c.1 (dw (x8 listed t))++cs:=by
      have ha:∀l m:CS,Y3 c.1 (l++m)=Y3 c.1 l++Y3 c.1 m:=by
       intro l m
       induction l with
       |nil=>rfl
       |cons x l C=>
        simp only[Ox,Y3]
        cases Nat.beq x.1 c.1 with
        |true=>exact C
        |false=>simp only[zJ,C,Ox]
      have H:∀l:CS,(∀x∈l,x.1≠c.1)->Y3 c.1 l=l:=by
       intro l
       induction l with
       |nil=>intro _;rfl
       |cons x l C=>
        intro r
        simp only[Y3]
        cases hq:Nat.beq x.1 c.1 with
        |true=>exact absurd (NJ hq) (r x NQ)
        |false=>rw[zJ,C λy hy=>r y (NF _ hy)]
      rw[ha,H cs λx r e=>(Zy (aL c he) x r).1 (by rw[e])]
     rw[hd]
     refine List.Sublist.append_right ?_ cs
     have s1:∀l:List It,(∀i∈l,∀b,i.nb=Td b->b.1=c.1->i.us=Td it.k)->(dw (l.map (dT it.k))).Sublist (Y3 c.1 (dw l)):=by
      intro l
      induction l with
      |nil=>intro _;exact .slnil
      |cons x l C=>
       intro hl
       have ae:=C λi hi=>hl i (NF _ hi)
       simp only[N2,dw]
       cases w:x.nb with
       |none=>
        have:(dT it.k x).nb=Te:=by
         rcases(oL it.k x).2.2.2.2.2 with f|f
         ·rw[f,w]
         ·exact f
        rw[this]
        exact ae
       |some b=>
        simp only[Y3]
        cases hq:Nat.beq b.1 c.1 with
        |true=>
         have hu:=hl x NQ b w (NJ hq)
         have:(dT it.k x).nb=Te:=by
          unfold dT
          rw[hu]
          simp
         rw[this,zI]
         exact ae
        |false=>
         rw[zJ]
         rcases(oL it.k x).2.2.2.2.2 with f|f
         ·rw[f,w];exact ae.cons_cons _
         ·rw[f];exact ae.cons _
     refine s1 _ λx r b H e=>?_
     obtain⟨i,A,ab,rfl⟩:=Jd r
     obtain⟨_,_,_,_,f5,G⟩:=kq listed i
     rw[f5]
     rcases G with G|G
     ·exact(aJ c he i A b (by rw[<-G];exact H) e).1
     ·rw[G]at H;cases H
   have I2:Inv h0 W M0 (it.nb.toList++(dw ((x8 listed t).map (dT it.k))++cs)) γ' h':=I'.sub (sub.append_left _)
   rw[<-Od,<-e1]at I2
   exact I2.perm ((ay hp.symm).append_right cs)
theorem Bo{z:qc}{Q:Exit->Act->World->Prop}(H:Ql ops m=Ta)(D:∀x∈z,x.2.1=[]/\x.1∉qk ops m/\Qr x.2.2 (qk ops m)=Ta) {c:List It} (J:∀i∈c,∃Kan,ItOK h0 W M0 P n ops m pu z cs c i Kan/\Kan i.av) (q:∀i∈c,∀j∈c,i.k=j.k->i=j) (L:HeadInv .any ops m listed) (M:Mid h0 W M0 P n ops m z cs listed c γ a h) {it:It} {Kan:AV->Prop} (T:ItOK h0 W M0 P n ops m pu z cs c it Kan) (V:it.k∈Region.ready .any ops listed) {S:Act->World->Prop} (B:World) (d:Nat) (U:∀av u γ' h' E,Kan av->(∀C:List It,C.Perm ({ it with av:=av }::(x8 listed c).map (dT it.k))->SatA n (d8 C++z) γ' (a.put it.dst u)/\Inv h0 W M0 (dw C++cs) γ' h')->Gx (it.nb.map (·.1)) γ γ'->S (a.put it.dst u) (mk B E h')):
  wpOp P ops Q it.k S a (mk B d h):=by
 obtain⟨o,e,eat,Z,s,b,F,sp,O,t,l,I,fin⟩:=BH H D J q L M T V;have N:=j8 b F;unfold wpOp;rw[Z];simp only;by_cases r:valid (zt a) it.ch;rw[zz (N.2 r)];left;have G:=sp.yes n γ h a (dw (x8 listed c)) b M.inv t l I r;refine(ExA.upon G B d ?_);rintro v E h' ⟨av,γ',g1,g2,Y,y⟩;rw[s];exact U av v γ' h' E g1 (fin av v γ' h' g1 (λ_=>g2) (λp=>absurd r p) Y y) y;rw[zv λG=>r (N.1 G)];obtain⟨w,A,av,f⟩:=sp.no n γ a b r;rw[s];have y:Gx (it.nb.map (·.1)) γ γ:=by rw[w];exact Gx.refl _ _
 exact U av undef γ h d f (fin av undef γ h f (λp=>absurd p r) (λ_=>rfl) (by rw[w,A];exact M.inv) y) y
theorem Iu{G:qc}{Q:Exit->Act->World->Prop}(ae:Ql ops m=Ta)(L:∀x∈G,x.2.1=[]/\x.1∉qk ops m/\Qr x.2.2 (qk ops m)=Ta) {q:List It} (ak:∀i∈q,∃Kan,ItOK h0 W M0 P n ops m pu G cs q i Kan/\Kan i.av) (t:∀i∈q,∀j∈q,i.k=j.k->i=j) (am:HeadInv .any ops m listed) (M:Mid h0 W M0 P n ops m G cs listed q γ a h) {it:It} {Kan:AV->Prop} (T:ItOK h0 W M0 P n ops m pu G cs q it Kan) (r:Kan it.av) (H:it.k∈Region.ready .any ops listed) (S:memN pu it.k=Ta) (l:Region.noSelect ops=Ta) (hQ:∀c a w,¬Q (.panic c) a w) (B:World) (d:Nat) {f:Nat} (hK:∀u,(∀J:List It,J.Perm (it::(x8 listed q).map (dT it.k))->SatA n (d8 J++G) γ (a.put it.dst u)/\Inv h0 W M0 (dw J++cs) γ h)->Gx (it.nb.map (·.1)) γ γ->wpAny P .any ops Q f (listed.setIfInBounds it.k Ta) (a.put it.dst u) (mk B d h)):
  wpAny P .any ops Q (f+1) listed a (mk B d h):=by
 obtain⟨o,e,eat,ho,C,b,al,sp,E,an,af,ap,fin⟩:=BH ae L ak t am M T H;obtain⟨F,N,y,_⟩:=E S;have p:Inv h0 W M0 (it.nb.toList++jn eat (dw (x8 listed q)++cs)) γ h:=by
  rw[F];refine M.inv.sub ?_;cases eat with
  |none=>exact List.Sublist.refl _
  |some c=>exact jr c.1 _
 have hw:=j8 b al;have I:Gx (it.nb.map (·.1)) γ γ:=by rw[F];exact Gx.refl _ _
 have D:∀j z,ops[j]?=Td z->j≠it.k->listed.getD j Ta=Tc->(∀e∈z.after,Region.binds .any e=Ta->e.on≠it.k)->o.apart ops z=Ta:=by
  intro j z Y ac ah Z;have aa:j<ops.size:=(NK.1 Y).1;refine uW y j z aa Y ac ?_ ?_;cases hb:Region.waitsFor .any ops j it.k with
  |false=>rfl
  |true=>obtain⟨aj,ab,e',ai,O,V⟩:=Region.waitsFor_spec hb;have:aj=z:=NY (ab.symm.trans Y);subst this;exact absurd V (Z e' ai O)
  cases hb:Region.waitsFor .any ops it.k j with
  |false=>rfl
  |true=>have:=xy H hb;rw[getD_both ah]at this;cases this
 by_cases A:valid (zt a) it.ch;obtain⟨v,hd,hx⟩:=N it.av r n γ a b A;refine wpAny_first ho (Region.noSelect_spec l) (λc a w U=>absurd U (hQ c _ w)) f listed a (mk B d h) D H (.inl ⟨hw.2 A,hx⟩) ?_;rw[C];exact hK v (fin it.av v γ h r (λ_=>hd) (λs=>absurd A s) p I) I;refine wpAny_first ho (Region.noSelect_spec l) (λc a w U=>absurd U (hQ c _ w)) f listed a (mk B d h) D H (.inr ⟨by simpa using λhx=>A (hw.1 hx),rfl⟩) ?_;rw[C];exact hK undef (fin it.av undef γ h r (λs=>absurd s A) (λ_=>rfl) p I) I
structure GInv (h0:za) (W:Nat->Prop) (M0:Fr) (P:Program) (n:Nat) (ops:Array Oper) (m:Nat) (pu:List Nat) (e0:qc) (cs:CS) (listed pl:Array Bool) (IL:List It):Prop where
 size:pl.size=ops.size
 mem:∀k,pl.getD k Tc=Ta↔∃i∈IL,i.k=k
 dist:IL.Pairwise λi j=>i.k≠j.k
 items:∀i∈IL,∃Kan,ItOK h0 W M0 P n ops m pu e0 cs IL i Kan/\Kan i.av/\(listed.getD i.k Tc=Tc->Kan=(· = i.av))
 sub:∀k,listed.getD k Tc=Ta->pl.getD k Tc=Ta
def ny(ops:Array Oper):List Nat->Bool
 |[]=>Ta
 |k::_=>match ops[k]? with
  |some o=>qt o
  |none=>Tc
theorem getD_lt{k:Nat}(h:k<pl.size):pl.getD k Ta=pl.getD k Tc:=by simp[h]
theorem rW(T:Fr.le gl M0){s:qc}{Kt:List It->Prop}{k:Nat}{l:List It}(H:dW P gl tr n ops m pu s cs Kt (k::ord) pl l):
  ∃o ch f us Kan,ops[k]?=Td o/\i8 ops m o k pl=Ta/\(∀av,ItOK h0 W M0 P n ops m pu s cs l ⟨k,o.dst,ch,av,f,us⟩ Kan)/\(∀av,Kan av->dW P gl tr n ops m pu s cs Kt ord (pl.setIfInBounds k Ta) (⟨k,o.dst,ch,av,f,us⟩::l))/\(qt o=Tc->∃av,Kan=(· = av)):=by
 unfold dW at H
 split at H
 ·exact H.elim
 ·rename_i o Q
  cases hst:i8 ops m o k pl with
  |false=>rw[hst]at H;exact H.elim
  |true=>
   rw[hst]at H
   simp only[zI]at H
   split at H
   ·rename_i ch U
    cases hco:qZ ops o ch with
    |false=>rw[hco]at H;exact H.elim
    |true=>
     rw[hco]at H
     cases hok:yr n ch o.dst with
     |false=>rw[hok]at H;exact H.elim
     |true=>
      rw[hok]at H
      simp only[zI]at H
      cases hpo:pq P ops pu o k (J0 (xc ops o) (d8 l++s)) ch with
      |false=>rw[hpo]at H;exact H.elim
      |true=>
      rw[hpo]at H
      simp only[zI]at H
      have u:∃f us eat Kan,Spec h0 W M0 P o (J0 (xc ops o) (d8 l++s)) ch cs f Kan eat/\(∀av,Kan av->(bif lJ (qk ops m) av f then dW P gl tr n ops m pu s cs Kt ord (pl.setIfInBounds k Ta) (⟨k,o.dst,ch,av,f,us⟩::l)else False))/\(qt o=Tc->∃av,Kan=(· = av)) /\
        (memN pu k=Ta->f=Te/\lR P o (J0 (xc ops o) (d8 l++s)) ch Kan/\jH ops k o ops.size=Ta/\qt o=Tc) /\
        (∀c,eat=Td c->∃i∈l,i.nb=Td c/\i.us=Td k)/\(∀j,us=Td j->j<m/\Region.waitsFor .any ops j k=Ta):=by
       unfold pq at hpo
       unfold uC at H
       cases hmp:memN pu k with
       |false=>
        rw[hmp,zJ]at H
        split at H
        ·obtain⟨f,Kan,b,t,G⟩:=Kq (h0:=h0) (W:=W) (M0:=M0) T H
         exact⟨f,Te,Te,Kan,b,t,G,λr=>(by cases r),λc r=>(by cases r),λj D=>by cases D⟩
        ·rename_i us Y
         cases huo:rv ops m k us with
         |false=>rw[huo]at H;exact H.elim
         |true=>
          rw[huo,zI]at H
          split at H
          ·obtain⟨f,eat,av,b,t,G⟩:=CX (h0:=h0) (W:=W) (M0:=M0) H
           refine⟨f,us,eat,(· = av),b,λw e=>e ▸ t,λ_=>⟨av,rfl⟩,λr=>(by cases r),λc r=>sC (G c r),λj D=>?_⟩
           subst D
           simp only[rv]at huo
           cases hq:Nat.blt j m with
           |false=>rw[hq]at huo;cases huo
           |true=>rw[hq]at huo;exact⟨by simpa[Pp]using hq,huo⟩
          ·exact H.elim
       |true=>
        rw[hmp]at hpo
        simp only[zI]at hpo
        rw[hmp,zI]at H
        simp only at H
        cases hpb:fH P (J0 (xc ops o) (d8 l++s)) ch o with
        |false=>rw[hpb]at hpo;cases hpo
        |true=>
         rw[hpb]at hpo
         obtain⟨av,b,t,G⟩:=Dw (h0:=h0) (W:=W) (M0:=M0) H hpb
         exact⟨Te,Te,Te,(· = av),b,λw e=>e ▸ t,λ_=>⟨av,rfl⟩,λ_=>⟨rfl,G,hpo,Lz hpb⟩,λc r=>(by cases r),λj D=>by cases D⟩
      obtain⟨f,us,eat,Kan,sp,V,C,z,A,E⟩:=u
      have y:Zt ops k (xc ops o) m=Ta:=by
       unfold i8 at hst
       cases b:Nat.blt k m with
       |false=>rw[b]at hst;cases hst
       |true=>
        rw[b]at hst
        cases t:Zt ops k (xc ops o) m with
        |false=>rw[t]at hst;cases hst
        |true=>rfl
      have N:k<m:=by
       unfold i8 at hst
       cases b:Nat.blt k m with
       |false=>rw[b]at hst;cases hst
       |true=>simpa[Pp]using b
      have F:∀av,Kan av->lJ (qk ops m) av f=Ta/\dW P gl tr n ops m pu s cs Kt ord (pl.setIfInBounds k Ta) (⟨k,o.dst,ch,av,f,us⟩::l):=by
       intro av h
       have:=V av h
       cases hio:lJ (qk ops m) av f with
       |false=>rw[hio]at this;exact this.elim
       |true=>rw[hio]at this;exact⟨rfl,this⟩
      refine⟨o,ch,f,us,Kan,Q,hst,λav=>⟨N,Je Q,hok,?_,⟨o,_,eat,Q,U,sp,λx I=>?_,z,A⟩,E,λw h B=>?_⟩,λav h=>(F av h).2,C⟩
      ·-- the chain's slots
       intro x I p O J
       refine Qk y p x.1 O J ?_
       unfold qZ at hco
       split at hco
       ·cases I
       ·rename_i g q
        have M:x=(g,q):=by simpa using I
        subst M
        split at hco
        ·rename_i j Z L
         split at hco
         ·rename_i g' S
          have e:=NJ hco
          unfold xc
          rw[L]
          simp only[S]
          rw[e]
          exact NT _ NQ
         ·cases hco
        ·cases hco
       ·cases hco
      ·obtain⟨b,t⟩:=Ye I
       rcases N0.1 b with b|b
       ·exact .inr ⟨b,λp O J=>Qk y p x.1 O J t⟩
       ·exact .inl b
      ·have:=(F w h).1
       simp only at B
       subst B
       exact this
   ·exact H.elim
theorem tW{k:Nat}(h:i8 ops m o k pl=Ta):k∈Region.ready .any ops pl/\(qt o=Ta->Region.ready .any ops pl=[k]):=by
 unfold i8 at h;cases h1:Nat.blt k m with
 |false=>rw[h1]at h;cases h
 |true=>
  rw[h1]at h;cases h2:Zt ops k (xc ops o) m with
  |false=>rw[h2]at h;cases h
  |true=>
   rw[h2]at h;simp only[zI]at h;cases ha:qt o with
   |false=>rw[ha]at h;exact⟨vc h,λc=>by cases c⟩
   |true=>
    rw[ha]at h;simp only[zI]at h;have:Region.ready .any ops pl=[k]:=by unfold yZ at h;split at h;rename_i x _ b;rw[b,NJ h];cases h
    exact⟨by rw[this];exact NQ,λ_=>this⟩
theorem rI{P:Program}{gl:Fr}(u:Fr.le gl M0){tr:TypeId}{n:Nat}{ops:Array Oper}{m:Nat}{pu:List Nat}{t:qc}{cs:CS}{Kt:List It->Prop}{listed:Array Bool}:∀{ord:List Nat} {pl:Array Bool} {p:List It},dW P gl tr n ops m pu t cs Kt ord pl p->GInv h0 W M0 P n ops m pu t cs listed pl p ->
  ∃b l new,dW P gl tr n ops m pu t cs Kt b l (new++p)/\GInv h0 W M0 P n ops m pu t cs listed l (new++p)/\ny ops b=Ta/\∀i∈new,listed.getD i.k Tc=Tc
 |[],pl,p,H,G=>⟨[],pl,[],H,G,rfl,λi hi=>by cases hi⟩
 |k::ord,pl,p,H,G=>by
  obtain⟨o,ch,F,us,Kan,M,y,w,N,r⟩:=rW (h0:=h0) (W:=W) (M0:=M0) u H;cases ha:qt o with
  |true=>exact⟨k::ord,pl,[],H,G,by simp[ny,M,ha],λi hi=>by cases hi⟩
  |false=>
   obtain⟨av,rfl⟩:=r ha;have D:=(tW y).1;have s:pl.getD k Ta=Tc:=(mem_ready.1 D).1;have q:k<pl.size:=by rcases Ob k pl.size with h|h;exact h;simp[Array.getElem?_eq_none h]at s
   have c:pl.getD k Tc=Tc:=by rw[<-getD_lt q];exact s
   have x:listed.getD k Tc=Tc:=by
    cases hb:listed.getD k Tc with
    |false=>rfl
    |true=>rw[G.sub k hb]at c;cases c
   have z:∀i∈p,i.k≠k:=λi hi e=>by have:=(G.mem k).2 ⟨i,hi,e⟩;rw[this]at c;cases c
   have I:GInv h0 W M0 P n ops m pu t cs listed (pl.setIfInBounds k Ta) (⟨k,o.dst,ch,av,F,us⟩::p):=by refine⟨by simp[G.size],λj=>?_,Oi.2 ⟨λj A=>(z j A).symm,G.dist⟩,λi hi=>?_,λj A=>?_⟩;by_cases f:k=j;subst f;simp only[NI,exists_eq_or_imp,true_or,iff_true];simp[q];rw[getD_set_ne Tc f,G.mem j];simp only[NI,exists_eq_or_imp,f,false_or];rcases NI.1 hi with rfl|hi;exact⟨(· = av),(w av).mono λi hi=>NF _ hi,rfl,λ_=>rfl⟩;obtain⟨J,B,E,C⟩:=G.items i hi;exact⟨J,B.mono λi hi=>NF _ hi,E,C⟩;by_cases f:k=j;subst f;simp[q];rw[getD_set_ne Tc f];exact G.sub j A
   obtain⟨b,l,new,B,E,C,L⟩:=rI u (N av rfl) I;refine⟨b,l,new++[⟨k,o.dst,ch,av,F,us⟩],by simpa using B,by simpa using E,C,λi hi=>?_⟩;rcases N0.1 hi with hi|hi;exact L i hi;simp only[OO]at hi;subst hi;exact x
theorem xG{k:Nat}(h:k<listed.size)(c:listed.getD k Tc=Tc)(i:It):strip (listed.setIfInBounds k Ta) i=dT k (strip listed i):=by
 unfold strip dT;cases hu:i.us with
 |none=>simp[hu]
 |some j=>
  simp only;by_cases b:j=k;subst b;have f:(listed.setIfInBounds j Ta).getD j Tc=Ta:=by simp[h]
  rw[f,c];simp[hu];rw[getD_set_ne Tc (Ne.symm b)];have e:Nat.beq j k=Tc:=by
   cases hq:Nat.beq j k with
   |false=>rfl
   |true=>exact absurd (NJ hq) b
  cases listed.getD j Tc with
  |true=>simp[e]
  |false=>simp[hu,e]
theorem pP{listed:Array Bool}{k:Nat}(c:k<listed.size)(b:listed.getD k Tc=Tc):∀{l:List It},(∀j∈l,k≠j.k)->x8 (listed.setIfInBounds k Ta) l=(x8 listed l).map (dT k)
 |[],_=>rfl
 |j::l,hj=>by
  simp only[x8];rw[getD_set_ne Tc (hj j NQ),pP c b λx e=>hj x (NF _ e)];cases listed.getD j.k Tc with
  |true=>simp only[zI,N2];rw[xG c b]
  |false=>rfl
theorem uj{it:It}(b:∀j,it.us=Td j->listed.getD j Tc=Tc):strip listed it=it:=by unfold strip;split;rename_i j c;rw[b j c];rfl;rfl
theorem zS{listed:Array Bool}{it:It}(c:it.k<listed.size)(b:listed.getD it.k Tc=Tc)(n:∀j,it.us=Td j->(listed.setIfInBounds it.k Ta).getD j Tc=Tc):∀{e:List It},e.Pairwise (λi j=>i.k≠j.k)->it∈e->(x8 (listed.setIfInBounds it.k Ta) e).Perm (it::(x8 listed e).map (dT it.k))
 |[],_,h=>by cases h
 |i::l,hd,h=>by
  rw[Oi]at hd;simp only[x8];rcases NI.1 h with rfl|h;have o:(listed.setIfInBounds it.k Ta).getD it.k Tc=Ta:=by simp[c]
  rw[o,b,pP c b hd.1,uj n];exact .refl _;have f:i.k≠it.k:=hd.1 it h;rw[getD_set_ne Tc (Ne.symm f)];have m:=zS c b n hd.2 h;cases listed.getD i.k Tc with
  |true=>simp only[zI,N2];rw[xG c b];exact(m.cons _).trans (.swap _ _ _)
  |false=>exact m
theorem pN{listed:Array Bool}{b:List It}:∀{new:List It},(∀i∈new,listed.getD i.k Tc=Tc)->x8 listed (new++b)=x8 listed b
 |[],_=>rfl
 |i::l,h=>by simp only[Ox,x8];rw[h i NQ];exact pN λx c=>h x (NF _ c)
theorem Ad{listed:Array Bool}:∀{l:List It},(∀i∈l,listed.getD i.k Tc=Ta/\∀j,i.us=Td j->listed.getD j Tc=Ta)->x8 listed l=iT l
 |[],_=>rfl
 |i::l,h=>by simp only[x8,iT];obtain⟨f,c⟩:=h i NQ;rw[f,Ad λx e=>h x (NF _ e),zI];congr 1;unfold strip;split;rename_i j b;rw[c j b];rfl;rfl
theorem GInv.ready_pl{k:qc}{p:List It}(G:GInv h0 W M0 P n ops m pu k cs listed pl p)(hi:i∈Region.ready .any ops listed)(l:pl.getD i Tc=Tc):i∈Region.ready .any ops pl:=by obtain⟨_,o,f,b⟩:=mem_ready.1 hi;have c:i<ops.size:=(NK.1 f).1;exact mem_ready.2 ⟨by rw[getD_lt (by rw[G.size];exact c)];exact l,o,f,λe j h=>G.sub _ (b e j h)⟩
theorem EF(p:m<=ops.size)(b:yu ops ops.size=Ta)(j:listed.size=ops.size)(c:∃k,k<m/\listed.getD k Tc=Tc):∃k,k<m/\k∈Region.ready .any ops listed:=by
 obtain⟨k,⟨n,l⟩,o⟩:=exists_least c;refine⟨k,n,mem_ready.2 ⟨by rw[getD_lt (by omega)];exact l,ops[k],Oy (by omega),λe h f=>?_⟩⟩;have i:=yb b k ops[k] (by omega) (Oy (by omega)) e h f;cases hb':listed.getD e.on Tc with
 |true=>rfl
 |false=>have:=o e.on ⟨by omega,hb'⟩;omega
def Jf(N m:Nat):Array Bool:=((OB N).map λk=>Nat.blt k m).toArray
theorem Eb(l:m<=ops.size)(inv:HeadInv .any ops m listed)(b:∀k,k<m->listed.getD k Tc=Ta):listed=Jf ops.size m:=by
 refine Array.ext (by simp[Jf,inv.size]) λi c j=>?_;have hi:i<ops.size:=by rw[<-inv.size];exact c
 have e:(Jf ops.size m)[i]=Nat.blt i m:=by simp[Jf]
 rw[e];rcases Ob i m with h|h;have:=b i h;simp only[Array.getD,c,dite_true]at this;rw[show Nat.blt i m=Ta by simpa[Pp]using h];exact this;have:=inv.tail i h hi;simp only[Array.getD,c,dite_true]at this;have f:Nat.blt i m=Tc:=by
  cases hb:Nat.blt i m with
  |false=>rfl
  |true=>have:=Pp.mp hb;omega
 rw[f];exact this
def lc(ops:Array Oper)(pu:List Nat)(m i:Nat):Nat->Bool
 |0=>Tc
 |j+1=>bif (bif Region.waitsFor .any ops j i then(bif Nat.beq j m then Ta else !(memN pu j))else Tc)then Nat.blt i j else lc ops pu m i j
theorem vB{ops:Array Oper}{pu:List Nat}{m i:Nat}:∀{n:Nat},lc ops pu m i n=Ta->∃j,j<n/\i<j/\Region.waitsFor .any ops j i=Ta/\(j=m\/memN pu j=Tc)
 |0,h=>by cases h
 |n+1,h=>by
  simp only[lc]at h;cases hb:(bif Region.waitsFor .any ops n i then(bif Nat.beq n m then Ta else !(memN pu n))else Tc)with
  |false=>rw[hb]at h;obtain⟨j,c,b⟩:=vB h;exact⟨j,by omega,b⟩
  |true=>
   rw[hb]at h;refine⟨n,by omega,by simpa[Pp]using h,?_⟩;cases hw:Region.waitsFor .any ops n i with
   |false=>rw[hw]at hb;cases hb
   |true=>
    rw[hw]at hb;refine⟨rfl,?_⟩;cases hm:Nat.beq n m with
    |true=>exact .inl (NJ hm)
    |false=>rw[hm]at hb;exact .inr (by simpa using hb)
def jO(ops:Array Oper)(pu:List Nat)(m:Nat):Nat->Bool
 |0=>Ta
 |i+1=>bif (bif memN pu i then Ta else lc ops pu m i (m+1))then jO ops pu m i else Tc
theorem wM{ops:Array Oper}{pu:List Nat}{m:Nat}:∀{n:Nat},jO ops pu m n=Ta->∀i,i<n->memN pu i=Tc->∃j,j<=m/\i<j/\Region.waitsFor .any ops j i=Ta/\(j=m\/memN pu j=Tc)
 |0,_,i,hi,_=>by omega
 |n+1,h,i,hi,hp=>by
  simp only[jO]at h;cases hb:(bif memN pu n then Ta else lc ops pu m n (m+1))with
  |false=>rw[hb]at h;cases h
  |true=>
   rw[hb]at h;rcases Ob i n with b|b;exact wM h i b hp;have:i=n:=by omega
   subst this;rw[hp]at hb;obtain⟨j,a1,a2⟩:=vB hb;exact⟨j,by omega,a2⟩
def j0(ops:Array Oper)(pu:List Nat)(m:Nat):Bool:=bif Nat.beq m ops.size then Ta else bif jO ops pu m m then Region.chainB .any ops m else Tc
theorem EY(H:m<ops.size)(y:jO ops pu m m=Ta)(C:Region.chainB .any ops m=Ta)(inv:HeadInv .any ops m listed):
  ∀(d i:Nat),m-i=d->i<m->listed.getD i Tc=Tc->memN pu i=Tc->∀t,m<=t->t∉Region.ready .any ops listed:=by
 intro d;induction d using Nat.strongRecOn with
 |_ d w=>
  intro i E hi b p t D k;obtain⟨_,G,o,s⟩:=mem_ready.1 k;have f:t<ops.size:=(NK.1 o).1;by_cases r:t=m;subst r;obtain⟨j,c,F,u,x⟩:=wM y i hi p;by_cases h:j=t;subst h;rw[xy k u]at b;cases b;have n:memN pu j=Tc:=x.resolve_left h;cases hl:listed.getD j Tc with
  |true=>obtain⟨B,l,e,z,A,q⟩:=Region.waitsFor_spec u;have:=inv.closed j B l hl e z A;rw[q,b]at this;cases this
  |false=>exact w (t-j) (by omega) j rfl (by omega) hl n t (ND _) k
  have c:=N3.1 C t (Og.2 f);simp only[Pi,zC]at c;rcases c with c|c;omega;have:=xy k c;rw[getD_both (inv.tail (t-1) (by omega) (by omega))]at this;cases this
theorem Nj(p:m<=ops.size)(b:j0 ops pu m=Ta)(inv:HeadInv .any ops m listed)(c:∃k,k<m/\k∈Region.ready .any ops listed/\memN pu k=Tc):∀i∈Region.ready .any ops listed,i<m:=by
 intro i hi;obtain⟨_,o,f,_⟩:=mem_ready.1 hi;have e:i<ops.size:=(NK.1 f).1;rcases Ob i m with h|h;exact h;exfalso;unfold j0 at b;cases hb:Nat.beq m ops.size with
 |true=>have:=NJ hb;omega
 |false=>
  rw[hb]at b;simp only[zJ]at b;cases hs:jO ops pu m m with
  |false=>rw[hs]at b;cases b
  |true=>rw[hs]at b;obtain⟨k,l,j,n⟩:=c;exact EY (by omega) hs b inv _ k rfl l (getD_both (mem_ready.1 j).1) n i h hi
theorem Nb(hgl:Fr.le gl M0){e0:qc}{Kt:List It->Prop}{Q:Exit->Act->World->Prop}(hm:m<=ops.size)(hnd:Ql ops m=Ta)(hback:yu ops ops.size=Ta)(hends:j0 ops pu m=Ta)(hsel:Region.noSelect ops=Ta)(hQp:∀c a w,¬Q (.panic c) a w) (he0:∀x∈e0,x.2.1=[]/\x.1∉qk ops m/\Qr x.2.2 (qk ops m)=Ta) (B:World) {g:Nat} {a0:Act} {γ0:Gh} (hQ:∀IL γ a d h,SatA n (d8 IL++e0) γ a->Inv h0 W M0 (dw IL++cs) γ h->Same (qk ops m) a0 a->GxS (qk ops m) γ0 γ->Kt IL->wpAny P .any ops Q g (Jf ops.size m) a (mk B d h)):
    ∀(N:Nat) (U:List Nat) (listed:Array Bool) (ord:List Nat) (pl:Array Bool) (IL:List It) (γ:Gh) (a:Act) (d:Nat) (h:za),U.length=N->U.Nodup->(∀k,k∈U↔k<m/\listed.getD k Tc=Tc)->HeadInv .any ops m listed -> dW P gl tr n ops m pu e0 cs Kt ord pl IL->ny ops ord=Ta->GInv h0 W M0 P n ops m pu e0 cs listed pl IL->Mid h0 W M0 P n ops m e0 cs listed IL γ a h->Same (qk ops m) a0 a->GxS (qk ops m) γ0 γ -> wpAny P .any ops Q (N+g) listed a (mk B d h):=by
  intro N;induction N with
  |zero=>
    intro U listed ord pl IL γ a d h hU _ hmem inv H hanch G M hsame hgx;have hUn:U=[]:=Ov.1 hU;subst hUn;have hall:∀k,k<m->listed.getD k Tc=Ta:=λk hk=>by
      cases hb:listed.getD k Tc with
      |true=>rfl
      |false=>exact absurd ((hmem k).2 ⟨hk,hb⟩) (by simp)
    have hKt:Kt (iT IL):=by
      cases ord with
      |nil=>
        unfold dW at H;cases hb:jW pl m with
        |true=>rw[hb]at H;exact H
        |false=>rw[hb]at H;exact H.elim
      |cons k ord=>exfalso;obtain⟨o,ch,nb,us,Kan,ho,hst,hit,_,_⟩:=rW (h0:=h0) (W:=W) (M0:=M0) hgl H;have hk:k<m:=(hit (.g (.a (.v undef)))).lt;have h1:=(mem_ready.1 (tW hst).1).1;rw[getD_lt (by rw[G.size];omega),G.sub k (hall k hk)]at h1;cases h1
    have hact:x8 listed IL=iT IL:=Ad λi hi=>by obtain⟨Ki,Ti,_⟩:=G.items i hi;exact⟨hall _ Ti.lt,λj hj=>hall j (Ti.use j hj).1⟩
    have h1:=M.sat;have h2:=M.inv;rw[hact]at h1 h2;rw[NZ,Eb hm inv hall];exact hQ (iT IL) γ a d h h1 h2 hsame hgx hKt
  |succ N ih=>
    intro U listed ord pl IL γ a d h hU hdup hmem inv H hanch G M hsame hgx;have hex:∃k,k<m/\listed.getD k Tc=Tc:=by
      cases U with
      |nil=>cases hU
      |cons k U=>exact⟨k,(hmem k).1 NQ⟩
    obtain⟨k0,hk0m,hk0⟩:=EF hm hback inv.size hex;rw[show N+1+g=(N+g)+1 by omega];have gen:∀i,i∈Region.ready .any ops listed->i<m->(memN pu i=Ta->wpAny P .any ops Q (N+g+1) listed a (mk B d h))/\wpOp P ops Q i (wpAny P .any ops Q (N+g) (listed.setIfInBounds i Ta)) a (mk B d h):=by
      intro i hi him;have hun:listed.getD i Tc=Tc:=getD_both (mem_ready.1 hi).1;have hils:i<listed.size:=by rw[inv.size];omega
      have hU':(U.erase i).length=N:=by rw[List.length_erase_of_mem ((hmem i).2 ⟨him,hun⟩),hU];rfl
      have hdup':(U.erase i).Nodup:=hdup.erase i;have hmem':∀k,k∈U.erase i↔k<m/\(listed.setIfInBounds i Ta).getD k Tc=Tc:=λk=>by rw[hdup.mem_erase_iff,hmem k];by_cases hk:i=k;subst hk;simp[hils];rw[getD_set_ne Tc hk];exact⟨λhx=>hx.2,λhx=>⟨λe=>hk e.symm,hx⟩⟩
      have inv':=inv.set hi him;have toS:∀{it:It} {Kan:AV->Prop},ItOK h0 W M0 P n ops m pu e0 cs IL it Kan->∀{γ':Gh},Gx (it.nb.map (·.1)) γ γ'->GxS (qk ops m) γ γ':=by
        intro it Kan T γ' gx;refine⟨gx.1,λj hj=>?_⟩;refine gx.2 j λhc=>hj ?_;obtain⟨o,e,eat,ho,_,sp,_,_⟩:=T.ex;cases hnb:it.nb with
        |none=>rw[hnb]at hc;cases hc
        |some b=>
          rw[hnb]at hc;have:b.1=j:=by simpa using hc
          subst this;obtain⟨_,h2,_⟩:=sp.box b hnb;exact rH T.lt (by rw[Je ho];exact h2)
      have toSame:∀{it:It} {Kan:AV->Prop},ItOK h0 W M0 P n ops m pu e0 cs IL it Kan->∀u,Same (qk ops m) a (a.put it.dst u):=λ {it} {Kan} T u=>
        Same.put a it.dst u λj hj=>rH T.lt (by rw[T.dst];exact hj)
      have hILk:∀x∈IL,∃Kan,ItOK h0 W M0 P n ops m pu e0 cs IL x Kan/\Kan x.av:=λx hx=>by obtain⟨Kx,h1,h2,_⟩:=G.items x hx;exact⟨Kx,h1,h2⟩
      have hdist:∀x∈IL,∀y∈IL,x.k=y.k->x=y:=by
        have key:∀l:List It,l.Pairwise (λi j=>i.k≠j.k)->∀x∈l,∀y∈l,x.k=y.k->x=y:=by
          intro l;induction l with
          |nil=>intro _ x hx;cases hx
          |cons z l ihl=>intro hp x hx y hy e;rw[Oi]at hp;rcases NI.1 hx with hx1|hx1;rcases NI.1 hy with hy1|hy1;rw[hx1,hy1];rw[hx1]at e;exact absurd e (hp.1 y hy1);rcases NI.1 hy with hy1|hy1;rw[hy1]at e;exact absurd e.symm (hp.1 x hx1);exact ihl hp.2 x hx1 y hy1 e
        exact key IL G.dist
      cases hpl:pl.getD i Tc with
      |true=>
        obtain⟨it,hit,hik⟩:=(G.mem i).1 hpl;subst hik;obtain⟨Kan,T,_,hdet⟩:=G.items it hit;have fwd:∀u γ' h' d',(∀L':List It,L'.Perm (it::(x8 listed IL).map (dT it.k))->SatA n (d8 L'++e0) γ' (a.put it.dst u)/\Inv h0 W M0 (dw L'++cs) γ' h')->Gx (it.nb.map (·.1)) γ γ'->wpAny P .any ops Q (N+g) (listed.setIfInBounds it.k Ta) (a.put it.dst u) (mk B d' h'):=by
         intro u γ' h' d' hst hgx';have huse:∀j,it.us=Td j->(listed.setIfInBounds it.k Ta).getD j Tc=Tc:=by
           intro j hj;have hw:=(T.use j hj).2;obtain⟨oj,hoj,e,he,hb,hon⟩:=Region.waitsFor_spec hw;have hjk:it.k≠j:=λe'=>by have:=yb hback j oj (NK.1 hoj).1 hoj e he hb;omega
           rw[getD_set_ne Tc hjk];cases hl:listed.getD j Tc with
           |false=>rfl
           |true=>have:=inv.closed j oj hoj hl e he hb;rw[hon,hun]at this;cases this
         obtain⟨s1,s2⟩:=hst _ (zS hils hun huse G.dist hit);refine ih _ _ ord pl IL γ' _ d' h' hU' hdup' hmem' inv' H hanch ⟨G.size,G.mem,G.dist,λx hx=>?_,λk hk=>?_⟩ ⟨s1,s2⟩ (hsame.trans (toSame T u)) (hgx.trans (toS T hgx'));obtain⟨Kx,h1,h2,h3⟩:=G.items x hx;refine⟨Kx,h1,h2,λhf=>h3 ?_⟩;by_cases hk:it.k=x.k;rw[<-hk];exact hun;rw[getD_set_ne Tc hk]at hf;exact hf;by_cases hk':it.k=k;subst hk';exact hpl;rw[getD_set_ne Tc hk']at hk;exact G.sub k hk
        have hK0:Kan it.av:=by rw[hdet hun]
        refine⟨λhp=>Iu hnd he0 hILk hdist inv M T hK0 hi hp hsel hQp B d λu hst hgx'=>fwd u γ h d hst hgx',Bo hnd he0 hILk hdist inv M T hi B d λav u γ' h' d' hav hst hgx'=>?_⟩;have hav':av=it.av:=by rw[hdet hun]at hav;exact hav
        subst hav';exact fwd u γ' h' d' hst hgx'
      |false=>
        have hrp:=G.ready_pl hi hpl;cases ord with
        |nil=>
          exfalso;unfold dW at H;cases hb:jW pl m with
          |true=>rw[vH hb i him]at hpl;cases hpl
          |false=>rw[hb]at H;exact H
        |cons k ord=>
          obtain⟨o,ch,nb,us,Kan,ho,hst,hit,hK,_⟩:=rW (h0:=h0) (W:=W) (M0:=M0) hgl H;have hanc:qt o=Ta:=by simpa[ny,ho]using hanch
          have hrk:=(tW hst).2 hanc;rw[hrk]at hrp;have hik:i=k:=by simpa using hrp
          subst hik;refine⟨λhp=>?_,Bo hnd he0 hILk hdist inv M (hit (.g (.a (.v undef)))) hi B d λav u γ' h' d' hav hst' hgx'=>?_⟩;obtain⟨o',_,_,ho',_,_,_,hpp,_⟩:=(hit (.g (.a (.v undef)))).ex;have:=(hpp hp).2.2.2;have e':o'=o:=NY (ho'.symm.trans ho);rw[e',hanc]at this;cases this;have hne:∀j∈IL,i≠j.k:=λj hj e=>by have:=(G.mem i).2 ⟨j,hj,e.symm⟩;rw[hpl]at this;cases this
          have hips:i<pl.size:=by rw[G.size,<-inv.size];exact hils
          have G':GInv h0 W M0 P n ops m pu e0 cs (listed.setIfInBounds i Ta) (pl.setIfInBounds i Ta) (⟨i,o.dst,ch,av,nb,us⟩::IL):=by refine⟨by simp[G.size],λj=>?_,Oi.2 ⟨λj hj=>hne j hj,G.dist⟩,λx hx=>?_,λj hj=>?_⟩;by_cases hjk:i=j;subst hjk;simp only[NI,exists_eq_or_imp,true_or,iff_true];simp[hips];rw[getD_set_ne Tc hjk,G.mem j];simp only[NI,exists_eq_or_imp,hjk,false_or];rcases NI.1 hx with rfl|hx;exact⟨Kan,(hit av).mono λx hx=>NF _ hx,hav,λhf=>by simp[hils]at hf⟩;obtain⟨Kx,h1,h2,h3⟩:=G.items x hx;refine⟨Kx,h1.mono λx hx=>NF _ hx,h2,λhf=>h3 ?_⟩;rw[getD_set_ne Tc (hne x hx)]at hf;exact hf;by_cases hjk:i=j;subst hjk;simp[hips];rw[getD_set_ne Tc hjk]at hj ⊢;exact G.sub j hj
          obtain⟨ord',pl',new,h1,h2,h3,h4⟩:=rI hgl (hK av hav) G';have hact:x8 (listed.setIfInBounds i Ta) (new++⟨i,o.dst,ch,av,nb,us⟩::IL)=⟨i,o.dst,ch,av,nb,us⟩::(x8 listed IL).map (dT i):=by
            rw[pN h4];simp only[x8];rw[show(listed.setIfInBounds i Ta).getD i Tc=Ta by simp[hils],pP hils hun hne,zI,uj ?_];intro j hj;have hw:=((hit av).use j hj).2;obtain⟨oj,hoj,e,he,hb,hon⟩:=Region.waitsFor_spec hw;have hon:e.on=i:=hon;have hjk:i≠j:=λe'=>by have:=yb hback j oj (NK.1 hoj).1 hoj e he hb;omega
            rw[getD_set_ne Tc hjk];cases hl:listed.getD j Tc with
            |false=>rfl
            |true=>have:=inv.closed j oj hoj hl e he hb;rw[hon,hun]at this;cases this
          obtain⟨s1,s2⟩:=hst' (⟨i,o.dst,ch,av,nb,us⟩::(x8 listed IL).map (dT i)) (.refl _);exact ih _ _ ord' pl' _ γ' _ d' h' hU' hdup' hmem' inv' h1 h3 h2 ⟨by rw[hact];exact s1,by rw[hact];exact s2⟩ (hsame.trans (toSame (hit av) u)) (hgx.trans (toS (hit av) hgx'))
    by_cases hpe:∃i,i∈Region.ready .any ops listed/\i<m/\memN pu i=Ta;obtain⟨i,hi,him,hp⟩:=hpe;exact(gen i hi him).1 hp;refine⟨λhc=>(by rw[hc]at hk0;cases hk0),λi hi=>(gen i hi (Nj hm hends inv ⟨k0,hk0m,hk0,?_⟩ i hi)).2⟩;cases hb:memN pu k0 with
    |false=>rfl
    |true=>exact absurd ⟨k0,hk0,hk0m,hb⟩ hpe
def rN(ops:Array Oper)(m:Nat)(pu:List Nat):Bool:=
 bif Nat.ble m ops.size then(bif Ql ops m then(bif yu ops ops.size then(bif j0 ops pu m then(bif Region.noSelect ops then Region.seqB .any ops (ops.size-m) m (Jf ops.size m)else Tc)else Tc)else Tc)else Tc)else Tc
def pH(P:Program)(gl:Fr)(tr:TypeId)(n:Nat)(ops:Array Oper)(m:Nat)(ord pu:List Nat)(R:CS)(K:qc->CS->Prop)(e:qc)(C:CS):Prop:=
 bif rN ops m pu then dW P gl tr n ops m pu (fN (qk ops m) e) (C++R) (λb=>iD P gl tr n ops R K (ops.toList.drop m) (d8 b++fN (qk ops m) e) (dw b++C)) ord (OV ops.size Tc) []else False
theorem GH(hm:P.follows .mixedOrders=Ta)(r:Fr.le gl M0){K:qc->CS->Prop}{e:qc} (H:pH P gl tr n ops m ord pu R K e C) (B:World) (d:Nat) (hs:SatA n e γ a) (I:Inv h0 W M0 (C++R) γ h) {Q:Exit->Act->World->Prop}
  (hQ:∀e' C' γ' A O h',SatA n e' γ' A->Inv h0 W M0 (C'++R) γ' h'->Same (js ops.toList) a A->GxS (js ops.toList) γ γ'->K e' C'->Q .normal A (mk B O h')):(Rn id ops Ta).wp P Q a (mk B d h):=by
 unfold pH at H;cases hB:rN ops m pu with
 |false=>rw[hB]at H;exact H.elim
 |true=>
  rw[hB]at H;simp only[zI]at H;have ab:m<=ops.size/\Ql ops m=Ta/\yu ops ops.size=Ta/\j0 ops pu m=Ta/\Region.noSelect ops=Ta/\Region.seqB .any ops (ops.size-m) m (Jf ops.size m)=Ta:=by
   unfold rN at hB;cases E:Nat.ble m ops.size with
   |false=>rw[E]at hB;cases hB
   |true=>
    rw[E]at hB;cases J:Ql ops m with
    |false=>rw[J]at hB;cases hB
    |true=>
     rw[J]at hB;cases G:yu ops ops.size with
     |false=>rw[G]at hB;cases hB
     |true=>
      rw[G]at hB;cases F:j0 ops pu m with
      |false=>rw[F]at hB;cases hB
      |true=>
       rw[F]at hB;cases h5:Region.noSelect ops with
       |false=>rw[h5]at hB;cases hB
       |true=>rw[h5]at hB;exact⟨OW E,rfl,rfl,rfl,rfl,hB⟩
  obtain⟨aa,T,q,p,D,y⟩:=ab;have b:js ops.toList=js (ops.toList.take m)++js (ops.toList.drop m):=by rw[<-Zu,OX]
  have L:∀x∈fN (qk ops m) e,x.2.1=[]/\x.1∉qk ops m/\Qr x.2.2 (qk ops m)=Ta:=λx f=>(jk f).2;have s:HeadInv .any ops m (OV ops.size Tc):= ⟨by simp,λj oj _ hl=>(by rw[getD_replicate_false]at hl;cases hl),λt _ ht=>getD_in (by simpa using ht) (getD_replicate_false _ _)⟩;have G0:GInv h0 W M0 P n ops m pu (fN (qk ops m) e) (C++R) (OV ops.size Tc) (OV ops.size Tc) []:= ⟨by simp,λk=>by rw[getD_replicate_false];simp,PO,λi hi=>(by cases hi),λk hk=>hk⟩;obtain⟨z,S,new,E,J,G,F⟩:=rI r H G0;have l:x8 (OV ops.size Tc) (new++[])=[]:=by rw[pN F];rfl
  have u:SatA n (fN (qk ops m) e) γ a:=hs.sub λx f=>(jk f).1;let Qn:Exit->Act->World->Prop:=λx a w=>x=.normal/\Q .normal a w;refine wp_mono (Q':=Q) (Q:=Qn) ?_ (λx a w N=>by obtain⟨rfl,h⟩:=N;exact h);refine wp_region_any hm ?_;have Z:ops.size=m+(ops.size-m):=by omega
  have key:=Nb (n:=n) (Q:=Qn) (pu:=pu) r aa T q p D (λc a w N=>by cases N.1) L B (g:=ops.size-m) (a0:=a) (γ0:=γ) (Kt:=λIL=>iD P gl tr n ops R K (ops.toList.drop m) (d8 IL++fN (qk ops m) e) (dw IL++C)) (λIL γ' A O h' s1 s2 s3 s4 s5=>?_) m (OB m) (OV ops.size Tc) z S (new++[]) γ a (d+1) h P7 List.nodup_range (λk=>by rw[Og,getD_replicate_false];simp) s E G J ⟨by rw[l];exact u,by rw[l];exact I⟩ (Same.refl _ _) (GxS.refl _ _);rw[<-Z]at key;exact key;have o:(ops.toList.drop m).length=ops.size-m:=by simp
  rw[<-o];refine wpAny_of_seq (md:=.any) (ops.toList.drop m) m _ A _ (λj=>by simp[Oj]) (by rw[o];exact y) ?_;refine oD r B _ _ _ _ _ _ O s5 s1 (by rw[Od];exact s2) λU M V Y ac h'' q4 q5 q6 q7 q8=>⟨rfl,hQ U M V Y ac h'' q4 q5 ?_ ?_ q8⟩;rw[b];exact(s3.mono λx f=>NT _ f).trans (q6.mono λx f=>N1 _ f);rw[b];exact(s4.mono λx f=>NT _ f).trans (q7.mono λx f=>N1 _ f)
abbrev ns:=List (Nat×Nat×List Nat×List Nat×List Nat)
def xQ:ns->Nat->Option (Nat×List Nat×List Nat×List Nat)
 |[],_=>Te
 |(j,x)::l,i=>bif Nat.beq i j then Td x else xQ l i
def pJ(P:Program)(gl:Fr)(tr:TypeId)(n:Nat)(c:ll)(f:ns)(id:Nat)(ops:Array Oper)(b:Bool)(R:CS)(K:qc->CS->Prop)(e:qc)(C:CS):Prop:=
 match xQ f id with
 |none=>sX P gl tr n c id ops b R K e C
 |some (m,fz,ord,pu)=>bif b then pH P gl tr n ops m ord pu R K e (frzL fz C)else False
theorem Fl(q:P.follows .mixedOrders=Ta)(f:Fr.le gl M0){t:ll}{w:ns}{b:Bool}{K:qc->CS->Prop}{e:qc} (H:pJ P gl tr n t w id ops b R K e C) (B:World) (d:Nat) (o:SatA n e γ a) (I:Inv h0 W M0 (C++R) γ h) {Q:Exit->Act->World->Prop}
  (p:∀k j γ' c l h',SatA n k γ' c->Inv h0 W M0 (j++R) γ' h'->Same (js ops.toList) a c->GxS (js ops.toList) γ γ'->K k j->Q .normal c (mk B l h')):(Rn id ops b).wp P Q a (mk B d h):=by
 unfold pJ at H;split at H;exact GR q f H B d o I p;rename_i m fz ord pu _;cases b with
 |false=>exact H.elim
 |true=>obtain⟨A,x,g1⟩:=Inv.frzL (C:=C) (γ:=γ) fz I;refine GH q f H B d (o.gx g1) x λk j γ' c l h' r y z s u=>p k j γ' c l h' r y z (GxS.trans ⟨g1.1,λi _=>g1.2 i (by simp)⟩ s) u
end
section
variable {S:List Nat} {γ γ':Gh} {u:Value} {C R:CS} {h:za} {n:Nat} {a:Act} {P:Program} {f:FuncId}
variable {h0 : za} {W : Nat -> Prop} {M0 : Fr}
structure PlanA where
 tails:ll
 draws:ns
 loops:List (Nat×AnnA)
 joins:List (Nat×AnnA)
def lK:List (Nat×AnnA)->Option Nat->Option AnnA
 |[],_=>Te
 |(j,m)::l,some i=>bif Nat.beq i j then Td m else lK l (Td i)
 |_,none=>Te
def jU:AA->List Nat
 |.box j _=>[j]
 |.own j=>[j]
 |.oelt j _ _ _=>[j]
 |_=>[]
def lq(S:List Nat):List AA->Bool
 |[]=>Ta
 |x::l=>bif (match jU x with
  |[]=>Ta
  |j::_=>!(memN S j))then lq S l else Tc
def oZ(S:List Nat):AG->Bool
 |.a x=>lq S [x]
 |.agg l=>lq S l
def nN(S:List Nat):List AG->Bool
 |[]=>Ta
 |x::l=>bif oZ S x then nN S l else Tc
def tq(S:List Nat):AV->Bool
 |.g x=>oZ S x
 |.tup l=>nN S l
 |.nx _ _ _=>Ta
theorem DenA.gxS(g:GxS S γ γ'){x:AA}(l:(match jU x with
  |[]=>Ta
  |j::_=>!(memN S j))=Ta)(h:DenA γ x u):DenA γ' x u:=by
 have key:∀j,memN S j=Tc->γ'.β j=γ.β j/\γ'.σ j=γ.σ j:=λj m=>g.2 j (Zn m);cases x with
 |v y=>exact h
 |d t y=>exact Rd.mono g.1 h
 |box j o=>rw[show u=_ from h];simp only[DenA,(key j (by simpa[jU]using l)).1]
 |own j=>rw[show u=_ from h];simp only[DenA,(key j (by simpa[jU]using l)).2]
 |oelt j z i o=>obtain⟨b,k,c⟩:=h;exact⟨b,by rw[(key j (by simpa[jU]using l)).2];exact k,c⟩
 |elt t y o=>obtain⟨b,f,cs,e,p,n⟩:=h;exact⟨b,f,cs,e,g.1 _ _ p,Rd.mono g.1 n⟩
 |dc t xs=>obtain⟨s,k,c,h⟩:=h;exact⟨s,k,c,Rd.mono g.1 h⟩
theorem DenL.gxS{S:List Nat}{γ γ':Gh}(g:GxS S γ γ'):∀{l:List AA} {us:List Value},lq S l=Ta->All2 (DenA γ) l us->All2 (DenA γ') l us
 |[],[],_,_=>trivial
 |[],_::_,_,h=>h.elim
 |_::_,[],_,h=>h.elim
 |x::l,u::us,hm,h=>by
  simp only[lq]at hm;cases hx:(match jU x with
   |[]=>Ta
   |j::_=>!(memN S j))with
  |false=>rw[hx]at hm;cases hm
  |true=>rw[hx]at hm;exact⟨DenA.gxS g hx h.1,DenL.gxS g hm h.2⟩
theorem DenG.gxS(g:GxS S γ γ'){x:AG}(b:oZ S x=Ta)(h:DenG γ x u):DenG γ' x u:=by
 cases x with
 |a x=>have:All2 (DenA γ') [x] [u]:=DenL.gxS g b (show All2 (DenA γ) [x] [u]from⟨h,trivial⟩);exact this.1
 |agg l=>obtain⟨us,e,h⟩:=h;exact⟨us,e,DenL.gxS g b h⟩
theorem DenV.gxS(g:GxS S γ γ'){x:AV}(f:tq S x=Ta)(h:DenV γ x u):DenV γ' x u:=by
 cases x with
 |g x=>exact DenG.gxS g f h
 |tup l=>
  obtain⟨us,e,h⟩:=h;refine⟨us,e,?_⟩;have:∀{l:List AG} {us:List Value},nN S l=Ta->All2 (DenG γ) l us->All2 (DenG γ') l us:=by
   intro l;induction l with
   |nil=>intro us _ h;cases us with
    |nil=>trivial
    |cons _ _=>exact h.elim
   |cons x l i=>
    intro us f h;cases us with
    |nil=>exact h.elim
    |cons u us=>
     simp only[nN]at f;cases hx:oZ S x with
     |false=>rw[hx]at f;cases f
     |true=>rw[hx]at f;exact⟨DenG.gxS g hx h.1,i f h.2⟩
  exact this f h
 |nx b p c=>exact h
def gi(ms S:List Nat):qc->qc
 |[]=>[]
 |(i,[],v)::e=>bif memN ms i then gi ms S e else(bif tq S v then(i,[],v)::gi ms S e else gi ms S e)
 |(_,_::_,_)::e=>gi ms S e
theorem Jg{ms S:List Nat}{γ k:Gh}{a a1:Act}(g:GxS S γ k)(c:Same ms a a1):∀{e:qc},(∀x∈e,g8 γ (zt a) x)->∀x∈gi ms S e,g8 k (zt a1) x
 |[],_,x,b=>by cases b
 |(i,[],v)::e,h,x,b=>by
  have f:=Jg g c (e:=e) λx b=>h x (NF _ b);simp only[gi]at b;cases hm:memN ms i with
  |true=>rw[hm]at b;exact f x b
  |false=>
   rw[hm]at b;simp only[zJ]at b;cases hn:tq S v with
   |false=>rw[hn]at b;exact f x b
   |true=>rw[hn]at b;rcases NI.1 b with rfl|b;refine⟨λ_=>?_,λj=>absurd trivial j⟩;have:=(h _ NQ).1 trivial;simp only at this ⊢;rw[c _ (Zn hm)];exact this.gxS g hn;exact f x b
 |(_,_::_,_)::e,h,x,b=>Jg g c (e:=e) (λx b=>h x (NF _ b)) x b
def eK(ro:List Nat):CS->CS
 |[]=>[]
 |(c,k)::l=>bif memN ro c then(c,k)::eK ro l else eK ro l
def jx(ro:List Nat):CS->CS
 |[]=>[]
 |(c,k)::l=>bif memN ro c then jx ro l else(c,k)::jx ro l
theorem uS(ro:List Nat):∀C:CS,(jx ro C++eK ro C).Perm C
 |[]=>.nil
 |(c,k)::l=>by
  have b:=uS ro l;simp only[eK,jx];cases memN ro c with
  |true=>exact List.perm_middle.trans (b.cons _)
  |false=>exact b.cons _
theorem Inv.part(I:Inv h0 W M0 (C++R) γ h)(ro:List Nat):Inv h0 W M0 (jx ro C++(eK ro C++R)) γ h:=by rw[<-Od];exact I.perm ((uS ro C).symm.append_right R)
abbrev gk:=Exit->qc->CS->Prop
def LQ(K:qc->CS->Prop)(Q:gk):gk
 |.normal,e,C=>K e C
 |x,e,C=>Q x e C
def xS(id:Nat)(Q:gk):gk
 |.exit i,e,C=>bif Nat.beq i id then Q .normal e C else Q (.exit i) e C
 |x,e,C=>Q x e C
def vV(m:CS)(K:qc->CS->Prop)(Q:gk):gk
 |.normal,e,C=>K e C
 |x,e,C=>Q x e (C++m)
def dS(pl:PlanA):Code->List Nat
 |.region _ ops _=>js ops.toList
 |.seq a b=>dS pl a++(dS pl b++(match lK pl.joins (ym b)with
  |some J=>J.ids
  |none=>[]))
 |.cond _ a b=>dS pl a++dS pl b
 |.block _ b=>dS pl b
 |.loop b=>dS pl b++(match lK pl.loops (ym b)with
  |some J=>J.ids
  |none=>[])
 |_=>[]
def mu{X:Type}(J:AnnA)(R:CS)(F:fo (eP J) X)(e:qc)(C:CS)(k:X->Prop):Prop:=
 match oN J R e C with
 |some b=>match fJ (eP J) b F with
  |some q=>k q
  |none=>False
 |none=>False
theorem sM{X:Type}{J:AnnA}{F:fo (eP J) X}{e:qc}{k:X->Prop}(h:mu J R F e C k):∃b q,oN J R e C=Td b/\fJ (eP J) b F=Td q/\k q:=by unfold mu at h;split at h;rename_i b f;split at h;rename_i q c;exact⟨b,q,f,c,h⟩;exact h.elim;exact h.elim
def WA(P:Program)(gl:Fr)(tr:TypeId)(n:Nat)(pl:PlanA):Code->CS->gk->qc->CS->Prop
 |.skip,_,Q,e,C=>Q .normal e C
 |.ret,_,Q,e,C=>Q .ret e C
 |.exit id,_,Q,e,C=>Q (.exit id) e C
 |.label _,_,Q,e,C=>Q .normal e C
 |.goto l,_,Q,e,C=>Q (.goto l) e C
 |.region id ops draw,R,Q,e,C=>pJ P gl tr n pl.tails pl.draws id ops draw R (λe C=>Q .normal e C) e C
 |.seq x y,R,Q,e,C=>match lK pl.joins (ym y)with
  |none=>WA P gl tr n pl x R (LQ (λe C=>WA P gl tr n pl y R Q e C) Q) e C
  |some J=>∀K:fo (eP J) Prop,mh (eP J) K (λf q=>WA P gl tr n pl y R Q (ig J f++gi (x9 x) (J.ids++dS pl x) e) (iG J f++eK J.ro C)->q) ->
    WA P gl tr n pl x (eK J.ro C++R) (vV (eK J.ro C) (λi h=>mu J (eK J.ro C++R) K i h λq=>q) Q) e (jx J.ro C)
 |.cond c x y,R,Q,e,C=>match dZ e [] c with
  |some v=>match kA v with
   |some b=>(b=Ta->WA P gl tr n pl x R Q e C)/\(b=Tc->WA P gl tr n pl y R Q e C)
   |none=>False
  |none=>False
 |.block id x,R,Q,e,C=>WA P gl tr n pl x R (xS id Q) e C
 |.loop x,R,Q,e,C=>match lK pl.loops (ym x)with
  |some J=>∃(I:fo (eP J) Prop) (μ:fo (eP J) Nat),mu J (eK J.ro C++R) (mZ (eP J) I μ) e (jx J.ro C) (λp=>p.1) /\
    mh (eP J) (mZ (eP J) I μ) λf p=>p.1->WA P gl tr n pl x (eK J.ro C++R) (vV (eK J.ro C) (λi h=>mu J (eK J.ro C++R) (mZ (eP J) I μ) i h λq=>q.1/\q.2<p.2) Q)
     (ig J f++gi (x9 x) (J.ids++dS pl x) e) (iG J f)
  |none=>False
 |_,_,_,_,_=>False
def Ev(h0:za)(W:Nat->Prop)(M0:Fr)(n:Nat)(B:World)(ms S:List Nat)(a0:Act)(b:Gh)(R:CS)(Q:gk):Exit->Act->World->Prop:=
 λx a w=>∃e C γ d h,w=mk B d h/\SatA n e γ a/\Inv h0 W M0 (C++R) γ h/\Same ms a0 a/\GxS S b γ/\Q x e C
theorem Gd{e:qc}{h γ f:Gh}{a a1:Act}(k:SatA n e h a){ms S ids:List Nat}(l:a1.defers=[])(m:a1.tmps.size=n)(c:Same ms a a1)(g:GxS S h γ)(g1:GxS ids γ f){J:AnnA}{i:List Dy}
  (j:∀x∈ig J i,g8 f (zt a1) x):SatA n (ig J i++gi ms (ids++S) e) f a1:=by
 refine⟨l,m,λx b=>?_⟩;rcases N0.1 b with b|b;exact j x b;exact Jg ((g.mono λx b=>N1 _ b).trans (g1.mono λx b=>NT _ b)) c k.all x b
theorem Gs(hm:P.follows .mixedOrders=Ta){gl:Fr}(ar:Fr.le gl M0){tr:TypeId}{pl:PlanA}:∀(c:Code) (R:CS) (Q:gk) (e:qc) (C:CS),WA P gl tr n pl c R Q e C ->
  ∀(γ:Gh) (h:za) (B:World) (d:Nat) (a:Act),SatA n e γ a->Inv h0 W M0 (C++R) γ h->c.wp P (Ev h0 W M0 n B (x9 c) (dS pl c) a γ R Q) a (mk B d h):=by
 intro c;induction c with
 |skip=>exact λR Q e C H γ h B d a f I=>wp_skip ⟨e,C,γ,d,h,rfl,f,I,Same.refl _ _,GxS.refl _ _,H⟩
 |ret=>exact λR Q e C H γ h B d a f I=>wp_ret ⟨e,C,γ,d,h,rfl,f,I,Same.refl _ _,GxS.refl _ _,H⟩
 |exit id=>exact λR Q e C H γ h B d a f I=>wp_exit ⟨e,C,γ,d,h,rfl,f,I,Same.refl _ _,GxS.refl _ _,H⟩
 |label l=>exact λR Q e C H γ h B d a f I=>wp_label ⟨e,C,γ,d,h,rfl,f,I,Same.refl _ _,GxS.refl _ _,H⟩
 |goto l=>exact λR Q e C H γ h B d a f I=>wp_goto ⟨e,C,γ,d,h,rfl,f,I,Same.refl _ _,GxS.refl _ _,H⟩
 |region id ops aC=>exact λR Q e C H γ h B d a f I=>Fl hm ar H B d f I λe' C' γ' a' d' h' o t q3 q4 q5=>⟨e',C',γ',d',h',rfl,o,t,q3,q4,q5⟩
 |seq x y N M=>
  intro R Q e C H γ h B d a f I;simp only[WA]at H;have hl:∀i∈x9 x,i∈x9 (x.seq y):=λi hi=>NT _ hi;have hr:∀i∈x9 y,i∈x9 (x.seq y):=λi hi=>N1 _ hi;have Z:∀i∈dS pl x,i∈dS pl (x.seq y):=λi hi=>NT _ hi;have kr:∀i∈dS pl y,i∈dS pl (x.seq y):=λi hi=>N1 _ (NT _ hi);split at H;refine wp_seq (wp_mono (N _ _ _ _ H γ h B d a f I) ?_);rintro ex a1 w1 ⟨V,U,k,s,r,rfl,s1,u,z,g1,o⟩;cases ex with
  |normal=>refine wp_mono (M _ _ _ _ o k r B s a1 s1 u) ?_;rintro ex a2 w2 ⟨S,O,L,w,G,rfl,s2,D,E,F,t⟩;exact⟨S,O,L,w,G,rfl,s2,D,(z.mono hl).trans (E.mono hr),(g1.mono Z).trans (F.mono kr),t⟩
  |_=>exact⟨V,U,k,s,r,rfl,s1,u,z.mono hl,g1.mono Z,o⟩
  rename_i J hJ;have kJ:∀i∈J.ids,i∈dS pl (x.seq y):=λi hi=>by simp only[dS,hJ];exact N1 _ (N1 _ hi)
  have H':=H (lH (eP J) λA=>WA P gl tr n pl y R Q (ig J A++gi (x9 x) (J.ids++dS pl x) e) (iG J A++eK J.ro C)) (Bu λA hq=>hq);refine wp_seq (wp_mono (N _ _ _ _ H' γ h B d a f (I.part J.ro)) ?_);rintro ex a1 w1 ⟨V,U,k,s,r,rfl,s1,u,z,g1,o⟩;cases ex with
  |normal=>obtain⟨A,q,hv,hq,hk⟩:=sM o;have ah:=BU hq;subst ah;obtain⟨an,ab,aa,f1⟩:=pO hv s1 u;have ap:=Gd f s1.defers s1.size z g1 aa f1;rw[<-Od]at ab;refine wp_mono (M _ _ _ _ hk an r B s a1 ap ab) ?_;rintro ex a2 w2 ⟨S,O,L,w,G,rfl,s2,D,E,F,t⟩;exact⟨S,O,L,w,G,rfl,s2,D,(z.mono hl).trans (E.mono hr),((g1.mono Z).trans (aa.mono kJ)).trans (F.mono kr),t⟩
  |_=>exact⟨V,U++eK J.ro C,k,s,r,rfl,s1,by rw[Od];exact u,z.mono hl,g1.mono Z,o⟩
 |cond c x y N M=>intro R Q e C H γ h B d a f I;simp only[WA]at H;have hl:∀i∈x9 x,i∈x9 (Rh c x y):=λi hi=>NT _ hi;have hr:∀i∈x9 y,i∈x9 (Rh c x y):=λi hi=>N1 _ hi;have Z:∀i∈dS pl x,i∈dS pl (Rh c x y):=λi hi=>NT _ hi;have kr:∀i∈dS pl y,i∈dS pl (Rh c x y):=λi hi=>N1 _ hi;split at H;rename_i v hv;split at H;rename_i b T;refine wp_cond_split (rZ T (zl f (c:=[]) trivial hv)) (λay=>?_) (λai=>?_);refine wp_mono (N _ _ _ _ (H.1 ay) γ h B d a f I) ?_;rintro ex a2 w2 ⟨S,O,L,w,G,rfl,s2,D,E,F,t⟩;exact⟨S,O,L,w,G,rfl,s2,D,E.mono hl,F.mono Z,t⟩;refine wp_mono (M _ _ _ _ (H.2 ai) γ h B d a f I) ?_;rintro ex a2 w2 ⟨S,O,L,w,G,rfl,s2,D,E,F,t⟩;exact⟨S,O,L,w,G,rfl,s2,D,E.mono hr,F.mono kr,t⟩;exact H.elim;exact H.elim
 |block id x ih=>
  intro R Q e C H γ h B d a f I;refine wp_block (wp_mono (ih _ _ _ _ H γ h B d a f I) ?_);rintro ex a1 w1 ⟨V,U,k,s,r,rfl,s1,u,z,g1,o⟩;cases ex with
  |exit i=>simp only[xS]at o;simp only[Exit.inBlock];by_cases T:Nat.beq i id=Ta;rw[zz (NJ T)];simp only[T,zI]at o;exact⟨V,U,k,s,r,rfl,s1,u,z,g1,o⟩;rw[zv (λhe=>T (by rw[he];simp))];simp only[T,zJ]at o;exact⟨V,U,k,s,r,rfl,s1,u,z,g1,o⟩
  |_=>exact⟨V,U,k,s,r,rfl,s1,u,z,g1,o⟩
 |loop x ih=>
  intro R Q e C H γ h B d a f I;simp only[WA]at H;split at H;rename_i J hJ;have kx:∀i∈dS pl x,i∈dS pl (Code.loop x):=λi hi=>NT _ hi;have kJ:∀i∈J.ids,i∈dS pl (Code.loop x):=λi hi=>by simp only[dS,hJ];exact N1 _ hi
  have kS:∀i∈J.ids++dS pl x,i∈dS pl (Code.loop x):=λi hi=>by rcases N0.1 hi with hi|hi;exact kJ i hi;exact kx i hi
  obtain⟨Iv,μ,af,Y⟩:=H;obtain⟨aA,p0,aB,ae,az⟩:=sM af;obtain⟨γ0,I0,g0,f0⟩:=pO aB f (I.part J.ro);refine wp_loop_ghost (λm a1 w1=>∃s r k A p,w1=mk B s r/\a1.defers=[]/\a1.tmps.size=n/\Same (x9 x) a a1/\GxS (J.ids++dS pl x) γ k/\Inv h0 W M0 (iG J A++(eK J.ro C++R)) k r/\(∀y∈ig J A,g8 k (zt a1) y) /\ fJ (eP J) A (mZ (eP J) Iv μ)=Td p/\p.1/\p.2=m) p0.2 ⟨d,h,γ0,aA,p0,rfl,f.defers,f.size,Same.refl _ _,g0.mono λi hi=>NT _ hi,I0,f0,ae,az,rfl⟩ ?_;rintro m a1 w1 ⟨s,r,k,A,p,rfl,ak,ac,j,g1,u,f1,hp,aj,rfl⟩;have s1:SatA n (ig J A++gi (x9 x) (J.ids++dS pl x) e) k a1:=⟨ak,ac,λy hy=>by rcases N0.1 hy with hy|hy;exact f1 y hy;exact Jg g1 j f.all y hy⟩;have T:=A8 hp Y aj;refine wp_mono (ih _ _ _ _ T k r B s a1 s1 u) ?_;rintro ex a2 w2 ⟨S,O,L,w,G,rfl,s2,D,E,F,t⟩;cases ex with
  |normal=>obtain⟨al,q,au,hq,ax,am⟩:=sM t;obtain⟨γ3,I3,g3,f3⟩:=pO au s2 D;exact⟨q.2,am,w,G,γ3,al,q,rfl,s2.defers,s2.size,j.trans E,(g1.trans (F.mono λi hi=>N1 _ hi)).trans (g3.mono λi hi=>NT _ hi),I3,f3,hq,ax,rfl⟩
  |_=>exact⟨S,O++eK J.ro C,L,w,G,rfl,s2,by rw[Od];exact D,j.trans E,(g1.mono kS).trans (F.mono kx),t⟩
  exact H.elim
 |_=>exact λR Q e C H=>H.elim
def jG:Nat->List Arg->qc
 |_,[]=>[]
 |i,a::l=>(i,[],.g (mI a.t a.x))::jG (i+1) l
def oA(e:qc)(i:Nat):Option AV:=match gT e i with
 |some ([],v)=>Td v
 |_=>Te
def gL(P:Program)(cs:CS)(e:qc):List ResultVar->(List AV->Prop)->Prop
 |[],K=>K []
 |.tmp t::l,K=>match oA e t with
  |some v=>gL P cs e l λvs=>K (v::vs)
  |none=>False
 |.cell a t::l,K=>match oA e a with
  |some (.g (.a aa))=>kC P cs t aa Te λv=>gL P cs e l λvs=>K (v::vs)
  |_=>False
def yg(cs:CS):(l:List Ty)->List AV->Option (dQ l)
 |[],[]=>Td ()
 |[t],[v]=>lw cs t v
 |t::t'::l,v::vs=>match lw cs t v,yg cs (t'::l) vs with
  |some x,some y=>Td (x,y)
  |_,_=>Te
 |_,_=>Te
theorem Bj{γ:Gh}{cs:CS}(b:gy γ cs):∀{l:List Ty} {vs:List AV} {r:dQ l} {us:List Value},yg cs l vs=Td r->All2 (DenV γ) vs us->oQ γ.M l r us
 |[],[],r,[],_,_=>rfl
 |[],[],_,_::_,_,h=>h.elim
 |[t],[v],r,[u],h,hd=>⟨u,rfl,pw b (by simpa[yg]using h) hd.1⟩
 |[t],[v],_,[],_,h=>h.elim
 |[t],[v],_,_::_::_,_,h=>h.2.elim
 |t::t'::l,v::vs,r,[],_,h=>h.elim
 |t::t'::l,v::vs,r,u::us,h,hd=>by simp only[yg]at h;split at h;rename_i x y e c;simp only[NC]at h;subst h;exact⟨u,us,rfl,pw b e hd.1,Bj b c hd.2⟩;cases h
 |[],_::_,_,_,h,_=>by simp[yg]at h
 |[t],[],_,_,h,_=>by simp[yg]at h
 |[t],_::_::_,_,_,h,_=>by simp[yg]at h
 |t::t'::l,[],_,_,h,_=>by simp[yg]at h
def qQ(P:Program)(rs:List ResultVar)(b:List Ty)(R:dQ b->Prop):gk:=λx e C=>match x with
 |.normal=>gL P C e rs λvs=>match yg (frzL (Jz vs) C) b vs with
  |some r=>R r
  |none=>False
 |.ret=>gL P C e rs λvs=>match yg (frzL (Jz vs) C) b vs with
  |some r=>R r
  |none=>False
 |_=>False
theorem qE{P:Program}{n:Nat}{C:CS}{e:qc}{γ:Gh}{a:Act}{h:za}(B:SatA n e γ a)(I:Inv h0 W M0 C γ h):∀{l:List ResultVar} {K:List AV->Prop},gL P C e l K->∃vs us,K vs/\All2 (DenV γ) vs us/\us.length=l.length/\QExec P (l.mapM (jA a.tmps)) h us
 |[],K,H=>⟨[],[],H,trivial,rfl,λ_ _=>by simp⟩
 |.tmp t::l,K,H=>by
  simp only[gL]at H;split at H;rename_i v r;obtain⟨vs,us,F,M,L,G⟩:=qE B I H;have j:DenV γ v (zt a t):=by unfold oA at r;split at r;rename_i u m;simp only[NC]at r;subst r;exact(B.all _ (xu m)).1 trivial;cases r
  refine⟨v::vs,zt a t::us,F,⟨j,M⟩,by simp[L],?_⟩;rw[Re];exact QExec.bind (x:=zt a t) (QExec.pure _) (G.bind (QExec.pure _));exact H.elim
 |.cell x t::l,K,H=>by
  simp only[gL]at H;split at H;rename_i q A;obtain⟨v,T,O⟩:=zZ (h0:=h0) (W:=W) (M0:=M0) H;obtain⟨vs,us,F,M,L,G⟩:=qE B I T;have j:DenA γ q (zt a x):=by unfold oA at A;split at A;rename_i u m;simp only[NC]at A;subst A;exact(B.all _ (xu m)).1 trivial;cases A
  obtain⟨u,Q,w⟩:=O trivial γ h _ I j;refine⟨v::vs,u::us,F,⟨Q,M⟩,by simp[L],?_⟩;rw[Re];refine QExec.bind (x:=u) ?_ (G.bind (QExec.pure _));have J:∃p,zt a x=.pointer (Td p):=by
   have D:∀q,(∀k,nA C k q=Te)->(∀c z i o,q≠.oelt c z i o)->DenA γ q (zt a x)->kC P C t q Te (λv=>gL P C e l λvs=>K (v::vs))->False:=by intro q S E _ m;unfold kC at m;split at m;split at m;exact E _ _ _ _ rfl;rw[S]at m;exact m;exact m
   cases q with
   |box c o=>exact⟨_,j⟩
   |oelt c z i o=>obtain⟨g,_,e⟩:=j;exact⟨_,e⟩
   |elt t y o=>obtain⟨b,f,cs,e,_⟩:=j;exact⟨_,e⟩
   |v y=>exact(D _ (λ_=>rfl) (by simp) j H).elim
   |d t y=>exact(D _ (λ_=>rfl) (by simp) j H).elim
   |own c=>exact(D _ (λ_=>rfl) (by simp) j H).elim
   |dc t y=>exact(D _ (λ_=>rfl) (by simp) j H).elim
  obtain⟨p,s⟩:=J;rw[s]at w;have N:a.tmps.getD x undef=.pointer (Td p):=s;simp only[jA,N];exact w;exact H.elim
theorem CK{fn:Func}{rs:List ResultVar}(b:fn.results.toList=rs){us:List Value}(e:us.length=rs.length)(c:QExec P (rs.mapM (jA a.tmps)) h us):QExec P (results fn a.tmps) h (fU us):=by
 intro B d;have f:results fn a.tmps=(fn.results.mapM (jA a.tmps) >>= λvs=>PZ (if h:vs.size=1 then vs[0]else .tuple vs)):=by unfold results;congr 1
 rw[f,Array.mapM_eq_mapM_toList,b,Sem.run_bind,Sem.run_map,c B d];simp only[Result.andThen_ok,Sem.run_pure]
 match us,e with
 |[],_=>rfl
 |[v],_=>rfl
 |v::u::vs,_=>simp[fU]
theorem Ax{γ:Gh}{σ:Nat->Value}:∀{l:List Arg} {i:Nat} {us:List Value},Jy γ.M l us->(∀j v,us[j]?=Td v->σ (i+j)=v)->∀x∈jG i l,g8 γ σ x
 |[],_,_,_,_,x,b=>by cases b
 |a::l,i,[],h,_,x,b=>h.elim
 |a::l,i,u::us,h,hσ,x,b=>by simp only[jG,NI]at b;rcases b with rfl|b;refine⟨λ_=>?_,λc=>absurd trivial c⟩;have:=hσ 0 u rfl;simp only at this ⊢;rw[show σ i=u from this];exact rL h.1;exact Ax h.2 (λj v e=>by have:=hσ (j+1) v (by simpa using e);rwa[show i+(j+1)=i+1+j by omega]at this) x b
theorem HW(hm:P.follows .mixedOrders=Ta)(gl:Fr)(tr:TypeId)(pl:PlanA)(args:List Arg){fn:Func}{rs:List ResultVar}{s:List Ty}(hf:P.funcs[f]?=Td fn)(F:Zw fn=Ta)(hr:fn.results.toList=rs)(hn:fn.ntmps=n)
  (hz:Nat.ble args.length n=Ta) {R:dQ s->Prop} (H:WA P gl tr n pl (codeOf fn) [] (qQ P rs s R) (jG 0 args) []):PC P gl f args s R:=by
 intro h M vs N O l B d;subst hn;have E:fn.body=Td (codeOf fn):=by unfold Zw at F;unfold codeOf;split at F;rename_i c G;rw[G];cases F
 refine calls_of_wp hf E ?_;have t:vs.length=args.length:=(All2.length l).symm;have Y:vs.length<=fn.ntmps:=by rw[t];exact OW hz
 let γ:Gh:=⟨M,λ_=>0,λ_=>⟨Te,0,0⟩⟩;have I:Inv h (λ_=>False) M ([]++[]) γ h:={ ag:=O,frame:=λ_ _ _=>rfl,size:=ND _,old:=λ_ _=>rfl,le:=Fr.le.refl _,den:=λx L=>(by cases L),sep:=λx L=>(by cases L),apart:=PO };have Z:SatA fn.ntmps (jG 0 args) γ { tmps:=vs.toArray++OV (fn.ntmps-vs.toArray.size) undef,defers:=[] }:=by refine⟨rfl,by simp;omega,Ax l λj v T=>?_⟩;have J:j<vs.length:=(Ou.1 T).1;simp only[NZ,zt,OL];rw[Pu (by simpa using J)];simp[T]
 have fin:∀(e:qc) (C:CS) (γ':Gh) (h':za) (a:Act),SatA fn.ntmps e γ' a->Inv h (λ_=>False) M (C++[]) γ' h'->(gL P C e rs λvs=>match yg (frzL (Jz vs) C) s vs with|some r=>R r|none=>False) ->
   ∃v,QExec P (results fn a.tmps) h' v/\Keep h.size h h'/\∃M' r,Fr.le M M'/\(∀b,b<h.size->M' b=M b)/\AgM M' h'/\dX M' s r v/\R r:=by
  intro e C γ' h' a s1 o q;rw[Oe]at o;obtain⟨D,us,Q,hd,hl,p⟩:=qE s1 o q;split at Q;rename_i r G;obtain⟨γ2,m,g2⟩:=Inv.frzL (C:=C) (R:=[]) (γ:=γ') (Jz D) (by simpa using o);rw[Oe]at m;refine⟨fU us,CK hr hl p,⟨m.size,λi hi=>m.frame i hi (λh=>h)⟩,γ2.M,r,m.le,m.old,m.ag,⟨us,Bj m.fz G (hd.imp λv _ u hu=>hu.gx g2 rfl),rfl⟩,Q⟩;exact Q.elim
 refine wp_mono (Gs hm N _ _ _ _ _ H γ h B d _ Z I) ?_;rintro ex a w ⟨S,U,V,y,z,rfl,s1,o,m1,g1,A⟩;cases ex with
 |normal=>obtain⟨v,p,k,rest⟩:=fin S U V z a s1 o A;exact⟨s1.defers,v,p B y,v,y,z,rfl,rfl,k,rest⟩
 |ret=>obtain⟨v,p,k,rest⟩:=fin S U V z a s1 o A;exact⟨s1.defers,v,p B y,v,y,z,rfl,rfl,k,rest⟩
 |_=>exact A.elim
theorem KL(k:P.follows .mixedOrders=Ta)(gl:Fr)(tr:TypeId)(pl:PlanA)(args:List Arg){fn:Func}{rs:List ResultVar}{b:List Ty}(i:P.funcs[f]?=Td fn)(h:Zw fn=Ta)(j:fn.results.toList=rs)(l:fn.ntmps=n)
  (c:Nat.ble args.length n=Ta) {R:dQ b->Prop} {F:Prop} (H:F) (e:F=WA P gl tr n pl (codeOf fn) [] (qQ P rs b R) (jG 0 args) []):PC P gl f args b R:=
 HW k gl tr pl args i h j l c (e ▸ H)
end
end Go.X
end
section
namespace Go.X
open Go Go.RowKit
section
variable {P:Program} {f:FuncId} {h:za} {M gl:Fr} {v:Value} {us:List Value}
theorem XC.of_calls{args:Array Value}{R:Value->za->Prop}
  (H:∀B d,Calls P f args (mk B d h) λe w'=>∃v,e=.returned v/\w'.os=B.os/\w'.tape=B.tape/\w'.output=B.output/\R v w'.heap):XC P f args h R:=by
 intro B d;refine(H B d).mono ?_;rintro e w' ⟨v,rfl,i,c,j,b⟩;refine⟨v,w'.drawn,w'.heap,rfl,?_,b⟩;cases w';simp only[mk]at *;subst i;subst c;subst j;rfl
theorem AgM.keep{h h':za}(ag:AgM M h)(k:Keep h.size h h'):AgM M h':=λb c e=>by obtain⟨T,m,f⟩:=ag b c e;exact⟨T,m,by rw[k.get b (ag.lt e)];exact f⟩
def kc:Arg->Option Value
 |⟨.int k,x⟩=>Td (.int k x)
 |⟨.bool,x⟩=>Td (.bool x)
 |⟨.str,x⟩=>Td (.string x)
 |_=>Te
def i6:List Arg->Option (List Value)
 |[]=>Td []
 |a::l=>match kc a,i6 l with
  |some v,some vs=>Td (v::vs)
  |_,_=>Te
theorem FS{a:Arg}{v u:Value}(h:kc a=Td v)(b:RdV M a.t a.x u):u=v:=by
 obtain⟨t,x⟩:=a;cases t with
 |int k=>simp only[kc,NC]at h;subst h;simpa[RdV,Rd,ev]using b
 |bool=>simp only[kc,NC]at h;subst h;simpa[RdV,Rd,ev]using b
 |str=>simp only[kc,NC]at h;subst h;simpa[RdV,Rd,ev]using b
 |_=>simp[kc]at h
theorem pB{M:Fr}:∀{l:List Arg} {vs us:List Value},i6 l=Td vs->Jy M l us->us=vs
 |[],vs,us,h,hd=>by
  simp only[i6,NC]at h;subst h;cases us with
  |nil=>rfl
  |cons _ _=>exact hd.elim
 |a::l,vs,us,h,hd=>by
  simp only[i6]at h;split at h;rename_i v b e c;simp only[NC]at h;subst h;cases us with
  |nil=>exact hd.elim
  |cons u us=>rw[FS e hd.1,pB c hd.2]
  cases h
theorem PC.of_scal{args:List Arg}{l:List Ty}{R:dQ l->Prop}(j:i6 args=Td us){r:dQ l}(m:∀M,dX M l r v)(p:R r)
  (H:∀w:World,AgM gl w.heap->Calls P f us.toArray w λe w'=>e=.returned v/\Below w.heap.size w w'):PC P gl f args l R:=by
 intro h M vs o ag n;rw[pB j n];refine XC.of_calls λB d=>(H (mk B d h) λb c e=>ag b c (o b c e)).mono ?_;rintro e w' ⟨rfl,i⟩;have k:Keep h.size h w'.heap:=⟨i.size,i.block⟩;exact⟨v,rfl,i.os,i.tape,i.output,k,M,r,Fr.le.refl _,λ_ _=>rfl,ag.keep k,m M,p⟩
theorem PC.of_same{args:List Arg}{c:List Ty}{R:dQ c->Prop}(b:i6 args=Td us){r:dQ c}(j:∀M,dX M c r v)(i:R r)
  (H:∀w:World,AgM gl w.heap->Calls P f us.toArray w λe w'=>e=.returned v/\w'=w):PC P gl f args c R:=
 PC.of_scal b j i λw h=>(H w h).mono λe w' ⟨l,k⟩=>⟨l,k ▸ Below.refl _ _⟩
theorem LG(k:IntKind)(i:Int):dX M [.int k] i (.int k i):=⟨[_],⟨_,rfl,rfl⟩,rfl⟩
theorem Dk(b:Bool):dX M [.bool] b (.bool b):=⟨[_],⟨_,rfl,rfl⟩,rfl⟩
theorem mA(s:Bt):dX M [.str] s (.string s):=⟨[_],⟨_,rfl,rfl⟩,rfl⟩
theorem AgM.glob{w:World}(ag:AgM gl w.heap){b o:Nat}{cs:Array Value}(c:gl b=Td cs)(f:cs[o]?=Td v):w.cell? ⟨b,o,Option.none⟩=Td v:=by obtain⟨T,m,e⟩:=ag b cs c;simp[Ro,e,f]
theorem PC.of_ex{args:List Arg}{l:List Ty}{R:dQ l->Prop}(j:i6 args=Td us)
  (H:∀w:World,AgM gl w.heap->Calls P f us.toArray w λe w'=>∃v r,e=.returned v/\(∀M,dX M l r v)/\R r/\Below w.heap.size w w'):PC P gl f args l R:=by
 intro h M vs o ag n;rw[pB j n];refine XC.of_calls λB d=>(H (mk B d h) λb c e=>ag b c (o b c e)).mono ?_;rintro e w' ⟨v,r,rfl,m,p,i⟩;have k:Keep h.size h w'.heap:=⟨i.size,i.block⟩;exact⟨v,rfl,i.os,i.tape,i.output,k,M,r,Fr.le.refl _,λ_ _=>rfl,ag.keep k,m M,p⟩
end
end Go.X
end
