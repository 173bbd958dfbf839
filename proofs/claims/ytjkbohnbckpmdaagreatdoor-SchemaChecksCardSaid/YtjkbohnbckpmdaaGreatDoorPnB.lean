/- A part of the proof: nothing is stated here for its own sake. -/
import Derived.Test.YtjkbohnbckpmdaaGreatDoorPnA
import Derived.Laws.StructEq
import Derived.Deep.AppendSrc
import Derived.Laws.BytesString
import Derived.Deep.LoopGhost
import Derived.Below
open _root_.Go.Addr renaming add->YK
open _root_.Array renaming getD_eq_getD_getElem?->zay,getElem?_append_left->zbs,getElem?_eq_getElem->zal,getElem?_eq_some_iff->YV,range->zc4,replicate->zar,toList_map->zca
open _root_.Bool renaming false_eq_true->zaz,or_eq_true->zbb
open _root_.Go.Builtin renaming append_->YY,firstCells->zbk,len_->zb5
open _root_.ByteArray renaming empty->zc1
open _root_.Go.Code renaming cond->zda,region->zc3
open _root_.Go.Deferred renaming ofValue->zcw
open _root_.Go.Instr renaming fill->zdn,indexAt->zdb,next->zc9,range->zdd,sliceAt->zcx,storeAt->YN,sureAddr->zcu
open _root_.Int renaming toNat_natCast->YO
open _root_.List renaming all_eq_true->ZJ,append_assoc->zbh,append_nil->ZY,cons_append->zaq,drop_eq_getElem_cons->ZM,drop_zero->za5,eq_nil_of_length_eq_zero->zaa,ext_getElem?->zap,getElem?_drop->zan,getElem?_eq_some_iff->ZH,getElem?_map->zai,getElem?_take->ZQ,getElem?_toArray->zb4,getElem_map->zcb,length_append->ZC,length_cons->ZV,length_drop->zab,length_eq_zero_iff->zau,length_map->ZA,length_nil->zb7,length_take->za0,mapM_cons->zc5,map_cons->zae,mem_append->ZG,mem_append_left->YZ,mem_append_right->ZL,mem_cons->YS,mem_cons_of_mem->YU,mem_cons_self->ZB,mem_iff_getElem?->zce,mem_map->za6,mem_range->zbc,mem_singleton->zaf,nil_append->zba,pairwise_append->zch,pairwise_cons->za2,range->zak,take_append_drop->zax,take_of_length_le->zag,take_succ_eq_append_getElem->YP
open _root_.List.cons renaming injEq->za4
open _root_.Nat renaming add_mul->zb0,blt_eq->zbj,eq_of_beq_eq_true->YT,eq_zero_or_pos->zcd,le_mul_of_pos_right->zb6,le_of_ble_eq_true->zaw,le_refl->YM,le_trans->zaj,lt_or_ge->zad,mul_le_mul_right->ZF,mul_one->zb1,one_mul->zdf,zero_add->ZP,zero_le->ZN
open _root_.Go.Next renaming value->zck
open _root_.Go.Op renaming equal->zdl
open _root_.Option renaming map_eq_some_iff->zbu,map_some->zc0
open _root_.Option.some renaming inj->ZS,injEq->YL
open _root_.Prod.mk renaming injEq->za1
open _root_.Pure renaming pure->zcf
open _root_.Go.Region renaming binds->zdi
open _root_.UInt8 renaming ofNat->zas
open _root_.Go.Utf8 renaming decode->zci,encode->zdg
open _root_.Go.Value renaming int->zdk,string->ZD
open _root_.Go.Value.slice renaming injEq->ZU
set_option linter.all false
set_option maxRecDepth 100000
namespace Go.X
end Go.X
namespace Go.Proofs
end Go.Proofs
open Go Go.X Go.Proofs
open _root_.Bool renaming true->Ta,false->Tb
open _root_.Option renaming some->Tc,none->Td
section
namespace Go.X
section
variable {cs:CS} {γ:Gh} {h:zc} {u:Value} {t el:TypeId} {a:Option Addr} {n:Int} {av:AV} {P:Program} {cap:Nat} {g:Option Bool} {σ:Operand -> Value} {b:Bool} {o:Oper}
variable {h0 : zc} {W : Nat -> Prop} {M0 : Fr}
def rowOf(cs:CS):AA->Option ((t:Ty)×List (El t))
 |.d (.row t) xs=>Tc ⟨t,xs⟩
 |.dc t xs=>Tc ⟨t,xs⟩
 |.own c=>match Yd cs c with
  |some (.fz t xs)=>Tc ⟨t,xs⟩
  |_=>Td
 |_=>Td
theorem oU(I:Inv h0 W M0 cs γ h){e:AA}{r:(t:Ty)×List (El t)}(b:rowOf cs e=Tc r)(c:DenA γ e u):Rd γ.M (.row r.1) r.2 [u]:=by unfold rowOf at b;split at b;simp only[YL]at b;subst b;exact c;simp only[YL]at b;subst b;obtain⟨s,_,_,h⟩:=c;exact h;split at b;rename_i t xs f;simp only[YL]at b;subst b;rw[show u=_ from c];exact I.den _ (qh f);cases b;cases b
theorem Rd.sub{M:Fr}{t:Ty}{xs:List (El t)}{n c:Nat}(H:Rd M (.row t) xs [.slice a n c]){l r m:Nat}(h1:l<=r)(w:r<=xs.length)(z:r<=m)(x:m<=c):
  Rd M (.row t) ((xs.take r).drop l) [.slice (fF a (sz t) l m) (r-l) (m-l)]:=by
 obtain⟨v,e,a',c',k,A,H⟩:=H;cases e;simp only[ZU]at k;obtain⟨rfl,rfl,rfl⟩:=k;have f:((xs.take r).drop l).length=r-l:=by simp;omega
 refine⟨_,rfl,fF a (sz t) l m,m-l,by rw[f],⟨by omega,by omega⟩,?_⟩;by_cases y:r=l;simp_all;rcases H with u|⟨b,o,cs,s,p,hi⟩;simp_all;right;have h:¬(m=l):=by omega
 refine⟨b,o+l*sz t,cs,?_,p,λi q=>?_⟩;unfold fF;rw[za h,s];simp[zw];grind
def tm:AV->Option Int
 |.g (.a (.v (.int _ n)))=>Tc n
 |_=>Td
theorem Be(h:tm av=Tc n)(b:DenV γ av u):∃k,u=.int k n:=by unfold tm at h;split at h;simp only[YL]at h;subst h;exact⟨_,b⟩;cases h
def jC(P:Program)(t:TypeId):Option TypeId:=match P.underlying t with
 |some (.slice el)=>bif qj P el then Tc el else Td
 |_=>Td
theorem Jt(h:jC P t=Tc el):P.underlying t=Tc (.slice el)/\qj P el=Ta:=by unfold jC at h;grind
def vp(P:Program)(cs:CS)(t:TypeId)(b:AA)(n:Int)(g:Option Bool)(K:AV->Prop):Prop:=
 match jC P t with
 |some el=>match rowOf cs b with
  |some r=>bif Nat.beq (yb P el) (sz r.1)then ∃y:El r.1,req g (0<=n/\r.2[n.toNat]?=Tc y)/\K (.g (.a (.elt r.1 y 0)))else False
  |none=>match b with
   |.own c=>match Yd cs c with
    |some (.row e ty xs)=>bif Nat.beq (yb P el) (sz ty)then req g (0<=n/\n.toNat<xs.length)/\K (.g (.a (.oelt c (sz ty) n.toNat 0)))else False
    |_=>False
   |_=>False
 |none=>False
theorem DX(f:P.underlying t=Tc (.slice el))(m:qj P el=Ta){a:Addr}{len cap:Nat}{k:IntKind}(h1:0<=n)(c:n<(len:Int))(h:zc):
  QExec P (zdb t (.slice (Tc a) len cap) (.int k n)) h (.pointer (Tc (a.add (n.toNat*yb P el)))):=by
 have:=Z6 (P:=P) (t:=t) (x:=.slice (Tc a) len cap) (i:=.int k n) (g:=Td) (K:=λv=>v=.pointer (Tc (a.add (n.toNat*yb P el)))) (λl e=>by simp_all[ju]) (by unfold oZ;rw[f];exact⟨a,⟨rfl,h1,c⟩,rfl⟩);obtain⟨v,rfl,b⟩:=this;exact b trivial h
theorem VV{F:AA}{K:AV->Prop}(H:vp P cs t F n g K):
  ∃av,K av/\(eQ g->∀γ h u k,Inv h0 W M0 cs γ h->DenA γ F u->∃v,DenV γ av v/\QExec P (zdb t u (.int k n)) h v):=by
 unfold vp at H;split at H;rename_i el x;obtain⟨E,D⟩:=Jt x;split at H;rename_i r S;cases hz:Nat.beq (yb P el) (sz r.1)with
 |false=>simp_all
 |true=>rw[hz]at H;obtain⟨y,A,z⟩:=H;refine⟨_,z,λs γ h u k I q=>?_⟩;obtain⟨i,m⟩:=A.out s;have l:=YT hz;obtain⟨v,e,a,c,N,hn,H⟩:=oU I S q;cases e;subst N;have hi:n.toNat<r.2.length:=(ZH.1 m).1;have U:r.2[n.toNat]=y:=(ZH.1 m).2;rcases H with Z|⟨b,o,J,V,L,w⟩;simp_all;subst V;refine⟨_,?_,DX E D i (by omega) h⟩;have:=w n.toNat hi;rw[U]at this;rw[zw,l];exact⟨b,o+n.toNat*sz r.1,J,rfl,L,this⟩
 split at H;rename_i c _;split at H;rename_i e ty xs Y;cases hz:Nat.beq (yb P el) (sz ty)with
 |false=>simp_all
 |true=>rw[hz]at H;obtain⟨A,z⟩:=H;refine⟨_,z,λs γ h u k I q=>?_⟩;obtain⟨i,hi⟩:=A.out s;have l:=YT hz;obtain⟨cells,f,G,_,Q⟩:=I.den _ (qh Y);simp only at Q f;rcases f.2 with⟨p,h1⟩|⟨g',cap,O,p,_,M,_,_,_,B⟩;omega;simp only[ZU]at p;have C:u=aK (γ.σ c):=q;subst C;unfold aK;rw[p.1];refine⟨_,?_,DX E D i (by omega) h⟩;rw[zw,l,ZP];exact⟨g',p.1,rfl⟩
 exact H.elim;exact H.elim;exact H.elim
def pn(ρ:Operand->Option AV)(d:Int):Option Operand->Option Int
 |none=>Tc d
 |some x=>match ρ x with
  |some av=>tm av
  |none=>Td
theorem Ju{ρ:Operand->Option AV}(c:∀x av,ρ x=Tc av->DenV γ av (σ x)){d n:Int}{x:Option Operand}(h:pn ρ d x=Tc n):je (x.map σ) d=Tc n:=by unfold pn at h;split at h;exact h;rename_i y;split at h;rename_i av b;obtain⟨k,e⟩:=Be h (c _ _ b);simp[je,e];cases h
def zN(P:Program)(cs:CS)(ρ:Operand->Option AV)(t:TypeId)(b:AA)(lo hi mx:Option Operand)(g:Option Bool)(K:AV->Prop):Prop:=
 match jC P t with
 |some el=>match rowOf cs b with
  |some r=>bif Nat.beq (yb P el) (sz r.1)then(match pn ρ 0 lo,pn ρ (r.2.length:Int) hi with
   |some l,some h=>match mx with
    |none=>req g (0<=l/\l<=h/\h<=(r.2.length:Int))/\K (.g (.a (.d (.row r.1) ((r.2.take h.toNat).drop l.toNat))))
    |some m=>match pn ρ 0 (Tc m),hi with
     |some m,some _=>req g (0<=l/\l<=h/\h<=(r.2.length:Int)/\m=h)/\K (.g (.a (.dc r.1 ((r.2.take h.toNat).drop l.toNat))))
     |_,_=>False
   |_,_=>False)else False
  |none=>False
 |none=>False
theorem D6(f:P.underlying t=Tc (.slice el))(s:qj P el=Ta){len cap:Nat}{lo hi mx:Option Value}{l r m:Int}(b:je lo 0=Tc l)(e:je hi (len:Int)=Tc r)(k:je mx (cap:Int)=Tc m) (h0:mx=Td\/∃v,hi=Tc v) (h1:0<=l) (c:l<=r) (i:r<=m) (p:m<=(cap:Int)) (h:zc):
  QExec P (zcx t (.slice a len cap) lo hi mx) h (.slice (fF a (yb P el) l.toNat m.toNat) (r.toNat-l.toNat) (m.toNat-l.toNat)):=by
 have:=Yx (P:=P) (t:=t) (x:=.slice a len cap) (lo:=lo) (hi:=hi) (mx:=mx) (g:=Td) (K:=λv=>v=.slice (fF a (yb P el) l.toNat m.toNat) (r.toNat-l.toNat) (m.toNat-l.toNat)) (λq o=>by simp_all[ju]) (by unfold qR;rw[f];simp only[b,e,k];exact⟨h0,⟨h1,c,i,p⟩,trivial⟩);obtain⟨v,rfl,n⟩:=this;exact n trivial h
theorem Mz{ρ:Operand->Option AV}{G:AA}{lo hi mx:Option Operand}{K:AV->Prop}(H:zN P cs ρ t G lo hi mx g K):
  ∃av,K av/\(eQ g->∀γ h u σ,Inv h0 W M0 cs γ h->(∀x av,ρ x=Tc av->DenV γ av (σ x))->DenA γ G u->∃v,DenV γ av v/\QExec P (zcx t u (lo.map σ) (hi.map σ) (mx.map σ)) h v):=by
 unfold zN at H;split at H;rename_i el w;obtain⟨F,C⟩:=Jt w;split at H;rename_i r E;cases hz:Nat.beq (yb P el) (sz r.1)with
 |false=>simp_all
 |true=>
  rw[hz]at H;have o:=YT hz;simp only[zF]at H;split at H;rename_i l O D n;split at H;obtain⟨B,y⟩:=H;refine⟨_,y,λs γ h u σ I k p=>?_⟩;obtain⟨h1,q,L⟩:=B.out s;have f:=oU I E p;have b:=f;obtain⟨v,e,a,c,z,M,_⟩:=b;cases e;subst z;refine⟨_,?_,D6 F C (Ju k D) (Ju k n) (m:=(c:Int)) rfl (.inl rfl) h1 q (by omega) (Int.le_refl _) h⟩;rw[o];exact f.sub (by omega) (by omega) (by omega) (by omega);rename_i m;split at H;rename_i m' Q N;obtain⟨B,y⟩:=H;refine⟨_,y,λs γ h u σ I k p=>?_⟩;obtain⟨h1,q,L,J⟩:=B.out s;subst J;have f:=oU I E p;have b:=f;obtain⟨v,e,a,c,z,M,_⟩:=b;cases e;subst z;have i:=Ju k N;have A:je ((Tc m).map σ) (c:Int)=Tc m':=by unfold je at i ⊢;simp only[zc0]at i ⊢;split at i <;> simp_all
  refine⟨_,?_,D6 F C (Ju k D) (Ju k n) A (.inr ⟨_,rfl⟩) h1 q (Int.le_refl _) (by omega) h⟩;rw[o];refine⟨⟨_,_,_⟩,rfl,rfl,f.sub (by omega) (by omega) (by omega) (by omega)⟩;exact H.elim;exact H.elim
 exact H.elim;exact H.elim
def wA(cs:CS):AA->Option Nat
 |.d (.row _) xs=>Tc xs.length
 |.dc _ xs=>Tc xs.length
 |.own c=>match Yd cs c with
  |some (.fz _ xs)=>Tc xs.length
  |some (.row _ _ xs)=>Tc xs.length
  |_=>Td
 |_=>Td
theorem SD(I:Inv h0 W M0 cs γ h){l:AA}{n:Nat}(b:wA cs l=Tc n)(f:DenA γ l u):∃a c,u=.slice a n c:=by
 have key:∀{t:Ty} {xs:List (El t)},Rd γ.M (.row t) xs [u]->∃a c,u=.slice a xs.length c:=by rintro t xs ⟨v,e,a,c,m,_⟩;cases e;exact⟨a,c,m⟩
 unfold wA at b;split at b;simp only[YL]at b;subst b;exact key f;simp only[YL]at b;subst b;obtain⟨s,_,_,f⟩:=f;exact key f;split at b;rename_i c t xs i;simp only[YL]at b;subst b;rw[show u=_ from f]at key ⊢;exact key (I.den _ (qh i));rename_i c e t xs i;simp only[YL]at b;subst b;obtain⟨cells,_,_,_,k⟩:=I.den _ (qh i);simp only at k;rw[show u=_ from f];exact⟨_,_,by unfold aK;rw[k]⟩;cases b;cases b
def En:AA->List AA
 |.v x=>x.cells.toList.map .v
 |x=>[x]
def mY:AV->Option (List AA)
 |.g (.a x)=>Tc (En x)
 |.g (.agg l)=>Tc l
 |_=>Td
theorem Ou(h:u.oneCell'=Ta):u.cells.toList=[u]:=by cases u <;> first|rfl|simp[Value.oneCell']at h
theorem Qa(γ:Gh):∀l:List Value,All2 (DenA γ) (l.map .v) l
 |[]=>trivial
 |_::l=>⟨rfl,Qa γ l⟩
theorem UZ{x:AA}(k:DenA γ x u):All2 (DenA γ) (En x) u.cells.toList:=by
 have key:u.oneCell'=Ta->All2 (DenA γ) [x] u.cells.toList:=λh=>by rw[Ou h];exact⟨k,trivial⟩
 cases x with
 |v y=>rw[show u=y from k];exact Qa γ _
 |d t y=>exact key (Rd.one (show Rd γ.M t y [u]from k) u (by simp))
 |box c o=>exact key (by rw[show u=_ from k];rfl)
 |own c=>exact key (by rw[show u=_ from k];rfl)
 |oelt c z i o=>obtain⟨g,_,e⟩:=k;exact key (by rw[e];rfl)
 |elt t y o=>obtain⟨b,f,cs,e,_⟩:=k;exact key (by rw[e];rfl)
 |dc t xs=>obtain⟨s,e,_⟩:=k;exact key (by rw[e];rfl)
theorem tO{l:List AA}(h:mY av=Tc l)(b:DenV γ av u):All2 (DenA γ) l u.cells.toList:=by unfold mY at h;split at h;simp only[YL]at h;subst h;exact UZ b;simp only[YL]at h;subst h;obtain⟨us,rfl,c⟩:=b;simpa[Value.cells]using c;cases h
def kT(b:Nat->Option (Nat×Nat))(cells:List AA):List (Nat×AV)->Option (List AA)
 |[]=>Tc cells
 |(i,av)::rest=>match b i,mY av with
  |some (off,size),some l=>bif Nat.beq l.length size then(bif Nat.ble (off+l.length) cells.length then kT b (cells.take off++l++cells.drop (off+l.length)) rest else Td)else Td
  |_,_=>Td
theorem Tw(vs:List Value):∀(k off:Nat) (cs:Array Value),off+k+vs.length<=cs.size ->
  ((vs.zipIdx k).foldl (λcs (x:Value×Nat)=>cs.setIfInBounds (off+x.2) x.1) cs).toList=cs.toList.take (off+k)++vs++cs.toList.drop (off+k+vs.length):=by
 induction vs with
 |nil=>simp
 |cons v vs b=>
  intro k off cs h;simp only[ZV]at h;rw[List.zipIdx_cons,List.foldl_cons];refine(b (k+1) off (cs.setIfInBounds (off+k) v) (by grind)).trans ?_;simp only[Array.toList_setIfInBounds,ZV];have hi:off+k<cs.toList.length:=by simp;omega
  rw[<-Nat.add_assoc,List.drop_set_of_lt (by omega)];have c:(cs.toList.set (off+k) v).take (off+k+1)=cs.toList.take (off+k)++[v]:=by
   rw[List.take_set,YP hi,List.set_append_right _ _ (by simp;omega)];have:off+k-(cs.toList.take (off+k)).length=0:=by simp;omega
   rw[this];rfl
  grind
theorem Wo{b:Nat->Option (Nat×Nat)}{γ:Gh}:∀{c:List (Nat×AV)} {cells r:List AA} {us:List Value} {ps:List (Nat×Value)},kT b cells c=Tc r->All2 (DenA γ) cells us->All2 (λ(x:Nat×AV) (y:Nat×Value)=>x.1=y.1/\DenV γ x.2 y.2) c ps ->
  ∃n:List Value,zdn b us.toArray ps=Tc n.toArray/\All2 (DenA γ) r n
 |[],cells,r,us,[],h,hc,_=>by simp only[kT,YL]at h;subst h;exact⟨us,rfl,hc⟩
 |[],_,_,_,_::_,_,_,e=>e.elim
 |_::_,_,_,_,[],_,_,e=>e.elim
 |(i,av)::rest,cells,r,us,(j,v)::ps,h,hc,e=>by
  obtain⟨⟨f,t⟩,e⟩:=e;simp only at f t;subst f;simp only[kT]at h;split at h;rename_i off size l q w;cases hb:Nat.beq l.length size with
  |false=>simp_all
  |true=>
   rw[hb]at h;simp only[zF]at h;cases hb2:Nat.ble (off+l.length) cells.length with
   |false=>simp_all
   |true=>
    rw[hb2]at h;simp only[zF]at h;have m:=tO w t;have p:=m.length;have A:=hc.length;have h1:=YT hb;have B:=zaw hb2;have s:v.cells.size=size:=by rw[<-h1,p];simp
    have k:All2 (DenA γ) (cells.take off++l++cells.drop (off+l.length)) (us.take off++v.cells.toList++us.drop (off+l.length)):=((hc.take off).append m).append (hc.drop _);obtain⟨n,z,u⟩:=Wo h k e;refine⟨n,?_,u⟩;simp only[zdn,q];have o:¬((decide (v.cells.size≠size)||decide (off+v.cells.size>us.toArray.size))=Ta):=by rw[s];simp;omega
    rw[za o];rw[<-z];congr 1;apply Array.ext';have:=Tw v.cells.toList 0 off us.toArray (by simp;omega);grind [Array.toList_zipIdx,trans]
  cases h
def nD(P:Program):List Field->Bool
 |[]=>Ta
 |f::l=>bif qj P f.type then nD P l else Tb
theorem Gd{P:Program}{h:zc}:∀{l:List Field},nD P l=Ta->QExec P (l.mapM λf=>do pure (f.offset,<-Go.sizeOf f.type)) h (l.map λf=>(f.offset,yb P f.type))
 |[],_=>λ_ _=>rfl
 |f::l,H=>by
  simp only[nD]at H;cases ho:qj P f.type with
  |false=>simp_all
  |true=>rw[ho]at H;obtain⟨i,hi⟩:=ju ho;rw[zc5];exact QExec.bind (QExec.bind (QExec.sizeOf hi) (QExec.pure _)) (QExec.bind (Gd H) (QExec.pure _))
def placeOf(P:Program)(b:Array Field)(i:Nat):Option (Nat×Nat):=match b[i]? with
 |some f=>Tc (f.offset,yb P f.type)
 |none=>Td
def jJ(ρ:Operand->Option AV):List (Nat×Operand)->Option (List (Nat×AV))
 |[]=>Tc []
 |(i,x)::l=>match ρ x,jJ ρ l with
  |some av,some r=>Tc ((i,av)::r)
  |_,_=>Td
theorem p8{γ:Gh}{ρ:Operand->Option AV}{σ:Operand->Value}(b:∀x av,ρ x=Tc av->DenV γ av (σ x)):∀{l:List (Nat×Operand)} {r:List (Nat×AV)},jJ ρ l=Tc r ->
  All2 (λ(x:Nat×AV) (y:Nat×Value)=>x.1=y.1/\DenV γ x.2 y.2) r (l.map λx=>(x.1,σ x.2))
 |[],r,h=>by simp only[jJ,YL]at h;subst h;trivial
 |(i,x)::l,r,h=>by simp only[jJ]at h;split at h;rename_i av e h1 c;simp only[YL]at h;subst h;exact⟨⟨rfl,b _ _ h1⟩,p8 b c⟩;cases h
def zeroOf(P:Program)(t:TypeId):Option Value:=match P.info? t with
 |some i=>i.zero
 |none=>Td
theorem Jw{z:Value}(h:zeroOf P t=Tc z)(b:zc):QExec P (zeroValue t) b z:=by unfold zeroOf at h;split at h;rename_i i hi;intro B d;simp[zeroValue,typeInfo,program,hi,Sem.run,h];cases h
def zL(P:Program)(t:TypeId)(b:List (Nat×AV)):Option (List AA):=match P.underlying t,zeroOf P t with
 |some (.struct fs),some z=>bif nD P fs.toList then kT (placeOf P fs) (z.cells.toList.map .v) b else Td
 |_,_=>Td
theorem NL{b:List (Nat×AV)}{r:List AA}(h:zL P t b=Tc r){ps:List (Nat×Value)}(n:All2 (λ(x:Nat×AV) (y:Nat×Value)=>x.1=y.1/\DenV γ x.2 y.2) b ps)(c:zc):
  ∃k:List Value,QExec P (Instr.build t ps.toArray) c (.agg k.toArray)/\All2 (DenA γ) r k:=by
 unfold zL at h;split at h;rename_i e z o s;cases hof:nD P e.toList with
 |false=>simp_all
 |true=>
  rw[hof]at h;simp only[zF]at h;obtain⟨k,u,q⟩:=Wo h (Qa γ _) n;refine⟨k,?_,q⟩;intro B d;have p:=QExec.underlying (h:=c) o B d;have l:=Jw s c B d;have m:=Gd (P:=P) (h:=c) hof B d;unfold Instr.build;rw[Sem.run_bind,l];simp only[Result.andThen_ok];rw[Sem.run_bind,p];simp only[Result.andThen_ok];rw[Sem.run_bind,Array.mapM_eq_mapM_toList,Sem.run_map,m];simp only[Result.andThen_ok];have w:(λi=>((e.toList.map λf=>(f.offset,yb P f.type)).toArray)[i]?)=placeOf P e:=by funext i;unfold placeOf;cases hi:e[i]? <;> simp[hi]
  simp_all
 cases h
def yI(P:Program)(t:TypeId)(a b:Value):Option Bool:=match P.underlying t,a,b with
 |some (.int _),.int k x,.int k' y=>if k=k' then Tc (x==y)else Td
 |some .string,.string x,.string y=>Tc (x.toList==y.toList)
 |some .bool,.bool x,.bool y=>Tc (x==y)
 |_,_,_=>Td
def lx(P:Program)(xs ys:List AA):List Field->Option Bool
 |[]=>Tc Ta
 | f :: fs => if f.name = "_" then none else match pj P f.type xs f.offset, pj P f.type ys f.offset with
  |some (.a (.v a)),Tc (.a (.v b))=>match yI P f.type a b,lx P xs ys fs with
   |some p,some q=>Tc (p&&q)
   |_,_=>Td
  |_,_=>Td
def AC(P:Program)(o:Oper)(ρ:Operand->Option AV):Option Bool:=match o.op with
 |.binOp .eql t x y _=>match ρ x,ρ y with
  |some (.g (.agg xs)),Tc (.g (.agg ys))=>match P.underlying t with
   |some (.struct _)=>bif P.stoodInHeld t then Td else bif P.eqGuardType P.depth t then Td else lx P xs ys (P.fieldsOf t).toList
   |_=>Td
  |_,_=>Td
 |.binOp .neq t x y _=>match ρ x,ρ y with
  |some (.g (.agg xs)),Tc (.g (.agg ys))=>match P.underlying t with
   |some (.struct _)=>bif P.stoodInHeld t then Td else bif P.eqGuardType P.depth t then Td else(match lx P xs ys (P.fieldsOf t).toList with
    |some b=>Tc (!b)
    |none=>Td)
   |_=>Td
  |_,_=>Td
 |_=>Td
theorem Oz{a b:Value}{r:Bool}(h:yI P t a b=Tc r)(d:Nat)(w:World):(Op.equalIn (d+1) t a b).run P w=.ok r w:=by unfold yI at h;grind [YL,run_equalIn_int,run_equalIn_string,run_equalIn_bool']
theorem Ct{P:Program}{γ:Gh}{xs ys:List AA}{us vs:List Value}(o:All2 (DenA γ) xs us)(n:All2 (DenA γ) ys vs)(d:Nat)(h:zc):∀(c:List Field) (b:Bool),lx P xs ys c=Tc b->QExec P (Op.eqFields (d+1) us.toArray vs.toArray c) h b
 |[],b,hb=>by simp only[lx,YL]at hb;subst hb;exact QExec.pure _
 |f::c,b,hb=>by
  unfold lx at hb;split at hb;cases hb;rename_i z;split at hb;rename_i a s l i;split at hb;rename_i p q x t;simp only[YL]at hb;subst hb;obtain⟨u,C,r⟩:=vq l o h;obtain⟨y,w,A⟩:=vq i n h;have m:u=a:=C;have e:y=s:=w;subst m;subst e;intro B k;unfold Op.eqFields;rw[zb (by exact z)];rw[Sem.run_bind,r B k];simp only[Result.andThen_ok];rw[Sem.run_bind,A B k];simp only[Result.andThen_ok];rw[Sem.run_bind,Oz x d];simp only[Result.andThen_ok];cases p with
  |false=>rfl
  |true=>simpa using Ct o n d h c q t B k
  cases hb;cases hb
theorem Ga{ρ:Operand->Option AV}(H:AC P o ρ=Tc b)(l:∀x av,ρ x=Tc av->DenV γ av (σ x))(h:zc):QExec P (execOp σ o) h (.value (.bool b)):=by
 have key:∀{t:TypeId} {xs ys:List AA} {us vs:List Value} {k:Array Field} {b:Bool},P.underlying t=Tc (.struct k)->P.stoodInHeld t=Tb->All2 (DenA γ) xs us->All2 (DenA γ) ys vs->lx P xs ys (P.fieldsOf t).toList=Tc b->QExec P (Op.equalIn 10000 t (.agg us.toArray) (.agg vs.toArray)) h b:=by
  intro t xs ys us vs k b e c i f z B d;have w:P.underlying t=Tc (.struct (P.fieldsOf t)):=by rw[e];simp[Program.fieldsOf,e]
  rw[run_equalIn_struct _ 9999 t us.toArray vs.toArray w c];exact Ct i f 9998 h _ b z B d
 unfold AC at H;split at H;rename_i t x y A n;split at H;rename_i xs ys i f;split at H;rename_i k e;cases c:P.stoodInHeld t with
 |true=>simp_all
 |false=>
  cases hg:P.eqGuardType P.depth t with
  |true=>simp_all
  |false=>rw[c,hg]at H;obtain⟨us,r,s⟩:=l _ _ i;obtain⟨vs,u,m⟩:=l _ _ f;have p:=key e c s m H;simp only[execOp,n,r,u];refine QExec.val λB d=>?_;rw[Sem.run_bind,run_eqGuard_agg _ _ _ _ _ _ _ hg];simp only[Result.andThen_ok];rw[run_eql_struct,p B d];rfl
 cases H;cases H;rename_i t x y A n;split at H;rename_i xs ys i f;split at H;rename_i k e;cases c:P.stoodInHeld t with
 |true=>simp_all
 |false=>
  cases hg:P.eqGuardType P.depth t with
  |true=>simp_all
  |false=>rw[c,hg]at H;simp only[zG]at H;split at H;rename_i C q;simp only[YL]at H;subst H;obtain⟨us,r,s⟩:=l _ _ i;obtain⟨vs,u,m⟩:=l _ _ f;have p:=key e c s m q;simp only[execOp,n,r,u];refine QExec.val λB d=>?_;rw[Sem.run_bind,run_eqGuard_agg _ _ _ _ _ _ _ hg];simp only[Result.andThen_ok];rw[run_neq_struct,p B d];rfl;cases H
 cases H;cases H;cases H
def sR(P:Program)(o:Oper)(ρ:Operand->Option AV)(g:Option Bool)(cs:CS)(K:AV->Prop):Prop:=
 bif (bif jB o then(bif iT P o then(bif Y8 o.op then lR ρ o.op.operands.toList else Tb)else Tb)else Tb)then gi P o (sH ρ) g #[] (λv=>K (l6 v))else
 match o.op with
 |.move x=>match ρ x with
  |some av=>K av
  |none=>False
 |.assign x=>match ρ x with
  |some av=>K av
  |none=>False
 |.extract x i=>match ρ x with
  |some (.tup l)=>match l[i]? with
   |some ag=>K (.g ag)
   |none=>False
  |some (.nx b p c)=>match i with
   |0=>K (.g (.a (.v (.bool b))))
   |1=>req g (b=Ta)/\K (.g (.a (.v (.int .i64 p))))
   |2=>req g (b=Ta)/\K (.g (.a (.v (.int .i32 c))))
   |_=>False
  |_=>False
 |.field t x f=>match ρ x,oD P t f with
  |some (.g (.agg l)),Tc (k,ty)=>match pj P ty l k with
   |some ag=>K (.g ag)
   |none=>False
  |_,_=>False
 |.fieldAddr t x f=>match ρ x,oD P t f with
  |some (.g (.a aa)),Tc (k,_)=>match qD k aa with
   |some h=>K (.g (.a h))
   |none=>False
  |_,_=>False
 |.load t x=>match ρ x with
  |some (.g (.a aa))=>l8 P cs t aa g K
  |_=>False
 |.indexAddr t x i=>match ρ x,ρ i with
  |some (.g (.a aa)),some iv=>match tm iv with
   |some n=>vp P cs t aa n g K
   |none=>False
  |_,_=>False
 |.slice t x lo hi mx=>match ρ x with
  |some (.g (.a aa))=>zN P cs ρ t aa lo hi mx g K
  |_=>False
 |.nilCheck x=>match ρ x with
  |some (.g (.a aa))=>match qD 0 aa with
   |some _=>K (.g (.a aa))
   |none=>False
  |_=>False
 |.build t e=>match jJ ρ e.toList with
  |some ps=>match zL P t ps with
   |some r=>K (.g (.agg r))
   |none=>False
  |none=>False
 |.call c=>match c.callee with
  |.builtin .len=>match c.args.toList,c.argTypes.toList with
   |[x],[t]=>match ρ x,P.underlying t with
    |some (.g (.a (.v (.string s)))),Tc .string=>K (.g (.a (.v (.int .i64 (s.size:Int)))))
    |some (.g (.a (.v (.slice _ n _)))),Tc (.slice _)=>K (.g (.a (.v (.int .i64 (n:Int)))))
    |some (.g (.a aa)),Tc (.slice _)=>match wA cs aa with
     |some n=>K (.g (.a (.v (.int .i64 (n:Int)))))
     |none=>False
    |_,_=>False
   |_,_=>False
  |_=>False
 |_=>False
theorem Mu{ρ:Operand->Option AV}{K:AV->Prop}(H:sR P o ρ g cs K):
  ∃av,K av/\(eQ g->∀γ h σ,Inv h0 W M0 cs γ h->(∀x av,ρ x=Tc av->DenV γ av (σ x))->∃v,DenV γ av v/\QExec P (execOp σ o) h (.value v)):=by
 unfold sR at H;cases hb:(bif jB o then(bif iT P o then(bif Y8 o.op then lR ρ o.op.operands.toList else Tb)else Tb)else Tb)with
 |true=>
  rw[hb]at H;cases hfam:jB o with
  |false=>simp_all
  |true=>
   cases y:iT P o with
   |false=>simp_all
   |true=>
    cases hns:Y8 o.op with
    |false=>simp_all
    |true=>rw[hfam,y,hns]at hb;simp only[zF]at hb H;obtain⟨v,h1,A⟩:=rE hfam H;refine⟨_,h1,λC γ h σ I q=>⟨v,Js γ v,?_⟩⟩;rw[Dx q hns hb];exact A C h ⟨by simp,λi hi=>absurd hi (by simp)⟩
 |false=>
  rw[hb]at H;simp only[zG]at H;have val:∀{s:Sem Value} {h:zc} {v:Value},QExec P s h v->QExec P (s >>= λx=>(zcf (zck x):Sem Next)) h (.value v):=λy=>QExec.val y;split at H;rename_i x w;split at H;rename_i av m;exact⟨av,H,λ_ γ h σ I q=>⟨_,q _ _ m,by simp only[execOp,w];exact QExec.pure _⟩⟩;exact H.elim;rename_i x w;split at H;rename_i av m;exact⟨av,H,λ_ γ h σ I q=>⟨_,q _ _ m,by simp only[execOp,w];exact QExec.pure _⟩⟩;exact H.elim;rename_i x i w;split at H;rename_i l m;split at H;rename_i ag J;refine⟨_,H,λ_ γ h σ I q=>?_⟩;obtain⟨us,e,A⟩:=q _ _ m;obtain⟨u,F,z⟩:=A.get J;refine⟨u,z,?_⟩;simp only[execOp,w,e];refine val λB d=>?_;unfold Instr.extract;simp[F];exact H.elim;rename_i b p c m;split at H;refine⟨_,H,λ_ γ h σ I q=>⟨_,rfl,?_⟩⟩;obtain⟨S,e2⟩:=q _ _ m;simp only[execOp,w];refine val λB d=>?_;cases b with
  |true=>rw[S rfl];rfl
  |false=>rw[e2 rfl];rfl
  refine⟨_,H.2,λC γ h σ I q=>⟨_,rfl,?_⟩⟩;obtain⟨S,_⟩:=q _ _ m;simp only[execOp,w,S (H.1.out C)];exact val λB d=>rfl;refine⟨_,H.2,λC γ h σ I q=>⟨_,rfl,?_⟩⟩;obtain⟨S,_⟩:=q _ _ m;simp only[execOp,w,S (H.1.out C)];exact val λB d=>rfl;exact H.elim;exact H.elim;rename_i t x f w;split at H;rename_i l k ty m D;split at H;rename_i ag J;refine⟨_,H,λ_ γ h σ I q=>?_⟩;obtain⟨us,e,A⟩:=q _ _ m;obtain⟨v,z,y⟩:=vq J A h;refine⟨v,z,?_⟩;simp only[execOp,w,e];refine val λB d=>?_;unfold oD at D;split at D;rename_i fs F;split at D;rename_i fl V;split at D;rename_i i hi;cases hz:Nat.beq i.size 0 with
  |true=>simp_all
  |false=>rw[hz]at D;simp only[zG,YL,za1]at D;obtain⟨rfl,rfl⟩:=D;have U:=QExec.underlying (h:=h) F B d;unfold Instr.field;rw[Sem.run_bind,U];simp only[Result.andThen_ok,V,asAgg,Sem.run_bind,Sem.run_pure];exact y B d
  cases D;cases D;cases D;exact H.elim;exact H.elim;rename_i t x f w;split at H;rename_i Q k ty m D;split at H;rename_i af M;refine⟨_,H,λ_ γ h σ I q=>?_⟩;obtain⟨b,o',e,z⟩:=HN M (q _ _ m);refine⟨_,z,?_⟩;simp only[execOp,w];simp_all[Me];exact H.elim;exact H.elim;rename_i t x w;split at H;rename_i Q m;obtain⟨av,h1,A⟩:=HE (h0:=h0) (W:=W) (M0:=M0) H;refine⟨av,h1,λC γ h σ I q=>?_⟩;obtain⟨v,z,y⟩:=A C γ h _ I (q _ _ m);refine⟨v,z,?_⟩;simp only[execOp,w];exact val y;exact H.elim;rename_i t x i w;split at H;rename_i Q iv m Y;split at H;rename_i n Z;obtain⟨av,h1,A⟩:=VV (h0:=h0) (W:=W) (M0:=M0) H;refine⟨av,h1,λC γ h σ I q=>?_⟩;obtain⟨k,e⟩:=Be Z (q _ _ Y);obtain⟨v,z,y⟩:=A C γ h _ k I (q _ _ m);refine⟨v,z,?_⟩;simp only[execOp,w];simp_all;exact H.elim;exact H.elim;rename_i t x lo hi mx w;split at H;rename_i Q m;obtain⟨av,h1,A⟩:=Mz (h0:=h0) (W:=W) (M0:=M0) H;refine⟨av,h1,λC γ h σ I q=>?_⟩;obtain⟨v,z,y⟩:=A C γ h _ σ I q (q _ _ m);refine⟨v,z,?_⟩;simp only[execOp,w];exact val y;exact H.elim;rename_i x w;split at H;rename_i Q m;split at H;rename_i af M;refine⟨_,H,λ_ γ h σ I q=>?_⟩;obtain⟨b,o',e,z⟩:=HN M (q _ _ m);have ae:=q _ _ m;refine⟨σ x,ae,?_⟩;simp only[execOp,w];rw[e];exact QExec.pure _;exact H.elim;exact H.elim;rename_i t E w;split at H;rename_i ps ab;split at H;rename_i r hr;refine⟨_,H,λ_ γ h σ I q=>?_⟩;obtain⟨ws,y,z⟩:=NL hr (p8 q ab) h;refine⟨.agg ws.toArray,⟨ws,rfl,z⟩,?_⟩;simp only[execOp,w];have e:(E.map λx=>(x.1,σ x.2))=(E.toList.map λx=>(x.1,σ x.2)).toArray:=by rw[<-zca]
  simp_all;exact H.elim;exact H.elim;rename_i c w;split at H;rename_i hc;split at H;rename_i x t L O;have G:c.args=#[x]:=by have:=congrArg List.toArray L;simp at this;exact this
  have N:c.argTypes=#[t]:=by have:=congrArg List.toArray O;simp at this;exact this
  have key:∀(σ:Operand->Value) (h:zc) (n:Int),(QExec P (zb5 #[t] o.type #[σ x]) h (.int .i64 n))->QExec P (execOp σ o) h (.value (.int .i64 n)):=by
   intro σ h n y;have e:execOp σ o=(zb5 c.argTypes o.type (c.args.map σ) >>= λx=>(zcf (zck x):Sem Next)):=by simp only[execOp,w,resolve,hc];rfl
   rw[e,G,N];refine val ?_;simpa using y
  split at H;rename_i s m F;refine⟨_,H,λ_ γ h σ I q=>⟨_,rfl,key σ h _ λB d=>?_⟩⟩;have y:=QExec.underlying (h:=h) F B d;have e:σ x=.string s:=q _ _ m;unfold zb5;simp only[zb4,List.getElem?_cons_zero,e,Sem.run_bind,y,Result.andThen_ok,Sem.run_pure];rfl;rename_i a n cp el m F;refine⟨_,H,λ_ γ h σ I q=>⟨_,rfl,key σ h _ λB d=>?_⟩⟩;have y:=QExec.underlying (h:=h) F B d;have e:σ x=.slice a n cp:=q _ _ m;unfold zb5;simp only[zb4,List.getElem?_cons_zero,e,Sem.run_bind,y,Result.andThen_ok,Sem.run_pure];rfl;rename_i Q el _ _ m F;split at H;rename_i n Z;refine⟨_,H,λ_ γ h σ I q=>⟨_,rfl,key σ h _ λB d=>?_⟩⟩;have y:=QExec.underlying (h:=h) F B d;obtain⟨a,cp,e⟩:=SD I Z (q _ _ m);unfold zb5;simp only[zb4,List.getElem?_cons_zero,e,Sem.run_bind,y,Result.andThen_ok,Sem.run_pure];rfl;exact H.elim;exact H.elim;exact H.elim;exact H.elim;exact H.elim
def uu(P:Program)(o:Oper)(ρ:Operand->Option AV):Option Bool:=match o.op with
 |.binOp op t x (.const .nilIface) _=>match ρ x,ρ (.const .nilIface),P.underlying t with
  |some (.g (.a (.d .err b))),Tc (.g (.a (.v .nilIface))),Tc (.interface _)=>match op with
   |.eql=>Tc b
   |.neq=>Tc (!b)
   |_=>Td
  |_,_,_=>Td
 |_=>Td
theorem Ev{ρ:Operand->Option AV}(H:uu P o ρ=Tc b)(p:∀x av,ρ x=Tc av->DenV γ av (σ x))(h:zc):QExec P (execOp σ o) h (.value (.bool b)):=by
 have key:∀{t:TypeId} {ms:Array (String×TypeId)} {b:Bool} {u:Value},P.underlying t=Tc (.interface ms)->((b=Ta/\u=.nilIface)\/(b=Tb/\∃t l,u=.iface t l))->QExec P (zdl t u .nilIface) h b:=by intro t ms b u m i B d;have q:=QExec.underlying (h:=h) m B d;unfold zdl Op.maxDepth;rcases i with⟨rfl,rfl⟩|⟨rfl,t',l,rfl⟩;unfold Op.equalIn;rw[Sem.run_bind,q];rfl;unfold Op.equalIn;rw[Sem.run_bind,q];rfl
 unfold uu at H;split at H;rename_i c t x C r;split at H;rename_i b0 ms y s m;have z:σ (.const .nilIface)=.nilIface:=p _ _ s;obtain⟨u,e,i⟩:=(show Rd γ.M .err b0 [σ x]from p _ _ y);have A:u=σ x:=by simpa using e.symm
 subst A;have n:=key m i;have w:∀c,QExec P (eqGuard c t x (.const .nilIface) (σ x) .nilIface) h ():=by intro c B d;unfold eqGuard;rcases i with⟨_,k⟩|⟨_,t',l,k⟩;simp_all;simp_all
 have f:∀c,(binOp c t (σ x) .nilIface=match c with | .eql=>(do pure (.bool (<-zdl t (σ x) .nilIface))) | .neq=>(do pure (.bool (!(<-zdl t (σ x) .nilIface))))|_=>binOp c t (σ x) .nilIface):=by intro c;rcases i with⟨_,k⟩|⟨_,t',l,k⟩;rw[k];cases c <;> rfl;rw[k];cases c <;> rfl
 simp only[execOp,r,z];refine QExec.val ((w c).bind ?_);split at H;simp only[YL]at H;subst H;rw[f];exact n.bind (QExec.pure _);simp only[YL]at H;subst H;rw[f];exact n.bind (QExec.pure _);cases H;cases H;cases H
def wO(o:Oper)(ρ:Operand->Option AV):Option (TypeId×Nat×Nat):=match o.op with
 |.load t x=>match ρ x with
  |some (.g (.a (.v (.pointer (Tc ⟨b,off,Td⟩)))))=>Tc (t,b,off)
  |_=>Td
 |_=>Td
def nC(gl:Fr)(b off:Nat)(v:Value):Prop:=∃cs,gl b=Tc cs/\cs[off]?=Tc v
def me(gl:Fr)(b:Nat)(g:Option Bool):List Atom->Nat->(List AA->Prop)->Prop
 |[],_,K=>K []
 |.int k::l,o,K=>∃x:Int,req g (nC gl b o (.int k x))/\me gl b g l (o+1) λr=>K (.v (.int k x)::r)
 |.str::l,o,K=>∃x:Bt,req g (nC gl b o (.string x))/\me gl b g l (o+1) λr=>K (.v (.string x)::r)
 |.bool::l,o,K=>∃x:Bool,req g (nC gl b o (.bool x))/\me gl b g l (o+1) λr=>K (.v (.bool x)::r)
 |_::_,_,_=>False
theorem Qb{gl:Fr}{b:Nat}{g:Option Bool}:∀{l:List Atom} {o:Nat} {K:List AA->Prop},me gl b g l o K->∃vs:List Value,vs.length=l.length/\K (vs.map .v)/\(eQ g->∀(j:Nat) (v:Value),vs[j]?=Tc v->nC gl b (o+j) v)
 |[],o,K,H=>⟨[],rfl,H,λ_ j v h=>by simp at h⟩
 |.int k::l,o,K,⟨x,h1,h2⟩=>by
  obtain⟨vs,e,i,m⟩:=Qb h2;refine⟨.int k x::vs,by simp[e],i,λf j v c=>?_⟩;cases j with
  |zero=>simp at c;subst c;exact h1.out f
  |succ j=>grind
 |.str::l,o,K,⟨x,h1,h2⟩=>by
  obtain⟨vs,e,i,m⟩:=Qb h2;refine⟨.string x::vs,by simp[e],i,λf j v c=>?_⟩;cases j with
  |zero=>simp at c;subst c;exact h1.out f
  |succ j=>grind
 |.bool::l,o,K,⟨x,h1,h2⟩=>by
  obtain⟨vs,e,i,m⟩:=Qb h2;refine⟨.bool x::vs,by simp[e],i,λf j v c=>?_⟩;cases j with
  |zero=>simp at c;subst c;exact h1.out f
  |succ j=>grind
 |.sl::_,_,_,H=>H.elim
 |.mp::_,_,_,H=>H.elim
 |.ptr::_,_,_,H=>H.elim
 |.raw::_,_,_,H=>H.elim
def Fy(P:Program)(gl:Fr)(t:TypeId)(b off:Nat)(g:Option Bool)(K:AV->Prop):Prop:=match ik P t with
 |some (.one a)=>me gl b g [a] off λr=>match r with
  |[x]=>K (.g (.a x))
  |_=>False
 |some (.agg l)=>me gl b g l off λr=>K (.g (.agg r))
 |none=>False
def zR(P:Program)(o:Oper)(ρ:Operand->Option AV):Option (Nat×Nat×Int×Nat×Nat):=match o.op with
 |.indexAddr t x i=>match ρ x,ρ i,P.underlying t with
  |some (.g (.a (.v (.pointer (Tc ⟨b,off,Td⟩))))),Tc (.g (.a (.v (.int _ n)))),Tc (.array len el)=>bif qj P el then Tc (b,off,n,len,yb P el)else Td
  |_,_,_=>Td
 |_=>Td
def qA(P:Program)(gl:Fr)(o:Oper)(ρ:Operand->Option AV)(g:Option Bool)(cs:CS)(K:AV->Prop):Prop:=match AC P o ρ with
 |some b=>K (.g (.a (.v (.bool b))))
 |none=>match uu P o ρ with
  |some b=>K (.g (.a (.v (.bool b))))
  |none=>match wO o ρ with
   |some (t,b,off)=>Fy P gl t b off g K
   |none=>match zR P o ρ with
    |some (b,off,n,len,z)=>req g (0<=n/\n<(len:Int))/\K (.g (.a (.v (.pointer (Tc ⟨b,off+n.toNat*z,Td⟩)))))
    |none=>sR P o ρ g cs K
theorem sF{gl:Fr}(M:Fr.le gl M0){ρ:Operand->Option AV}{K:AV->Prop}(H:qA P gl o ρ g cs K):
  ∃av,K av/\(eQ g->∀γ h σ,Inv h0 W M0 cs γ h->(∀x av,ρ x=Tc av->DenV γ av (σ x))->∃v,DenV γ av v/\QExec P (execOp σ o) h (.value v)):=by
 unfold qA at H;split at H;rename_i b A;exact⟨_,H,λ_ γ h σ _ f=>⟨_,rfl,Ga A f h⟩⟩;split at H;rename_i b A;exact⟨_,H,λ_ γ h σ _ f=>⟨_,rfl,Ev A f h⟩⟩;split at H;rename_i t b off e;unfold wO at e;split at e;rename_i t' x E;split at e;rename_i p c G;simp only[YL,za1]at e;obtain⟨rfl,rfl,rfl⟩:=e;have key:∀{s:Option Nat} {vs:List Value} {ag:AG},iI P t'=Tc s->vs.length=iU s->jV s (vs.map .v)=Tc ag->(eQ g->∀(j:Nat) (v:Value),vs[j]?=Tc v->nC gl p (c+j) v)->eQ g->∀γ h σ,Inv h0 W M0 cs γ h->(∀x av,ρ x=Tc av->DenV γ av (σ x))->∃u,DenV γ (.g ag) u/\QExec P (execOp σ o) h (.value u):=by intro s vs ag Z hn Y hc e γ h σ I f;have F:σ x=.pointer (Tc ⟨p,c,Td⟩):=f _ _ G;obtain⟨u,O,C⟩:=yV (γ:=γ) Z (u:=σ x) (us:=vs) ⟨_,_,F,λj w V=>by obtain⟨cc,q,m⟩:=hc e j w V;exact I.ag.cell (I.le _ _ (M _ _ q)) m⟩ hn (Qa γ vs) Y;exact⟨u,O,by simp only[execOp,E];exact QExec.val C⟩
 unfold Fy at H;split at H;rename_i a J;obtain⟨vs,q,m,r⟩:=Qb H
 match vs,q,m,r with
 |[v],q,m,r=>exact⟨_,m,key (s:=Td) (by unfold iI;rw[J]) rfl rfl r⟩
 rename_i l J;obtain⟨vs,q,m,r⟩:=Qb H;exact⟨_,m,key (s:=Tc l.length) (by unfold iI;rw[J]) q rfl r⟩;exact H.elim;cases e;cases e;split at H;rename_i b off n len z e;unfold zR at e;split at e;rename_i t x i E;split at e;rename_i p c k y N el G hi F;cases hok:qj P el with
 |false=>simp_all
 |true=>rw[hok]at e;simp only[zF,YL,za1]at e;obtain⟨rfl,rfl,rfl,rfl,rfl⟩:=e;refine⟨_,H.2,λD γ h σ I f=>⟨_,rfl,?_⟩⟩;have B:σ x=.pointer (Tc ⟨p,c,Td⟩):=f _ _ G;have L:σ i=.int k y:=f _ _ hi;obtain⟨h1,Q⟩:=H.1.out D;obtain⟨v,rfl,C⟩:=Z6 (P:=P) (t:=t) (x:=.pointer (Tc ⟨p,c,Td⟩)) (i:=.int k y) (g:=Td) (K:=λv=>v=.pointer (Tc (YK ⟨p,c,Td⟩ (y.toNat*yb P el)))) (λU S=>by simp_all[ju]) (by unfold oZ;rw[F];exact⟨_,⟨rfl,h1,Q⟩,rfl⟩);have:=C trivial h;rw[zw]at this;simp only[execOp,E,B,L];exact QExec.val this
 cases e;cases e;exact Mu H
end
section
variable {M gl:Fr} {u:Value} {P:Program} {f:FuncId} {γ:Gh} {cs C R:CS} {o:Oper} {σ:Operand -> Value} {h:zc} {Post:Value -> zc -> Prop} {tr:TypeId}
variable {h0 : zc} {W : Nat -> Prop} {M0 : Fr}
def fe:Ty->Bool
 |.tree=>Ta
 |.unit=>Ta
 |.pair _ _=>Ta
 |_=>Tb
def RdV(M:Fr)(t:Ty)(x:El t)(u:Value):Prop:=if fe t=Ta then ∃cs:List Value,u=.agg cs.toArray/\Rd M t x cs else Rd M t x [u]
theorem RdV.mono{M M':Fr}(c:Fr.le M M'){t:Ty}{x:El t}(h:RdV M t x u):RdV M' t x u:=by unfold RdV at *;by_cases b:fe t=Ta;rw[zb b]at *;grind [Rd.mono];rw[za b]at *;exact Rd.mono c h
structure Arg where
 t:Ty
 x:El t
def Y1(M:Fr)(l:List Arg)(vs:List Value):Prop:=All2 (λ(a:Arg) u=>RdV M a.t a.x u) l vs
@[reducible] def fi:List Ty->Type
 |[]=>Unit
 |[t]=>El t
 |t::t'::l=>El t×fi (t'::l)
def Dn:(l:List Ty)->fi l
 |[]=>()
 |[t]=>oY t
 |t::t'::l=>(oY t,Dn (t'::l))
def tR(M:Fr):(l:List Ty)->fi l->List Value->Prop
 |[],_,us=>us=[]
 |[t],x,us=>∃u,us=[u]/\RdV M t x u
 |t::t'::l,x,us=>∃u b,us=u::b/\RdV M t x.1 u/\tR M (t'::l) x.2 b
def Yf(M:Fr)(l:List Ty)(x:fi l)(v:Value):Prop:=∃us,tR M l x us/\v=iQ us
def PC(P:Program)(gl:Fr)(f:FuncId)(args:List Arg)(rt:List Ty)(R:fi rt->Prop):Prop:=
 ∀(h:zc) (M:Fr) (vs:List Value),Fr.le gl M->AgM M h->Y1 M args vs->XC P f vs.toArray h λv h'=>
  Keep h.size h h'/\∃M' r,Fr.le M M'/\(∀b,b<h.size->M' b=M b)/\AgM M' h'/\Yf M' rt r v/\R r
theorem PC.mono{args:List Arg}{rt:List Ty}{R b:fi rt->Prop}(H:PC P gl f args rt R)(o:∀r,R r->b r):PC P gl f args rt b:= λh M vs h1 e i=>(H h M vs h1 e i).mono λv h' ⟨k,M',r,l,p,m,n,c⟩=>⟨k,M',r,l,p,m,n,o r c⟩
theorem RdV.bd{t:Ty}{x:El t}(h:RdV M t x u):Bd t x:=by unfold RdV at h;split at h;obtain⟨cs,_,h⟩:=h;exact h.bd;exact h.bd
theorem PC.bd{args:List Arg}{rt:List Ty}{R:fi rt->Prop}(H:(∀a∈args,Bd a.t a.x)->PC P gl f args rt R):PC P gl f args rt R:=by
 intro h M vs h1 i c;refine H ?_ h M vs h1 i c;clear H h1 i;induction args generalizing vs with
 |nil=>simp
 |cons a args k=>
  cases vs with
  |nil=>exact c.elim
  |cons u us=>intro b e;rcases YS.1 e with rfl|e;exact RdV.bd c.1;exact k us c.2 b e
def pF(t:Ty)(x:El t):AG:=bif fe t then .agg (Jq t x)else(match Jq t x with
 |[y]=>.a y
 |l=>.agg l)
theorem yP{t:Ty}{x:El t}(h:RdV γ.M t x u):DenG γ (pF t x) u:=by
 unfold RdV at h;unfold pF;split at h;rename_i c;rw[c];obtain⟨cs,e,h⟩:=h;exact⟨cs,e,Zc h⟩;rename_i c;have f:fe t=Tb:=by simpa using c
 rw[f];simp only[zG];have b:=Zc (γ:=γ) h
 match hx:Jq t x,b with
 |[y],b=>exact b.1
 |[],b=>exact b.elim
 |_::_::_,b=>exact b.2.elim
def re:(l:List Ty)->fi l->List AG
 |[],_=>[]
 |[t],x=>[pF t x]
 |t::t'::l,x=>pF t x.1::re (t'::l) x.2
theorem BJ{γ:Gh}:∀{l:List Ty} {x:fi l} {us:List Value},tR γ.M l x us->All2 (DenG γ) (re l x) us
 |[],_,_,h=>by rw[h];trivial
 |[_],_,_,⟨u,e,h⟩=>by rw[e];exact⟨yP h,trivial⟩
 |_::_::_,_,_,⟨u,us,e,h,h'⟩=>by rw[e];exact⟨yP h,BJ h'⟩
def mT(l:List Ty)(x:fi l):AV:=match re l x with
 |[g]=>.g g
 |gs=>.tup gs
theorem QM{l:List Ty}{x:fi l}{v:Value}(h:Yf γ.M l x v):DenV γ (mT l x) v:=by
 obtain⟨us,h,rfl⟩:=h;have b:=BJ (γ:=γ) h;unfold mT;generalize re l x=gs at *
 match gs,us,b with
 |[],[],_=>exact⟨[],rfl,trivial⟩
 |[g],[u],b=>exact b.1
 |g::g'::gs,u::u'::us,b=>exact⟨_,rfl,b⟩
 |[],_::_,b=>exact b.elim
 |_::_,[],b=>exact b.elim
 |[_],_::_::_,b=>exact b.2.elim
 |_::_::_,[_],b=>exact b.2.elim
def kW(P:Program)(tr:TypeId):Nat->TypeId->Option Ty
 |0,_=>Td
 |n+1,t=>bif Nat.beq t tr then Tc .tree else match P.underlying t with
  |some (.int k)=>Tc (.int k)
  |some .bool=>Tc .bool
  |some .string=>Tc .str
  |some (.slice e)=>match kW P tr n e with
   |some x=>Tc (.row x)
   |none=>Td
  |some (.struct fs)=>tysOf P (λt=>kW P tr n t) fs.toList
  |some (.interface _)=>Tc .err
  |_=>Td
where tysOf (P:Program) (f:TypeId->Option Ty):List Field->Option Ty
 |[]=>Tc .unit
 |[x]=>f x.type
 |x::y::l=>match f x.type,tysOf P f (y::l)with
  |some a,some b=>Tc (.pair a b)
  |_,_=>Td
def uc(P:Program)(tr:TypeId):List TypeId->Option (List Ty)
 |[]=>Tc []
 |t::l=>match kW P tr 8 t,uc P tr l with
  |some a,some b=>Tc (a::b)
  |_,_=>Td
def BH:AA->List Nat
 |.own c=>[c]
 |_=>[]
def mC:List AA->List Nat
 |[]=>[]
 |x::l=>BH x++mC l
def O4:AV->List Nat
 |.g (.a x)=>BH x
 |.g (.agg l)=>mC l
 |_=>[]
def Xr:List AV->List Nat
 |[]=>[]
 |v::l=>O4 v++Xr l
def frzL:List Nat->CS->CS
 |[],C=>C
 |c::l,C=>frzL l (lJ c C)
theorem Inv.frzL{C R:CS}{γ:Gh}{h:zc}:∀(l:List Nat) {C:CS} {γ:Gh},Inv h0 W M0 (C++R) γ h->∃γ',Inv h0 W M0 (frzL l C++R) γ' h/\Gx Td γ γ'
 |[],C,γ,I=>⟨γ,I,Gx.refl _ _⟩
 |c::l,C,γ,I=>by obtain⟨n,m,e⟩:=Inv.freeze c C [] I;obtain⟨f,k,b⟩:=Inv.frzL (C:=C) (γ:=γ) l m;exact⟨f,k,e.1.trans b.1,λi hi=>⟨(b.2 i hi).1.trans (e.2 i hi).1,(b.2 i hi).2.trans (e.2 i hi).2⟩⟩
def pf(cs:CS)(t:Ty):AV->Option (El t)
 |.g (.agg l)=>bif fe t then(match collect cs t l with
  |some (y,[])=>Tc y
  |_=>Td)else Td
 |.g (.a x)=>bif fe t then Td else iZ cs t x
 |_=>Td
theorem ug(c:i8 γ cs){t:Ty}{av:AV}{y:El t}(h:pf cs t av=Tc y)(b:DenV γ av u):RdV γ.M t y u:=by
 unfold pf at h;unfold RdV;split at h;rename_i l;cases ha:fe t with
 |false=>simp_all
 |true=>
  rw[ha]at h;simp only[zF]at h;split at h;rename_i n k;simp only[YL]at h;subst h;obtain⟨us,e,f⟩:=b;obtain⟨c1,c2,rfl,m,i⟩:=Jr c k f;cases c2 with
  |nil=>simp_all
  |cons _ _=>exact i.elim
  cases h
 rename_i x;cases ha:fe t with
 |true=>simp_all
 |false=>rw[ha]at h;simp only[zaz,if_false];exact we c h b
 cases h
def jy(cs:CS):List Ty->List AV->Option (List Arg)
 |[],[]=>Tc []
 |t::ts,v::vs=>match pf cs t v,jy cs ts vs with
  |some x,some l=>Tc (⟨t,x⟩::l)
  |_,_=>Td
 |_,_=>Td
theorem xg{γ:Gh}{cs:CS}(b:i8 γ cs):∀{ts:List Ty} {vs:List AV} {l:List Arg},jy cs ts vs=Tc l->∀{us:List Value},All2 (DenV γ) vs us->Y1 γ.M l us
 |[],[],l,h,[],_=>by simp only[jy,YL]at h;subst h;trivial
 |[],[],_,_,_::_,hd=>hd.elim
 |t::ts,v::vs,l,h,[],hd=>hd.elim
 |t::ts,v::vs,l,h,u::us,hd=>by simp only[jy]at h;split at h;rename_i x e h1 c;simp only[YL]at h;subst h;exact⟨ug b h1 hd.1,xg b c hd.2⟩;cases h
 |[],_::_,_,h,_,_=>by simp[jy]at h
 |_::_,[],_,h,_,_=>by simp[jy]at h
def lS(ρ:Operand->Option AV):List Operand->Option (List AV)
 |[]=>Tc []
 |x::l=>match ρ x,lS ρ l with
  |some v,some vs=>Tc (v::vs)
  |_,_=>Td
theorem oA{γ:Gh}{ρ:Operand->Option AV}{σ:Operand->Value}(b:∀x av,ρ x=Tc av->DenV γ av (σ x)):∀{l:List Operand} {vs:List AV},lS ρ l=Tc vs->All2 (DenV γ) vs (l.map σ)
 |[],vs,h=>by simp only[lS,YL]at h;subst h;trivial
 |x::l,vs,h=>by simp only[lS]at h;split at h;rename_i v e h1 c;simp only[YL]at h;subst h;exact⟨b _ _ h1,oA b c⟩;cases h
def ExA(P:Program)(s:Sem Next)(h:zc)(Post:Value->zc->Prop):Prop:=∀B d,
 (∃v b h',s.run P (mk B d h)=.ok (.value v) (mk B b h')/\Post v h') \/
 (∃b h',s.run P (mk B d h)=.ok .skip (mk B b h')/\Post undef h') \/
 (∃f args,s.run P (mk B d h)=.ok (.enter f args) (mk B d h)/\XC P f args h Post)
theorem ExA.upon(H:ExA P (execOp σ o) h Post)(B:World)(d:Nat){a:Act}{next:Act->World->Prop}{Q:Exit->Act->World->Prop}
  (i:∀v c h',Post v h'->next (a.put o.dst v) (mk B c h')):o.upon P a next Q ((execOp σ o).run P (mk B d h)):=by
 rcases H B d with⟨v,c,h',e,b⟩|⟨c,h',e,b⟩|⟨f,args,e,k⟩;exact upon_value e (i _ _ _ b);exact upon_skip e (i _ _ _ b);rw[e];refine(k B d).mono ?_;simp_all
theorem ExA.mono{s:Sem Next}{Post b:Value->zc->Prop}(H:ExA P s h Post)(c:∀v h',Post v h'->b v h'):ExA P s h b:=λB d=>by rcases H B d with⟨v,i,h',e,q⟩|⟨i,h',e,q⟩|⟨f,args,e,k⟩;grind;grind;exact .inr (.inr ⟨f,args,e,k.mono c⟩)
def gJ(h0:zc)(W:Nat->Prop)(M0:Fr)(R:CS)(γ:Gh)(K:AV->CS->Option Nat->Prop)(v:Value)(h':zc):Prop:=
 ∃av b c γ',K av b c/\DenV γ' av v/\Inv h0 W M0 (b++R) γ' h'/\Gx c γ γ'
theorem vX(b:Fr.le gl M0){ρ:Operand->Option AV}{K:AV->CS->Option Nat->Prop}(H:qA P gl o ρ Td (C++R) λav=>K av C Td)(I:Inv h0 W M0 (C++R) γ h)
  (f:∀x av,ρ x=Tc av->DenV γ av (σ x)):ExA P (execOp σ o) h (gJ h0 W M0 R γ K):=by
 obtain⟨av,h1,i⟩:=sF (h0:=h0) (W:=W) (M0:=M0) b H;obtain⟨v,c,e⟩:=i trivial γ h σ I f;exact λB d=>.inl ⟨v,d,h,e B d,av,C,Td,γ,h1,c,I,Gx.refl _ _⟩
def nL:Operand->Option FuncId
 |.func f=>Tc f
 |_=>Td
def uE(P:Program)(tr:TypeId)(f:FuncId):Option (List Ty×List Ty):=match P.funcs[f]? with
 |some fn=>match uc P tr fn.params.toList,uc P tr fn.resultTypes.toList with
  |some a,some b=>Tc (a,b)
  |_,_=>Td
 |none=>Td
def uI(P:Program)(gl:Fr)(tr:TypeId)(o:Oper)(ρ:Operand->Option AV)(C R:CS)(K:AV->CS->Prop):Prop:=
 match o.op with
 |.call c=>match c.callee with
  |.value x=>match nL x with
   |some f=>bif zx P f then(match uE P tr f,lS ρ c.args.toList with
    |some (ts,rt),some vs=>match jy (frzL (Xr vs) C++R) ts vs with
     |some args=>PC P gl f args rt λr=>K (mT rt r) (frzL (Xr vs) C)
     |none=>False
    |_,_=>False)else False
   |none=>False
  |_=>False
 |_=>False
def mN(P:Program)(gl:Fr)(tr:TypeId)(o:Oper)(ρ:Operand->Option AV)(b:Bool)(cs:CS)(K:AV->Prop):Prop:=
 match o.op with
 |.call c=>match c.callee with
  |.value x=>match nL x with
   |some f=>bif zx P f then(match uE P tr f,lS ρ c.args.toList with
    |some (ts,rt),some vs=>match jy cs ts vs with
     |some args=>∃J:fi rt->Prop,(b=Ta->PC P gl f args rt J)/\∀r,(b=Ta->J r)->K (mT rt r)
     |none=>False
    |_,_=>False)else False
   |none=>False
  |_=>False
 |_=>False
theorem tB{x:Operand}(h:nL x=Tc f):x=.func f:=by unfold nL at h;grind
theorem pZ{c:Call}(e:o.op=.call c)(i:c.callee=.value (.func f))(b:zx P f=Ta)(h:σ (.func f)=.func (.func f) #[] #[])(w:World):
  (execOp σ o).run P w=.ok (.enter f (c.args.map σ)) w:=by
 simp only[execOp,e,resolve,i,h,zcw,Sem.run_bind,Sem.run_pure,Result.andThen_ok,invoke];rw[wY b];simp
theorem sM(b:Fr.le gl M0){args:List Arg}{rt:List Ty}{e:fi rt->Prop}(H:PC P gl f args rt e)(I:Inv h0 W M0 cs γ h){us:List Value}(m:Y1 γ.M args us):
  XC P f us.toArray h λv h'=>∃r γ',e r/\DenV γ' (mT rt r) v/\Inv h0 W M0 cs γ' h'/\Gx Td γ γ'/\Keep h.size h h':=
 (H h γ.M us (b.trans I.le) I.ag m).mono λv h' ⟨k,M',r,c,o,l,n,i⟩=>
  ⟨r,{ γ with M:=M' },i,QM (γ:={ γ with M:=M' }) n,I.call k c o l,⟨c,λ_ _=>⟨rfl,rfl⟩⟩,k⟩
theorem Oc(n:Fr.le gl M0){ρ:Operand->Option AV}{K:AV->CS->Option Nat->Prop}(H:uI P gl tr o ρ C R λav q=>K av q Td)(I:Inv h0 W M0 (C++R) γ h)
  (F:∀f,σ (.func f)=.func (.func f) #[] #[]) (E:∀x av,ρ x=Tc av->DenV γ av (σ x)):ExA P (execOp σ o) h (gJ h0 W M0 R γ K):=by
 unfold uI at H;split at H;rename_i c y;split at H;rename_i x D;split at H;rename_i f w;cases hcal:zx P f with
 |false=>simp_all
 |true=>
  rw[hcal]at H;simp only[zF]at H;split at H;rename_i ts rt vs L m;split at H;rename_i args b;intro B d;have e:=tB w;subst e;obtain⟨J,p,k⟩:=Inv.frzL (C:=C) (γ:=γ) (Xr vs) I;have G:=xg p.fz b ((oA E m).imp λv _ u z=>z.gx k rfl);refine .inr (.inr ⟨f,c.args.map σ,pZ y D hcal (F f) _,?_⟩);have t:c.args.map σ=(c.args.toList.map σ).toArray:=by rw[<-zca]
  rw[t];refine(sM n H p G).mono ?_;rintro v h' ⟨r,γ',h1,s,A,l,_⟩;exact⟨_,_,Td,γ',h1,s,A,k.1.trans l.1,λi hi=>⟨(l.2 i hi).1.trans (k.2 i hi).1,(l.2 i hi).2.trans (k.2 i hi).2⟩⟩;exact H.elim;exact H.elim
 exact H.elim;exact H.elim;exact H.elim
theorem uN{ρ:Operand->Option AV}{b:Bool}{K:AV->Prop}(H:mN P gl tr o ρ b cs K):(b=Tb->∃av,K av) /\
  (b=Ta->Fr.le gl M0->∀γ h σ,Inv h0 W M0 cs γ h->(∀f,σ (.func f)=.func (.func f) #[] #[])->(∀x av,ρ x=Tc av->DenV γ av (σ x))->∃f args,(∀w,(execOp σ o).run P w=.ok (.enter f args) w) /\ XC P f args h λv h'=>∃av γ',K av/\DenV γ' av v/\Inv h0 W M0 cs γ' h'/\Gx Td γ γ'/\Keep h.size h h'):=by
 unfold mN at H;split at H;rename_i c p;split at H;rename_i x s;split at H;rename_i f n;cases hcal:zx P f with
 |false=>simp_all
 |true=>
  rw[hcal]at H;simp only[zF]at H;split at H;rename_i ts rt vs y k;split at H;rename_i args i;obtain⟨J,h1,q⟩:=H;refine⟨λm=>⟨_,q (Dn rt) (λh=>by simp_all)⟩,λm l γ h σ I u t=>?_⟩;have e:=tB n;subst e;refine⟨f,c.args.map σ,λw=>pZ p s hcal (u f) w,?_⟩;have r:c.args.map σ=(c.args.toList.map σ).toArray:=by rw[<-zca]
  rw[r];refine(sM l (h1 m) I (xg I.fz i (oA t k))).mono ?_;grind;exact H.elim;exact H.elim
 exact H.elim;exact H.elim;exact H.elim
end
section
variable {P:Program} {t:TypeId} {o:Oper} {d:Nat} {C R:CS} {γ:Gh} {h:zc} {σ:Operand -> Value} {av:AV}
variable {h0 : zc} {W : Nat -> Prop} {M0 : Fr}
def yH(P:Program)(t:TypeId)(d:Nat)(C R:CS)(K:AV->CS->Option Nat->Prop):Prop:=match zeroOf P t with
 |some z=>bif ya d R then(bif fR (z.cells.toList.map .v)then False else K (.g (.a (.box d 0))) ((d,.box (z.cells.toList.map .v))::yf d C) (Tc d))else False
 |none=>False
theorem ut(c:Nat):∀l:List Value,fU c (l.map .v)=Tb
 |[]=>rfl
 |_::l=>by simp only[zae,fU,im,zG,ut c l]
theorem rj(t:TypeId)(v:Value)(B:World)(d:Nat)(h:zc):(newVar t v).run P (mk B d h)=.ok ⟨h.size,0,Td⟩ (mk B d (h.push (.cells v.cells t))):=rfl
theorem Ux(b:o.op=.alloc t){K:AV->CS->Option Nat->Prop}(H:yH P t d C R K)(I:Inv h0 W M0 (C++R) γ h):ExA P (execOp σ o) h (gJ h0 W M0 R γ K):=by
 unfold yH at H;split at H
 ·rename_i z i;cases hR:ya d R with
  |false=>simp_all
  |true=>
   rw[hR]at H;cases hit:fR (z.cells.toList.map .v)with
   |true=>simp_all
   |false=>
   rw[hit]at H;intro B e;refine .inl ⟨.pointer (Tc ⟨h.size,0,Td⟩),e,h.push (.cells z.cells t),?_,_,_,_,hP γ d h.size,H,?_,?_,ki _ _ _⟩;have f:=Jw i h B e;simp only[execOp,b];refine Jj ?_;unfold Instr.alloc;simp_all[Sem.run_bind,Result.andThen_ok,rj];simp only[DenV,DenG,DenA,Z8];have:=I.newBox (c:=d) hR (Qa γ z.cells.toList) (ut d _) hit t;omega
 exact H.elim
def xY(t:TypeId)(d:Nat)(l:List AA)(C R:CS)(K:AV->CS->Option Nat->Prop):Prop:=
 bif ya d R then(bif fU d l then False else(bif fR l then False else K (.g (.a (.box d 0))) ((d,.box l)::yf d C) (Tc d)))else False
theorem UC{x:Operand}(b:o.op=.box t x){l:List AA}{K:AV->CS->Option Nat->Prop}(H:xY t d l C R K)(I:Inv h0 W M0 (C++R) γ h)
  (f:All2 (DenA γ) l (σ x).cells.toList):ExA P (execOp σ o) h (gJ h0 W M0 R γ K):=by
 unfold xY at H;cases hR:ya d R with
 |false=>simp_all
 |true=>
  rw[hR]at H;cases hm:fU d l with
  |true=>simp_all
  |false=>
   rw[hm]at H;cases hit:fR l with
   |true=>simp_all
   |false=>
   rw[hit]at H;intro B e;refine .inl ⟨.pointer (Tc ⟨h.size,0,Td⟩),e,h.push (.cells (σ x).cells t),?_,_,_,_,hP γ d h.size,H,?_,?_,ki _ _ _⟩;simp only[execOp,b];refine Jj ?_;unfold Instr.box;rw[Sem.run_bind,rj];rfl;simp only[DenV,DenG,DenA,Z8];have:=I.newBox (c:=d) hR f hm hit t;omega
def vT:AA->Bool
 |.v x=>x.oneCell'
 |_=>Ta
def n3:List AA->Bool
 |[]=>Ta
 |x::l=>bif vT x then n3 l else Tb
theorem LO{x:AA}{u:Value}(h:vT x=Ta)(k:DenA γ x u):u.oneCell'=Ta:=by
 cases x with
 |v y=>rw[show u=y from k];exact h
 |d t y=>exact Rd.one (show Rd γ.M t y [u]from k) u (by simp)
 |box c o=>rw[show u=_ from k];rfl
 |own c=>rw[show u=_ from k];rfl
 |oelt c z i o=>obtain⟨g,_,e⟩:=k;rw[e];rfl
 |elt t y o=>obtain⟨b,f,cs,e,_⟩:=k;rw[e];rfl
 |dc t xs=>obtain⟨s,e,_⟩:=k;rw[e];rfl
theorem HJ{γ:Gh}:∀{l:List AA} {us:List Value},n3 l=Ta->All2 (DenA γ) l us->∀u∈us,u.oneCell'=Ta
 |[],[],_,_,u,b=>by cases b
 |[],_::_,_,h,_,_=>h.elim
 |_::_,[],_,h,_,_=>h.elim
 |x::l,v::us,h,hd,u,b=>by
  simp only[n3]at h;cases hx:vT x with
  |false=>simp_all
  |true=>rw[hx]at h;rcases YS.1 b with rfl|b;exact LO hx hd.1;exact HJ h hd.2 u b
def iC(c:Nat):CS->Bool
 |[]=>Ta
 |(j,_)::l=>bif Nat.beq j c then Tb else iC c l
theorem mt{c:Nat}:∀{l:CS},iC c l=Ta->∀x∈l,x.1≠c
 |[],_,x,b=>by cases b
 |(j,k)::l,h,x,b=>by
  simp only[iC]at h;cases hb:Nat.beq j c with
  |true=>simp_all
  |false=>rw[hb]at h;rcases YS.1 b with rfl|b;intro e;simp_all;exact mt h x b
theorem yN{P:Program}{g o:Nat}:∀(vs:List Value) (i:Nat) (w:World),(storeCells ⟨g,o,Td⟩ vs i).run P w=(storeCells ⟨g,0,Td⟩ vs (o+i)).run P w
 |[],i,w=>rfl
 |v::vs,i,w=>by unfold storeCells;rw[Sem.run_bind,Sem.run_bind,zw,zw,ZP];congr 1;funext a w';exact yN vs (i+1) w'
theorem Wp{n:Nat}(hi:qj P t=Ta)(i:yb P t=n){b o:Nat}{cs:Array Value}{T:TypeId}(e:h[b]?=Tc (.cells cs T (0,0))){v:Value}(l:v.cells.size=n)(p:o+n<=cs.size)(h1:∀u∈v.cells.toList,u.oneCell'=Ta)(B:World)(d:Nat):
  ∃h',(YN t (.pointer (Tc ⟨b,o,Td⟩)) v).run P (mk B d h)=.ok () (mk B d h')/\h'[b]?=Tc (.cells (cs.toList.take o++v.cells.toList++cs.toList.drop (o+n)).toArray T (0,0))/\h'.size=h.size/\∀j,j≠b->h'[j]?=h[j]?:=by
 obtain⟨h',f,q,c,k⟩:=Y9 (P:=P) B d v.cells.toList (o+0) h cs e (by simp;omega) h1;refine⟨h',?_,by grind,c,k⟩;have m:=QExec.sizeOf (P:=P) (h:=h) (ju hi).choose_spec B d;unfold YN zcu;simp only[Sem.run_bind,Sem.run_pure,Result.andThen_ok];unfold storeVar;rw[Sem.run_bind,m];simp only[Result.andThen_ok];rw[i,l];simp only[ne_eq,not_true_eq_false,if_false];rw[yN];exact f
theorem Jx{α:Type}{L vs:List α}{p:Nat}(h:p+vs.length<=L.length)(q:Nat):(L.take p++vs++L.drop (p+vs.length))[q]?=if q<p then L[q]? else if q<p+vs.length then vs[q-p]? else L[q]?:=by grind
theorem RowC.set{M:Fr}{t:Ty}{xs:List (El t)}{cells:List Value}(H:RowC M t xs cells){i:Nat}(hi:i<xs.length){y:El t}{o:Nat}{vs:List Value}(n:o+vs.length<=sz t) (p:Rd M t y ((((cells.drop (i*sz t)).take (sz t)).take o)++vs++(((cells.drop (i*sz t)).take (sz t)).drop (o+vs.length)))):
  RowC M t (xs.set i y) (cells.take (i*sz t+o)++vs++cells.drop (i*sz t+o+vs.length)):=by
 have c:(i+1)*sz t<=cells.length:=by rw[H.1];exact ZF _ hi
 rw[zb0,zdf]at c;have m:((cells.drop (i*sz t)).take (sz t)).length=sz t:=by rw[za0,zab];omega
 refine⟨?_,λj h=>?_⟩;rw[List.length_set,<-H.1];grind;rw[List.length_set]at h;by_cases b:i=j;subst b;rw[List.getElem_set_self];have e:(((cells.take (i*sz t+o)++vs++cells.drop (i*sz t+o+vs.length)).drop (i*sz t)).take (sz t))=(((cells.drop (i*sz t)).take (sz t)).take o)++vs++(((cells.drop (i*sz t)).take (sz t)).drop (o+vs.length)):=by apply zap;intro k;rw[Jx (by omega),ZQ,ZQ,zan,zan,Jx (by omega)];by_cases f:k<sz t;grind;grind
 grind;rw[List.getElem_set_ne b];have e:(((cells.take (i*sz t+o)++vs++cells.drop (i*sz t+o+vs.length)).drop (j*sz t)).take (sz t))=(cells.drop (j*sz t)).take (sz t):=by
  apply zap;intro k;rw[ZQ,ZQ,zan,zan,Jx (by omega)];by_cases f:k<sz t;simp only[f,if_true];rcases zad j i with h1|h1;have:(j+1)*sz t<=i*sz t:=ZF _ h1;grind;have l:i+1<=j:=by omega
  have:(i+1)*sz t<=j*sz t:=ZF _ l;grind;grind
 rw[e];exact H.2 j h
theorem Inv.setRow{h h':zc}(I:Inv h0 W M0 (C++R) γ h){c:Nat}{e:TypeId}{t:Ty}{xs l:List (El t)}(u:(c,Ch.row e t xs)∈C){g:Nat}(n:(γ.σ c).a.map (·.block)=Tc g)
  (D:∀i,i≠g->h'[i]?=h[i]?) (G:h'.size=h.size) (w:DenC h0.size γ h' c (.row e t l)) (J:∀x∈R,x.1≠c):Inv h0 W M0 ((c,.row e t l)::Wm c C++R) γ h':=by
 have s:=I.sep _ (YZ R u) g n;have q:∀x∈Wm c C++R,blk γ x.1 x.2≠Tc g:=by
  intro x k;have p:x≠(c,Ch.row e t xs):=by rintro rfl;rcases ZG.1 k with k|k;exact(Yz k).2 rfl;grind
  have o:x∈C++R:=((xr c C).append_right R).subset k;have A:=@ou _ (λ(x y:Nat×Ch)=>∀b,blk γ x.1 x.2=Tc b->blk γ y.1 y.2≠Tc b) (λx y h b f r=>h b r f) _ I.apart;intro f;exact A (YZ R u) o (λe=>p e.symm) _ n f
 have B:Inv h0 W M0 (Wm c C++R) γ h':=by refine I.rest ((xr c C).append_right R) (c:=Td) (Gx.refl _ _) (λx _=>⟨by simp,rfl⟩) (λx k b f=>?_) (λb z E=>?_) (λi hi F=>?_) (by omega) (λb f=>rfl);exact⟨D b λe'=>q x k (e' ▸ f),(I.sep x (((xr c C).append_right R).subset k) b f).2⟩;obtain⟨H,m,e'⟩:=I.ag b z E;grind;grind
 refine B.cons w (λb f=>?_) (λb f x k=>?_);simp only[blk,n,YL]at f;grind;simp only[blk,n,YL]at f;simp_all
def xB(P:Program)(t:TypeId)(f:AA)(b:List AA)(C R:CS)(K:AV->CS->Option Nat->Prop):Prop:=
 bif qj P t then(bif Nat.beq b.length (yb P t)then(bif n3 b then(match f with
 |.box c o=>match Yd C c with
  |some (.box l)=>bif iC c R then(bif (bif fR l then Ta else fR (l.take o++b++l.drop (o+b.length)))then False else(bif Nat.ble (o+b.length) l.length then K (l6 undef) ((c,.box (l.take o++b++l.drop (o+b.length)))::Wm c C) Td else False))else False
  |_=>False
 |.oelt c z i o=>match Yd (frzL (mC b) C) c with
  |some (.row e ty xs)=>bif iC c R then(bif Nat.beq z (sz ty)then(bif Nat.ble (o+b.length) (sz ty)then ∃y:El ty,xs[i]?=Tc y/\(match collect (frzL (mC b) C++R) ty ((Jq ty y).take o++b++(Jq ty y).drop (o+b.length))with
   |some (y',[])=>K (l6 undef) ((c,.row e ty (xs.set i y'))::Wm c (frzL (mC b) C)) Td
   |_=>False)else False)else False)else False
  |_=>False
 |_=>False)else False)else False)else False
theorem P7{a x:Operand}(ho:o.op=.store t a x){aa:AA}{f:List AA}{K:AV->CS->Option Nat->Prop}(H:xB P t aa f C R K)(I:Inv h0 W M0 (C++R) γ h)
  (D:All2 (DenA γ) f (σ x).cells.toList) (ha:DenA γ aa (σ a)):ExA P (execOp σ o) h (gJ h0 W M0 R γ K):=by
 unfold xB at H;cases hi:qj P t with
 |false=>grind
 |true=>
  rw[hi]at H;cases hn:Nat.beq f.length (yb P t)with
  |false=>simp_all
  |true=>
   rw[hn]at H;cases hok:n3 f with
   |false=>simp_all
   |true=>
    rw[hok]at H;have N:f.length=yb P t:=YT hn;have u:(σ x).cells.size=yb P t:=by rw[<-N,D.length];simp
    have h1:=HJ hok D;simp only[zF]at H;split at H
    ·rename_i c off;split at H
     ·rename_i l Z;cases hR:iC c R with
      |false=>simp_all
      |true=>
       rw[hR]at H;cases hit:fR l with
       |true=>simp_all
       |false=>
       rw[hit]at H;cases hit2:fR (l.take off++f++l.drop (off+f.length))with
       |true=>simp_all
       |false=>
       rw[hit2]at H;simp only[zF,zG]at H;cases hble:Nat.ble (off+f.length) l.length with
       |false=>grind
       |true=>
        rw[hble]at H;have aj:=zaw hble;obtain⟨us,e,Q⟩:=I.den _ (YZ R (qh Z));rcases e with⟨⟨T,e⟩,_⟩|⟨s,p,e,_⟩;case inr=>grind [pV]
        have ay:=Q.length;intro B d;obtain⟨h',r1,r2,r3,r4⟩:=Wp (P:=P) hi rfl e (o:=off) u (by simp;omega) h1 B d;refine .inr (.inl ⟨d,h',?_,_,_,_,γ,H,Js _ _,?_,Gx.refl _ _⟩);simp only[execOp,ho];rw[show σ a=_ from ha];exact mQ r1;refine I.setBox (qh Z) (us:=us.take off++(σ x).cells.toList++us.drop (off+f.length)) (.inl ⟨⟨T,?_⟩,λs p=>pV hit2 (((Q.take off).append D).append (Q.drop _)) s p⟩) r4 r3 ?_ (mt hR);rw[r2,N];exact((Q.take off).append D).append (Q.drop _)
     exact H.elim
    rename_i c z i off;split at H;rename_i e ty xs Z;cases hR:iC c R with
    |false=>simp_all
    |true=>
     rw[hR]at H;cases hz:Nat.beq z (sz ty)with
     |false=>simp_all
     |true=>
      rw[hz]at H;cases hble:Nat.ble (off+f.length) (sz ty)with
      |false=>grind
      |true=>
       rw[hble]at H;simp only[zF]at H;obtain⟨y,hy,H⟩:=H;split at H;rename_i y' S;have aj:=zaw hble;obtain⟨γ1,I1,g1⟩:=Inv.frzL (C:=C) (γ:=γ) (mC f) I;have E:=ha.gx g1 rfl;have ae:=DenL.gx (c:=Td) g1 rfl D;rw[YT hz]at E;obtain⟨g,hg,ai⟩:=E;have q:=qh Z;obtain⟨cells,r,b,n,m⟩:=I1.den _ (YZ R q);simp only at r b n m;have A:i<xs.length:=(ZH.1 hy).1;have ak:xs[i]=y:=(ZH.1 hy).2;rcases r.2 with⟨hv,ax⟩|⟨g',cap,M,hv,am,af,an,J,ah,w⟩;omega;simp only[ZU]at hv;have ap:g'=g:=by have:=hv.1;rw[hg]at this;simp only[YL,Addr.mk.injEq]at this;exact this.1.symm
       subst ap;have F:cells.length=xs.length*sz ty:=b.1;have G:(i+1)*sz ty<=xs.length*sz ty:=ZF _ A;rw[zb0,zdf]at G;have ab:xs.length*sz ty<=cap*sz ty:=ZF _ (by omega);have ar:(σ x).cells.toList.length=f.length:=D.length.symm;intro B d;obtain⟨h',r1,r2,r3,r4⟩:=Wp (P:=P) hi rfl af (o:=i*sz ty+off) u (by rw[ah];omega) h1 B d;refine .inr (.inl ⟨d,h',?_,_,_,_,γ1,H,Js _ _,?_,g1⟩);simp only[execOp,ho];rw[ai];exact mQ r1;refine I1.setRow q (g:=g') (by rw[hg];rfl) r4 r3 ?_ (mt hR);have hE:=b.2 i A;rw[ak]at hE;have U:=Zc (γ:=γ1) hE;have Y:=((U.take off).append ae).append (U.drop (off+f.length));obtain⟨c1,c2,e1,r5,r6⟩:=Jr I1.fz S Y;cases c2 with
       |cons _ _=>exact r6.elim
       |nil=>
        rw[ZY]at e1;rw[<-e1]at r5;have O:=b.set A (o:=off) (vs:=(σ x).cells.toList) (by omega) (by rw[ar];exact r5);refine⟨_,⟨?_,.inr ⟨g',cap,_,by simp[hv],am,r2,an,J,?_,?_⟩⟩,O,by grind,by grind⟩;grind;grind;apply zap;intro k;have V:(σ x).cells.toList.length=yb P t:=by simpa using u
        rw[ZQ,<-V];simp only;rw[Jx (L:=cells) (by omega)];have au:cells=M.toList.take (xs.length*sz ty):=by rw[<-w,m]
        rw[Jx (L:=M.toList) (by grind),au,m];grind
       exact H.elim
    exact H.elim;exact H.elim
def fA(s:Bt)(p:Nat):Bool:=Nat.blt p s.size
def fL(s:Bt)(p:Nat):Nat:=bif Nat.blt p s.size then p+(zci s p).2 else p
def gF(s:Bt)(p:Nat):Int:=((zci s p).1:Int)
def vK(P:Program)(t:TypeId)(av:AV)(d:Nat)(C R:CS)(K:AV->CS->Option Nat->Prop):Prop:=match av,P.underlying t with
 |.g (.a (.v (.string s))),Tc .string=>bif ya d R then K (.g (.a (.box d 0))) ((d,.box [.d .iter (s,0)])::yf d C) (Tc d)else False
 |_,_=>False
theorem NB{x:Operand}(f:o.op=.range t x){K:AV->CS->Option Nat->Prop}(H:vK P t av d C R K)(I:Inv h0 W M0 (C++R) γ h)
  (b:DenV γ av (σ x)):ExA P (execOp σ o) h (gJ h0 W M0 R γ K):=by
 unfold vK at H;split at H;rename_i s k;cases hR:ya d R with
 |false=>simp_all
 |true=>rw[hR]at H;intro B e;refine .inl ⟨.pointer (Tc ⟨h.size,0,Td⟩),e,h.push (.stringIter s 0),?_,_,_,_,hP γ d h.size,H,?_,?_,ki _ _ _⟩;simp only[execOp,f,show σ x=.string s from b];refine Jj ?_;have i:=QExec.underlying (h:=h) k B e;unfold zdd;rw[Sem.run_bind,i];rfl;simp only[DenV,DenG,DenA,Z8];exact Inv.newBoxO (c:=d) I hR (l:=[.d .iter (s,0)]) (us:=[Z1 s 0]) ⟨rfl,trivial⟩ rfl (.inr ⟨s,0,rfl,rfl⟩)
 exact H.elim
def uX(av:AV)(C R:CS)(K:AV->CS->Option Nat->Prop):Prop:=match av with
 |.g (.a (.box c 0))=>match Yd C c with
  |some (.box [.d .iter x])=>bif iC c R then K (.nx (fA x.1 x.2) (x.2:Int) (gF x.1 x.2)) ((c,.box [.d .iter (x.1,fL x.1 x.2)])::Wm c C) Td else False
  |_=>False
 |_=>False
theorem TZ{x:Operand}(z:o.op=.next x Ta){K:AV->CS->Option Nat->Prop}(H:uX av C R K)(I:Inv h0 W M0 (C++R) γ h)
  (F:DenV γ av (σ x)):ExA P (execOp σ o) h (gJ h0 W M0 R γ K):=by
 unfold uX at H;split at H;rename_i c;split at H;rename_i y f;cases hR:iC c R with
 |false=>simp_all
 |true=>
  rw[hR]at H;simp only[zF]at H;obtain⟨us,G,l⟩:=I.den _ (YZ R (qh f));have n:us=[Z1 y.1 y.2]:=by
   match us,l with
   |[u],l=>have J:Rd γ.M .iter y [u]:=l.1;simpa[Rd]using J
  subst n;have b:h[γ.β c]?=Tc (.stringIter y.1 y.2):=by
   rcases G with⟨_,e⟩|⟨s,p,E,N⟩;grind;have O:y.1=s/\y.2=p:=by simp only[Z1,za4,Value.iface.injEq,Value.agg.injEq,Array.mk.injEq,Value.string.injEq,Value.int.injEq,and_true,true_and]at E;exact⟨E.1,by omega⟩
   grind
  have k:γ.β c<h.size:=(YV.1 b).1;intro B d;have t:∀(w:World),w.heap[γ.β c]?=Tc (.stringIter y.1 y.2)->(getObj (γ.β c)).run P w=.ok (.stringIter y.1 y.2) w:=λw e=>by simp[getObj,Sem.run,e]
  have L:∀(w:World) (r:Obj),w.heap[γ.β c]?=Tc (.stringIter y.1 y.2)->(setObj (γ.β c) r).run P w=.ok () { w with heap:=w.heap.setIfInBounds (γ.β c) r }:=λw r e=>by simp[setObj,Sem.run,e]
  have A:σ x=.pointer (Tc ⟨γ.β c,0,Td⟩):=F;by_cases m:y.2<y.1.size;have q:fA y.1 y.2=Ta:=by simpa[fA,zbj]using m
  have D:fL y.1 y.2=y.2+(zci y.1 y.2).2:=by unfold fL;rw[show Nat.blt y.2 y.1.size=Ta from q];rfl
  refine .inl ⟨.tuple #[.bool Ta,.int .i64 y.2,.int .i32 (gF y.1 y.2)],d,h.setIfInBounds (γ.β c) (.stringIter y.1 (fL y.1 y.2)),?_,_,_,_,γ,H,⟨λ_=>rfl,λf=>by simp_all⟩,?_,Gx.refl _ _⟩;simp only[execOp,z,A];refine Jj ?_;unfold zc9;simp only;rw[Sem.run_bind,t _ b];simp only[Result.andThen_ok,m,if_true];rw[Sem.run_bind,L _ _ b,D];rfl;refine I.setBox (qh f) (us:=[Z1 y.1 (fL y.1 y.2)]) (.inr ⟨_,_,rfl,by simp[k]⟩) (λi hi=>by grind) (by simp) ⟨rfl,trivial⟩ (mt hR);have q:fA y.1 y.2=Tb:=by
   cases h:fA y.1 y.2 with
   |false=>rfl
   |true=>exact absurd (by simpa[fA,zbj]using h) m
  have D:fL y.1 y.2=y.2:=by unfold fL;rw[show Nat.blt y.2 y.1.size=Tb from q];rfl
  refine .inl ⟨.tuple #[.bool Tb],d,h,?_,_,_,_,γ,H,⟨λf=>(by simp_all),λ_=>rfl⟩,?_,Gx.refl _ _⟩;simp only[execOp,z,A];refine Jj ?_;unfold zc9;simp only;rw[Sem.run_bind,t _ b];simp;omega;refine I.setBox (qh f) (us:=[Z1 y.1 (fL y.1 y.2)]) (.inr ⟨_,_,rfl,by grind⟩) (λi hi=>rfl) rfl ⟨rfl,trivial⟩ (mt hR)
 exact H.elim;exact H.elim
end
section
variable {P:Program} {tr t tx e ty:TypeId} {n d m b:Nat} {C R:CS} {γ:Gh} {h:zc} {s:Sl} {z x u:Value} {xs news:List Value}
variable {h0 : zc} {W : Nat -> Prop} {M0 : Fr}
def Wq(cs:CS)(t:Ty):Nat->List AA->Option (List (El t)×List AA)
 |0,l=>Tc ([],l)
 |n+1,l=>match collect cs t l with
  |some (y,l')=>match Wq cs t n l' with
   |some (ys,l'')=>Tc (y::ys,l'')
   |none=>Td
  |none=>Td
theorem vn{γ:Gh}{cs:CS}(c:i8 γ cs){t:Ty}:∀{n:Nat} {l b:List AA} {ys:List (El t)},Wq cs t n l=Tc (ys,b)->∀{us:List Value},All2 (DenA γ) l us->∃c1 c2,us=c1++c2/\RowC γ.M t ys c1/\ys.length=n/\All2 (DenA γ) b c2
 |0,l,b,ys,h,us,hu=>by simp only[Wq,YL,za1]at h;obtain⟨rfl,rfl⟩:=h;exact⟨[],us,rfl,RowC.nil _ _,rfl,hu⟩
 |n+1,l,b,ys,h,us,hu=>by simp only[Wq]at h;split at h;rename_i y s h1;split at h;rename_i e u i;simp only[YL,za1]at h;obtain⟨rfl,rfl⟩:=h;obtain⟨c1,c2,rfl,k,p⟩:=Jr c h1 hu;obtain⟨m,r,rfl,f,q,o⟩:=vn c i p;exact⟨c1++m,r,by simp,by simpa using (RowC.single k).append f,by simp[q],o⟩;cases h;cases h
def ma(P:Program)(el:TypeId)(k:Nat):Option (List Value):=bif Nat.beq k 0 then Tc []else(match zeroOf P el with
 |some z=>Tc ((zc4 k).map (z.cells[· % z.cells.size]!)).toList
 |none=>Td)
def pL:List (Nat×AV)->List AV
 |[]=>[]
 |(_,v)::l=>v::pL l
def Wr(P:Program)(tr:TypeId)(t:TypeId)(n:Nat)(ps:List (Nat×AV))(d:Nat)(C R:CS)(K:AV->CS->Option Nat->Prop):Prop:=
 match jC P t with
 |some el=>match kW P tr 8 el,ma P el (n*yb P el)with
  |some ty,some zs=>bif Nat.beq (yb P el) (sz ty)then(bif Nat.ble (n*yb P el) 16777216 then(bif Nat.blt 0 (yb P el)then(bif ya d R then(match kT (λi=>Tc (i*yb P el,yb P el)) (zs.map .v) ps with
   |some r=>match Wq (frzL (Xr (pL ps)) C++R) ty n r with
    |some (ys,[])=>K (.g (.a (.own d))) ((d,.row el ty ys)::yf d (frzL (Xr (pL ps)) C)) (Tc d)
    |_=>False
   |none=>False)else False)else False)else False)else False
  |_,_=>False
 |none=>False
theorem Ha{c:Array (Nat×Operand)}{o:Oper}(ho:o.op=.buildSlice t n c){ps:List (Nat×AV)}{ρ:Operand->Option AV}(J:jJ ρ c.toList=Tc ps){K:AV->CS->Option Nat->Prop}
  (H:Wr P tr t n ps d C R K) {σ:Operand->Value} (I:Inv h0 W M0 (C++R) γ h) (hρ:∀x av,ρ x=Tc av->DenV γ av (σ x)):ExA P (execOp σ o) h (gJ h0 W M0 R γ K):=by
 unfold Wr at H;split at H
 ·rename_i el D;obtain⟨hu,L⟩:=Jt D;split at H
  ·rename_i ty w aa f;cases hz:Nat.beq (yb P el) (sz ty)with
   |false=>simp_all
   |true=>
   rw[hz]at H;cases hb1:Nat.ble (n*yb P el) 16777216 with
   |false=>simp_all
   |true=>
   rw[hb1]at H;cases hb2:Nat.blt 0 (yb P el)with
   |false=>simp_all
   |true=>
   rw[hb2]at H;cases hR:ya d R with
   |false=>simp_all
   |true=>
   rw[hR]at H;simp only[zF]at H;split at H
   ·rename_i r hr;split at H
    ·rename_i ys E;obtain⟨l,Q,s⟩:=Inv.frzL (C:=C) (γ:=γ) (Xr (pL ps)) I;have N:∀x av,ρ x=Tc av->DenV l av (σ x):=λx av hx=>(hρ x av hx).gx s rfl;obtain⟨ws,e1,Y⟩:=Wo hr (Qa l w) (p8 N J);obtain⟨c1,c2,rfl,O,S,Z⟩:=vn Q.fz E Y;cases c2 with
     |cons _ _=>exact Z.elim
     |nil=>
     rw[ZY]at *;have F:=YT hz;have m:0<yb P el:=by simpa[zbj]using hb2
     have ab:n*yb P el<=16777216:=zaw hb1;have hn:n<=n*yb P el:=zb6 _ m;have ae:c1.length=n*yb P el:=by rw[O.1,S,F]
     intro B e;refine .inl ⟨.slice (Tc ⟨h.size,0,Td⟩) n n,e,h.push (.cells c1.toArray el),?_,_,_,_,gI l d ⟨Tc ⟨h.size,0,Td⟩,n,n⟩,H,?_,?_,?_⟩;have A:=QExec.underlying (h:=h) hu B e;have hs:=QExec.sizeOf (P:=P) (h:=h) (ju L).choose_spec B e;have V:(c.map λx=>(x.1,σ x.2)).toList=c.toList.map λx=>(x.1,σ x.2):=by rw[zca]
     have U:zdn (λi=>Tc (i*yb P el,yb P el)) w.toArray (c.map λx=>(x.1,σ x.2)).toList=Tc c1.toArray:=by rw[V];exact e1
     simp only[execOp,ho];refine Jj ?_;unfold Instr.buildSlice;rw[Sem.run_bind,A];simp only[Result.andThen_ok];rw[Sem.run_bind,hs];simp only[Result.andThen_ok];rw[za (by omega)];unfold ma at f;by_cases k:n*yb P el=0;rw[zb k];rw[k]at f ⊢;simp at f;subst f;simp only[Sem.run_bind,Sem.run_pure,Result.andThen_ok];have u:Array.map (λx=>(#[]:Array Value)[x % (#[]:Array Value).size]!) (zc4 0)=([]:List Value).toArray:=by simp
     rw[u,U];rfl;rw[za k];have y:Nat.beq (n*yb P el) 0=Tb:=by
      cases hh:Nat.beq (n*yb P el) 0 with
      |false=>rfl
      |true=>simp_all
     rw[y]at f;simp only[zG]at f;split at f;rename_i z M;have G:=Jw M h B e;simp only[YL]at f;rw[Sem.run_bind,G];simp only[Result.andThen_ok,Sem.run_bind,Sem.run_pure];have u:Array.map (λx=>z.cells[x % z.cells.size]!) (zc4 (n*yb P el))=w.toArray:=by rw[<-f]
     rw[u,U];rfl;cases f;simp only[DenV,DenG,DenA,yh];rfl;refine Q.newRow hR (by simp) (p:=Td) (λi hi _=>by grind) (λb y=>by cases y) (cells:=c1) ⟨by grind,.inr ⟨h.size,n,c1.toArray,rfl,I.size,xq _ _,YM _,by unfold maxLen;omega,by simp_all,?_⟩⟩ (λq A=>.inr (by cases A;rfl)) O (by omega) S.symm;grind;exact⟨s.1,λi hi=>⟨((Qk l d _).2 i hi).1.trans (s.2 i (by simp)).1,((Qk l d _).2 i hi).2.trans (s.2 i (by simp)).2⟩⟩
    exact H.elim
   exact H.elim
  exact H.elim
 exact H.elim
theorem Qc{n sz:Nat}{cells:List Value}(k:Arr n h s.a cells)(f:cells.length=s.len*sz)(c:0<sz)(B:World)(d:Nat):
  (zbk sz s.len (.slice s.a s.len s.cap)).run P (mk B d h)=.ok cells.toArray (mk B d h):=by
 rcases k with rfl|⟨b,o,e,_,l⟩;have h0:s.len=0:=by rcases zcd s.len with h0|h0;exact h0;have:=Nat.mul_pos h0 c;grind
 rw[h0];cases s.a with
 |none=>simp[zbk]
 |some p=>simp[zbk,loadCells,loadCellsFrom]
 rw[e];exact run_firstCells_some (mk B d h) sz s.len ⟨b,o,Td⟩ s.len s.cap cells f λj u i=>by rw[zw];exact l j u i
theorem Cr{n sz:Nat}{cells:List Value}(e:Arr n h s.a cells)(c:cells.length=s.len*sz)(b:0<sz)(h1:∀u∈cells,u.oneCell'=Ta){tx e':TypeId}(f:P.underlying tx=Tc (.slice e'))(B:World)(d:Nat):
  Src P sz tx (aK s) s.len cells (mk B d h):=
 ⟨.inl ⟨e',f⟩,λ_=>rfl,Qc e c b B d,Qc e c b B (d+1),c,h1⟩
theorem BW{g o:Nat}{b:Array Value}{T:TypeId}(c:h[g]?=Tc (.cells b T (0,0))){vs:List Value}(k:o+vs.length<=b.size)(h1:∀u∈vs,u.oneCell'=Ta)(B:World)(d:Nat):
  ∃h',(storeCells ⟨g,o,Td⟩ vs 0).run P (mk B d h)=.ok () (mk B d h')/\h'[g]?=Tc (.cells (b.toList.take o++vs++b.toList.drop (o+vs.length)).toArray T (0,0))/\h'.size=h.size/\∀j,j≠g->h'[j]?=h[j]?:=by
 obtain⟨h',l,e,i,f⟩:=Y9 (P:=P) B d vs (o+0) h b c (by omega) h1;grind [yN]
theorem Ws{sz bytes:Nat}(T:ElemT P t e z sz bytes){base:Nat}(k:xs.length=s.len*sz)(l:∀B d,(zbk sz s.len (aK s)).run P (mk B d h)=.ok xs.toArray (mk B d h))(A:∀B d,Src P sz tx x m news (mk B d h))(b:(s.len+m)*bytes<=140737488355328)(w:s.len+m<=140737488355328)(q:base<=h.size)(C:s.cap<s.len+m)(B:World)(d:Nat):
  ∃c blk,(YY #[t,tx] ty #[aK s,x]).run P (mk B d h)=.ok (.slice (Tc ⟨h.size,0,Td⟩) (s.len+m) c) (mk B (d+1) (h.push (.cells blk e)))/\s.len+m<=c/\c<=maxLen/\blk.size=c*sz/\blk.toList.take ((s.len+m)*sz)=xs++news:=by
 obtain⟨i,hi,D,r,o⟩:=T.info;subst r;subst o;have u:=A B d;have f:=u.newsLen;have y:=run_append_grow_src (P:=P) (mk B d h) t tx ty e i z T.slice hi D s.a s.len s.cap xs (l B (d+1)) x m news u C (by omega) (growslice_fits (by omega) b);have n:=grownCap_ge (mk B d h) (s.len+m) s.cap e;have p:=grownCap_le_maxLen (mk B d h) (s.len+m) s.cap e (by unfold maxLen;omega);generalize grownCap (mk B d h) (s.len+m) s.cap e=c at *;refine⟨c,_,y,n,p,?_,?_⟩;simp only[Array.size_append,List.size_toArray,size_zeroCells,ZC,T.zero,k,f,<-zb0];grind;simp only[Array.toList_append];have:(xs++news).length=(s.len+m)*i.size:=by rw[ZC,k,f,zb0]
 grind
theorem Yg{sz bytes:Nat}(T:ElemT P t e z sz bytes){h h':zc}{B:World}(c:Src P sz tx x m news (mk B d h))(b:s.len+m<=s.cap)
  (k:∀p,s.a=Tc p->(storeCells (p.add (s.len*sz)) news 0).run P (mk B d h)=.ok () (mk B d h')) (f:s.a=Td->h'=h):(YY #[t,tx] ty #[aK s,x]).run P (mk B d h)=.ok (.slice s.a (s.len+m) s.cap) (mk B d h'):=by
 obtain⟨i,hi,r,o,q⟩:=T.info;subst o;have n:=T.slice;unfold aK;rcases c.kind with⟨e',l⟩|l;cases ha:s.a with
 |none=>rw[f ha];simp[YY,run_underlying n,run_underlying l,sizeOf,typeInfo,hi,c.len,b,c.cells]
 |some p=>simp[YY,run_underlying n,run_underlying l,sizeOf,typeInfo,hi,c.len,b,c.cells,k p ha]
 cases ha:s.a with
 |none=>rw[f ha];simp[YY,run_underlying n,run_underlying l,sizeOf,typeInfo,hi,c.len,b,c.cells]
 |some p=>simp[YY,run_underlying n,run_underlying l,sizeOf,typeInfo,hi,c.len,b,c.cells,k p ha]
theorem Cv{sz bytes:Nat}(T:ElemT P t e z sz bytes){base:Nat}(H:Owns h base e sz s xs)(V:∀B d,Src P sz tx x m news (mk B d h)) (l:(s.len+m)*bytes<=140737488355328) (u:s.len+m<=140737488355328) (f:base<=h.size) {K:Value->zc->Prop} (I:∀(s':Sl) (h':zc),s'.len=s.len+m->Owns h' base e sz s' (xs++news)->(∀i,i<h.size->(∀p,s.a=Tc p->i≠p.block)->h'[i]?=h[i]?)->h.size<=h'.size->(∀r,s'.a=Tc r->(∃p,s.a=Tc p/\r.block=p.block)\/r.block=h.size)->K (aK s') h'):
  xd P (YY #[t,tx] ty #[aK s,x]) h K:=by
 intro B d;have D:=V B d;have y:=D.newsLen;have n:=H.1;have w:=H.arr;by_cases b:s.len+m<=s.cap;rcases H.2 with⟨C,aa⟩|⟨g,cap,J,C,M,hg,ab,F,O,q⟩;simp only[ZU]at C;obtain⟨Z,e2,e3⟩:=C;have hm:m=0:=by omega
 subst hm;have Y:news=[]:=zaa (by simpa using y);subst Y;have A:=Yg (P:=P) (ty:=ty) T (s:=s) (h':=h) D b (λp hp=>by simp_all) (λ_=>rfl);refine⟨_,d,h,A,I ⟨s.a,s.len+0,s.cap⟩ h rfl ?_ (λ_ _ _=>rfl) (YM _) (λr k=>by simp_all)⟩;simp;omega;simp only[ZU]at C;obtain⟨Z,_,e3⟩:=C;have G:h[g]?=Tc (.cells J e (0,0)):=hg;have Q:(s.len+m)*sz<=cap*sz:=ZF _ (by omega);rw[zb0]at Q;obtain⟨h',r1,r2,r3,r4⟩:=BW (P:=P) G (o:=s.len*sz) (vs:=news) (by rw[O];omega) D.one B d;have A:=Yg (P:=P) (ty:=ty) T (s:=s) (h':=h') D b (λp hp=>by simp_all[zw,ZP]) (λY=>by simp_all);refine⟨_,d,h',A,I ⟨s.a,s.len+m,s.cap⟩ h' rfl ⟨?_,.inr ⟨g,cap,_,?_,M,r2,(by simp_all),F,?_,?_⟩⟩ (λi hi E=>r4 i λe'=>E _ Z e') (by omega) (λr k=>.inl ⟨r,k,rfl⟩)⟩;grind;grind;grind;simp only;rw[q];have:(xs++news).length=(s.len+m)*sz:=by rw[ZC,n,y,zb0]
 grind;obtain⟨c,blk,A,U,N,S,L⟩:=Ws (P:=P) (ty:=ty) (base:=base) T n (λB d=>Qc w n T.pos B d) V l u f (by omega) B d;refine⟨_,d+1,_,A,I ⟨Tc ⟨h.size,0,Td⟩,s.len+m,c⟩ _ rfl ⟨?_,.inr ⟨h.size,c,blk,rfl,f,xq _ _,U,N,S,L⟩⟩ (λi hi _=>by grind) (by simp) (λr k=>.inr (by cases k;rfl))⟩;grind
def kc(s:Bt):List Int:=s.data.toList.map λb=>(b.toNat:Int)
def Fl:(ty:Ty)->Bt->Option (List (El ty))
 |.int .u8,s=>Tc (kc s)
 |_,_=>Td
def lD(P:Program)(cs:CS)(tx:TypeId)(ty:Ty):AV->Option (List (El ty))
 |.g (.a (.v (.string s)))=>match P.underlying tx with
  |some .string=>Fl ty s
  |_=>Td
 |.g (.a (.v (.slice Td 0 0)))=>match P.underlying tx with
  |some (.slice _)=>Tc []
  |_=>Td
 |.g (.a aa)=>match P.underlying tx with
  |some (.slice _)=>match rowOf cs aa with
   |some r=>Qj (.row r.1) (.row ty) r.2
   |none=>match aa with
    |.own c=>match Yd cs c with
     |some (.row _ t xs)=>Qj (.row t) (.row ty) xs
     |_=>Td
    |_=>Td
  |_=>Td
 |_=>Td
theorem RowC.bytes(M:Fr)(s:Bt):RowC M (.int .u8) (kc s) (byteCells s):=by
 have c:(byteCells s).length=(kc s).length:=by unfold byteCells kc;simp
 refine⟨by rw[c];simp[sz],λi hi=>?_⟩;have b:i<(byteCells s).length:=by rw[c];exact hi
 have e:(byteCells s)[i]=.int .u8 (kc s)[i]:=by simp only[byteCells,kc,zcb]
 have f:((byteCells s).drop (i*1)).take 1=[(byteCells s)[i]]:=by rw[zb1,ZM b];rfl
 show((byteCells s).drop (i*1)).take 1=[.int .u8 (kc s)[i]];rw[f,e]
theorem Yh{t t':Ty}{xs:List (El t)}{ys:List (El t')}(h:Qj (.row t) (.row t') xs=Tc ys):∃e:t=t',ys=e ▸ xs:=by unfold Qj at h;grind
theorem Hi{cs:CS}(I:Inv h0 W M0 cs γ h){ty:Ty}{av:AV}{ys:List (El ty)}(b:lD P cs tx ty av=Tc ys)(o:0<sz ty)(p:DenV γ av u):
  ∃news,RowC γ.M ty ys news/\∀B d,Src P (sz ty) tx u ys.length news (mk B d h):=by
 have row:∀{t:Ty} {xs:List (El t)} {n:Nat} {s:Sl} {cells:List Value} {e':TypeId},Qj (.row t) (.row ty) xs=Tc ys->P.underlying tx=Tc (.slice e')->u=aK s->s.len=xs.length->RowC γ.M t xs cells->Arr n h s.a cells ->
   ∃news,RowC γ.M ty ys news/\∀B d,Src P (sz ty) tx u ys.length news (mk B d h):=by
  intro t xs n s cells e' q i e l m A;obtain⟨z,w⟩:=Yh q;subst z;simp only at w;subst w;refine⟨cells,m,λB d=>?_⟩;rw[e,<-l];exact Cr A (by rw[l];exact m.1) o m.one i B d
 unfold lD at b;split at b
 ·rename_i s;split at b
  ·rename_i i;unfold Fl at b;split at b;case h_2=>cases b
   simp only[YL]at b;subst b;refine⟨byteCells s,RowC.bytes _ s,λB d=>?_⟩;rw[show u=.string s from p];have:=Src.ofString (P:=P) (mk B d h) i s;have e:(kc s).length=s.size:=by unfold kc;rw[ZA,Array.length_toList];rfl
   rw[e];exact this
  cases b
 split at b;rename_i e' i;simp only[YL]at b;subst b;refine⟨[],RowC.nil _ _,λB d=>?_⟩;rw[show u=.slice Td 0 0 from p];exact Src.ofNil (mk B d h) i 0;cases b;rename_i C _ _;split at b;rename_i e' i;split at b;rename_i r m;obtain⟨s,e,l,y,cells,f,x⟩:=(oU I m p).rowC I.ag;grind;split at b;rename_i c _ _ _;split at b;rename_i e t xs q;obtain⟨cells,k,f,y,l⟩:=I.den _ (qh q);exact row b i (show u=aK _ from p) l f k.arr;cases b;cases b;cases b;cases b
def rz(P:Program)(el:TypeId)(ty:Ty):Option Nat:=match P.info? el with
 |some i=>match i.zero with
  |some z=>bif (bif Nat.beq i.size (sz ty)then(bif Nat.beq z.cells.size i.size then(bif Nat.blt 0 i.size then Nat.blt 0 i.bytes else Tb)else Tb)else Tb)then Tc i.bytes else Td
  |none=>Td
 |none=>Td
theorem Hz{t el:TypeId}{ty:Ty}(e:P.underlying t=Tc (.slice el))(h:rz P el ty=Tc b):(∃z,ElemT P t el z (sz ty) b)/\0<b:=by
 unfold rz at h;split at h
 ·rename_i i hi;split at h
  ·rename_i z k;cases h1:Nat.beq i.size (sz ty)with
   |false=>simp_all
   |true=>
   cases h2:Nat.beq z.cells.size i.size with
   |false=>simp_all
   |true=>
   cases h3:Nat.blt 0 i.size with
   |false=>simp_all
   |true=>
   cases h4:Nat.blt 0 i.bytes with
   |false=>simp_all
   |true=>
   rw[h1,h2,h3,h4]at h;simp only[zF,YL]at h;have c:=YT h1;have f:=YT h2;have l:0<i.size:=by simpa[zbj]using h3
   have m:0<i.bytes:=by simpa[zbj]using h4
   exact⟨⟨z,e,⟨i,hi,k,c,h⟩,by rw[f,c],by omega⟩,by omega⟩
  cases h
 cases h
def km(P:Program)(tr:TypeId)(t tx:TypeId)(bv sv:AV)(d:Nat)(C R:CS)(K:AV->CS->Option Nat->Prop):Prop:=
 match jC P t with
 |some el=>match kW P tr 8 el with
  |some ty=>match rz P el ty,lD P (C++R) tx ty sv with
   |some b,some ys=>match bv with
    |.g (.a (.v (.slice Td 0 0)))=>bif ya d R then(ys.length*b<=140737488355328/\K (.g (.a (.own d))) ((d,.row el ty ys)::yf d C) (Tc d))else False
    |.g (.a (.own c))=>match Yd C c with
     |some (.row e t' xs)=>match Qj (.row t') (.row ty) xs with
      |some xs=>bif Nat.beq e el then(bif ya d R then((xs.length+ys.length)*b<=140737488355328/\K (.g (.a (.own d))) ((d,.row el ty (xs++ys))::yf d (Wm c C)) (Tc d))else False)else False
      |none=>False
     |_=>False
    |.g (.a (.dc t' xs))=>match Qj (.row t') (.row ty) xs with
     |some xs=>(xs.length+ys.length)*b<=140737488355328/\K (.g (.a (.d (.row ty) (xs++ys)))) C Td
     |none=>False
    |_=>False
   |_,_=>False
  |none=>False
 |none=>False
theorem qO{n b k:Nat}(c:0<b)(h:n*b<=k):n<=k:=zaj (zb6 _ c) h
theorem F6{tr t tx ty':TypeId}{bv sv:AV}{K:AV->CS->Option Nat->Prop}(H:km P tr t tx bv sv d C R K)(I:Inv h0 W M0 (C++R) γ h)
  {u v:Value} (S:DenV γ bv u) (au:DenV γ sv v):xd P (YY #[t,tx] ty' #[u,v]) h (gJ h0 W M0 R γ K):=by
 unfold km at H;split at H
 ·rename_i el am;obtain⟨hu,aB⟩:=Jt am;split at H
  ·rename_i ty aA;split at H
   ·rename_i b ys r an;obtain⟨⟨z,T⟩,F⟩:=Hz hu r;obtain⟨news,w,D⟩:=Hi I an T.pos au;split at H
    ·cases hR:ya d R with
     |false=>rw[hR]at H;exact H.elim
     |true=>
     rw[hR]at H;obtain⟨E,V⟩:=H;rw[show u=aK ⟨Td,0,0⟩from S];have L:=qO F E;refine Cv T (Owns.nil h h0.size el (sz ty)) D (by simpa using E) (by simpa using L) I.size λs' h' hl A hk hs N=>?_;rw[zba]at A;simp only[ZP]at hl;refine⟨_,_,_,gI γ d s',V,?_,I.newRow hR hs (p:=Td) (λi hi _=>hk i hi (by simp)) (λb r=>by cases r) A (λq hq=>?_) w L hl,Qk _ _ _⟩;simp only[DenV,DenG,DenA,yh];simp_all
    ·rename_i c;split at H
     ·rename_i e t' ax hc;split at H
      ·rename_i xs l;cases hee:Nat.beq e el with
       |false=>rw[hee]at H;exact H.elim
       |true=>
       rw[hee]at H;cases hR:ya d R with
       |false=>rw[hR]at H;exact H.elim
       |true=>
       rw[hR]at H;obtain⟨E,V⟩:=H;have L:=qO F E;have G:=qh hc;obtain⟨e1,e2⟩:=Yh l;subst e1;simp only at e2;subst e2;have e3:=YT hee;subst e3;have ab:=I.den _ (YZ R G);obtain⟨cells,n,f,ai,J⟩:=ab;simp only at n f J;rw[show u=aK (γ.σ c)from S];refine Cv T n D (by grind) (by omega) I.size λs' h' hl A hk hs N=>?_;have Z:=I.sep _ (YZ R G);have az:=Ye hR;have ap:Inv h0 W M0 (Wm c C++R) γ h:=I.sub ((xr c C).append_right R);refine⟨_,_,_,gI γ d s',V,?_,ap.newRow hR hs (p:=(γ.σ c).a.map (·.block)) (λi hi Q=>hk i hi λp N e=>Q (by rw[N,e];rfl)) (λb r=>?_) A (λq hq=>?_) (f.append w) (by simp_all) (by simp_all),Qk _ _ _⟩;simp only[DenV,DenG,DenA,yh];obtain⟨h1,h2⟩:=Z b r;refine⟨?_,h2,λx hx ah=>?_⟩;simp only[zbu]at r;obtain⟨p,N,rfl⟩:=r;exact(n.base_le p N).1;have aj:x∈C++R:=((xr c C).append_right R).subset hx;have Q:x≠(c,Ch.row e t' xs):=by rintro rfl;rcases ZG.1 hx with hx|hx;exact(Yz hx).2 rfl;have aH:=I.apart;grind
       have N:=@ou _ (λ(x y:Nat×Ch)=>∀b,blk γ x.1 x.2=Tc b->blk γ y.1 y.2≠Tc b) (λx y h b r aa=>h b aa r) _ I.apart;exact N aj (YZ R G) Q b ah r;grind
      exact H.elim
     exact H.elim
    rename_i t' ax;split at H;rename_i xs l;obtain⟨E,V⟩:=H;have L:=qO F E;obtain⟨e1,e2⟩:=Yh l;subst e1;simp only at e2;subst e2;obtain⟨s,e,aI,ae⟩:=(show ∃s:Sl,u=aK s/\s.cap=s.len/\Rd γ.M (.row t') xs [u]from S);subst e;obtain⟨s2,e,J,ai,cells,f,Y⟩:=ae.rowC I.ag;have e':s=s2:=by cases s;cases s2;simp only[aK,ZU]at e;simp[e]
    subst e';have O:cells.length=s.len*sz t':=by rw[J];exact f.1
    intro B dr;by_cases hm:ys.length=0;have ar:ys=[]:=zaa hm;subst ar;have ay:news=[]:=zaa (by rw[w.1];simp);subst ay;have hr:=Yg (P:=P) (ty:=ty') T (s:=s) (h':=h) (D B dr) (by simp;omega) (λp N=>by simp[storeCells]) (λ_=>rfl);refine⟨_,dr,h,hr,_,C,Td,γ,V,?_,I,Gx.refl _ _⟩;rw[ZY];exact ae;obtain⟨c,k,hr,aJ,aF,aG,aE⟩:=Ws (P:=P) (ty:=ty') (base:=0) T O (λB d=>Qc Y O T.pos B d) D (by grind) (by omega) (ZN _) (by omega) B dr;have aC:γ.M h.size=Td:=I.ag.none (YM _);have hM:Fr.le γ.M (fy γ h.size k).M:=by
     intro b cc U;have:Nat.beq b h.size=Tb:=by
      cases r:Nat.beq b h.size with
      |false=>rfl
      |true=>simp_all
     simp[fy,this,U]
    have ak:AgM (fy γ h.size k).M (h.push (.cells k el)):=by
     intro b cc U;by_cases r:b=h.size;subst r;have:cc=k:=by simp[fy]at U;exact U.symm
     simp_all;have:Nat.beq b h.size=Tb:=by
      cases aa:Nat.beq b h.size with
      |false=>rfl
      |true=>simp_all
     simp only[fy,this,zG]at U;obtain⟨T',m,e'⟩:=I.ag b cc U;grind
    refine⟨_,dr+1,_,hr,_,C,Td,fy γ h.size k,V,?_,I.call (Keep.push h _ (YM _)) hM (λb r=>?_) ak,⟨hM,λ_ _=>⟨rfl,rfl⟩⟩⟩;have af:=((f.append w).mono hM).rd (b:=h.size) (o:=0) (c:=c) (cs:=k) (by simp[fy]) (by simp_all) (by simp_all);rw[ZC,<-J]at af;exact af;grind [YT];exact H.elim;exact H.elim
   exact H.elim
  exact H.elim
 exact H.elim
end
section
variable {cs C R:CS} {γ b:Gh} {h:zc} {u:Value} {P:Program} {o:Oper} {σ:Operand -> Value} {n:Nat} {gl:Fr} {tr:TypeId} {c:qc} {a:Act} {S:List Nat}
variable {h0 : zc} {W : Nat -> Prop} {M0 : Fr}
def td(b:List Int):Bt:=b.foldl (λr n=>r.push (zas n.toNat)) zc1
def QU(t:Ty)(xs:List (El t)):Option (List Int):=Qj (.row t) (.row (.int .u8)) xs
def rY(cs:CS):AA->Option ((t:Ty)×List (El t))
 |.own c=>match Yd cs c with
  |some (.row _ t xs)=>Tc ⟨t,xs⟩
  |some (.fz t xs)=>Tc ⟨t,xs⟩
  |_=>Td
 |aa=>rowOf cs aa
theorem FX(I:Inv h0 W M0 cs γ h){o:AA}{r:(t:Ty)×List (El t)}(b:rY cs o=Tc r)(k:DenA γ o u):
  ∃s:Sl,u=aK s/\s.len=r.2.length/\∃cells,RowC γ.M r.1 r.2 cells/\Arr h.size h s.a cells:=by
 unfold rY at b;split at b;split at b;rename_i c e t xs m;simp only[YL]at b;subst b;obtain⟨cells,f,i,n,l⟩:=I.den _ (qh m);exact⟨_,k,l,cells,i,f.arr⟩;rename_i c t xs m;simp only[YL]at b;subst b;have:Rd γ.M (.row t) xs [u]:=by rw[show u=_ from k];exact I.den _ (qh m)
 obtain⟨s,e,l,n,cells,h1,p⟩:=this.rowC I.ag;grind;cases b;obtain⟨s,e,l,n,cells,h1,p⟩:=(oU I b k).rowC I.ag;grind
def zV(P:Program)(s t:TypeId)(av:AV)(cs:CS)(K:AV->Prop):Prop:=
 match P.underlying s,P.underlying t with
 |some (.slice e),Tc .string=>match P.underlying e,av with
  |some (.int .u8),.g (.a aa)=>match rY cs aa with
   |some r=>match QU r.1 r.2 with
    |some b=>K (.g (.a (.v (.string (td b)))))
    |none=>False
   |none=>False
  |_,_=>False
 |some (.int _),Tc .string=>match av with
  |.g (.a (.v (.int _ n)))=>K (.g (.a (.v (.string (zdg n)))))
  |_=>False
 |_,_=>False
theorem KD{M:Fr}{k:IntKind}:∀{b:List Int} {cells:List Value},RowC M (.int k) b cells->cells=b.map (zdk k)
 |b,cells,H=>by
  apply zap;intro i;have f:cells.length=b.length:=by rw[H.1];simp[sz]
  rw[zai];by_cases hi:i<b.length;have:((cells.drop (i*1)).take 1)=[.int k b[i]]:=H.2 i hi;have e:cells[i]?=Tc (.int k b[i]):=by
   have c:((cells.drop (i*1)).take 1)[0]?=Tc (.int k b[i]):=by rw[this];rfl
   rw[ZQ,zb (by omega),zan]at c;simpa using c
  simp_all;simp_all
theorem Rv{s t:TypeId}{x:Operand}(O:o.op=.convert s t x){av:AV}{K:AV->Prop}(H:zV P s t av cs K)(I:Inv h0 W M0 cs γ h)(J:DenV γ av (σ x)):
  ∃m v,K m/\DenV γ m v/\QExec P (execOp σ o) h (.value v):=by
 have val:∀{v:Value},QExec P (convert s t (σ x)) h v->QExec P (execOp σ o) h (.value v):=λU=>by simp only[execOp,O];exact QExec.val U
 unfold zV at H;split at H;rename_i e D w;split at H;rename_i Z Q;split at H;rename_i r V;split at H;rename_i i C;refine⟨_,.string (td i),H,rfl,val λB d=>?_⟩;obtain⟨sl,G,q,cells,f,l⟩:=FX I V J;obtain⟨tt,xs⟩:=r;obtain⟨F,M⟩:=Yh C;simp only at F;subst F;simp only at M q f;subst M;have S:=KD f;subst S;have h1:=QExec.underlying (h:=h) D B d;have u:=QExec.underlying (h:=h) w B d;have Y:=QExec.underlying (h:=h) Q B d;have c:(Conv.bytesToString (σ x)).run P (mk B d h)=.ok (.string (td i)) (mk B d h):=by
  rw[G];unfold aK;rcases l with z|⟨b,L,y,_,A⟩;have E:i=[]:=by simpa using z
  subst E;simp only[zb7]at q;cases ha:sl.a with
  |none=>simp[Conv.bytesToString,td]
  |some p=>have:=run_bytesToString (P:=P) (mk B d h) p sl.len sl.cap [] (by rw[q];simp[loadCells,loadCellsFrom]);exact this
  rw[y];refine run_bytesToString (mk B d h) ⟨b,L,Td⟩ sl.len sl.cap i ?_;have:=Qc (P:=P) (h:=h) (n:=b+1) (sz:=1) (s:=sl) (cells:=i.map (zdk .u8)) (.inr ⟨b,L,y,by omega,A⟩) (by rw[q];simp) (by omega) B d;rw[y]at this;simpa[zbk]using this
 unfold convert;rw[Sem.run_bind,h1];simp only[Result.andThen_ok];rw[Sem.run_bind,u];simp only[Result.andThen_ok];rw[G]at c ⊢;unfold aK at c ⊢;simp_all;exact H.elim;exact H.elim;exact H.elim;rename_i k D w;split at H;rename_i N n;refine⟨_,.string (zdg n),H,rfl,val λB d=>?_⟩;have h1:=QExec.underlying (h:=h) D B d;have u:=QExec.underlying (h:=h) w B d;have e:σ x=.int N n:=J;unfold convert;rw[Sem.run_bind,h1];simp only[Result.andThen_ok];rw[Sem.run_bind,u,e];rfl;exact H.elim;exact H.elim
def FJ:BinOp->Option Bool
 |.eql=>Tc Ta
 |.neq=>Tc Tb
 |_=>Td
def uB(P:Program)(o:Oper)(ρ:Operand->Option AV)(cs:CS):Option (Bool×Nat):=match o.op with
 |.binOp b t x y _=>match FJ b,ρ x,ρ y with
  |some pol,Tc (.g (.a aa)),Tc (.g (.a (.v (.slice Td 0 0))))=>match rY cs aa,P.underlying t with
   |some ⟨ty,xs⟩,Tc (.slice _)=>bif Nat.blt 0 (sz ty)then Tc (pol,xs.length)else Td
   |_,_=>Td
  |_,_,_=>Td
 |_=>Td
theorem JS(e:BinOp)(t:TypeId)(x y:Operand)(a b:Option Addr)(l c f c':Nat)(w:World):(eqGuard e t x y (.slice a l c) (.slice b f c')).run P w=.ok () w:=by unfold eqGuard;simp
theorem MZ{ρ:Operand->Option AV}{i:Bool}(c:uB P o ρ (C++R)=Tc (i,n)){K:AV->CS->Option Nat->Prop}(H:∀b:Bool,(b=Ta->n=0)->K (.g (.a (.v (.bool (bif i then b else !b))))) C Td)
  (I:Inv h0 W M0 (C++R) γ h) (w:∀x av,ρ x=Tc av->DenV γ av (σ x)):ExA P (execOp σ o) h (gJ h0 W M0 R γ K):=by
 unfold uB at c;split at c
 ·rename_i M t x y O A;split at c
  ·rename_i r S f D J;split at c
   ·rename_i ty xs e L q;cases hz:Nat.blt 0 (sz ty)with
    |false=>rw[hz]at c;cases c
    |true=>
     rw[hz]at c;simp only[zF,YL,za1]at c;obtain⟨rfl,rfl⟩:=c;have N:0<sz ty:=by simpa[zbj]using hz
     obtain⟨s,E,Q,cells,m,k⟩:=FX I L (w _ _ D);have z:σ y=.slice Td 0 0:=w _ _ J;have l:s.a.isNone=Ta->xs.length=0:=by
      intro u;have p:cells=[]:=by rcases k with p|⟨b,o,F,_⟩;exact p;rw[F]at u;cases u
      have:=m.1;rw[p]at this;simp only[zb7]at this;rcases Nat.mul_eq_zero.1 this.symm with h1|h1;exact h1;omega
     have G:=H s.a.isNone l;intro B d;refine .inl ⟨_,d,h,?_,_,C,Td,γ,G,rfl,I,Gx.refl _ _⟩;simp only[execOp,A];refine Jj ?_;rw[E,z];simp only[aK];rw[Sem.run_bind,JS];simp only[Result.andThen_ok];cases M <;> simp only[FJ,YL]at f <;> (try (cases f;done)) <;> subst f;simp only[binOp,Sem.run_bind,run_equal_slice_nil _ t _ _ _ _ q];rfl;simp only[binOp,Sem.run_bind,run_equal_slice_nil _ t _ _ _ _ q];rfl
   cases c
  cases c
 cases c
def mn(P:Program)(gl:Fr)(tr:TypeId)(o:Oper)(ρ:Operand->Option AV)(C R:CS)(K:AV->CS->Option Nat->Prop):Prop:=
 match o.op with
 |.alloc t=>match o.dst with
  |some d=>yH P t d C R K
  |none=>False
 |.box t x=>match o.dst,ρ x with
  |some d,some av=>match mY av with
   |some l=>xY t d l C R K
   |none=>False
  |_,_=>False
 |.store t a x=>match ρ a,ρ x with
  |some (.g (.a aa)),some xv=>match mY xv with
   |some h=>xB P t aa h C R K
   |none=>False
  |_,_=>False
 |.buildSlice t n b=>match o.dst,jJ ρ b.toList with
  |some d,some ps=>Wr P tr t n ps d C R K
  |_,_=>False
 |.convert s t x=>bif iT P o then qA P gl o ρ Td (C++R) (λav=>K av C Td)else(match ρ x with
  |some av=>zV P s t av (C++R) λe=>K e C Td
  |none=>False)
 |.call c=>match c.callee with
  |.builtin .append=>match c.args.toList,c.argTypes.toList,o.dst with
   |[s,x],[t,tx],some d=>match ρ s,ρ x with
    |some bv,some sv=>km P tr t tx bv sv d C R K
    |_,_=>False
   |_,_,_=>False
  |.builtin _=>qA P gl o ρ Td (C++R) λav=>K av C Td
  |_=>uI P gl tr o ρ C R λav f=>K av f Td
 |.range t x=>match o.dst,ρ x with
  |some d,some av=>vK P t av d C R K
  |_,_=>False
 |.next x true=>match ρ x with
  |some av=>uX av C R K
  |none=>False
 |_=>qA P gl o ρ Td (C++R) λav=>K av C Td
theorem toList_eq{α:Type}{x:Array α}{l:List α}(h:x.toList=l):x=l.toArray:=by grind
theorem Mq(k:Fr.le gl M0){ρ:Operand->Option AV}{K:AV->CS->Option Nat->Prop}(H:mn P gl tr o ρ C R K)(I:Inv h0 W M0 (C++R) γ h)
  (J:∀f,σ (.func f)=.func (.func f) #[] #[]) (b:∀x av,ρ x=Tc av->DenV γ av (σ x)):ExA P (execOp σ o) h (gJ h0 W M0 R γ K):=by
 unfold mn at H;split at H;grind [Ux];grind [UC,tO];rename_i t a x n;split at H;rename_i Q O L u;split at H;rename_i l D;exact P7 n H I (tO D (b _ _ u)) (b _ _ L);exact H.elim;exact H.elim;grind [Ha];rename_i s t x n;cases hq:iT P o with
 |true=>grind [vX]
 |false=>rw[hq]at H;simp only[zG]at H;split at H;rename_i av q;obtain⟨w,v,h1,y,F⟩:=Rv n H I (b _ _ q);exact λB d=>.inl ⟨v,d,h,F B d,w,C,Td,γ,h1,y,I,Gx.refl _ _⟩;exact H.elim
 rename_i c n;split at H;rename_i M;split at H;rename_i s x t tx d i m N;split at H;rename_i bv sv G u;have p:=F6 (ty':=o.type) H I (b _ _ G) (b _ _ u);intro B e;obtain⟨v,E,h',r,A⟩:=p B e;refine .inl ⟨v,E,h',?_,A⟩;have z:execOp σ o=(YY c.argTypes o.type (c.args.map σ) >>= λx=>(zcf (zck x):Sem Next)):=by simp only[execOp,n,resolve,M];rfl
 rw[z,toList_eq i,toList_eq m];simp_all;exact H.elim;exact H.elim;exact vX k H I b;exact Oc k H I J b;grind [NB];grind [TZ];exact vX k H I b
def hA(P:Program)(gl:Fr)(tr:TypeId)(o:Oper)(ρ:Operand->Option AV)(C R:CS)(K:AV->CS->Option Nat->Prop):Prop:=match uB P o ρ (C++R)with
 |some (pol,n)=>∀b:Bool,(b=Ta->n=0)->K (.g (.a (.v (.bool (bif pol then b else !b))))) C Td
 |none=>mn P gl tr o ρ C R K
theorem Vg(i:Fr.le gl M0){ρ:Operand->Option AV}{K:AV->CS->Option Nat->Prop}(H:hA P gl tr o ρ C R K)(I:Inv h0 W M0 (C++R) γ h)
  (k:∀f,σ (.func f)=.func (.func f) #[] #[]) (b:∀x av,ρ x=Tc av->DenV γ av (σ x)):ExA P (execOp σ o) h (gJ h0 W M0 R γ K):=by
 unfold hA at H;split at H;rename_i c n e;exact MZ e H I b;grind [Mq]
def rC:Option AV->Option AV->Option AV
 |some v,_=>Tc v
 |none,w=>w
def Ad(b:Bool)(x y:AV):Option AV:=match m9 x,m9 y with
 |some u,some v=>Tc (l6 (nN b u v))
 |_,_=>match x,y with
  |.g (.a (.d t xs)),.g (.a (.d t' ys))=>match Qj t' t ys with
   |some ys=>Tc (.g (.a (.d t (bif b then xs else ys))))
   |none=>Td
  |_,_=>Td
theorem Se{b:Bool}{x y z:AV}(h:Ad b x y=Tc z){u v:Value}(f:b=Ta->DenV γ x u)(c:b=Tb->DenV γ y v):DenV γ z (if b=Ta then u else v):=by
 unfold Ad at h;split at h;rename_i p q i l;simp only[YL]at h;subst h;have e:(if b=Ta then u else v)=nN b p q:=by
  rw[GI];cases b with
  |true=>simp only[if_true];exact uJ i (f rfl)
  |false=>simp only[zaz,if_false];exact uJ l (c rfl)
 rw[e];exact Js γ _;split at h;rename_i t xs t' ys _;split at h;rename_i k m;simp only[YL]at h;subst h;cases b with
 |true=>exact f rfl
 |false=>exact Wl m (c rfl)
 cases h;cases h
def tg(e:qz)(c:qc)(x a b:Operand)(K:AV->Prop):Prop:=
 match x with
 |.tmp s=>match j3 e s with
  |some (cs,v)=>match m3 v with
   |some t=>bif iH cs c then(match rC (fB e c a) (fB e ((s,Ta)::cs) a),rC (fB e c b) (fB e ((s,Tb)::cs) b)with
    |some va,some vb=>match Ad t va vb with
     |some z=>K z
     |none=>False
    |_,_=>False)else False
   |none=>False
  |none=>False
 |_=>False
theorem Wt{e:qz}{x a b:Operand}{K:AV->Prop}(H:tg e c x a b K):
  ∃z,K z/\∀(n:Nat) (γ:Gh) (f:Act),SatA n e γ f->valid (qe f) c->∃t,f.eval x=.bool t/\DenV γ z (if t=Ta then f.eval a else f.eval b):=by
 unfold tg at H;split at H;rename_i s;split at H;rename_i cs v q;split at H;rename_i t r;cases hsf:iH cs c with
 |false=>simp_all
 |true=>rw[hsf]at H;simp only[zF]at H;split at H;rename_i y A p i;split at H;rename_i z w;refine⟨z,H,λn γ f k u=>?_⟩;have h:=Jh hsf u;have o:qe f s=.bool t:=wG r ((k.all _ (Z9 q)).1 h);refine⟨t,o,Se w (λm=>?_) (λl=>?_)⟩;unfold rC at p;split at p;grind [YL,qa];exact qa k (c:=(s,Ta)::cs) ⟨by rw[o,m],h⟩ p;unfold rC at i;split at i;grind [YL,qa];exact qa k (c:=(s,Tb)::cs) ⟨by rw[o,l],h⟩ i;exact H.elim;exact H.elim
 exact H.elim;exact H.elim;exact H.elim
def nr(P:Program)(gl:Fr)(tr:TypeId)(o:Oper)(e:qz)(c:qc)(C R:CS)(K:AV->CS->Option Nat->Prop):Prop:=
 match o.op with
 |.pick x a b=>tg e c x a b λav=>K av C Td
 |_=>match Wn e c with
  |some none=>hA P gl tr o (fB e c) C R K
  |some (Tc b)=>bif oB o then mN P gl tr o (fB e c) b (C++R) (λav=>K av C Td)else qA P gl o (fB e c) (Tc b) (C++R) (λav=>K av C Td)
  |none=>False
theorem KH(k:Fr.le gl M0){e:qz}{K:AV->CS->Option Nat->Prop}(H:nr P gl tr o e c C R K)(l:SatA n e γ a)(I:Inv h0 W M0 (C++R) γ h)(m:valid (qe a) c):
  ExA P (execOp a.eval o) h (gJ h0 W M0 R γ K):=by
 have J:∀f,a.eval (.func f)=.func (.func f) #[] #[]:=λ_=>rfl;have q:∀x av,fB e c x=Tc av->DenV γ av (a.eval x):=λx av E=>qa l m E;unfold nr at H;split at H;rename_i x y z u;obtain⟨av,h1,i⟩:=Wt H;obtain⟨t,A,L⟩:=i n γ a l m;refine λB d=>.inl ⟨_,d,h,?_,av,C,Td,γ,h1,L,I,Gx.refl _ _⟩;simp only[execOp,u,A,asBool,Sem.run_bind,Sem.run_pure,Result.andThen_ok];split at H;grind [Vg];rename_i b D;have p:=Zd l D m;cases hic:oB o with
 |true=>rw[hic]at H;simp only[zF]at H;obtain⟨f,args,h1,i⟩:=(uN (h0:=h0) (W:=W) (M0:=M0) H).2 p k γ h a.eval I J q;refine λB d=>.inr (.inr ⟨f,args,h1 _,i.mono ?_⟩);rintro v h' ⟨av,γ',w,F,M,s,_⟩;exact⟨av,C,Td,γ',w,F,M,s⟩
 |false=>rw[hic]at H;simp only[zG]at H;obtain⟨av,h1,i⟩:=sF (h0:=h0) (W:=W) (M0:=M0) k H;obtain⟨v,r,G⟩:=i p γ h a.eval I q;exact λB d=>.inl ⟨v,d,h,G B d,av,C,Td,γ,h1,r,I,Gx.refl _ _⟩
 exact H.elim
theorem KN{e:qz}{K:AV->CS->Option Nat->Prop}(H:nr P gl tr o e c C R K)(k:SatA n e γ a)(h:¬valid (qe a) c):∃av,K av C Td:=by
 unfold nr at H;split at H;grind [Wt];split at H;grind [vJ];rename_i b i;have f:=vJ k i h;simp only[YL]at f;cases hic:oB o with
 |true=>rw[hic]at H;simp only[zF]at H;exact(uN (h0:=#[]) (W:=λ_=>False) (M0:=λ_=>Td) H).1 f
 |false=>rw[hic]at H;simp only[zG]at H;obtain⟨av,h1,_⟩:=sF (h0:=#[]) (W:=λ_=>False) (M0:=gl) (Fr.le.refl _) H;grind
 exact H.elim
def GxS(S:List Nat)(γ γ':Gh):Prop:=Fr.le γ.M γ'.M/\∀i,i∉S->γ'.β i=γ.β i/\γ'.σ i=γ.σ i
theorem GxS.refl(S:List Nat)(γ:Gh):GxS S γ γ:=⟨Fr.le.refl _,λ_ _=>⟨rfl,rfl⟩⟩
theorem GxS.trans{a b c:Gh}(h:GxS S a b)(k:GxS S b c):GxS S a c:=⟨h.1.trans k.1,λi hi=>⟨(k.2 i hi).1.trans (h.2 i hi).1,(k.2 i hi).2.trans (h.2 i hi).2⟩⟩
theorem GxS.mono{S c:List Nat}{a b:Gh}(h:GxS S a b)(f:∀x∈S,x∈c):GxS c a b:=⟨h.1,λi hi=>h.2 i λe=>hi (f i e)⟩
def sr(c:Option Nat)(d:Option Nat):Bool:=match c,d with
 |none,_=>Ta
 |some x,some y=>Nat.beq x y
 |some _,none=>Tb
theorem Gx.toS{c d:Option Nat}{γ γ':Gh}(g:Gx c γ γ')(h:sr c d=Ta)(b:∀i,d=Tc i->i∈S):GxS S γ γ':=by
 refine⟨g.1,λi hi=>g.2 i λe=>?_⟩;subst e;cases d with
 |none=>cases h
 |some y=>have:i=y:=YT h;simp_all
def kw(P:Program)(gl:Fr)(tr:TypeId)(n:Nat)(ops:Array Oper)(R:CS)(K:qz->CS->Prop):List Oper->qz->CS->Prop
 |[],e,C=>K (kG e) C
 |o::rest,e,C=>match Y0 ops e o.guard with
  |some c=>bif wh n c o.dst then nr P gl tr o e c C R (λav b i=>bif sr i o.dst then kw P gl tr n ops R K rest (sI (sE i e) o.dst c av) b else False)else False
  |none=>False
theorem tU{P:Program}{gl:Fr}(r:Fr.le gl M0){tr:TypeId}{n:Nat}{ops:Array Oper}{R:CS}{K:qz->CS->Prop}{Q:Exit->Act->World->Prop}(B:World):
  ∀(l:List Oper) (e:qz) (C:CS) (γ:Gh) (h:zc) (a:Act) (d:Nat),kw P gl tr n ops R K l e C->SatA n e γ a->Inv h0 W M0 (C++R) γ h -> (∀e' k γ' a' m h',SatA n e' γ' a'->Inv h0 W M0 (k++R) γ' h'->Same (j8 l) a a'->GxS (j8 l) γ γ'->K e' k->Q .normal a' (mk B m h'))->wpList P ops Q l a (mk B d h)
 |[],e,C,γ,h,a,d,H,hs,I,hQ=>hQ _ _ _ _ _ _ hs.clean I (Same.refl _ _) (GxS.refl _ _) H
 |o::rest,e,C,γ,h,a,d,H,hs,I,hQ=>by
  unfold kw at H;split at H
  ·rename_i c S;cases hd:wh n c o.dst with
   |false=>simp_all
   |true=>
    rw[hd]at H;simp only[zF]at H;have A:=Zl hs S;have f:∀i,o.dst=Tc i->i∈j8 (o::rest):=λi hi=>by simp[j8,hi]
    have b:∀x∈j8 rest,x∈j8 (o::rest):=λx E=>by unfold j8;grind
    have q:∀av u m h' k i γ',(valid (qe a) c->DenV γ' av u)->(¬valid (qe a) c->u=undef)->Inv h0 W M0 (k++R) γ' h'->Gx i γ γ'->(bif sr i o.dst then kw P gl tr n ops R K rest (sI (sE i e) o.dst c av) k else False) ->
      wpList P ops Q rest (a.put o.dst u) (mk B m h'):=λav u m h' k i γ' h1 F J g D=>by
     cases hid:sr i o.dst with
     |false=>simp_all
     |true=>
      rw[hid]at D;exact tU r B rest _ _ _ _ _ _ D ((hs.gx g).putO hd h1 F) J λe' s z a' y t G U M O N=>
       hQ e' s z a' y t G U ((Same.put a o.dst u f).trans (M.mono b)) ((g.toS hid f).trans (O.mono b)) N
    unfold wpList;by_cases p:valid (qe a) c;rw[zb (A.2 p)];refine .inl ((KH r H hs I p).upon B d ?_);rintro v m h' ⟨av,k,i,γ',g1,Y,V,Z⟩;grind;rw[za (λE=>p (A.1 E))];obtain⟨av,L⟩:=KN H hs p;exact q av undef d h C Td γ (λw=>absurd w p) (λ_=>rfl) I (Gx.refl _ _) L
  exact H.elim
end
section
variable {cs C R:CS} {γ:Gh} {h:zc} {i:Nat} {e:TypeId} {t:Ty}
variable {h0 : zc} {W : Nat -> Prop} {M0 : Fr}
inductive Shp where
 |dat (t:Ty)
 |own (e:TypeId) (t:Ty)
 deriving DecidableEq
@[reducible] def DS:Shp->Type
 |.dat t=>El t
 |.own _ t=>List (El t)
inductive SG where
 |one (s:Shp)
 |agg (l:List Shp)
structure AnnA where
 slots:List (Nat×SG)
 boxes:List (Nat×List Shp)
 ro:List Nat
 ids:List Nat
abbrev Dy:=(s:Shp)×DS s
@[reducible] def gT:List Shp->Type->Type
 |[],X=>X
 |s::l,X=>DS s->gT l X
def uR(s s':Shp)(x:DS s):Option (DS s'):=if h:s=s' then Tc (h ▸ x)else Td
def om{X:Type}:(l:List Shp)->gT l X->(List Dy->X->Prop)->Prop
 |[],f,k=>k [] f
 |s::l,f,k=>∀x:DS s,om l (f x) λvs y=>k (⟨s,x⟩::vs) y
def ic{X:Type}:(l:List Shp)->List Dy->gT l X->Option X
 |[],[],f=>Tc f
 |s::l,d::ds,f=>match uR d.1 s d.2 with
  |some x=>ic l ds (f x)
  |none=>Td
 |_,_,_=>Td
def pJ{X:Type}:(l:List Shp)->(List Dy->X)->gT l X
 |[],f=>f []
 |s::l,f=>λx=>pJ l λvs=>f (⟨s,x⟩::vs)
def nv{X Y:Type}:(l:List Shp)->gT l X->gT l Y->gT l (X×Y)
 |[],f,g=>(f,g)
 |_::l,f,g=>λx=>nv l (f x) (g x)
theorem AQ{s s':Shp}{x:DS s}{y:DS s'}(h:uR s s' x=Tc y):(⟨s',y⟩:Dy)=⟨s,x⟩:=by unfold uR at h;grind
theorem FM{X:Type}:∀{l:List Shp} {vs:List Dy} {f:gT l X} {x:X} {k:List Dy->X->Prop},ic l vs f=Tc x->om l f k->k vs x
 |[],[],f,x,k,h,g=>by have h:=ZS h;subst h;exact g
 |[],_::_,f,x,k,h,g=>by simp[ic]at h
 |_::_,[],f,x,k,h,g=>by simp[ic]at h
 |s::l,d::ds,f,x,k,h,g=>by simp only[ic]at h;split at h;rename_i y b;have:=FM h (g y);grind [AQ];cases h
theorem B0{X:Type}:∀{l:List Shp} {vs:List Dy} {f:List Dy->X} {x:X},ic l vs (pJ l f)=Tc x->x=f vs
 |[],[],f,x,h=>(ZS h).symm
 |[],_::_,f,x,h=>by simp[ic]at h
 |_::_,[],f,x,h=>by simp[ic]at h
 |s::l,d::ds,f,x,h=>by simp only[ic,pJ]at h;split at h;rename_i y b;have:=B0 h;grind [AQ];cases h
theorem GK{X:Type}:∀{l:List Shp} {f:List Dy->X} {k:List Dy->X->Prop},(∀vs,k vs (f vs))->om l (pJ l f) k
 |[],_,_,h=>h []
 |_::_,_,_,h=>λ_=>GK λ_=>h _
structure Pl where
 id:Nat
 s:Shp
 a:AA
def kB(base:Nat):List Shp->List AA->Option (List Pl)
 |[],[]=>Tc []
 |s::ss,a::as1=>match kB (base+1) ss as1 with
  |some l=>Tc (⟨base,s,a⟩::l)
  |none=>Td
 |_,_=>Td
def pm(e:qz):List (Nat×SG)->Option (List Pl)
 |[]=>Tc []
 |(i,sg)::l=>match j3 e i,pm e l with
  |some ([],.g x),some r=>match sg,x with
   |.one s,.a a=>Tc (⟨100000+64*i,s,a⟩::r)
   |.agg ss,.agg as1=>match kB (100000+64*i) ss as1 with
    |some q=>Tc (q++r)
    |none=>Td
   |_,_=>Td
  |_,_=>Td
def oE(C:CS):List (Nat×List Shp)->Option (List Pl)
 |[]=>Tc []
 |(c,ss)::l=>match Yd C c,oE C l with
  |some (.box as1),some r=>match kB (1000000+64*c) ss as1 with
   |some q=>Tc (q++r)
   |none=>Td
  |_,_=>Td
def Nt:SG->List Shp
 |.one s=>[s]
 |.agg l=>l
def DD:List (Nat×SG)->List Shp
 |[]=>[]
 |(_,sg)::l=>Nt sg++DD l
def EX:List (Nat×List Shp)->List Shp
 |[]=>[]
 |(_,ss)::l=>ss++EX l
def gH(J:AnnA):List Shp:=DD J.slots++EX J.boxes
def nh:List Pl->List Nat
 |[]=>[]
 |⟨_,.dat _,.own c⟩::l=>c::nh l
 |_::l=>nh l
def ny(c:Nat):List Pl->Bool
 |[]=>Tb
 |p::l=>bif (bif Nat.beq p.id c then Ta else im c p.a)then Ta else ny c l
def jT(R:CS):List Pl->CS->Option CS
 |[],C=>Tc C
 |p::l,C=>match p.s with
  |.dat _=>jT R l C
  |.own e t=>bif ny p.id l then Td else(match p.a with
   |.own c=>match Yd C c with
    |some (.row e' t' xs)=>match Qj (.row t') (.row t) xs with
     |some ys=>bif Nat.beq e e' then(bif Nat.beq c p.id then jT R l C else(bif ya p.id R then jT R l ((p.id,.row e t ys)::yf p.id (Wm c C))else Td))else Td
     |none=>Td
    |_=>Td
   |.v (.slice Td 0 0)=>bif ya p.id R then jT R l ((p.id,.row e t [])::yf p.id C)else Td
   |_=>Td)
theorem Cd(I:Inv h0 W M0 cs γ h){x y:Nat×Ch}(k:x∈cs)(f:y∈cs)(e:x≠y):∀b,blk γ x.1 x.2=Tc b->blk γ y.1 y.2≠Tc b:= @ou _ (λ(x y:Nat×Ch)=>∀b,blk γ x.1 x.2=Tc b->blk γ y.1 y.2≠Tc b) (λx y h b i c=>h b c i) _ I.apart _ _ k f e
theorem Inv.rename(I:Inv h0 W M0 (C++R) γ h){c i:Nat}(p:ya i R=Ta){xs:List (El t)}(A:(c,Ch.row e t xs)∈C):
  Inv h0 W M0 ((i,.row e t xs)::yf i (Wm c C)++R) (gI γ i (γ.σ c)) h:=by
 have f:(yf i (Wm c C)++R).Sublist (C++R):=(((wz i _).trans (xr c C))).append_right R;have k:(c,Ch.row e t xs)∈C++R:=YZ R A;have s:∀x∈yf i (Wm c C)++R,∀b,blk γ c (.row e t xs)=Tc b->blk γ x.1 x.2≠Tc b:=by
  intro x l b m o;have n:x≠(c,Ch.row e t xs):=by rintro rfl;rcases ZG.1 l with l|l;exact(Yz ((wz i _).subset l)).2 rfl;have w:=I.apart;grind
  exact Cd I (f.subset l) k n b o m
 have y:Inv h0 W M0 (yf i (Wm c C)++R) (gI γ i (γ.σ c)) h:= I.rest f (Qk γ i _) (lV p) (λx l b m=>⟨rfl,(I.sep x (f.subset l) b m).2⟩) I.ag (λ_ _ _=>rfl) (YM _) (λ_ _=>rfl);obtain⟨cells,h1,q,z,r⟩:=I.den _ k;have u:∀b,blk (gI γ i (γ.σ c)) i (.row e t xs)=Tc b->blk γ c (.row e t xs)=Tc b:=λb m=>by simpa[blk,yh]using m
 refine y.cons ⟨cells,by rw[yh];exact h1,q,z,by rw[yh];exact r⟩ (λb m=>I.sep _ k b (u b m)) (λb m x l e'=>?_);rw[lZ (Qk γ i _) _ (lV p x l).1]at e';simp_all
theorem Inv.nilRow(I:Inv h0 W M0 (C++R) γ h)(l:ya i R=Ta)(e:TypeId)(t:Ty):
  Inv h0 W M0 ((i,.row e t [])::yf i C++R) (gI γ i ⟨Td,0,0⟩) h:=by
 have c:=(wz i C).append_right R;have k:Inv h0 W M0 (yf i C++R) (gI γ i ⟨Td,0,0⟩) h:= I.rest c (Qk γ i _) (lV l) (λx m b f=>⟨rfl,(I.sep x (c.subset m) b f).2⟩) I.ag (λ_ _ _=>rfl) (YM _) (λ_ _=>rfl);refine k.cons ⟨[],by rw[yh];exact Owns.nil _ _ _ _,RowC.nil _ _,by simp,by rw[yh];rfl⟩ (λb f=>by simp[blk,yh]at f) (λb f=>by simp[blk,yh]at f)
theorem H9{c:Nat}:∀{l:List Pl},ny c l=Tb->∀p∈l,p.id≠c/\im c p.a=Tb
 |[],_,p,b=>by cases b
 |q::l,h,p,b=>by
  simp only[ny]at h;cases hq:(bif Nat.beq q.id c then Ta else im c q.a)with
  |true=>simp_all
  |false=>
   rw[hq]at h;rcases YS.1 b with rfl|b;cases hb:Nat.beq p.id c with
   |true=>simp_all
   |false=>rw[hb]at hq;exact⟨λe=>by simp_all,hq⟩
   exact H9 h p b
def gZ:List Pl->List Nat
 |[]=>[]
 |p::l=>p.id::gZ l
theorem ux{R:CS}{h:zc}:∀{l:List Pl} {C r:CS} {γ:Gh},jT R l C=Tc r->Inv h0 W M0 (C++R) γ h ->
  ∃f,Inv h0 W M0 (r++R) f h/\GxS (gZ l) γ f/\(f.M=γ.M/\f.β=γ.β)/\∀p∈l,∀e t,p.s=.own e t->∀u,DenA γ p.a u->DenA f (.own p.id) u
 |[],C,r,γ,hn,I=>by simp only[jT,YL]at hn;grind [GxS.refl]
 |p::l,C,r,γ,hn,I=>by
  have P:∀{S:List Nat} {a b:Gh},GxS (gZ l) a b->GxS (gZ (p::l)) a b:=λg=>g.mono λx hx=>YU _ hx;have k:∀s,GxS (gZ (p::l)) γ (gI γ p.id s):=λs=>⟨Fr.le.refl _,λi hi=>(Qk γ p.id s).2 i (by simp only[gZ,YS,not_or]at hi;grind)⟩;simp only[jT]at hn;split at hn;rename_i t hs;obtain⟨f,H,B,D,h1⟩:=ux hn I;exact⟨f,H,P (S:=[]) B,D,λq z e t' A=>by grind⟩
  ·rename_i e t hs;cases hm:ny p.id l with
   |true=>simp_all
   |false=>
    rw[hm]at hn;simp only[zG]at hn;have w:=H9 hm;have fin:∀{G:CS} {m:Gh},jT R l G=Tc r->Inv h0 W M0 (G++R) m h->GxS (gZ (p::l)) γ m->(m.M=γ.M/\m.β=γ.β)->(∀i,i≠p.id->m.σ i=γ.σ i/\m.β i=γ.β i)->(∀u,DenA γ p.a u->DenA m (.own p.id) u) ->
      ∃f,Inv h0 W M0 (r++R) f h/\GxS (gZ (p::l)) γ f/\(f.M=γ.M/\f.β=γ.β)/\∀q∈p::l,∀e t,q.s=.own e t->∀u,DenA γ q.a u->DenA f (.own q.id) u:=by
     intro G m J Z Y F L E;obtain⟨f,H,B,D,h1⟩:=ux J Z;refine⟨f,H,Y.trans (P (S:=[]) B),⟨D.1.trans F.1,D.2.trans F.2⟩,λq z e' t' A u n=>?_⟩;rcases YS.1 z with rfl|z;have V:=E u n;have N:q.id∉gZ l:=by
      intro hi;have:∀{l:List Pl},q.id∈gZ l->∃p∈l,p.id=q.id:=by
       intro l;induction l with
       |nil=>intro h;cases h
       |cons x l ih=>intro h;simp only[gZ,YS]at h;grind
      obtain⟨y,hy,e⟩:=this hi;exact(w y hy).1 e
     rw[show u=_ from V];simp only[DenA,(B.2 _ N).2];refine h1 q z e' t' A u ?_;have gx:Gx (Tc p.id) γ m:=⟨by rw[F.1];exact Fr.le.refl _,λi hi=>by grind⟩;exact n.gx gx (w q z).2
    split at hn;rename_i c O;split at hn;rename_i e' t' xs hc;split at hn;rename_i ys o;obtain⟨e1,Q⟩:=Yh o;subst e1;simp only at Q;subst Q;cases hee:Nat.beq e e' with
    |false=>simp_all
    |true=>
     rw[hee]at hn;have:=YT hee;subst this;simp only[zF]at hn;cases hci:Nat.beq c p.id with
     |true=>rw[hci]at hn;simp only[zF]at hn;have U:=YT hci;exact fin hn I (GxS.refl _ _) ⟨rfl,rfl⟩ (λ_ _=>⟨rfl,rfl⟩) (λu n=>by simp_all)
     |false=>
      rw[hci]at hn;simp only[zG]at hn;cases hR:ya p.id R with
      |false=>simp_all
      |true=>rw[hR]at hn;simp only[zF]at hn;refine fin hn (I.rename hR (qh hc)) (k _) ⟨rfl,rfl⟩ (λi hi=>?_) (λu n=>?_);have:=(Qk γ p.id (γ.σ c)).2 i (by grind);simp_all;rw[O]at n;rw[show u=_ from n];simp only[DenA,yh]
    cases hn;cases hn;rename_i O;cases hR:ya p.id R with
    |false=>simp_all
    |true=>rw[hR]at hn;simp only[zF]at hn;refine fin hn (I.nilRow hR e t) (k _) ⟨rfl,rfl⟩ (λi hi=>?_) (λu n=>?_);have:=(Qk γ p.id ⟨Td,0,0⟩).2 i (by grind);simp_all;rw[O]at n;rw[show u=_ from n];simp only[DenA,yh];rfl
    cases hn
def Bf(b cs:CS)(p:Pl):Option Dy:=match p.s with
 |.dat t=>match iZ b t p.a with
  |some x=>Tc ⟨.dat t,x⟩
  |none=>Td
 |.own e t=>match Yd cs p.id with
  |some (.row e' t' xs)=>match Qj (.row t') (.row t) xs with
   |some ys=>bif Nat.beq e e' then Tc ⟨.own e t,ys⟩else Td
   |none=>Td
  |_=>Td
def gV(b cs:CS):List Pl->Option (List Dy)
 |[]=>Tc []
 |p::l=>match Bf b cs p,gV b cs l with
  |some d,some v=>Tc (d::v)
  |_,_=>Td
def pT(i:Nat):Dy->AA
 |⟨.dat t,x⟩=>match Jq t x with
  |[a]=>a
  |_=>.v undef
 |⟨.own _ _,_⟩=>.own i
def rF:Nat->List Dy->List AA
 |_,[]=>[]
 |i,d::l=>pT i d::rF (i+1) l
def mM(i:Nat):Dy->CS
 |⟨.own e t,xs⟩=>[(i,.row e t xs)]
 |_=>[]
def m0:Nat->List Dy->CS
 |_,[]=>[]
 |i,d::l=>mM i d++m0 (i+1) l
theorem Ez{x:El t}{u:Value}(h:Rd γ.M t x [u]):DenA γ (pT i ⟨.dat t,x⟩) u:=by
 have b:=Zc (γ:=γ) h;unfold pT
 match hx:Jq t x,b with
 |[a],b=>simp only[hx];exact b.1
 |[],b=>exact b.elim
 |_::_::_,b=>exact b.2.elim
theorem Um{t':Ty}{xs:List (El t')}{ys:List (El t)}(h:Qj (.row t') (.row t) xs=Tc ys):Ch.row e t' xs=Ch.row e t ys:=by grind [Yh]
theorem DC{b cs:CS}{p:Pl}{l:List Pl}{v:List Dy}(h:gV b cs (p::l)=Tc v):∃d w,v=d::w/\gV b cs l=Tc w /\
  ((∃t x,p.s=.dat t/\d=⟨.dat t,x⟩/\iZ b t p.a=Tc x)\/(∃e t xs,p.s=.own e t/\d=⟨.own e t,xs⟩/\(p.id,Ch.row e t xs)∈cs)):=by
 simp only[gV]at h;split at h;rename_i d w h1 c;have h:=ZS h;refine⟨d,w,h.symm,c,?_⟩;unfold Bf at h1;split at h1;grind;rename_i e t f;split at h1;rename_i e' t' xs i;split at h1;rename_i ys k;cases he:Nat.beq e e' with
 |false=>simp_all
 |true=>rw[he]at h1;refine .inr ⟨e,t,ys,f,(ZS (show Tc (⟨.own e t,ys⟩:Dy)=Tc d from h1)).symm,?_⟩;grind [qh,Um,YT]
 cases h1;cases h1;cases h
theorem Wu{b cs:CS}:∀{q r:List Pl} {v:List Dy},gV b cs (q++r)=Tc v->∃c e,v=c++e/\c.length=q.length/\gV b cs q=Tc c/\gV b cs r=Tc e
 |[],r,v,h=>⟨[],v,rfl,rfl,rfl,h⟩
 |p::q,r,v,h=>by simp only[zaq,gV]at h;split at h;rename_i d w h1 k;have h:=ZS h;obtain⟨c,e,rfl,f,l,i⟩:=Wu k;exact⟨d::c,e,by rw[<-h];rfl,by simp[f],by simp only[gV,h1,l],i⟩;cases h
theorem A3{base:Nat}:∀{ss:List Shp} {b:List AA} {l:List Pl},kB base ss b=Tc l->l.length=ss.length/\∀{γ m:Gh} {c f:CS} {v:List Dy} {us:List Value},i8 γ c->m.M=γ.M->gV c f l=Tc v ->
   (∀p∈l,∀e t,p.s=.own e t->∀u,DenA γ p.a u->DenA m (.own p.id) u)->All2 (DenA γ) b us->All2 (DenA m) (rF base v) us/\∀x∈m0 base v,x∈f:=by
 intro ss;induction ss generalizing base with
 |nil=>
  intro b l h;cases b with
  |nil=>
   simp only[kB,YL]at h;subst h;refine⟨rfl,λo n k q i=>?_⟩;have k:=ZS k;subst k;refine⟨?_,λx H=>by cases H⟩;rename_i us;cases us with
   |nil=>trivial
   |cons _ _=>exact i.elim
  |cons a b=>simp[kB]at h
 |cons s ss z=>
  intro b l h;cases b with
  |nil=>simp[kB]at h
  |cons a b=>
   simp only[kB]at h;split at h;rename_i N F;simp only[YL]at h;subst h;obtain⟨I,z⟩:=z F;refine⟨by simp[I],λ {γ m c f v us} o n k q i=>?_⟩;obtain⟨d,w,rfl,C,G⟩:=DC k;cases us with
   |nil=>exact i.elim
   |cons u us=>obtain⟨B,D⟩:=z o n C (λp E=>q p (YU _ E)) i.2;rcases G with⟨t,x,A,rfl,J⟩|⟨e,t,xs,A,rfl,L⟩;have:=we o J i.1;rw[<-n]at this;refine⟨⟨Ez this,B⟩,λy r=>D y ?_⟩;simpa[m0,mM]using r;refine⟨⟨q _ ZB e t A u i.1,B⟩,λy r=>?_⟩;simp only[m0,mM,zaq,zba,YS]at r;grind
   cases h
def lK:List (Nat×SG)->List Dy->qz
 |[],_=>[]
 |(i,.one _)::l,d::ds=>(i,[],.g (.a (pT (100000+64*i) d)))::lK l ds
 |(_,.one _)::_,[]=>[]
 |(i,.agg ss)::l,ds=>(i,[],.g (.agg (rF (100000+64*i) (ds.take ss.length))))::lK l (ds.drop ss.length)
def Wv:List (Nat×SG)->List Dy->CS
 |[],_=>[]
 |(i,.one _)::l,d::ds=>mM (100000+64*i) d++Wv l ds
 |(_,.one _)::_,[]=>[]
 |(i,.agg ss)::l,ds=>m0 (100000+64*i) (ds.take ss.length)++Wv l (ds.drop ss.length)
def sY:List (Nat×List Shp)->List Dy->CS
 |[],_=>[]
 |(c,ss)::l,ds=>(c,.box (rF (1000000+64*c) (ds.take ss.length)))::(m0 (1000000+64*c) (ds.take ss.length)++sY l (ds.drop ss.length))
def ly:List (Nat×SG)->Nat
 |[]=>0
 |(_,.one _)::l=>1+ly l
 |(_,.agg ss)::l=>ss.length+ly l
def kD(J:AnnA)(b:List Dy):qz:=lK J.slots b
def ko(J:AnnA)(b:List Dy):CS:=Wv J.slots b++sY J.boxes (b.drop (ly J.slots))
theorem Ww{e:qz}{n:Nat}{a:Act}:∀{ss:List (Nat×SG)} {l:List Pl},pm e ss=Tc l->l.length=ly ss/\∀{γ B:Gh} {f k:CS} {v w:List Dy},SatA n e γ a->i8 γ f->B.M=γ.M->gV f k l=Tc v ->
   (∀p∈l,∀e t,p.s=.own e t->∀u,DenA γ p.a u->DenA B (.own p.id) u)->(∀x∈lK ss (v++w),jH B (qe a) x)/\∀x∈Wv ss (v++w),x∈k
 |[],l,h=>by simp only[pm,YL]at h;subst h;refine⟨rfl,λ_ _ _ m _=>?_⟩;have m:=ZS m;subst m;exact⟨λx N=>(by cases N),λx N=>(by cases N)⟩
 |(i,sg)::ss,l,h=>by
  simp only[pm]at h;split at h;rename_i x r S U;split at h;rename_i s aa;simp only[YL]at h;subst h;obtain⟨O,P⟩:=Ww (n:=n) (a:=a) U;refine⟨by simp[O,ly];omega,λ {γ B f k v w} F D A m E=>?_⟩;obtain⟨d,v',rfl,h2,h3⟩:=DC m;obtain⟨i1,Q⟩:=P (w:=w) F D A h2 (λp o=>E p (YU _ o));have c:DenA γ aa (qe a i):=(F.all _ (Z9 S)).1 trivial;rcases h3 with⟨t,x,z,rfl,hc⟩|⟨e',t,xs,z,rfl,hm⟩;have:=we D hc c;rw[<-A]at this;refine⟨λy b=>?_,λy b=>?_⟩;simp only[zaq,lK,YS]at b;rcases b with rfl|b;exact⟨λ_=>Ez this,λG=>absurd trivial G⟩;grind;simp only[zaq,Wv,mM,zba]at b;exact Q y b;refine⟨λy b=>?_,λy b=>?_⟩;simp only[zaq,lK,YS]at b;rcases b with rfl|b;exact⟨λ_=>E _ ZB e' t z _ c,λG=>absurd trivial G⟩;grind;simp only[zaq,Wv,mM,zba,YS]at b;grind;rename_i C H;split at h;rename_i q hq;simp only[YL]at h;subst h;obtain⟨O,P⟩:=Ww (n:=n) (a:=a) U;obtain⟨J,o⟩:=A3 hq;refine⟨by simp[O,J,ly],λ {γ B f k v w} F D A m E=>?_⟩;obtain⟨I,L,rfl,Y,d1,Z⟩:=Wu m;obtain⟨i1,Q⟩:=P (w:=w) F D A Z (λp o=>E p (ZL _ o));obtain⟨us,hu,c⟩:=(show ∃us,qe a i=.agg us.toArray/\All2 (DenA γ) H us from(F.all _ (Z9 S)).1 trivial);obtain⟨p1,p2⟩:=o D A d1 (λp o=>E p (YZ _ o)) c;have et:(I++L++w).take C.length=I:=by rw[<-J,<-Y,zbh,List.take_left]
  have V:(I++L++w).drop C.length=L++w:=by rw[<-J,<-Y,zbh,List.drop_left]
  refine⟨λy b=>?_,λy b=>?_⟩;simp only[lK,et,V,YS]at b;rcases b with rfl|b;exact⟨λ_=>⟨us,hu,p1⟩,λG=>absurd trivial G⟩;grind;simp only[Wv,et,V,ZG]at b;grind;cases h;cases h;cases h
theorem Dm{z:CS}:∀{bs:List (Nat×List Shp)} {l:List Pl},oE z bs=Tc l->∀{R:CS} {γ n:Gh} {i k:CS} {v:List Dy} {h:zc},Inv h0 W M0 (z++R) γ h->i8 γ i->n.M=γ.M->n.β=γ.β->gV i k l=Tc v -> (∀p∈l,∀e t,p.s=.own e t->∀u,DenA γ p.a u->DenA n (.own p.id) u) ->
   ∀x∈sY bs v,x∈k\/(DenC h0.size n h x.1 x.2/\(∃f,(x.1,Ch.box f)∈z)/\(∃f,x.2=Ch.box f)/\∃ss,(x.1,ss)∈bs)
 |[],l,b,R,γ,n,i,k,v,h,I,hf,hM,hβ,hd,ho,x,m=>by cases m
 |(c,ss)::bs,l,b,R,γ,n,i,k,v,h,I,hf,hM,hβ,hd,ho,x,m=>by
  simp only[oE]at b;split at b;rename_i f r D J;split at b;rename_i q F;simp only[YL]at b;subst b;obtain⟨B,w⟩:=A3 F;obtain⟨y,A,rfl,C,G,E⟩:=Wu hd;obtain⟨us,Q,o⟩:=I.den _ (YZ R (qh D));obtain⟨H,O⟩:=w hf hM G (λp b=>ho p (YZ _ b)) o;have et:(y++A).take ss.length=y:=by rw[<-B,<-C,List.take_left]
  have L:(y++A).drop ss.length=A:=by rw[<-B,<-C,List.drop_left]
  simp only[sY,et,L,YS,ZG]at m;rcases m with rfl|m|m;exact .inr ⟨⟨us,by grind,H⟩,⟨f,qh D⟩,⟨_,rfl⟩,ss,ZB⟩;simp_all;rcases Dm J I hf hM hβ E (λp b=>ho p (ZL _ b)) x m with h1|⟨h1,N,S,s',P⟩;grind;grind;cases b;cases b
def nA(C:CS):List (Nat×List Shp)->Bool
 |[]=>Ta
 |(c,_)::l=>match Yd C c with
  |some (.box _)=>nA C l
  |_=>Tb
theorem Gt{C:CS}:∀{l:List (Nat×List Shp)},nA C l=Ta->∀c ss,(c,ss)∈l->∃b,(c,Ch.box b)∈C
 |[],_,c,ss,h=>by cases h
 |(c',ss')::l,hb,c,ss,h=>by simp only[nA]at hb;split at hb;rename_i b e;rcases YS.1 h with h|h;grind [qh];exact Gt hb c ss h;cases hb
def lX:CS->Bool
 |[]=>Ta
 |(c,_)::l=>bif iC c l then lX l else Tb
theorem FG:∀{l:CS},lX l=Ta->l.Pairwise λx y=>x.1≠y.1
 |[],_=>.nil
 |(c,k)::l,h=>by
  simp only[lX]at h;cases hn:iC c l with
  |false=>simp_all
  |true=>rw[hn]at h;exact za2.2 ⟨λy b e=>mt hn y b e.symm,FG h⟩
def allIn(S:List Nat):List Nat->Bool
 |[]=>Ta
 |i::l=>bif memN S i then allIn S l else Tb
theorem E0{l:List Nat}(h:memN l i=Ta):i∈l:=by
 induction l with
 |nil=>cases h
 |cons j l b=>simp only[memN]at h;grind [YT,ZB,YU]
theorem H0{S:List Nat}:∀{l:List Nat},allIn S l=Ta->∀i∈l,i∈S
 |[],_,i,h=>by cases h
 |j::l,hl,i,h=>by
  simp only[allIn]at hl;cases hm:memN S j with
  |false=>simp_all
  |true=>rw[hm]at hl;rcases YS.1 h with rfl|h;exact E0 hm;exact H0 hl i h
theorem Inv.pick{C F R:CS}(I:Inv h0 W M0 (C++R) γ h)(hnd:lX F=Ta)(hsrc:∀x∈F,DenC h0.size γ h x.1 x.2/\∃k,(x.1,k)∈C/\blk γ x.1 k=blk γ x.1 x.2):Inv h0 W M0 (F++R) γ h where
 ag:=I.ag
 frame:=I.frame
 size:=I.size
 old:=I.old
 le:=I.le
 den:=λx hx=>by rcases ZG.1 hx with hx|hx;simp_all;exact I.den x (ZL _ hx)
 sep:=λx hx b hb=>by rcases ZG.1 hx with hx|hx;obtain⟨_,k,hk,e⟩:=hsrc x hx;exact I.sep _ (YZ _ hk) b (by grind);exact I.sep x (ZL _ hx) b hb
 apart:=by have hI:=I.apart;rw[zch]at hI ⊢;refine⟨(FG hnd).imp_of_mem λ {x y} hx hy hne b hb hb'=>?_,hI.2.1,λx hx y hy b hb=>?_⟩;obtain⟨_,k,hk,e⟩:=hsrc x hx;obtain⟨_,k',hk',e'⟩:=hsrc y hy;exact Cd I (YZ R hk) (YZ R hk') (λe2=>hne (Prod.mk.inj e2).1) b (by grind) (by grind);grind
def qE(J:AnnA)(R:CS)(e:qz)(C:CS):Option (List Dy):=
 match pm e J.slots,oE C J.boxes with
 |some ps,some pb=>match oE (frzL (nh (ps++pb)) C) J.boxes with
  |some b=>match jT R (ps++b) (frzL (nh (ps++pb)) C)with
   |some c=>bif nA c J.boxes then(bif allIn J.ids (gZ (ps++b))then(match gV (frzL (nh (ps++pb)) C++R) c (ps++b)with
    |some f=>bif lX (ko J f)then Tc f else Td
    |none=>Td)else Td)else Td
   |none=>Td
  |none=>Td
 |_,_=>Td
theorem vh{J:AnnA}{e:qz}{l:List Dy}(b:qE J R e C=Tc l){n:Nat}{a:Act}(hs:SatA n e γ a)(I:Inv h0 W M0 (C++R) γ h):
  ∃c,Inv h0 W M0 (ko J l++R) c h/\GxS J.ids γ c/\∀x∈kD J l,jH c (qe a) x:=by
 unfold qE at b;split at b
 ·rename_i ps V A M;split at b
  ·rename_i o f;split at b
   ·rename_i Z B;cases hbi:nA Z J.boxes with
    |false=>simp_all
    |true=>
    rw[hbi]at b;cases hai:allIn J.ids (gZ (ps++o))with
    |false=>simp_all
    |true=>
    rw[hai]at b;simp only[zF]at b;split at b
    ·rename_i k q;cases hnd:lX (ko J k)with
     |false=>simp_all
     |true=>
     rw[hnd]at b;have b:=ZS (show Tc k=Tc l from b);subst b;obtain⟨γ0,m,g0⟩:=Inv.frzL (C:=C) (γ:=γ) (nh (ps++V)) I;have s:=hs.gx0 g0;obtain⟨c,r,H,⟨E,Y⟩,G⟩:=ux B m;obtain⟨U,z,rfl,l1,S,L⟩:=Wu q;obtain⟨e1,t⟩:=Ww (n:=n) (a:=a) A;obtain⟨P,f2⟩:=t (w:=z) s m.fz E S (λp y=>G p (YZ _ y));have u:=Dm f m m.fz E Y L (λp y=>G p (ZL _ y));have ed:(U++z).drop (ly J.slots)=z:=by rw[<-e1,<-l1,List.drop_left]
     have N:GxS J.ids γ c:=⟨g0.1.trans H.1,λi hi=>by have D:=H.2 i (λhm=>hi (H0 hai i hm));have h1:=g0.2 i (by simp);simp_all⟩;refine⟨c,r.pick hnd λx b=>?_,N,P⟩;unfold ko at b;rw[ed]at b;rcases ZG.1 b with b|b;have:=f2 x b;exact⟨r.den x (YZ _ this),x.2,this,rfl⟩;rcases u x b with h1|⟨h1,_,⟨O,D⟩,ss,h3⟩;exact⟨r.den x (YZ _ h1),x.2,h1,rfl⟩;obtain⟨F,Q⟩:=Gt hbi _ _ h3;exact⟨h1,_,Q,by rw[D];rfl⟩
    cases b
   cases b
  cases b
 cases b
theorem Mf{α:Type}{R:α->α->Prop}(i:∀x y,R x y->R y x){l b:List α}(p:l.Perm b):l.Pairwise R->b.Pairwise R:=by
 induction p with
 |nil=>exact id
 |cons x p f=>intro h;rw[za2]at h ⊢;grind
 |swap x y l=>simp_all
 |trans _ _ c e=>simp_all
theorem Inv.perm{cs cs':CS}(I:Inv h0 W M0 cs γ h)(p:cs.Perm cs'):Inv h0 W M0 cs' γ h where
 ag:=I.ag
 frame:=I.frame
 size:=I.size
 old:=I.old
 le:=I.le
 den:=λx hx=>I.den x (p.symm.subset hx)
 sep:=λx hx=>I.sep x (p.symm.subset hx)
 apart:=Mf (λx y h b hb hb'=>h b hb' hb) p I.apart
end
section
variable {P:Program} {gl:Fr}
variable {h0 : zc} {W : Nat -> Prop} {M0 : Fr}
def jX(P:Program)(gl:Fr)(o:Oper)(e:qz)(c:qc)(cs:CS)(K:AV->Prop):Prop:=
 match o.op with
 |.pick x a b=>tg e c x a b K
 |_=>match Wn e c with
  |some g=>qA P gl o (fB e c) g cs K
  |none=>False
def nP(P:Program)(gl:Fr)(n:Nat)(ops:Array Oper)(cs:CS)(K:qz->Prop):List Oper->qz->Prop
 |[],e=>K e
 |o::rest,e=>match Y0 ops e o.guard with
  |some c=>bif wh n c o.dst then jX P gl o e c cs λv=>nP P gl n ops cs K rest (sI e o.dst c v)else False
  |none=>False
theorem FQ(k:Fr.le gl M0){o:Oper}{e:qz}{c:qc}{cs:CS}{K:AV->Prop}(H:jX P gl o e c cs K):∃av,K av/\∀(n:Nat) (γ:Gh) (a:Act) (h:zc),SatA n e γ a->Inv h0 W M0 cs γ h->valid (qe a) c->∃v,DenV γ av v/\QExec P (execOp a.eval o) h (.value v):=by unfold jX at H;split at H;rename_i x y z l;obtain⟨av,h1,i⟩:=Wt H;refine⟨av,h1,λn γ a h b I f=>?_⟩;obtain⟨t,m,r⟩:=i n γ a b f;refine⟨_,r,λB d=>?_⟩;simp only[execOp,l,m,asBool,Sem.run_bind,Sem.run_pure,Result.andThen_ok];split at H;rename_i g p;obtain⟨av,h1,i⟩:=sF (h0:=h0) (W:=W) (M0:=M0) k H;exact⟨av,h1,λn γ a h b I f=>i (Zd b p f) γ h a.eval I λx av q=>qa b f q⟩;exact H.elim
theorem uV{P:Program}{gl:Fr}(k:Fr.le gl M0){n:Nat}{ops:Array Oper}{cs:CS}{K:qz->Prop}{Q:Act->Prop}{γ:Gh}{h:zc}(I:Inv h0 W M0 cs γ h)(B:World)(d:Nat):
  ∀(l:List Oper) (e:qz) (a:Act),nP P gl n ops cs K l e->SatA n e γ a->(∀e' a',SatA n e' γ a'->Same (j8 l) a a'->K e'->Q a')->wpStill P ops (mk B d h) Q l a
 |[],e,a,H,hs,hQ=>hQ _ _ hs (Same.refl _ _) H
 |o::rest,e,a,H,hs,hQ=>by
  unfold nP at H;split at H;rename_i c z;cases hd:wh n c o.dst with
  |false=>simp_all
  |true=>
   rw[hd]at H;simp only[zF]at H;have w:=Zl hs z;have f:∀i,o.dst=Tc i->i∈j8 (o::rest):=λi hi=>by simp[j8,hi]
   have b:∀x∈j8 rest,x∈j8 (o::rest):=λx C=>by unfold j8;grind
   obtain⟨av,s,y⟩:=FQ (h0:=h0) (W:=W) (M0:=M0) k H;have q:∀u,(valid (qe a) c->DenV γ av u)->(¬valid (qe a) c->u=undef)->wpStill P ops (mk B d h) Q rest (a.put o.dst u):=λu h1 m=>
    uV k I B d rest _ _ s (hs.putO hd h1 m) λe' a' r A t=>hQ e' a' r ((Same.put a o.dst u f).trans (A.mono b)) t
   unfold wpStill;by_cases p:valid (qe a) c;rw[zb (w.2 p)];unfold Oper.still;obtain⟨v,h1,m⟩:=y n γ a h hs I p;rw[m B d,Oper.stillUpon_value];simp_all;simp_all
  exact H.elim
abbrev pM:=List (Nat×Nat)
def vj(P:Program)(gl:Fr)(tr:TypeId)(n:Nat)(c:pM)(id:Nat)(ops:Array Oper)(b:Bool)(R:CS)(K:qz->CS->Prop)(e:qz)(C:CS):Prop:=
 bif b then(match wT c id with
  |none=>bif Region.lexB .any ops then nP P gl n ops (C++R) (λe'=>K (kG e') C) ops.toList e else False
  |some m=>bif Region.lexTailB .any ops m then nP P gl n ops (C++R) (λe'=>kw P gl tr n ops R K (ops.toList.drop m) e' C) (ops.toList.take m) e else False)
 else kw P gl tr n ops R K ops.toList e C
theorem OJ(E:P.follows .mixedOrders=Ta)(f:Fr.le gl M0){tr:TypeId}{n:Nat}{F:pM}{id:Nat}{ops:Array Oper}{c:Bool}{R C:CS}{K:qz->CS->Prop}{e:qz} (H:vj P gl tr n F id ops c R K e C) {γ:Gh} {h:zc} (B:World) (d:Nat) {a:Act} (y:SatA n e γ a) (I:Inv h0 W M0 (C++R) γ h) {Q:Exit->Act->World->Prop}
  (q:∀e' D γ' a' N h',SatA n e' γ' a'->Inv h0 W M0 (D++R) γ' h'->Same (j8 ops.toList) a a'->GxS (j8 ops.toList) γ γ'->K e' D->Q .normal a' (mk B N h')):(zc3 id ops c).wp P Q a (mk B d h):=by
 unfold vj at H;cases c with
 |false=>exact wp_region_list (tU f B _ _ _ _ _ _ _ H y I q)
 |true=>
  simp only[zF]at H;split at H;cases hB:Region.lexB .any ops with
  |false=>rw[hB]at H;exact H.elim
  |true=>rw[hB]at H;refine wp_region_still E hB ?_;exact uV f I B (d+1) _ _ _ H y λe' a' s z t=>q _ _ _ _ _ _ s.clean I z (GxS.refl _ _) t
  rename_i m _;cases hB:Region.lexTailB .any ops m with
  |false=>rw[hB]at H;exact H.elim
  |true=>
   rw[hB]at H;have b:j8 ops.toList=j8 (ops.toList.take m)++j8 (ops.toList.drop m):=by rw[<-Zz,zax]
   have:=wp_region_still_tail (id:=id) (Q:=Q) (a:=a) (w:=mk B d h) (l:=ops.toList) m E (by simpa using hB) (by simp only[Array.toArray_toList];refine uV f I B (d+1) _ _ _ H y λe' a' s z t=>?_;refine tU f B _ _ _ _ _ _ (d+1) t s I λo p A k u r M L J G O=>q o p A k u r M L ?_ ?_ O;rw[b];exact(z.mono λx i=>YZ _ i).trans (J.mono λx i=>ZL _ i);rw[b];exact G.mono λx i=>ZL _ i);simpa using this
end
section
variable {P:Program} {t tr tx:TypeId} {n d m i id:Nat} {cs R C:CS} {γ:Gh} {h:zc} {o:Oper} {sv:AV} {gl:Fr} {c:qc} {ops:Array Oper} {pu ord:List Nat} {listed pl:Array Bool} {a:Act}
variable {h0 : zc} {W : Nat -> Prop} {M0 : Fr}
structure It where
 k:Nat
 dst:Option Nat
 ch:qc
 av:AV
 nb:Option (Nat×Ch)
 us:Option Nat:=Td
def fI:List It->qz
 |[]=>[]
 |i::l=>match i.dst with
  |some s=>(s,i.ch,i.av)::fI l
  |none=>fI l
def cK:List It->CS
 |[]=>[]
 |i::l=>match i.nb with
  |some b=>b::cK l
  |none=>cK l
theorem kQ{x:Nat×qc×AV}:∀{l:List It},x∈fI l↔∃i∈l,i.dst=Tc x.1/\i.ch=x.2.1/\i.av=x.2.2
 |[]=>by simp[fI]
 |i::l=>by simp only[fI];split;rename_i s f;rw[YS,kQ (l:=l)];constructor;rintro(rfl|⟨j,b,h⟩);exact⟨i,ZB,f,rfl,rfl⟩;exact⟨j,YU _ b,h⟩;rintro⟨j,b,h1,c,e⟩;rcases YS.1 b with rfl|b;left;rw[f]at h1;cases h1;rw[c,e];exact .inr ⟨j,b,h1,c,e⟩;rename_i f;rw[kQ (l:=l)];constructor;rintro⟨j,b,h⟩;exact⟨j,YU _ b,h⟩;rintro⟨j,b,h1,c,e⟩;rcases YS.1 b with rfl|b;rw[f]at h1;cases h1;exact⟨j,b,h1,c,e⟩
def Xs(S:List Nat):qz->qz
 |[]=>[]
 |(i,c,v)::e=>bif memN S i then(i,c,v)::Xs S e else Xs S e
theorem Jy{S:List Nat}{x:Nat×qc×AV}:∀{e:qz},x∈Xs S e->x∈e/\x.1∈S
 |[],h=>by cases h
 |(i,c,v)::e,h=>by
  simp only[Xs]at h;cases hm:memN S i with
  |true=>rw[hm]at h;rcases YS.1 h with rfl|h;exact⟨ZB,E0 hm⟩;exact⟨YU _ (Jy h).1,(Jy h).2⟩
  |false=>rw[hm]at h;exact⟨YU _ (Jy h).1,(Jy h).2⟩
def t7(P:Program)(tr:TypeId)(t:TypeId)(n:Nat)(ps:List (Nat×AV))(cs:CS)(K:AV->Prop):Prop:=
 match jC P t with
 |some el=>match kW P tr 8 el,ma P el (n*yb P el)with
  |some ty,some zs=>bif Nat.beq (yb P el) (sz ty)then(bif Nat.ble (n*yb P el) 16777216 then(bif Nat.blt 0 (yb P el)then(match kT (λi=>Tc (i*yb P el,yb P el)) (zs.map .v) ps with
   |some r=>match Wq cs ty n r with
    |some (ys,[])=>K (.g (.a (.dc ty ys)))
    |_=>False
   |none=>False)else False)else False)else False
  |_,_=>False
 |none=>False
theorem JQ{t el:TypeId}(q:P.underlying t=Tc (.slice el))(m:qj P el=Ta)(w:n*yb P el<=16777216){l:List Value}(b:ma P el (n*yb P el)=Tc l){ps:Array (Nat×Value)}{c1:List Value} (p:zdn (λi=>Tc (i*yb P el,yb P el)) l.toArray ps.toList=Tc c1.toArray) (B:World) (e:Nat) (h:zc):
  (Instr.buildSlice t n ps).run P (mk B e h)=.ok (.slice (Tc ⟨h.size,0,Td⟩) n n) (mk B e (h.push (.cells c1.toArray el))):=by
 have u:=QExec.underlying (h:=h) q B e;have s:=QExec.sizeOf (P:=P) (h:=h) (ju m).choose_spec B e;unfold Instr.buildSlice;rw[Sem.run_bind,u];simp only[Result.andThen_ok];rw[Sem.run_bind,s];simp only[Result.andThen_ok];rw[za (by omega)];unfold ma at b;by_cases c:n*yb P el=0;rw[zb c];rw[c]at b ⊢;simp at b;subst b;simp only[Sem.run_bind,Sem.run_pure,Result.andThen_ok];have k:Array.map (λx=>(#[]:Array Value)[x % (#[]:Array Value).size]!) (zc4 0)=([]:List Value).toArray:=by simp
 rw[k,p];rfl;rw[za c];have r:Nat.beq (n*yb P el) 0=Tb:=by
  cases hh:Nat.beq (n*yb P el) 0 with
  |false=>rfl
  |true=>exact absurd (YT hh) c
 rw[r]at b;simp only[zG]at b;split at b;rename_i z o;have f:=Jw o h B e;simp only[YL]at b;rw[Sem.run_bind,f];simp only[Result.andThen_ok,Sem.run_bind,Sem.run_pure];have k:Array.map (λx=>z.cells[x % z.cells.size]!) (zc4 (n*yb P el))=l.toArray:=by rw[<-b]
 rw[k,p];rfl;cases b
theorem Inv.newFrozen(I:Inv h0 W M0 cs γ h)(c:Array Value)(el:TypeId):Inv h0 W M0 cs (fy γ h.size c) (h.push (.cells c el))/\Gx Td γ (fy γ h.size c)/\(fy γ h.size c).M h.size=Tc c:=by
 have l:γ.M h.size=Td:=I.ag.none (YM _);have n:Fr.le γ.M (fy γ h.size c).M:=by
  intro b i e;have:Nat.beq b h.size=Tb:=by
   cases f:Nat.beq b h.size with
   |false=>rfl
   |true=>rw[YT f,l]at e;cases e
  simp[fy,this,e]
 have k:AgM (fy γ h.size c).M (h.push (.cells c el)):=by
  intro b i e;by_cases f:b=h.size;subst f;have:i=c:=by simp[fy]at e;exact e.symm
  subst this;exact⟨_,_,xq _ _⟩;have:Nat.beq b h.size=Tb:=by
   cases hb':Nat.beq b h.size with
   |false=>rfl
   |true=>exact absurd (YT hb') f
  simp only[fy,this,zG]at e;obtain⟨o,m,e'⟩:=I.ag b i e;exact⟨o,m,by rw[Array.getElem?_push,za f];exact e'⟩
 refine⟨I.call (Keep.push h _ (YM _)) n (λb f=>?_) k,⟨n,λ_ _=>⟨rfl,rfl⟩⟩,by simp[fy]⟩;have:Nat.beq b h.size=Tb:=by
  cases hb':Nat.beq b h.size with
  |false=>rfl
  |true=>have:=YT hb';omega
 simp[this]
def kZ:Option (Nat×Ch)->CS->CS
 |none,C=>C
 |some c,C=>Wm c.1 C
def lE(h0:zc)(W:Nat->Prop)(M0:Fr)(P:Program)(o:Oper)(a:Act)(γ:Gh)(h:zc)(cs:CS)(nb:Option (Nat×Ch))(b:AV->Prop)(eat:Option (Nat×Ch):=Td):Prop:=
 ExA P (execOp a.eval o) h λv h'=>∃av γ',b av/\DenV γ' av v/\Inv h0 W M0 (nb.toList++kZ eat cs) γ' h'/\Gx (nb.map (·.1)) γ γ'
theorem Vs{f:Array (Nat×Operand)}(G:o.op=.buildSlice t n f){ps:List (Nat×AV)}{ρ:Operand->Option AV}(y:jJ ρ f.toList=Tc ps){K:AV->Prop}(H:t7 P tr t n ps cs K):
  ∃av,K av/\∀(γ:Gh) (h:zc) (a:Act) (Y:CS),Inv h0 W M0 (Y++cs) γ h->(∀x av,ρ x=Tc av->DenV γ av (a.eval x))->lE h0 W M0 P o a γ h (Y++cs) Td (· = av):=by
 unfold t7 at H;split at H
 ·rename_i el m;obtain⟨J,s⟩:=Jt m;split at H
  ·rename_i ty E L q;cases hz:Nat.beq (yb P el) (sz ty)with
   |false=>rw[hz]at H;exact H.elim
   |true=>
   rw[hz]at H;cases hb1:Nat.ble (n*yb P el) 16777216 with
   |false=>rw[hb1]at H;exact H.elim
   |true=>
   rw[hb1]at H;cases hb2:Nat.blt 0 (yb P el)with
   |false=>rw[hb2]at H;exact H.elim
   |true=>
   rw[hb2]at H;simp only[zF]at H;split at H
   ·rename_i r S;split at H
    ·rename_i ys p;refine⟨_,H,λγ h a Y I U=>?_⟩;have N:Inv h0 W M0 cs γ h:=I.sub (by simp);obtain⟨Z,M,F⟩:=Wo S (Qa γ E) (p8 U y);obtain⟨c1,c2,rfl,A,u,Q⟩:=vn N.fz p F;cases c2 with
     |cons _ _=>exact Q.elim
     |nil=>
     rw[ZY]at *;have i:=YT hz;have k:0<yb P el:=by simpa[zbj]using hb2
     have z:n*yb P el<=16777216:=zaw hb1;have hn:n<=n*yb P el:=zb6 _ k;have V:c1.length=n*yb P el:=by rw[A.1,u,i]
     obtain⟨O,C,w⟩:=I.newFrozen c1.toArray el;intro B e;refine .inl ⟨.slice (Tc ⟨h.size,0,Td⟩) n n,e,_,?_,_,_,rfl,?_,O,C⟩;have D:(f.map λx=>(x.1,a.eval x.2)).toList=f.toList.map λx=>(x.1,a.eval x.2):=by rw[zca]
     simp only[execOp,G];refine Jj ?_;exact JQ J s z q (by show zdn _ _ (f.map λx=>(x.1,a.eval x.2)).toList=_;rw[D];exact M) B e h;have l:=(A.mono C.1).rd (b:=h.size) (o:=0) (c:=n) (cs:=c1.toArray) w (by rw[za5,zag (by rw[u,<-i];simp;omega)]) ⟨by omega,by omega⟩;rw[u]at l;exact⟨⟨Tc ⟨h.size,0,Td⟩,n,n⟩,rfl,rfl,l⟩
    exact H.elim
   exact H.elim
  exact H.elim
 exact H.elim
def yG:AV->Bool
 |.g (.a (.dc _ _))=>Ta
 |_=>Tb
theorem IH{bv sv:AV}{c:Call}(ho:o.op=.call c)(hc:c.callee=.builtin .append){s x:Operand}(q:c.args.toList=[s,x])(G:c.argTypes.toList=[t,tx]){K:AV->Prop}(y:yG bv=Ta) (H:km P tr t tx bv sv 0 [] cs (λav _ _=>K av)) {ρ:Operand->Option AV} (hs:ρ s=Tc bv) (hx:ρ x=Tc sv):
  ∀(γ:Gh) (h:zc) (a:Act) (Y:CS),Inv h0 W M0 (Y++cs) γ h->(∀x av,ρ x=Tc av->DenV γ av (a.eval x))->lE h0 W M0 P o a γ h (Y++cs) Td K:=by
 intro γ h a Y I hρ;have N:=hρ _ _ hs;have aa:=hρ _ _ hx;have I1:Inv h0 W M0 ([]++cs) γ h:=I.sub (by simp);have key:∀{Q:Value->zc->Prop},xd P (YY #[t,tx] o.type #[a.eval s,a.eval x]) h Q->ExA P (execOp a.eval o) h Q:=by
  intro Q S B e;obtain⟨v,d',h',r,hp⟩:=S B e;refine .inl ⟨v,d',h',?_,hp⟩;have ee:execOp a.eval o=(YY c.argTypes o.type (c.args.map a.eval) >>= λx=>(zcf (zck x):Sem Next)):=by simp only[execOp,ho,resolve,hc];rfl
  rw[ee,toList_eq q,toList_eq G];refine Jj ?_;simpa using r
 refine key ?_;clear key;unfold km at H;split at H;rename_i el U;obtain⟨hu,ai⟩:=Jt U;split at H;rename_i ty ah;split at H;rename_i b ys hb V;obtain⟨⟨z,T⟩,D⟩:=Hz hu hb;obtain⟨news,l,n⟩:=Hi I1 V T.pos aa;split at H;cases y;cases y;rename_i t' an;split at H;rename_i xs w;obtain⟨C,hK⟩:=H;have E:=qO D C;obtain⟨e1,e2⟩:=Yh w;subst e1;simp only at e2;subst e2;generalize a.eval s=u at *;generalize a.eval x=v at *;obtain⟨s2,e,ap,F⟩:=(show ∃s:Sl,u=aK s/\s.cap=s.len/\Rd γ.M (.row t') xs [u]from N);subst e;obtain⟨s3,e,f,ak,cells,i,A⟩:=F.rowC I.ag;have e':s2=s3:=by cases s2;cases s3;simp only[aK,ZU]at e;simp[e]
 subst e';have m:cells.length=s2.len*sz t':=by rw[f];exact i.1
 intro B L;by_cases hm:ys.length=0;have Z:ys=[]:=zaa hm;subst Z;have ae:news=[]:=zaa (by rw[l.1];simp);subst ae;have hr:=Yg (P:=P) (ty:=o.type) T (s:=s2) (h':=h) (n B L) (by simp;omega) (λp hp=>by simp[storeCells]) (λ_=>rfl);refine⟨_,L,h,hr,_,γ,hK,?_,I,Gx.refl _ _⟩;rw[ZY];exact F;obtain⟨cp,k,hr,af,aj,am,O⟩:=Ws (P:=P) (ty:=o.type) (base:=0) T m (λB d=>Qc A m T.pos B d) n (by rw[f];exact C) (by rw[f];exact E) (ZN _) (by omega) B L;obtain⟨I2,g2,ab⟩:=I.newFrozen k el;refine⟨_,L+1,_,hr,_,_,hK,?_,I2,g2⟩;have J:=((i.append l).mono g2.1).rd (b:=h.size) (o:=0) (c:=cp) (cs:=k) ab (by rw[za5,ZC,<-f];exact O) (by rw[ZC,<-f];exact⟨by rw[f];exact E,af⟩);rw[ZC,<-f]at J;exact J;exact H.elim;exact H.elim;exact H.elim;exact H.elim;exact H.elim
def wc(P:Program)(gl:Fr)(tr:TypeId)(o:Oper)(ρ:Operand->Option AV)(cs:CS)(K:AV->Prop):Prop:=
 match o.op with
 |.call c=>match c.callee with
  |.value x=>match nL x with
   |some f=>bif zx P f then(match uE P tr f,lS ρ c.args.toList with
    |some (ts,rt),some vs=>match jy cs ts vs with
     |some args=>PC P gl f args rt λr=>K (mT rt r)
     |none=>False
    |_,_=>False)else False
   |none=>False
  |_=>False
 |_=>False
theorem TM(k:Fr.le gl M0){ρ:Operand->Option AV}{K:AV->Prop}(H:wc P gl tr o ρ cs K):
  ∀(γ:Gh) (h:zc) (a:Act) (Y:CS),Inv h0 W M0 (Y++cs) γ h->(∀x av,ρ x=Tc av->DenV γ av (a.eval x))->lE h0 W M0 P o a γ h (Y++cs) Td K:=by
 intro γ h a Y I w;unfold wc at H;split at H;rename_i c s;split at H;rename_i x u;split at H;rename_i f q;cases hcal:zx P f with
 |false=>rw[hcal]at H;exact H.elim
 |true=>
  rw[hcal]at H;simp only[zF]at H;split at H;rename_i ts rt vs z i;split at H;rename_i args b;intro B d;have e:=tB q;subst e;have m:Inv h0 W M0 cs γ h:=I.sub (by simp);have y:=xg m.fz b (oA w i);refine .inr (.inr ⟨f,c.args.map a.eval,pZ s u hcal rfl _,?_⟩);have p:c.args.map a.eval=(c.args.toList.map a.eval).toArray:=by rw[<-zca]
  rw[p];refine(sM k H I y).mono ?_;rintro v h' ⟨r,γ',h1,l,t,n,_⟩;exact⟨_,γ',h1,l,t,n⟩;exact H.elim;exact H.elim
 exact H.elim;exact H.elim;exact H.elim
theorem N2(l:Fr.le gl M0){ρ:Operand->Option AV}{b:Bool}{K:AV->Prop}(H:mN P gl tr o ρ b cs K)(n:b=Ta):
  ∀(γ:Gh) (h:zc) (a:Act) (Y:CS),Inv h0 W M0 (Y++cs) γ h->(∀x av,ρ x=Tc av->DenV γ av (a.eval x))->lE h0 W M0 P o a γ h (Y++cs) Td K:=by
 intro γ h a Y I A;unfold mN at H;split at H;rename_i c w;split at H;rename_i x z;split at H;rename_i f t;cases hcal:zx P f with
 |false=>rw[hcal]at H;exact H.elim
 |true=>
  rw[hcal]at H;simp only[zF]at H;split at H;rename_i ts rt vs E k;split at H;rename_i args i;obtain⟨J,h1,m⟩:=H;intro B d;have e:=tB t;subst e;have p:Inv h0 W M0 cs γ h:=I.sub (by simp);have C:=xg p.fz i (oA A k);refine .inr (.inr ⟨f,c.args.map a.eval,pZ w z hcal rfl _,?_⟩);have s:c.args.map a.eval=(c.args.toList.map a.eval).toArray:=by rw[<-zca]
  rw[s];refine(sM l (h1 n) I C).mono ?_;rintro v h' ⟨r,γ',y,q,D,u,_⟩;exact⟨_,γ',m r (λ_=>y),q,D,u⟩;exact H.elim;exact H.elim
 exact H.elim;exact H.elim;exact H.elim
theorem YF(i:o.op=.alloc t){z:Value}(l:zeroOf P t=Tc z)(b:fR (z.cells.toList.map .v)=Tb):
  ∀(γ:Gh) (h:zc) (a:Act) (Y:CS),Inv h0 W M0 (Y++cs) γ h->ya d (Y++cs)=Ta->lE h0 W M0 P o a γ h (Y++cs) (Tc (d,.box (z.cells.toList.map .v))) (· = .g (.a (.box d 0))):=by
 intro γ h a Y I k B e;refine .inl ⟨.pointer (Tc ⟨h.size,0,Td⟩),e,h.push (.cells z.cells t),?_,_,hP γ d h.size,rfl,?_,?_,ki _ _ _⟩;have f:=Jw l h B e;simp only[execOp,i];refine Jj ?_;unfold Instr.alloc;rw[Sem.run_bind,f];simp only[Result.andThen_ok];rw[Sem.run_bind,rj];rfl;simp only[DenV,DenG,DenA,Z8];have:=Inv.newBox (C:=[]) (R:=Y++cs) (by simpa using I) (c:=d) k (Qa γ z.cells.toList) (ut d _) b t;simpa[yf,kZ]using this
theorem JJ{x:Operand}(i:o.op=.box t x){l:List AA}(f:fU d l=Tb)(b:fR l=Tb):
  ∀(γ:Gh) (h:zc) (a:Act) (Y:CS),Inv h0 W M0 (Y++cs) γ h->ya d (Y++cs)=Ta->All2 (DenA γ) l (a.eval x).cells.toList->lE h0 W M0 P o a γ h (Y++cs) (Tc (d,.box l)) (· = .g (.a (.box d 0))):=by
 intro γ h a Y I m k B e;refine .inl ⟨.pointer (Tc ⟨h.size,0,Td⟩),e,h.push (.cells (a.eval x).cells t),?_,_,hP γ d h.size,rfl,?_,?_,ki _ _ _⟩;simp only[execOp,i];refine Jj ?_;unfold Instr.box;rw[Sem.run_bind,rj];rfl;simp only[DenV,DenG,DenA,Z8];have:=Inv.newBox (C:=[]) (R:=Y++cs) (by simpa using I) (c:=d) m k f b t;simpa[yf,kZ]using this
def yx(o:Oper):Bool:=match o.op with
 |.call c=>match c.callee with
  |.builtin .append=>Ta
  |.builtin _=>Tb
  |_=>Ta
 |_=>Tb
def jU:List AA->Bool
 |[]=>Ta
 |.v _::l=>jU l
 |.d _ _::l=>jU l
 |.elt _ _ _::l=>jU l
 |.dc _ _::l=>jU l
 |_::_=>Tb
theorem Q3{c:Nat}:∀{l:List AA},jU l=Ta->fU c l=Tb
 |[],_=>rfl
 |.v _::l,h=>by simp only[fU,im,zG];exact Q3 (l:=l) h
 |.d _ _::l,h=>by simp only[fU,im,zG];exact Q3 (l:=l) h
 |.elt _ _ _::l,h=>by simp only[fU,im,zG];exact Q3 (l:=l) h
 |.dc _ _::l,h=>by simp only[fU,im,zG];exact Q3 (l:=l) h
 |.box _ _::_,h=>by cases h
 |.own _::_,h=>by cases h
 |.oelt _ _ _ _::_,h=>by cases h
theorem DI:∀l:List Value,jU (l.map .v)=Ta
 |[]=>rfl
 |_::l=>DI l
def nY(P:Program)(gl:Fr)(tr:TypeId)(o:Oper)(e:qz)(ch:qc)(cs:CS)(K:AV->Option (Nat×Ch)->Prop):Prop:=
 match o.op with
 |.alloc t=>match ch,o.dst,zeroOf P t with
  |[],Tc d,some z=>bif ya d cs then(bif fR (z.cells.toList.map .v)then False else K (.g (.a (.box d 0))) (Tc (d,.box (z.cells.toList.map .v))))else False
  |_,_,_=>False
 |.box t x=>match ch,o.dst,fB e [] x with
  |[],Tc d,some av=>match mY av with
   |some l=>bif ya d cs then(bif jU l then(bif fR l then False else K (.g (.a (.box d 0))) (Tc (d,.box l)))else False)else False
   |none=>False
  |_,_,_=>False
 |.buildSlice t n f=>match ch,jJ (fB e []) f.toList with
  |[],some ps=>t7 P tr t n ps cs λav=>K av Td
  |_,_=>False
 |.call c=>match c.callee with
  |.builtin .append=>match ch,c.args.toList,c.argTypes.toList with
   |[],[s,x],[t,tx]=>match fB e [] s,fB e [] x with
    |some bv,some sv=>bif yG bv then km P tr t tx bv sv 0 [] cs (λav _ _=>K av Td)else False
    |_,_=>False
   |_,_,_=>False
  |.builtin _=>jX P gl o e ch cs λav=>K av Td
  |_=>match ch with
   |[]=>wc P gl tr o (fB e []) cs λav=>K av Td
   |_=>match Wn e ch with
    |some (Tc b)=>mN P gl tr o (fB e ch) b cs λav=>K av Td
    |_=>False
 |_=>jX P gl o e ch cs λav=>K av Td
structure Spec (h0:zc) (W:Nat->Prop) (M0:Fr) (P:Program) (o:Oper) (e:qz) (ch:qc) (cs:CS) (nb:Option (Nat×Ch)) (Kan:AV->Prop) (eat:Option (Nat×Ch):=Td):Prop where
 yes:∀(n:Nat) (γ:Gh) (h:zc) (a:Act) (Y:CS),SatA n e γ a->Inv h0 W M0 (Y++cs) γ h->(∀b,nb=Tc b->ya b.1 (Y++cs)=Ta)->(∀c,eat=Tc c->c∈Y++cs/\∀x∈Y++cs,x.1=c.1->x.2=c.2)->(∀d,o.dst=Tc d->eat≠Td->ya d (Y++cs)=Ta)->valid (qe a) ch->lE h0 W M0 P o a γ h (Y++cs) nb Kan eat
 no:∀(n:Nat) (γ:Gh) (a:Act),SatA n e γ a->¬valid (qe a) ch->nb=Td/\eat=Td/\∃av,Kan av
 box:∀b,nb=Tc b->ya b.1 cs=Ta/\o.dst=Tc b.1/\(((∃l,b.2=.box l/\jU l=Ta)/\Kan=(· = .g (.a (.box b.1 0))))\/((∃e t xs,b.2=.row e t xs)/\Kan=(· = .g (.a (.own b.1)))))
 dn:eat≠Td->∃d,o.dst=Tc d/\ya d cs=Ta
theorem Spec.ofQ(c:Fr.le gl M0){e:qz}{ch:qc}{K:AV->Option (Nat×Ch)->Prop}(H:jX P gl o e ch cs λav=>K av Td):∃nb Kan,Spec h0 W M0 P o e ch cs nb Kan/\(∀av,Kan av->K av nb)/\∃av,Kan=(· = av):=by obtain⟨av,h1,l⟩:=FQ (h0:=h0) (W:=W) (M0:=M0) c H;refine⟨Td,(· = av),⟨λn γ h a Y f I _ _ _ i=>?_,λn γ a f i=>⟨rfl,rfl,av,rfl⟩,λb m=>(by cases m),λp=>absurd rfl p⟩,λr e=>e ▸ h1,av,rfl⟩;obtain⟨v,k,q⟩:=l n γ a h f (I.sub (by simp)) i;exact λB d=>.inl ⟨v,d,h,q B d,av,γ,rfl,k,I,Gx.refl _ _⟩
theorem XM(u:Fr.le gl M0){e:qz}{ch:qc}{K:AV->Option (Nat×Ch)->Prop}(H:nY P gl tr o e ch cs K):
  ∃nb Kan,Spec h0 W M0 P o e ch cs nb Kan/\(∀av,Kan av->K av nb)/\(yx o=Tb->∃av,Kan=(· = av)):=by
 unfold nY at H;split at H
 ·rename_i t r;split at H
  ·rename_i d z B O;cases hR:ya d cs with
   |false=>rw[hR]at H;exact H.elim
   |true=>
    rw[hR]at H;cases hit:fR (z.cells.toList.map .v)with
    |true=>rw[hit]at H;exact H.elim
    |false=>
    rw[hit]at H;refine⟨_,(· = .g (.a (.box d 0))),⟨λn γ h a Y k I q _ _ _=>YF r O hit γ h a Y I (q _ rfl),λn γ a k p=>absurd trivial p,λb m=>?_,λi=>absurd rfl i⟩,λav e=>e ▸ H,λ_=>⟨_,rfl⟩⟩;cases m;exact⟨hR,B,.inl ⟨⟨_,rfl,DI _⟩,rfl⟩⟩
  exact H.elim
 ·rename_i t x r;split at H
  ·rename_i d av B C;split at H
   ·rename_i l Q;cases hR:ya d cs with
    |false=>rw[hR]at H;exact H.elim
    |true=>
     rw[hR]at H;cases hm:jU l with
     |false=>rw[hm]at H;exact H.elim
     |true=>
      rw[hm]at H;cases hit:fR l with
      |true=>rw[hit]at H;exact H.elim
      |false=>
      rw[hit]at H;refine⟨_,(· = .g (.a (.box d 0))),⟨λn γ h a Y k I q _ _ _=>JJ r (Q3 hm) hit γ h a Y I (q _ rfl) (tO Q (qa k (c:=[]) trivial C)),λn γ a k p=>absurd trivial p,λb m=>?_,λi=>absurd rfl i⟩,λav e=>e ▸ H,λ_=>⟨_,rfl⟩⟩;cases m;exact⟨hR,B,.inl ⟨⟨_,rfl,hm⟩,rfl⟩⟩
   exact H.elim
  exact H.elim
 rename_i t n J r;split at H;rename_i ps G;obtain⟨av,h1,A⟩:=Vs (h0:=h0) (W:=W) (M0:=M0) r G H;exact⟨Td,(· = av),⟨λn γ h a Y k I _ _ _ _=>A γ h a Y I λx av i=>qa k (c:=[]) trivial i,λn γ a k p=>absurd trivial p,λb m=>(by cases m),λi=>absurd rfl i⟩,λS e=>e ▸ h1,λ_=>⟨_,rfl⟩⟩;exact H.elim;rename_i c r;split at H;rename_i N;have f:yx o=Ta:=by simp[yx,r,N]
 split at H;rename_i s x t tx w y;split at H;rename_i bv sv E D;cases hdc:yG bv with
 |false=>rw[hdc]at H;exact H.elim
 |true=>rw[hdc]at H;simp only[zF]at H;exact⟨Td,λav=>K av Td,⟨λn γ h a Y k I _ _ _ _=>IH r N w y hdc H E D γ h a Y I λx av i=>qa k (c:=[]) trivial i,λn γ a k p=>absurd trivial p,λb m=>(by cases m),λi=>absurd rfl i⟩,λav e=>e,λq=>by rw[f]at q;cases q⟩
 exact H.elim;exact H.elim;obtain⟨nb,Kan,h1,A,F⟩:=Spec.ofQ (h0:=h0) (W:=W) (M0:=M0) u H;exact⟨nb,Kan,h1,A,λ_=>F⟩;rename_i M L;have f:yx o=Ta:=by simp only[yx,r]
 split at H;exact⟨Td,λav=>K av Td,⟨λn γ h a Y k I _ _ _ _=>TM u H γ h a Y I λx av i=>qa k (c:=[]) trivial i,λn γ a k p=>absurd trivial p,λb m=>(by cases m),λi=>absurd rfl i⟩,λav e=>e,λq=>by rw[f]at q;cases q⟩;split at H;rename_i b m;refine⟨Td,λav=>K av Td,⟨λn γ h a Y k I _ _ _ p=>N2 u H (Zd k m p) γ h a Y I λx av i=>qa k p i,λn γ a k p=>⟨rfl,rfl,?_⟩,λb m=>(by cases m),λi=>absurd rfl i⟩,λav e=>e,λq=>by rw[f]at q;cases q⟩;have:=vJ k m p;simp only[YL]at this;exact(uN (h0:=#[]) (W:=λ_=>False) (M0:=λ_=>Td) H).1 this;exact H.elim;obtain⟨nb,Kan,h1,A,F⟩:=Spec.ofQ (h0:=h0) (W:=W) (M0:=M0) u H;exact⟨nb,Kan,h1,A,λ_=>F⟩
def qJ:List Nat->Nat->Option (Option Nat)
 |[],_=>Td
 |x::l,k=>bif Nat.ble 2000000 x then(bif Nat.beq (x-2000000) k then Tc Td else qJ l k)else(bif Nat.ble 1000000 x then(bif Nat.beq ((x-1000000) / 1000) k then Tc (Tc ((x-1000000) % 1000))else qJ l k)else qJ l k)
def mZ(k:Nat):List It->Option (Nat×Ch)
 |[]=>Td
 |i::l=>bif (match i.us with
  |some j=>Nat.beq j k
  |none=>Tb)then(match i.nb with
  |some b=>Tc b
  |none=>mZ k l)else mZ k l
theorem y0{k:Nat}{c:Nat×Ch}:∀{l:List It},mZ k l=Tc c->∃i∈l,i.nb=Tc c/\i.us=Tc k
 |[],h=>by cases h
 |i::l,h=>by
  simp only[mZ]at h;cases hb:(match i.us with
   |some j=>Nat.beq j k
   |none=>Tb)with
  |false=>rw[hb]at h;obtain⟨x,f,q⟩:=y0 h;exact⟨x,YU _ f,q⟩
  |true=>rw[hb]at h;simp only[zF]at h;split at h;rename_i b e;cases h;refine⟨i,ZB,e,?_⟩;split at hb;rename_i j m;rw[m,YT hb];cases hb;obtain⟨x,f,q⟩:=y0 h;exact⟨x,YU _ f,q⟩
def yF(P:Program)(tr:TypeId)(t:TypeId)(n:Nat)(K:Ch->Prop):Prop:=bif Nat.beq n 0 then(match jC P t with
 |some el=>match kW P tr 8 el,ma P el (0*yb P el)with
  |some ty,Tc []=>bif Nat.beq (yb P el) (sz ty)then(bif Nat.ble (0*yb P el) 16777216 then(bif Nat.blt 0 (yb P el)then K (.row el ty [])else False)else False)else False
  |_,_=>False
 |none=>False)else False
theorem Rt{b:Array (Nat×Operand)}(p:o.op=.buildSlice t n b)(l:b.toList=[]){K:Ch->Prop}(H:yF P tr t n K):
  ∃el ty,K (.row el ty [])/\∀(γ:Gh) (h:zc) (a:Act) (L:CS),Inv h0 W M0 L γ h->ya d L=Ta->ExA P (execOp a.eval o) h (gJ h0 W M0 L γ λav m c=>av=.g (.a (.own d))/\m=[(d,.row el ty [])]/\c=Tc d):=by
 unfold yF at H;cases hn:Nat.beq n 0 with
 |false=>rw[hn]at H;exact H.elim
 |true=>
  rw[hn]at H;obtain rfl:=YT hn;simp only[zF]at H;split at H;rename_i el i;split at H;rename_i ty e f;cases h1:Nat.beq (yb P el) (sz ty)with
  |false=>rw[h1]at H;exact H.elim
  |true=>
   rw[h1]at H;cases h2:Nat.ble (0*yb P el) 16777216 with
   |false=>rw[h2]at H;exact H.elim
   |true=>
    rw[h2]at H;cases h3:Nat.blt 0 (yb P el)with
    |false=>rw[h3]at H;exact H.elim
    |true=>rw[h3]at H;refine⟨el,ty,H,λγ h a L I k=>?_⟩;refine Ha (tr:=tr) (ps:=[]) p (ρ:=λ_=>Td) (by rw[l];rfl) (C:=[]) (R:=L) (d:=d) ?_ (by simpa using I) (λx av q=>by cases q);unfold Wr;rw[i];simp only;rw[e,f];simp only;rw[h1,h2,h3,k];simp[kT,Wq,pL,Xr,frzL,yf]
  exact H.elim;exact H.elim
def yU(P:Program)(tx:TypeId)(ty:Ty):AV->Option (List (El ty))
 |.g (.a (.d (.row t) xs))=>match P.underlying tx with
  |some (.slice _)=>Qj (.row t) (.row ty) xs
  |_=>Td
 |.g (.a (.dc t xs))=>match P.underlying tx with
  |some (.slice _)=>Qj (.row t) (.row ty) xs
  |_=>Td
 |.g (.a (.v (.slice Td 0 0)))=>match P.underlying tx with
  |some (.slice _)=>Tc []
  |_=>Td
 |_=>Td
def zM(P:Program)(tr:TypeId)(t tx:TypeId)(e:TypeId)(c:Ty)(xs:List (El c))(sv:AV)(K:TypeId->(ty:Ty)->List (El ty)->Prop):Prop:=match jC P t with
 |some el=>match kW P tr 8 el with
  |some ty=>match rz P el ty,yU P tx ty sv with
   |some b,some ys=>match Qj (.row c) (.row ty) xs with
    |some xs=>bif Nat.beq e el then((xs.length+ys.length)*b<=140737488355328/\K el ty (xs++ys))else False
    |none=>False
   |_,_=>False
  |none=>False
 |none=>False
theorem Ro{L:CS}{ty:Ty}{ys:List (El ty)}(h:yU P tx ty sv=Tc ys):lD P L tx ty sv=Tc ys:=by unfold yU at h;split at h;rename_i t xs;split at h;rename_i e b;simp only[lD,b,rowOf];exact h;cases h;rename_i t xs;split at h;rename_i e b;simp only[lD,b,rowOf];exact h;cases h;split at h;rename_i e b;simp only[lD,b];exact h;cases h;cases h
theorem F9{c:Nat}:∀{l:CS},ya c l=Ta->yf c l=l
 |[],_=>rfl
 |(j,k)::l,h=>by
  simp only[ya]at h;cases hb:(bif Nat.beq j c then Ta else hC c k)with
  |true=>rw[hb]at h;cases h
  |false=>rw[hb]at h;simp only[yf];rw[hb,zG,F9 h]
theorem su{c d:Nat}:∀{l:CS},ya c l=Ta->ya c (Wm d l)=Ta
 |[],_=>rfl
 |(j,k)::l,h=>by
  simp only[ya]at h;cases hb:(bif Nat.beq j c then Ta else hC c k)with
  |true=>rw[hb]at h;cases h
  |false=>
   rw[hb]at h;simp only[Wm];cases Nat.beq j d with
   |true=>exact su h
   |false=>simp only[zG,ya];rw[hb];exact su h
theorem EP{c:Nat×Ch}:∀{l:CS},c∈l->(∀x∈l,x.1=c.1->x.2=c.2)->Yd l c.1=Tc c.2
 |[],h,_=>by cases h
 |(j,k)::l,h,hu=>by
  simp only[Yd];cases hb:Nat.beq c.1 j with
  |true=>have:=YT hb;have:=hu (j,k) ZB this.symm;simp only at this;rw[zF,this]
  |false=>rw[zG];rcases YS.1 h with rfl|h;simp at hb;exact EP h λx b=>hu x (YU _ b)
theorem Nw{c:Call}(M:o.op=.call c)(S:c.callee=.builtin .append){s x:Operand}(f:c.args.toList=[s,x])(m:c.argTypes.toList=[t,tx]){p:TypeId}{A:Ty}{xs:List (El A)}{K:TypeId->(ty:Ty)->List (El ty)->Prop}
  (H:zM P tr t tx p A xs sv K):∃el ty ys,K el ty ys/\∀(γ:Gh) (h:zc) (a:Act) (L:CS) (l:Nat),Inv h0 W M0 L γ h->Yd L l=Tc (.row p A xs)->DenV γ (.g (.a (.own l))) (a.eval s)->DenV γ sv (a.eval x) -> ExA P (execOp a.eval o) h (gJ h0 W M0 [] γ λav q u=>av=.g (.a (.own d))/\q=(d,.row el ty ys)::yf d (Wm l L)/\u=Tc d):=by
 unfold zM at H;split at H;rename_i el w;split at H;rename_i ty C;split at H;rename_i b ys D z;split at H;rename_i n i;cases hee:Nat.beq p el with
 |false=>rw[hee]at H;exact H.elim
 |true=>
  rw[hee]at H;obtain⟨k,E⟩:=H;refine⟨el,ty,n++ys,E,λγ h a L l I J O Q=>?_⟩;have y:km P tr t tx (.g (.a (.own l))) sv d L [] (λav q u=>av=.g (.a (.own d))/\q=(d,.row el ty (n++ys))::yf d (Wm l L)/\u=Tc d):=by unfold km;rw[w];simp only;rw[C];simp only;rw[D,ZY,Ro z];simp only;rw[J];simp only;rw[i];simp only;rw[hee];first|exact⟨k,rfl,rfl,rfl⟩|exact⟨k,trivial,trivial,trivial⟩|exact⟨k,by simp⟩
  have:=F6 (ty':=o.type) y (by simpa using I) O Q;intro B e;obtain⟨v,N,h',r,G⟩:=this B e;refine .inl ⟨v,N,h',?_,G⟩;have F:execOp a.eval o=(YY c.argTypes o.type (c.args.map a.eval) >>= λx=>(zcf (zck x):Sem Next)):=by simp only[execOp,M,resolve,S];rfl
  rw[F,toList_eq f,toList_eq m];refine Jj ?_;simpa using r
 exact H.elim;exact H.elim;exact H.elim;exact H.elim
def w0(P:Program)(tr:TypeId)(o:Oper)(k:Nat)(e:qz)(b:List It)(cs:CS)(own:Bool)(K:AV->Option (Nat×Ch)->Option (Nat×Ch)->Prop):Prop:=
 match o.op,o.dst with
 |.buildSlice t n parts,some d=>bif own then(bif ya d cs then(match parts.toList with
  |[]=>yF P tr t n λch=>K (.g (.a (.own d))) (Tc (d,ch)) Td
  |_=>False)else False)else False
 |.call c,some d=>match c.callee,c.args.toList,c.argTypes.toList,mZ k b with
  |.builtin .append,[s,x],[t,tx],Tc (c0,.row e0 t0 xs)=>match fB e [] s,fB e [] x with
   |some (.g (.a (.own c1))),some sv=>bif Nat.beq c1 c0 then(bif ya d cs then zM P tr t tx e0 t0 xs sv (λel ty ys=>bif own then K (.g (.a (.own d))) (Tc (d,.row el ty ys)) (Tc (c0,.row e0 t0 xs))else K (.g (.a (.d (.row ty) ys))) Td (Tc (c0,.row e0 t0 xs)))else False)else False
   |_,_=>False
  |_,_,_,_=>False
 |_,_=>False
theorem Oh{k:Nat}{e:qz}{IL:List It}{own:Bool}{K:AV->Option (Nat×Ch)->Option (Nat×Ch)->Prop}(H:w0 P tr o k e IL cs own K):
  ∃nb eat av,Spec h0 W M0 P o e [] cs nb (· = av) eat/\K av nb eat/\∀c,eat=Tc c->mZ k IL=Tc c:=by
 unfold w0 at H;split at H;rename_i t n ae d ho w;cases own with
 |false=>exact H.elim
 |true=>
  simp only[zF]at H;cases hR:ya d cs with
  |false=>rw[hR]at H;exact H.elim
  |true=>rw[hR]at H;simp only[zF]at H;split at H;rename_i hp;obtain⟨el,ty,O,l⟩:=Rt (h0:=h0) (W:=W) (M0:=M0) (d:=d) ho hp H;refine⟨_,Td,_,⟨λn γ h a Y m I z _ _ _=>?_,λn γ a m p=>absurd trivial p,λb f=>?_,λl=>absurd rfl l⟩,O,λc q=>by cases q⟩;refine(l γ h a (Y++cs) I (z _ rfl)).mono ?_;rintro v h' ⟨av,C',c,γ',⟨rfl,rfl,rfl⟩,U,h3,h4⟩;exact⟨_,γ',rfl,U,h3,h4⟩;cases f;exact⟨hR,w,.inr ⟨⟨_,_,_,rfl⟩,rfl⟩⟩;exact H.elim
 ·rename_i c d ho w;split at H
  ·rename_i s x t tx c0 S Z xs q r F N;split at H
   ·rename_i c1 sv aa V;cases f:Nat.beq c1 c0 with
    |false=>rw[f]at H;exact H.elim
    |true=>
     obtain rfl:=YT f;rw[f]at H;simp only[zF]at H;cases hR:ya d cs with
     |false=>rw[hR]at H;exact H.elim
     |true=>
      rw[hR]at H;simp only[zF]at H;obtain⟨el,ty,ys,O,l⟩:=Nw (h0:=h0) (W:=W) (M0:=M0) (d:=d) ho q r F H;have run:∀(n:Nat) (γ:Gh) (h:zc) (a:Act) (Y:CS),SatA n e γ a->Inv h0 W M0 (Y++cs) γ h->(∀G,(Tc (c1,Ch.row S Z xs):Option (Nat×Ch))=Tc G->G∈Y++cs/\∀x∈Y++cs,x.1=G.1->x.2=G.2)->ya d (Y++cs)=Ta ->
        ExA P (execOp a.eval o) h λv h'=>∃γ',DenV γ' (.g (.a (.own d))) v/\Inv h0 W M0 ((d,.row el ty ys)::Wm c1 (Y++cs)) γ' h'/\Gx (Tc d) γ γ':=by
       intro n γ h a Y m I D z;obtain⟨h1,U⟩:=D _ rfl;have hf:=EP h1 U;refine(l γ h a (Y++cs) c1 I hf (qa m (c:=[]) trivial aa) (qa m (c:=[]) trivial V)).mono ?_;rintro v h' ⟨av,C',G,γ',⟨rfl,rfl,rfl⟩,E,u,y⟩;rw[ZY,F9 (su z)]at u;exact⟨γ',E,u,y⟩
      cases own with
      |true=>refine⟨Tc (d,.row el ty ys),Tc (c1,.row S Z xs),.g (.a (.own d)),⟨λn γ h a Y m I z D C _=>?_,λn γ a m p=>absurd trivial p,λb f=>?_,λ_=>⟨d,w,hR⟩⟩,O,λc q=>by cases q;exact N⟩;refine(run n γ h a Y m I D (z _ rfl)).mono ?_;rintro v h' ⟨γ',E,u,y⟩;exact⟨_,γ',rfl,E,u,y⟩;cases f;exact⟨hR,w,.inr ⟨⟨_,_,_,rfl⟩,rfl⟩⟩
      |false=>refine⟨Td,Tc (c1,.row S Z xs),.g (.a (.d (.row ty) ys)),⟨λn γ h a Y m I z D C _=>?_,λn γ a m p=>absurd trivial p,λb f=>(by cases f),λ_=>⟨d,w,hR⟩⟩,O,λc q=>by cases q;exact N⟩;have J:=C d w (by simp);refine(run n γ h a Y m I D J).mono ?_;rintro v h' ⟨γ',E,u,y⟩;obtain⟨B,Q,g2⟩:=Inv.freeze1 (A:=[]) u;have ab:Rd B.M (.row ty) ys [aK (B.σ d)]:=Q.den (d,.fz ty ys) (by simp);have p:v=aK (γ'.σ d):=E;have hσ:B.σ d=γ'.σ d:=(g2.2 d (by simp)).2;have L:=Ye (su (d:=c1) J);refine⟨_,{ B with β:=γ.β,σ:=γ.σ },rfl,?_,?_,⟨y.1.trans g2.1,λi _=>⟨rfl,rfl⟩⟩⟩;show Rd B.M (.row ty) ys [v];rw[p,<-hσ];exact ab;refine Q.rest (by simp[kZ]) (c:=Tc d) ⟨Fr.le.refl _,λi hi=>?_⟩ (λx l=>⟨(L x l).1,(L x l).2⟩) (λx l b f=>⟨rfl,(Q.sep x (by simp;exact .inr l) b f).2⟩) Q.ag (λ_ _ _=>rfl) (YM _) (λ_ _=>rfl);have a1:=y.2 i hi;have a2:=g2.2 i (by simp);exact⟨a1.1.symm.trans a2.1.symm,a1.2.symm.trans a2.2.symm⟩
   exact H.elim
  exact H.elim
 exact H.elim
def yl(ops:Array Oper)(m:Nat):List Nat:=j8 (ops.toList.take m)
def Y2(av:AV):List Nat->Bool
 |[]=>Ta
 |s::l=>bif iY s av then Tb else Y2 av l
theorem AX{av:AV}:∀{l:List Nat},Y2 av l=Ta->∀s∈l,iY s av=Tb
 |[],_,s,b=>by cases b
 |x::l,h,s,b=>by
  simp only[Y2]at h;cases hb:iY x av with
  |true=>rw[hb]at h;cases h
  |false=>rw[hb]at h;rcases YS.1 b with rfl|b;exact hb;exact AX h s b
def hO(S:List Nat):qz->qz
 |[]=>[]
 |(i,[],v)::e=>bif memN S i then hO S e else(bif Y2 v S then(i,[],v)::hO S e else hO S e)
 |(_,_::_,_)::e=>hO S e
theorem xh{S:List Nat}{x:Nat×qc×AV}:∀{e:qz},x∈hO S e->x∈e/\x.2.1=[]/\x.1∉S/\Y2 x.2.2 S=Ta
 |[],h=>by cases h
 |(i,[],v)::e,h=>by
  simp only[hO]at h;cases hm:memN S i with
  |true=>rw[hm]at h;exact⟨YU _ (xh h).1,(xh h).2⟩
  |false=>
   rw[hm]at h;simp only[zG]at h;cases hn:Y2 v S with
   |false=>rw[hn]at h;exact⟨YU _ (xh h).1,(xh h).2⟩
   |true=>rw[hn]at h;rcases YS.1 h with rfl|h;exact⟨ZB,rfl,Q2 hm,hn⟩;exact⟨YU _ (xh h).1,(xh h).2⟩
 |(_,_::_,_)::e,h=>⟨YU _ (xh (e:=e) h).1,(xh (e:=e) h).2⟩
def vS(ops:Array Oper)(o:Oper):qc->Bool
 |[]=>Ta
 |[(g,_)]=>match o.guard with
  |some (j,_)=>match yz ops j with
   |some g'=>Nat.beq g g'
   |none=>Tb
  |none=>Tb
 |_=>Tb
def DY:List Nat->Nat->Bool
 |[x],k=>Nat.beq x k
 |_,_=>Tb
def qN:List Nat->Nat->Bool
 |[],_=>Tb
 |x::l,k=>bif Nat.beq x k then Ta else qN l k
theorem HB{k:Nat}:∀{l:List Nat},qN l k=Ta->k∈l
 |[],h=>by cases h
 |x::l,h=>by
  simp only[qN]at h;cases hb:Nat.beq x k with
  |true=>rw[YT hb];exact ZB
  |false=>rw[hb]at h;exact YU _ (HB h)
def lz(ops:Array Oper)(m:Nat)(o:Oper)(k:Nat)(pl:Array Bool):Bool:=
 bif Nat.blt k m then(bif Q9 ops k (Zy ops o) m then(bif yx o then DY (Region.ready .any ops pl) k else qN (Region.ready .any ops pl) k)else Tb)else Tb
def oR(S:List Nat)(av:AV)(nb:Option (Nat×Ch)):Bool:=match nb with
 |none=>Y2 av S
 |some _=>Ta
def m4(pl:Array Bool):Nat->Bool
 |0=>Ta
 |k+1=>bif pl.getD k Tb then m4 pl k else Tb
theorem CQ{pl:Array Bool}:∀{m:Nat},m4 pl m=Ta->∀k,k<m->pl.getD k Tb=Ta
 |0,_,k,hk=>by omega
 |m+1,h,k,hk=>by
  simp only[m4]at h;cases hb:pl.getD m Tb with
  |false=>rw[hb]at h;cases h
  |true=>
   rw[hb]at h;rcases zad k m with h1|h1;exact CQ h k h1;have:k=m:=by omega
   subst this;exact hb
def sx(P:Program)(ρ:Operand->Option AV)(o:Oper):Bool:=bif jB o then(bif iT P o then(bif Y8 o.op then lR ρ o.op.operands.toList else Tb)else Tb)else Tb
def gX(P:Program)(e:qz)(c:qc)(o:Oper):Bool:=match o.op with
 |.pick _ _ _=>Ta
 |.move _=>Ta
 |.assign _=>Ta
 |.extract _ _=>Ta
 |.alloc _=>Tb
 |.box _ _=>Tb
 |.buildSlice _ _ _=>Tb
 |.call _=>Tb
 |.load _ _=>Tb
 |.indexAddr _ _ _=>Tb
 |_=>sx P (fB e c) o
theorem NY{e:qz}(h:gX P e c o=Ta):yx o=Tb:=by unfold yx;split;rename_i c b;rw[gX,b]at h;cases h;rfl
def nz(P:Program)(o:Oper)(e:qz)(ch:qc)(Kan:AV->Prop):Prop:=
 ∀av,Kan av->∀(n:Nat) (γ:Gh) (a:Act),SatA n e γ a->valid (qe a) ch->∃v,DenV γ av v/\∀w,(execOp a.eval o).run P w=.ok (.value v) w
theorem QExec.all{α:Type}{s:Sem α}{x:α}(H:∀h,QExec P s h x)(w:World):s.run P w=.ok x w:=H w.heap w w.drawn
theorem Mb{e:qz}{K:AV->Prop}(H:jX P gl o e c cs K)(A:gX P e c o=Ta):∃av,K av/\nz P o e c (· = av):=by
 unfold jX at H;split at H;rename_i x y z q;obtain⟨av,h1,D⟩:=Wt H;refine⟨av,h1,λr e' n γ a f k=>?_⟩;obtain⟨t,Q,M⟩:=D n γ a f k;subst e';refine⟨_,M,QExec.all λh B d=>?_⟩;simp only[execOp,q,Q,asBool,Sem.run_bind,Sem.run_pure,Result.andThen_ok];rename_i J;split at H;rename_i g I;unfold qA at H;split at H;rename_i b s;exact⟨_,H,λr e' n γ a f k=>⟨_,e' ▸ (show DenV γ (.g (.a (.v (.bool b)))) _ from rfl),QExec.all λh=>Ga s (λx av E=>qa f k E) h⟩⟩;split at H;rename_i b s;exact⟨_,H,λr e' n γ a f k=>⟨_,e' ▸ (show DenV γ (.g (.a (.v (.bool b)))) _ from rfl),QExec.all λh=>Ev s (λx av E=>qa f k E) h⟩⟩;split at H;rename_i t b off w;exfalso;unfold wO at w;split at w;rename_i t' x q;rw[gX,q]at A;cases A;cases w;split at H;rename_i b off n len z w;exfalso;unfold zR at w;split at w;rename_i t' x i q;rw[gX,q]at A;cases A;cases w;unfold sR at H;cases s:sx P (fB e c) o with
 |true=>
  unfold sx at s;rw[s]at H;cases hfam:jB o with
  |false=>rw[hfam]at s;cases s
  |true=>
   cases hq:iT P o with
   |false=>rw[hfam,hq]at s;cases s
   |true=>
    cases hns:Y8 o.op with
    |false=>rw[hfam,hq,hns]at s;cases s
    |true=>rw[hfam,hq,hns]at s;simp only[zF]at s H;obtain⟨v,h1,D⟩:=rE hfam H;refine⟨_,h1,λr e' n γ a f k=>⟨v,e' ▸ Js γ v,QExec.all λh=>?_⟩⟩;rw[Dx (γ:=γ) (λx av E=>qa f k E) hns s];exact D (Zd f I k) h ⟨by simp,λi hi=>absurd hi (by simp)⟩
 |false=>
  have F:=s;unfold sx at F;rw[F]at H;simp only[zG]at H;unfold gX at A;split at A;rename_i x y z q;exact absurd q (J x y z);rename_i x q;rw[q]at H;simp only at H;split at H;rename_i av m;exact⟨av,H,λr e' n γ a f k=>⟨_,e' ▸ qa f k m,QExec.all λh=>by simp only[execOp,q];exact QExec.pure _⟩⟩;exact H.elim;rename_i x q;rw[q]at H;simp only at H;split at H;rename_i av m;exact⟨av,H,λr e' n γ a f k=>⟨_,e' ▸ qa f k m,QExec.all λh=>by simp only[execOp,q];exact QExec.pure _⟩⟩;exact H.elim;rename_i x i q;rw[q]at H;simp only at H;split at H;rename_i l m;split at H;rename_i ag G;refine⟨_,H,λr e' n γ a f k=>?_⟩;subst e';obtain⟨us,C,D⟩:=qa f k m;obtain⟨u,O,L⟩:=D.get G;refine⟨u,L,QExec.all λh=>?_⟩;simp only[execOp,q,C];refine QExec.val λB d=>?_;unfold Instr.extract;simp[O];exact H.elim;rename_i b p c m;split at H;refine⟨_,H,λr e' n γ a f k=>⟨_,e' ▸ (show DenV γ (.g (.a (.v (.bool b)))) _ from rfl),QExec.all λh=>?_⟩⟩;obtain⟨C,N⟩:=qa f k m;simp only[execOp,q];refine QExec.val λB d=>?_;cases b with
  |true=>rw[C rfl];rfl
  |false=>rw[N rfl];rfl
  refine⟨_,H.2,λr e' n γ a f k=>⟨_,e' ▸ (show DenV γ (.g (.a (.v (.int .i64 p)))) _ from rfl),QExec.all λh=>?_⟩⟩;obtain⟨C,_⟩:=qa f k m;simp only[execOp,q,C (H.1.out (Zd f I k))];exact QExec.val λB d=>rfl;refine⟨_,H.2,λr e' n γ a f k=>⟨_,e' ▸ (show DenV γ (.g (.a (.v (.int .i32 c)))) _ from rfl),QExec.all λh=>?_⟩⟩;obtain⟨C,_⟩:=qa f k m;simp only[execOp,q,C (H.1.out (Zd f I k))];exact QExec.val λB d=>rfl;exact H.elim;exact H.elim;cases A;cases A;cases A;cases A;cases A;cases A;rw[s]at A;cases A
 exact H.elim
theorem OO{e:qz}{ch:qc}{K:AV->Option (Nat×Ch)->Prop}(H:nY P gl tr o e ch cs K)(f:gX P e ch o=Ta):
  ∃av,Spec h0 W M0 P o e ch cs Td (· = av)/\K av Td/\nz P o e ch (· = av):=by
 have u:jX P gl o e ch cs λav=>K av Td:=by unfold nY at H;split at H;rename_i t i;rw[gX,i]at f;cases f;rename_i t x i;rw[gX,i]at f;cases f;rename_i t n ps i;rw[gX,i]at f;cases f;rename_i c i;rw[gX,i]at f;cases f;exact H
 obtain⟨av,h1,k⟩:=Mb u f;refine⟨av,⟨λn γ h a Y l I _ _ _ m=>?_,λn γ a l m=>⟨rfl,rfl,av,rfl⟩,λb q=>(by cases q),λr=>absurd rfl r⟩,h1,k⟩;obtain⟨v,p,s⟩:=k av rfl n γ a l m;exact λB d=>.inl ⟨v,d,h,s _,av,γ,rfl,p,I,Gx.refl _ _⟩
def wH(ops:Array Oper)(k:Nat)(o:Oper)(j:Nat):Bool:=bif Nat.beq j k then Ta else bif Region.waitsFor .any ops j k then Ta else bif Region.waitsFor .any ops k j then Ta else match ops[j]? with
 |some b=>o.apart ops b
 |none=>Ta
def lj(ops:Array Oper)(k:Nat)(o:Oper):Nat->Bool
 |0=>Ta
 |j+1=>bif wH ops k o j then lj ops k o j else Tb
theorem Dh{ops:Array Oper}{k:Nat}{o:Oper}:∀{n:Nat},lj ops k o n=Ta->∀j c,j<n->ops[j]?=Tc c->j≠k->Region.waitsFor .any ops j k=Tb->Region.waitsFor .any ops k j=Tb->o.apart ops c=Ta
 |0,_,j,c,hj,_,_,_,_=>by omega
 |n+1,h,j,c,hj,ho,h1,h2,h3=>by
  simp only[lj]at h;cases hx:wH ops k o n with
  |false=>rw[hx]at h;cases h
  |true=>
   rw[hx]at h;rcases zad j n with b|b;exact Dh h j c b ho h1 h2 h3;have:j=n:=by omega
   subst this;have e:Nat.beq j k=Tb:=by
    cases hb:Nat.beq j k with
    |false=>rfl
    |true=>exact absurd (YT hb) h1
   unfold wH at hx;rw[e,h2,h3,ho]at hx;exact hx
def vW(P:Program)(ops:Array Oper)(pu:List Nat)(o:Oper)(k:Nat)(e:qz)(ch:qc):Bool:=
 bif memN pu k then(bif gX P e ch o then lj ops k o ops.size else Tb)else Ta
def zJ(ops:Array Oper)(m k:Nat):Option Nat->Bool
 |none=>Ta
 |some j=>bif Nat.blt j m then Region.waitsFor .any ops j k else Tb
def uC(pu:List Nat)(k:Nat):Option (Option Nat):=bif memN pu k then Td else qJ pu k
def lB:List It->List It
 |[]=>[]
 |i::l=>(match i.us with
  |some _=>{ i with nb:=Td }
  |none=>i)::lB l
def dW(P:Program)(gl:Fr)(tr:TypeId)(n:Nat)(ops:Array Oper)(m:Nat)(pu:List Nat)(b:qz)(cs:CS)(Kt:List It->Prop):List Nat->Array Bool->List It->Prop
 |[],pl,IL=>bif m4 pl m then Kt (lB IL)else False
 |k::ord,pl,IL=>match ops[k]? with
  |none=>False
  |some o=>bif lz ops m o k pl then(match Y0 ops (Xs (Zy ops o) (fI IL++b)) o.guard with
   |some ch=>bif vS ops o ch then(bif wh n ch o.dst then(bif vW P ops pu o k (Xs (Zy ops o) (fI IL++b)) ch then(match uC pu k with
    |none=>nY P gl tr o (Xs (Zy ops o) (fI IL++b)) ch cs (λav nb=>bif oR (yl ops m) av nb then dW P gl tr n ops m pu b cs Kt ord (pl.setIfInBounds k Ta) (⟨k,o.dst,ch,av,nb,Td⟩::IL)else False)
    |some us=>bif zJ ops m k us then(match ch with
     |[]=>w0 P tr o k (Xs (Zy ops o) (fI IL++b)) IL cs us.isSome (λav nb _=>bif oR (yl ops m) av nb then dW P gl tr n ops m pu b cs Kt ord (pl.setIfInBounds k Ta) (⟨k,o.dst,[],av,nb,us⟩::IL)else False)
     |_=>False)else False)else False)else False)else False
   |none=>False)else False
def strip(listed:Array Bool)(i:It):It:=match i.us with
 |some j=>bif listed.getD j Tb then { i with nb:=Td } else i
 |none=>i
theorem mc(listed:Array Bool)(i:It):(strip listed i).k=i.k/\(strip listed i).dst=i.dst/\(strip listed i).ch=i.ch/\(strip listed i).av=i.av/\(strip listed i).us=i.us/\((strip listed i).nb=i.nb\/(strip listed i).nb=Td):=by
 unfold strip;split;cases listed.getD _ Tb with
 |true=>exact⟨rfl,rfl,rfl,rfl,rfl,.inr rfl⟩
 |false=>exact⟨rfl,rfl,rfl,rfl,rfl,.inl rfl⟩
 exact⟨rfl,rfl,rfl,rfl,rfl,.inl rfl⟩
def fv(k:Nat)(i:It):It:=match i.us with
 |some j=>bif Nat.beq j k then { i with nb:=Td } else i
 |none=>i
theorem tV(k:Nat)(i:It):(fv k i).k=i.k/\(fv k i).dst=i.dst/\(fv k i).ch=i.ch/\(fv k i).av=i.av/\(fv k i).us=i.us/\((fv k i).nb=i.nb\/(fv k i).nb=Td):=by
 unfold fv;split;cases Nat.beq _ k with
 |true=>exact⟨rfl,rfl,rfl,rfl,rfl,.inr rfl⟩
 |false=>exact⟨rfl,rfl,rfl,rfl,rfl,.inl rfl⟩
 exact⟨rfl,rfl,rfl,rfl,rfl,.inl rfl⟩
def Qi(listed:Array Bool):List It->List It
 |[]=>[]
 |i::l=>bif listed.getD i.k Tb then strip listed i::Qi listed l else Qi listed l
theorem rZ{listed:Array Bool}{i:It}:∀{l:List It},i∈l->listed.getD i.k Tb=Ta->strip listed i∈Qi listed l
 |j::l,h,hl=>by
  simp only[Qi];rcases YS.1 h with rfl|h;rw[hl];exact ZB;cases listed.getD j.k Tb with
  |true=>exact YU _ (rZ h hl)
  |false=>exact rZ h hl
theorem Wx{listed:Array Bool}{x:It}:∀{l:List It},x∈Qi listed l->∃i∈l,listed.getD i.k Tb=Ta/\x=strip listed i
 |j::l,h=>by
  simp only[Qi]at h;cases hl:listed.getD j.k Tb with
  |true=>rw[hl]at h;rcases YS.1 h with rfl|h;exact⟨j,ZB,hl,rfl⟩;obtain⟨i,hi,q⟩:=Wx h;exact⟨i,YU _ hi,q⟩
  |false=>rw[hl]at h;obtain⟨i,hi,q⟩:=Wx h;exact⟨i,YU _ hi,q⟩
structure ItOK (h0:zc) (W:Nat->Prop) (M0:Fr) (P:Program) (n:Nat) (ops:Array Oper) (m:Nat) (pu:List Nat) (e0:qz) (cs:CS) (IL:List It) (it:It) (Kan:AV->Prop):Prop where
 lt:it.k<m
 dst:yz ops it.k=it.dst
 ok:wh n it.ch it.dst=Ta
 chw:∀x∈it.ch,∀p,p<m->yz ops p=Tc x.1->Region.waitsFor .any ops it.k p=Ta
 ex:∃o e eat,ops[it.k]?=Tc o/\Y0 ops e o.guard=Tc it.ch/\Spec h0 W M0 P o e it.ch cs it.nb Kan eat /\
  (∀x∈e,x∈e0\/(x∈fI IL/\∀p,p<m->yz ops p=Tc x.1->Region.waitsFor .any ops it.k p=Ta)) /\
  (memN pu it.k=Ta->it.nb=Td/\nz P o e it.ch Kan/\lj ops it.k o ops.size=Ta/\yx o=Tb) /\
  (∀c,eat=Tc c->∃i∈IL,i.nb=Tc c/\i.us=Tc it.k)
 use:∀j,it.us=Tc j->j<m/\Region.waitsFor .any ops j it.k=Ta
 men:∀av,Kan av->it.nb=Td->Y2 av (yl ops m)=Ta
theorem ItOK.mono{k:qz}{p b:List It}{r:It}{Kan:AV->Prop}(H:ItOK h0 W M0 P n ops m pu k cs p r Kan)(l:∀i∈p,i∈b):ItOK h0 W M0 P n ops m pu k cs b r Kan:= {lt:=H.lt,dst:=H.dst,ok:=H.ok,chw:=H.chw,men:=H.men,use:=H.use,ex:=by obtain⟨o,e,eat,h1,s,t,y,h,f⟩:=H.ex;refine⟨o,e,eat,h1,s,t,λx u=>(y x u).imp id λ⟨z,w⟩=>⟨?_,w⟩,h,λc A=>by obtain⟨i,hi,q⟩:=f c A;exact⟨i,l i hi,q⟩⟩;obtain⟨i,hi,q⟩:=kQ.1 z;exact kQ.2 ⟨i,l i hi,q⟩ }
theorem Qd{i p:Nat}(hi:i∈Region.ready .any ops listed)(h:Region.waitsFor .any ops i p=Ta):listed.getD p Tb=Ta:=by obtain⟨n,f,e,l,m,c⟩:=Region.waitsFor_spec h;obtain⟨_,o,k,b⟩:=mem_ready.1 hi;have:n=o:=ZS (f.symm.trans k);subst this;rw[<-c];exact b e l m
structure Mid (h0:zc) (W:Nat->Prop) (M0:Fr) (P:Program) (n:Nat) (ops:Array Oper) (m:Nat) (e0:qz) (cs:CS) (listed:Array Bool) (IL:List It) (γ:Gh) (a:Act) (h:zc):Prop where
 sat:SatA n (fI (Qi listed IL)++e0) γ a
 inv:Inv h0 W M0 (cK (Qi listed IL)++cs) γ h
theorem Wy{k:Nat}(h:ops[k]?=Tc o):yz ops k=o.dst:=by simp[yz,h]
theorem uH{m k t:Nat}(e:k<m)(h:yz ops k=Tc t):t∈yl ops m:=by
 unfold yz at h;split at h;rename_i o f;unfold yl;have b:o∈ops.toList.take m:=by rw[zce];exact⟨k,by rw[ZQ,zb e];simpa using f⟩
 generalize ops.toList.take m=l at b;induction l with
 |nil=>cases b
 |cons x l c=>simp only[j8];rcases YS.1 b with rfl|b;rw[h];exact ZB;split;exact YU _ (c b);exact c b
 cases h
theorem oG{x:Nat×Ch}:∀{l:List It},x∈cK l↔∃i∈l,i.nb=Tc x
 |[]=>by simp[cK]
 |i::l=>by simp only[cK];split;rename_i b e;rw[YS,oG (l:=l)];constructor;rintro(rfl|⟨j,c,h⟩);exact⟨i,ZB,e⟩;exact⟨j,YU _ c,h⟩;rintro⟨j,c,h⟩;rcases YS.1 c with rfl|c;left;rw[e]at h;exact(ZS h).symm;exact .inr ⟨j,c,h⟩;rename_i e;rw[oG (l:=l)];constructor;rintro⟨j,c,h⟩;exact⟨j,YU _ c,h⟩;rintro⟨j,c,h⟩;rcases YS.1 c with rfl|c;rw[e]at h;cases h;exact⟨j,c,h⟩
theorem C3{c:Nat}:∀{l:CS},(∀x∈l,x.1≠c/\hC c x.2=Tb)->ya c l=Ta
 |[],_=>rfl
 |(j,k)::l,h=>by
  obtain⟨h1,b⟩:=h _ ZB;simp only[ya];have:Nat.beq j c=Tb:=by
   cases hb:Nat.beq j c with
   |false=>rfl
   |true=>exact absurd (YT hb) h1
  rw[this,b];exact C3 λx e=>h x (YU _ e)
theorem CJ{e0:qz}(af:Jk ops m=Ta)(aP:∀x∈e0,x.2.1=[]/\x.1∉yl ops m/\Y2 x.2.2 (yl ops m)=Ta)
  {w:List It} (H:∀i∈w,∃Kan,ItOK h0 W M0 P n ops m pu e0 cs w i Kan/\Kan i.av) (ax:∀i∈w,∀j∈w,i.k=j.k->i=j) (be:HeadInv .any ops m listed) (M:Mid h0 W M0 P n ops m e0 cs listed w γ a h)
  {r:It} {Kan:AV->Prop} (T:ItOK h0 W M0 P n ops m pu e0 cs w r Kan) (hr:r.k∈Region.ready .any ops listed):
  ∃o e eat,ops[r.k]?=Tc o/\o.dst=r.dst/\SatA n e γ a/\Y0 ops e o.guard=Tc r.ch/\Spec h0 W M0 P o e r.ch cs r.nb Kan eat/\(memN pu r.k=Ta->r.nb=Td/\nz P o e r.ch Kan/\lj ops r.k o ops.size=Ta/\yx o=Tb) /\
   (∀b,r.nb=Tc b->ya b.1 (cK (Qi listed w)++cs)=Ta) /\
   (∀c,eat=Tc c->c∈cK (Qi listed w)++cs/\∀x∈cK (Qi listed w)++cs,x.1=c.1->x.2=c.2)/\(∀d,o.dst=Tc d->eat≠Td->ya d (cK (Qi listed w)++cs)=Ta) /\
   ∀av u γ' h',Kan av->(valid (qe a) r.ch->DenV γ' av u)->(¬valid (qe a) r.ch->u=undef)->Inv h0 W M0 (r.nb.toList++kZ eat (cK (Qi listed w)++cs)) γ' h'->Gx (r.nb.map (·.1)) γ γ' ->
    ∀L':List It,L'.Perm ({ r with av:=av }::(Qi listed w).map (fv r.k))->SatA n (fI L'++e0) γ' (a.put r.dst u)/\Inv h0 W M0 (cK L'++cs) γ' h':=by
 obtain⟨o,e,eat,ho,aH,sp,aE,aM,Y⟩:=T.ex
 have ah:o.dst=r.dst:=by rw[<-Wy ho];exact T.dst
 have az:listed.getD r.k Ta=Tb:=(mem_ready.1 hr).1
 have ak:SatA n e γ a:=M.sat.sub λx t=>by
  rcases aE x t with h1|⟨h1,L⟩
  ·exact ZL _ h1
  ·refine YZ _ ?_
   obtain⟨i,hi,q⟩:=kQ.1 h1
   obtain⟨Ki,G,_⟩:=H i hi
   have hw:=L i.k G.lt (by rw[G.dst];exact q.1)
   obtain⟨f1,f2,f3,f4,_⟩:=mc listed i
   exact kQ.2 ⟨strip listed i,rZ hi (Qd hr hw),by rw[f2];exact q.1,by rw[f3];exact q.2.1,by rw[f4];exact q.2.2⟩
 have hw:=Zl ak aH
 have ai:∀i∈Qi listed w,i.k≠r.k:=by
  intro x hi e
  obtain⟨i,C,this,rfl⟩:=Wx hi
  rw[(mc listed i).1]at e
  rw[e]at this
  have L:=getD_both az
  rw[L]at this
  cases this
 have am:∀d,o.dst=Tc d->ya d cs=Ta->ya d (cK (Qi listed w)++cs)=Ta:=by
  intro d L h1
  refine C3 λx t=>?_
  rcases ZG.1 t with t|t
  ·obtain⟨i',hi,A⟩:=oG.1 t
   obtain⟨i,C,ab,rfl⟩:=Wx hi
   have aa:=ai _ hi
   obtain⟨f1,_,_,_,_,F⟩:=mc listed i
   have z:i.nb=Tc x:=by
    rcases F with F|F
    ·rw[<-F];exact A
    ·rw[F]at A;cases A
   obtain⟨Ki,G,au⟩:=H i C
   obtain⟨oi,ei,aN,S,_,U,_,_⟩:=G.ex
   obtain⟨_,h4,Q⟩:=U.box x z
   refine⟨λe=>aa ?_,?_⟩
   ·rw[f1]
    refine jw af i.k r.k d G.lt T.lt ?_ (by rw[T.dst,<-ah];exact L)
    rw[Wy S,h4,e]
   ·rcases Q with⟨⟨l,Q,h6⟩,_⟩|⟨⟨e',t',bh,Q⟩,_⟩
    ·rw[Q];exact Q3 h6
    ·rw[Q];rfl
  ·obtain⟨e1,e2⟩:=Ye h1 x t
   exact⟨λe=>e1 (by rw[e]),e2⟩
 have aL:∀b,r.nb=Tc b->ya b.1 (cK (Qi listed w)++cs)=Ta:=by
  intro b E
  obtain⟨h1,L,_⟩:=sp.box b E
  exact am b.1 L h1
 have aT:∀d,o.dst=Tc d->eat≠Td->ya d (cK (Qi listed w)++cs)=Ta:=by
  intro d hd he
  obtain⟨d',aU,hn⟩:=sp.dn he
  have:d'=d:=ZS (aU.symm.trans hd)
  subst this
  exact am d' hd hn
 have aG:∀c,eat=Tc c->∀i∈w,∀b,i.nb=Tc b->b.1=c.1->i.us=Tc r.k/\b=c:=by
  intro c B i hi b E e1
  obtain⟨Z,J,I,N⟩:=Y c B
  obtain⟨Ki,G,_⟩:=H i hi
  obtain⟨K3,T3,_⟩:=H Z J
  obtain⟨oi,ei,aN,S,_,U,_⟩:=G.ex
  obtain⟨o3,e3,aV,aI,_,ay,_⟩:=T3.ex
  obtain⟨_,d1,_⟩:=U.box b E
  obtain⟨_,d3,_⟩:=ay.box c I
  have hk:i.k=Z.k:=jw af i.k Z.k c.1 G.lt T3.lt (by rw[Wy S,d1,e1]) (by rw[Wy aI,d3])
  have:i=Z:=ax i hi Z J hk
  subst this
  exact⟨N,ZS (E.symm.trans I)⟩
 have aJ:∀c,eat=Tc c->ya c.1 cs=Ta:=by
  intro c B
  obtain⟨Z,J,I,N⟩:=Y c B
  obtain⟨K3,T3,_⟩:=H Z J
  obtain⟨o3,e3,aV,aI,_,ay,_⟩:=T3.ex
  exact(ay.box c I).1
 have a7:∀x∈cK (Qi listed w),∃i∈w,i.nb=Tc x:=by
  intro x t
  obtain⟨i',hi,A⟩:=oG.1 t
  obtain⟨i,C,ab,rfl⟩:=Wx hi
  rcases(mc listed i).2.2.2.2.2 with F|F
  ·exact⟨i,C,by rw[<-F];exact A⟩
  ·rw[F]at A;cases A
 have an:∀c,eat=Tc c->c∈cK (Qi listed w)++cs/\∀x∈cK (Qi listed w)++cs,x.1=c.1->x.2=c.2:=by
  intro c B
  refine⟨YZ _ ?_,λx t e=>?_⟩
  ·obtain⟨Z,J,I,N⟩:=Y c B
   obtain⟨K3,T3,_⟩:=H Z J
   have hw:=(T3.use _ N).2
   have hl:=Qd hr hw
   refine oG.2 ⟨strip listed Z,rZ J hl,?_⟩
   unfold strip
   rw[N]
   simp only
   rw[getD_both az]
   exact I
  ·rcases ZG.1 t with t|t
   ·obtain⟨i,hi,z⟩:=a7 x t
    rw[(aG c B i hi x z e).2]
   ·exact absurd (by rw[e]) (Ye (aJ c B) x t).1
 refine⟨o,e,eat,ho,ah,ak,aH,sp,aM,aL,an,aT,?_⟩
 ·intro av u γ' h' bg hy hn I' g L' hp
  refine⟨?_,?_⟩
  ·refine⟨by rw[x7];exact M.sat.defers,by rw[size_put];exact M.sat.size,λx t=>?_⟩
   have old:∀x:Nat×qc×AV,x∈fI (Qi listed w)++e0->(∀s,r.dst=Tc s->x.1≠s/\mentions x.2.1 s=Tb)->iy iY (r.nb.map (·.1)) x.2.2=Tb->jH γ' (qe (a.put r.dst u)) x:=by
    intro x t hs hm
    have hf:=M.sat.all x t
    cases hd:r.dst with
    |none=>
     exact⟨λhv=>(hf.1 hv).gx g hm,hf.2⟩
    |some s=>
     obtain⟨h1,L⟩:=hs s hd
     have hv:=Zv (σ:=qe (a.put (Tc s) u)) (τ:=qe a) L (λj hj=>qt hj)
     refine⟨λB=>?_,λB=>?_⟩
     ·rw[qt h1];exact(hf.1 (hv.1 B)).gx g hm
     ·exact(qt h1).trans (hf.2 λar=>B (hv.2 ar))
   have aC:∀s,r.dst=Tc s->s∈yl ops m:=λs hs=>uH T.lt (by rw[T.dst];exact hs)
   have aj:∀aA,(Y2 aA (yl ops m)=Ta)->iy iY (r.nb.map (·.1)) aA=Tb:=by
    intro aA h1
    cases z:r.nb with
    |none=>rfl
    |some b=>
     obtain⟨_,L,_⟩:=sp.box b z
     exact AX h1 b.1 (aC _ (by rw[<-ah];exact L))
   rcases ZG.1 t with t|t
   ·obtain⟨i,hi,I,N,q3⟩:=kQ.1 t
    rcases YS.1 (hp.subset hi)with rfl|O
    ·-- the new fact
     simp only at I N q3
     have aB:x.1<a.tmps.size:=by
      rw[M.sat.size]
      have:=T.ok
      rw[I]at this
      simp only[wh]at this
      cases hm:mentions r.ch x.1 with
      |true=>rw[hm]at this;cases this
      |false=>rw[hm]at this;simpa[zbj]using this
     have aF:mentions r.ch x.1=Tb:=by
      have:=T.ok
      rw[I]at this
      simp only[wh]at this
      cases hm:mentions r.ch x.1 with
      |true=>rw[hm]at this;cases this
      |false=>rfl
     rw[I]
     have hv:=Zv (σ:=qe (a.put (Tc x.1) u)) (τ:=qe a) aF (λj hj=>qt hj)
     refine⟨λB=>?_,λB=>?_⟩
     ·rw[xo aB,<-q3];rw[<-N]at B;exact hy (hv.1 B)
     ·rw[xo aB];rw[<-N]at B;exact hn λar=>B (hv.2 ar)
    ·obtain⟨i1,aO,rfl⟩:=za6.1 O
     obtain⟨c1,c2,c3,c4,_⟩:=tV r.k i1
     rw[c2]at I
     rw[c3]at N
     rw[c4]at q3
     have O:=aO
     obtain⟨i,C,ab,rfl⟩:=Wx O
     obtain⟨f1,f2,f3,f4,_⟩:=mc listed i
     have a1:=kQ.2 ⟨strip listed i,O,I,N,q3⟩
     rw[f2]at I
     rw[f3]at N
     rw[f4]at q3
     have aa:i.k≠r.k:=by rw[<-f1];exact ai _ O
     obtain⟨Ki,G,au⟩:=H i C
     obtain⟨oi,ei,aN,S,_,U,_,_⟩:=G.ex
     refine old x (YZ _ a1) (λs hs=>⟨λe=>aa ?_,?_⟩) ?_
     ·exact jw af i.k r.k s G.lt T.lt (by rw[G.dst,I,e]) (by rw[T.dst];exact hs)
     ·cases hm:mentions x.2.1 s with
      |false=>rfl
      |true=>
       exfalso
       rw[<-N]at hm
       have:∃y∈i.ch,y.1=s:=by
        have key:∀c:qc,mentions c s=Ta->∃y∈c,y.1=s:=by
         intro c
         induction c with
         |nil=>intro h;cases h
         |cons y c D=>
          intro h
          obtain⟨g,p⟩:=y
          simp only[mentions]at h
          cases E:Nat.beq s g with
          |true=>exact⟨(g,p),ZB,(YT E).symm⟩
          |false=>
           rw[E]at h
           obtain⟨y,hy,e⟩:=D h
           exact⟨y,YU _ hy,e⟩
        exact key _ hm
       obtain⟨y,ba,a6⟩:=this
       have a8:=G.chw y ba r.k T.lt (by rw[T.dst,hs,a6])
       obtain⟨oj,aY,e',aS,aZ,aQ⟩:=Region.waitsFor_spec a8
       have:=be.closed i.k oj aY ab e' aS aZ
       rw[aQ,getD_both az]at this
       cases this
     ·rw[<-q3]
      cases hnbi:i.nb with
      |none=>exact aj _ (G.men _ au hnbi)
      |some bi=>
       obtain⟨_,h4,Q⟩:=U.box bi hnbi
       have V:i.av=.g (.a (.box bi.1 0))\/i.av=.g (.a (.own bi.1)):=by
        have:=au
        rcases Q with⟨_,Q⟩|⟨_,Q⟩
        ·rw[Q]at this;exact .inl this
        ·rw[Q]at this;exact .inr this
       cases z:r.nb with
       |none=>rfl
       |some b=>
        obtain⟨_,L,_⟩:=sp.box b z
        have:Nat.beq bi.1 b.1=Tb->iy iY (Option.map (λx=>x.fst) (Tc b)) i.av=Tb:=λhq=>by
         rcases V with V|V
         ·rw[V];exact hq
         ·rw[V];exact hq
        apply this
        cases E:Nat.beq bi.1 b.1 with
        |false=>rfl
        |true=>
         exfalso
         have:=YT E
         exact aa (jw af i.k r.k b.1 G.lt T.lt (by rw[Wy S,h4,this]) (by rw[T.dst,<-ah];exact L))
   ·obtain⟨b1,b2,b3⟩:=aP x t
    exact old x (ZL _ t) (λs hs=>⟨λe=>b2 (e ▸ aC s hs),by rw[b1];rfl⟩) (aj _ b3)
  ·have e1:cK ({ r with av:=av }::(Qi listed w).map (fv r.k))=r.nb.toList++cK ((Qi listed w).map (fv r.k)):=by
    simp only[cK]
    cases r.nb <;> rfl
   have ap:∀{l l':List It},l.Perm l'->(cK l).Perm (cK l'):=by
    intro l l' hp
    induction hp with
    |nil=>exact .nil
    |cons x p D=>simp only[cK];split;exact D.cons _;exact D
    |swap x y l=>
     simp only[cK]
     split <;> split <;> first|exact .swap _ _ _|exact .refl _
    |trans _ _ i1 i2=>exact i1.trans i2
   have sub:(cK ((Qi listed w).map (fv r.k))++cs).Sublist (kZ eat (cK (Qi listed w)++cs)):=by
    have s0:∀l:List It,(cK (l.map (fv r.k))).Sublist (cK l):=by
     intro l
     induction l with
     |nil=>exact .slnil
     |cons x l D=>
      simp only[zae,cK]
      rcases(tV r.k x).2.2.2.2.2 with f|f
      ·rw[f]
       split
       ·exact D.cons_cons _
       ·exact D
      ·rw[f]
       simp only
       split
       ·exact D.cons _
       ·exact D
    cases he:eat with
    |none=>exact(s0 _).append_right cs
    |some c=>
     show(_:CS).Sublist (Wm c.1 (cK (Qi listed w)++cs))
     have hd:Wm c.1 (cK (Qi listed w)++cs)=Wm c.1 (cK (Qi listed w))++cs:=by
      have ha:∀l m:CS,Wm c.1 (l++m)=Wm c.1 l++Wm c.1 m:=by
       intro l m
       induction l with
       |nil=>rfl
       |cons x l D=>
        simp only[zaq,Wm]
        cases Nat.beq x.1 c.1 with
        |true=>exact D
        |false=>simp only[zG,D,zaq]
      have E:∀l:CS,(∀x∈l,x.1≠c.1)->Wm c.1 l=l:=by
       intro l
       induction l with
       |nil=>intro _;rfl
       |cons x l D=>
        intro t
        simp only[Wm]
        cases hq:Nat.beq x.1 c.1 with
        |true=>exact absurd (YT hq) (t x ZB)
        |false=>rw[zG,D λy hy=>t y (YU _ hy)]
      rw[ha,E cs λx t e=>(Ye (aJ c he) x t).1 (by rw[e])]
     rw[hd]
     refine List.Sublist.append_right ?_ cs
     have s1:∀l:List It,(∀i∈l,∀b,i.nb=Tc b->b.1=c.1->i.us=Tc r.k)->(cK (l.map (fv r.k))).Sublist (Wm c.1 (cK l)):=by
      intro l
      induction l with
      |nil=>intro _;exact .slnil
      |cons x l D=>
       intro hl
       have ae:=D λi hi=>hl i (YU _ hi)
       simp only[zae,cK]
       cases z:x.nb with
       |none=>
        have:(fv r.k x).nb=Td:=by
         rcases(tV r.k x).2.2.2.2.2 with f|f
         ·rw[f,z]
         ·exact f
        rw[this]
        exact ae
       |some b=>
        simp only[Wm]
        cases hq:Nat.beq b.1 c.1 with
        |true=>
         have hu:=hl x ZB b z (YT hq)
         have:(fv r.k x).nb=Td:=by
          unfold fv
          rw[hu]
          simp
         rw[this,zF]
         exact ae
        |false=>
         rw[zG]
         rcases(tV r.k x).2.2.2.2.2 with f|f
         ·rw[f,z];exact ae.cons_cons _
         ·rw[f];exact ae.cons _
     refine s1 _ λx t b E e=>?_
     obtain⟨i,C,ab,rfl⟩:=Wx t
     obtain⟨_,_,_,_,f5,F⟩:=mc listed i
     rw[f5]
     rcases F with F|F
     ·exact(aG c he i C b (by rw[<-F];exact E) e).1
     ·rw[F]at E;cases E
   have I2:Inv h0 W M0 (r.nb.toList++(cK ((Qi listed w).map (fv r.k))++cs)) γ' h':=I'.sub (sub.append_left _)
   rw[<-zbh,<-e1]at I2
   exact I2.perm ((ap hp.symm).append_right cs)
theorem Bq{t:qz}{Q:Exit->Act->World->Prop}(H:Jk ops m=Ta)(D:∀x∈t,x.2.1=[]/\x.1∉yl ops m/\Y2 x.2.2 (yl ops m)=Ta) {f:List It} (F:∀i∈f,∃Kan,ItOK h0 W M0 P n ops m pu t cs f i Kan/\Kan i.av) (p:∀i∈f,∀j∈f,i.k=j.k->i=j) (L:HeadInv .any ops m listed) (M:Mid h0 W M0 P n ops m t cs listed f γ a h) {c:It} {Kan:AV->Prop} (T:ItOK h0 W M0 P n ops m pu t cs f c Kan) (hr:c.k∈Region.ready .any ops listed) {O:Act->World->Prop} (B:World) (d:Nat) (S:∀av u γ' h' G,Kan av->(∀E:List It,E.Perm ({ c with av:=av }::(Qi listed f).map (fv c.k))->SatA n (fI E++t) γ' (a.put c.dst u)/\Inv h0 W M0 (cK E++cs) γ' h')->Gx (c.nb.map (·.1)) γ γ'->O (a.put c.dst u) (mk B G h')):
  wpOp P ops Q c.k O a (mk B d h):=by
 obtain⟨o,e,eat,ho,C,b,N,sp,Y,w,r,I,fin⟩:=CJ H D F p L M T hr;have U:=Zl b N;unfold wpOp;rw[ho];simp only;by_cases s:valid (qe a) c.ch;rw[zb (U.2 s)];left;have J:=sp.yes n γ h a (cK (Qi listed f)) b M.inv w r I s;refine(ExA.upon J B d ?_);rintro v G h' ⟨av,γ',V,Z,g3,z⟩;rw[C];exact S av v γ' h' G V (fin av v γ' h' V (λ_=>Z) (λq=>absurd s q) g3 z) z;rw[za λJ=>s (U.1 J)];obtain⟨A,y,av,l⟩:=sp.no n γ a b s;rw[C];have z:Gx (c.nb.map (·.1)) γ γ:=by rw[A];exact Gx.refl _ _
 exact S av undef γ h d l (fin av undef γ h l (λq=>absurd q s) (λ_=>rfl) (by rw[A,y];exact M.inv) z) z
theorem I4{C:qz}{Q:Exit->Act->World->Prop}(ah:Jk ops m=Ta)(O:∀x∈C,x.2.1=[]/\x.1∉yl ops m/\Y2 x.2.2 (yl ops m)=Ta) {r:List It} (ae:∀i∈r,∃Kan,ItOK h0 W M0 P n ops m pu C cs r i Kan/\Kan i.av) (s:∀i∈r,∀j∈r,i.k=j.k->i=j) (an:HeadInv .any ops m listed) (M:Mid h0 W M0 P n ops m C cs listed r γ a h) {b:It} {Kan:AV->Prop} (T:ItOK h0 W M0 P n ops m pu C cs r b Kan) (t:Kan b.av) (J:b.k∈Region.ready .any ops listed) (aj:memN pu b.k=Ta) (p:Region.noSelect ops=Ta) (hQ:∀c a w,¬Q (.panic c) a w) (B:World) (d:Nat) {f:Nat} (hK:∀u,(∀S:List It,S.Perm (b::(Qi listed r).map (fv b.k))->SatA n (fI S++C) γ (a.put b.dst u)/\Inv h0 W M0 (cK S++cs) γ h)->Gx (b.nb.map (·.1)) γ γ->wpAny P .any ops Q f (listed.setIfInBounds b.k Ta) (a.put b.dst u) (mk B d h)):
  wpAny P .any ops Q (f+1) listed a (mk B d h):=by
 obtain⟨o,e,eat,ho,H,q,ap,sp,E,ar,Z,au,fin⟩:=CJ ah O ae s an M T J;obtain⟨G,ak,y,_⟩:=E aj;have l:Inv h0 W M0 (b.nb.toList++kZ eat (cK (Qi listed r)++cs)) γ h:=by
  rw[G];refine M.inv.sub ?_;cases eat with
  |none=>exact List.Sublist.refl _
  |some c=>exact xr c.1 _
 have hw:=Zl q ap;have I:Gx (b.nb.map (·.1)) γ γ:=by rw[G];exact Gx.refl _ _
 have D:∀j A,ops[j]?=Tc A->j≠b.k->listed.getD j Ta=Tb->(∀e∈A.after,zdi .any e=Ta->e.on≠b.k)->o.apart ops A=Ta:=by
  intro j A hj Y ai L;have N:j<ops.size:=(YV.1 hj).1;refine Dh y j A N hj Y ?_ ?_;cases hb:Region.waitsFor .any ops j b.k with
  |false=>rfl
  |true=>obtain⟨ab,af,e',aa,am,U⟩:=Region.waitsFor_spec hb;have:ab=A:=ZS (af.symm.trans hj);subst this;exact absurd U (L e' aa am)
  cases hb:Region.waitsFor .any ops b.k j with
  |false=>rfl
  |true=>have:=Qd J hb;rw[getD_both ai]at this;cases this
 by_cases F:valid (qe a) b.ch;obtain⟨v,hd,hx⟩:=ak b.av t n γ a q F;refine wpAny_first ho (Region.noSelect_spec p) (λc a w V=>absurd V (hQ c _ w)) f listed a (mk B d h) D J (.inl ⟨hw.2 F,hx⟩) ?_;rw[H];exact hK v (fin b.av v γ h t (λ_=>hd) (λz=>absurd F z) l I) I;refine wpAny_first ho (Region.noSelect_spec p) (λc a w V=>absurd V (hQ c _ w)) f listed a (mk B d h) D J (.inr ⟨by simpa using λhx=>F (hw.1 hx),rfl⟩) ?_;rw[H];exact hK undef (fin b.av undef γ h t (λz=>absurd z F) (λ_=>rfl) l I) I
structure GInv (h0:zc) (W:Nat->Prop) (M0:Fr) (P:Program) (n:Nat) (ops:Array Oper) (m:Nat) (pu:List Nat) (e0:qz) (cs:CS) (listed pl:Array Bool) (IL:List It):Prop where
 size:pl.size=ops.size
 mem:∀k,pl.getD k Tb=Ta↔∃i∈IL,i.k=k
 dist:IL.Pairwise λi j=>i.k≠j.k
 items:∀i∈IL,∃Kan,ItOK h0 W M0 P n ops m pu e0 cs IL i Kan/\Kan i.av/\(listed.getD i.k Tb=Tb->Kan=(· = i.av))
 sub:∀k,listed.getD k Tb=Ta->pl.getD k Tb=Ta
def tJ(ops:Array Oper):List Nat->Bool
 |[]=>Ta
 |k::_=>match ops[k]? with
  |some o=>yx o
  |none=>Tb
theorem getD_lt{k:Nat}(h:k<pl.size):pl.getD k Ta=pl.getD k Tb:=by simp[h]
theorem yR(Q:Fr.le gl M0){h:qz}{Kt:List It->Prop}{k:Nat}{f:List It}(H:dW P gl tr n ops m pu h cs Kt (k::ord) pl f):
  ∃o ch nb us Kan,ops[k]?=Tc o/\lz ops m o k pl=Ta/\(∀av,ItOK h0 W M0 P n ops m pu h cs f ⟨k,o.dst,ch,av,nb,us⟩ Kan)/\(∀av,Kan av->dW P gl tr n ops m pu h cs Kt ord (pl.setIfInBounds k Ta) (⟨k,o.dst,ch,av,nb,us⟩::f))/\(yx o=Tb->∃av,Kan=(· = av)):=by
 unfold dW at H
 split at H
 ·exact H.elim
 ·rename_i o O
  cases hst:lz ops m o k pl with
  |false=>rw[hst]at H;exact H.elim
  |true=>
   rw[hst]at H
   simp only[zF]at H
   split at H
   ·rename_i ch S
    cases hco:vS ops o ch with
    |false=>rw[hco]at H;exact H.elim
    |true=>
     rw[hco]at H
     cases hok:wh n ch o.dst with
     |false=>rw[hok]at H;exact H.elim
     |true=>
      rw[hok]at H
      simp only[zF]at H
      cases hpo:vW P ops pu o k (Xs (Zy ops o) (fI f++h)) ch with
      |false=>rw[hpo]at H;exact H.elim
      |true=>
      rw[hpo]at H
      simp only[zF]at H
      have s:∃nb us eat Kan,Spec h0 W M0 P o (Xs (Zy ops o) (fI f++h)) ch cs nb Kan eat/\(∀av,Kan av->(bif oR (yl ops m) av nb then dW P gl tr n ops m pu h cs Kt ord (pl.setIfInBounds k Ta) (⟨k,o.dst,ch,av,nb,us⟩::f)else False))/\(yx o=Tb->∃av,Kan=(· = av)) /\
        (memN pu k=Ta->nb=Td/\nz P o (Xs (Zy ops o) (fI f++h)) ch Kan/\lj ops k o ops.size=Ta/\yx o=Tb) /\
        (∀c,eat=Tc c->∃i∈f,i.nb=Tc c/\i.us=Tc k)/\(∀j,us=Tc j->j<m/\Region.waitsFor .any ops j k=Ta):=by
       unfold vW at hpo
       unfold uC at H
       cases hmp:memN pu k with
       |false=>
        rw[hmp,zG]at H
        split at H
        ·obtain⟨nb,Kan,h1,l,A⟩:=XM (h0:=h0) (W:=W) (M0:=M0) Q H
         exact⟨nb,Td,Td,Kan,h1,l,A,λr=>(by cases r),λc r=>(by cases r),λj C=>by cases C⟩
        ·rename_i us V
         cases huo:zJ ops m k us with
         |false=>rw[huo]at H;exact H.elim
         |true=>
          rw[huo,zF]at H
          split at H
          ·obtain⟨nb,eat,av,h1,l,A⟩:=Oh (h0:=h0) (W:=W) (M0:=M0) H
           refine⟨nb,us,eat,(· = av),h1,λt e=>e ▸ l,λ_=>⟨av,rfl⟩,λr=>(by cases r),λc r=>y0 (A c r),λj C=>?_⟩
           subst C
           simp only[zJ]at huo
           cases hq:Nat.blt j m with
           |false=>rw[hq]at huo;cases huo
           |true=>rw[hq]at huo;exact⟨by simpa[zbj]using hq,huo⟩
          ·exact H.elim
       |true=>
        rw[hmp]at hpo
        simp only[zF]at hpo
        rw[hmp,zF]at H
        simp only at H
        cases hpb:gX P (Xs (Zy ops o) (fI f++h)) ch o with
        |false=>rw[hpb]at hpo;cases hpo
        |true=>
         rw[hpb]at hpo
         obtain⟨av,h1,l,A⟩:=OO (h0:=h0) (W:=W) (M0:=M0) H hpb
         exact⟨Td,Td,Td,(· = av),h1,λt e=>e ▸ l,λ_=>⟨av,rfl⟩,λ_=>⟨rfl,A,hpo,NY hpb⟩,λc r=>(by cases r),λj C=>by cases C⟩
      obtain⟨nb,us,eat,Kan,sp,U,w,B,z,u⟩:=s
      have D:Q9 ops k (Zy ops o) m=Ta:=by
       unfold lz at hst
       cases h1:Nat.blt k m with
       |false=>rw[h1]at hst;cases hst
       |true=>
        rw[h1]at hst
        cases l:Q9 ops k (Zy ops o) m with
        |false=>rw[l]at hst;cases hst
        |true=>rfl
      have J:k<m:=by
       unfold lz at hst
       cases h1:Nat.blt k m with
       |false=>rw[h1]at hst;cases hst
       |true=>simpa[zbj]using h1
      have y:∀av,Kan av->oR (yl ops m) av nb=Ta/\dW P gl tr n ops m pu h cs Kt ord (pl.setIfInBounds k Ta) (⟨k,o.dst,ch,av,nb,us⟩::f):=by
       intro av b
       have:=U av b
       cases hio:oR (yl ops m) av nb with
       |false=>rw[hio]at this;exact this.elim
       |true=>rw[hio]at this;exact⟨rfl,this⟩
      refine⟨o,ch,nb,us,Kan,O,hst,λav=>⟨J,Wy O,hok,?_,⟨o,_,eat,O,S,sp,λx F=>?_,B,z⟩,u,λt b E=>?_⟩,λav b=>(y av b).2,w⟩
      ·-- the chain's slots
       intro x F p N G
       refine Za D p x.1 N G ?_
       unfold vS at hco
       split at hco
       ·cases F
       ·rename_i g q
        have L:x=(g,q):=by simpa using F
        subst L
        split at hco
        ·rename_i j Y I
         split at hco
         ·rename_i g' M
          have e:=YT hco
          unfold Zy
          rw[I]
          simp only[M]
          rw[e]
          exact YZ _ ZB
         ·cases hco
        ·cases hco
       ·cases hco
      ·obtain⟨h1,l⟩:=Jy F
       rcases ZG.1 h1 with h1|h1
       ·exact .inr ⟨h1,λp N G=>Za D p x.1 N G l⟩
       ·exact .inl h1
      ·have:=(y t b).1
       simp only at E
       subst E
       exact this
   ·exact H.elim
theorem yM{k:Nat}(h:lz ops m o k pl=Ta):k∈Region.ready .any ops pl/\(yx o=Ta->Region.ready .any ops pl=[k]):=by
 unfold lz at h;cases h1:Nat.blt k m with
 |false=>rw[h1]at h;cases h
 |true=>
  rw[h1]at h;cases h2:Q9 ops k (Zy ops o) m with
  |false=>rw[h2]at h;cases h
  |true=>
   rw[h2]at h;simp only[zF]at h;cases ha:yx o with
   |false=>rw[ha]at h;exact⟨HB h,λb=>by cases b⟩
   |true=>
    rw[ha]at h;simp only[zF]at h;have:Region.ready .any ops pl=[k]:=by unfold DY at h;split at h;rename_i x _ c;rw[c,YT h];cases h
    exact⟨by rw[this];exact ZB,λ_=>this⟩
theorem Ab{P:Program}{gl:Fr}(t:Fr.le gl M0){tr:TypeId}{n:Nat}{ops:Array Oper}{m:Nat}{pu:List Nat}{r:qz}{cs:CS}{Kt:List It->Prop}{listed:Array Bool}:∀{ord:List Nat} {pl:Array Bool} {p:List It},dW P gl tr n ops m pu r cs Kt ord pl p->GInv h0 W M0 P n ops m pu r cs listed pl p ->
  ∃b l new,dW P gl tr n ops m pu r cs Kt b l (new++p)/\GInv h0 W M0 P n ops m pu r cs listed l (new++p)/\tJ ops b=Ta/\∀i∈new,listed.getD i.k Tb=Tb
 |[],pl,p,H,G=>⟨[],pl,[],H,G,rfl,λi hi=>by cases hi⟩
 |k::ord,pl,p,H,G=>by
  obtain⟨o,ch,nb,us,Kan,L,z,A,J,s⟩:=yR (h0:=h0) (W:=W) (M0:=M0) t H;cases ha:yx o with
  |true=>exact⟨k::ord,pl,[],H,G,by simp[tJ,L,ha],λi hi=>by cases hi⟩
  |false=>
   obtain⟨av,rfl⟩:=s ha;have D:=(yM z).1;have u:pl.getD k Ta=Tb:=(mem_ready.1 D).1;have q:k<pl.size:=by rcases zad k pl.size with h|h;exact h;simp[Array.getElem?_eq_none h]at u
   have c:pl.getD k Tb=Tb:=by rw[<-getD_lt q];exact u
   have y:listed.getD k Tb=Tb:=by
    cases hb:listed.getD k Tb with
    |false=>rfl
    |true=>rw[G.sub k hb]at c;cases c
   have w:∀i∈p,i.k≠k:=λi hi e=>by have:=(G.mem k).2 ⟨i,hi,e⟩;rw[this]at c;cases c
   have F:GInv h0 W M0 P n ops m pu r cs listed (pl.setIfInBounds k Ta) (⟨k,o.dst,ch,av,nb,us⟩::p):=by refine⟨by simp[G.size],λj=>?_,za2.2 ⟨λj C=>(w j C).symm,G.dist⟩,λi hi=>?_,λj C=>?_⟩;by_cases f:k=j;subst f;simp only[YS,exists_eq_or_imp,true_or,iff_true];simp[q];rw[getD_set_ne Tb f,G.mem j];simp only[YS,exists_eq_or_imp,f,false_or];rcases YS.1 hi with rfl|hi;exact⟨(· = av),(A av).mono λi hi=>YU _ hi,rfl,λ_=>rfl⟩;obtain⟨E,h1,x,B⟩:=G.items i hi;exact⟨E,h1.mono λi hi=>YU _ hi,x,B⟩;by_cases f:k=j;subst f;simp[q];rw[getD_set_ne Tb f];exact G.sub j C
   obtain⟨b,l,new,h1,x,B,I⟩:=Ab t (J av rfl) F;refine⟨b,l,new++[⟨k,o.dst,ch,av,nb,us⟩],by simpa using h1,by simpa using x,B,λi hi=>?_⟩;rcases ZG.1 hi with hi|hi;exact I i hi;simp only[zaf]at hi;subst hi;exact y
theorem F8{k:Nat}(f:k<listed.size)(c:listed.getD k Tb=Tb)(i:It):strip (listed.setIfInBounds k Ta) i=fv k (strip listed i):=by
 unfold strip fv;cases hu:i.us with
 |none=>simp[hu]
 |some j=>
  simp only;by_cases b:j=k;subst b;have h:(listed.setIfInBounds j Ta).getD j Tb=Ta:=by simp[f]
  rw[h,c];simp[hu];rw[getD_set_ne Tb (Ne.symm b)];have e:Nat.beq j k=Tb:=by
   cases hq:Nat.beq j k with
   |false=>rfl
   |true=>exact absurd (YT hq) b
  cases listed.getD j Tb with
  |true=>simp[e]
  |false=>simp[hu,e]
theorem vf{listed:Array Bool}{k:Nat}(c:k<listed.size)(b:listed.getD k Tb=Tb):∀{l:List It},(∀j∈l,k≠j.k)->Qi (listed.setIfInBounds k Ta) l=(Qi listed l).map (fv k)
 |[],_=>rfl
 |j::l,hj=>by
  simp only[Qi];rw[getD_set_ne Tb (hj j ZB),vf c b λx e=>hj x (YU _ e)];cases listed.getD j.k Tb with
  |true=>simp only[zF,zae];rw[F8 c b]
  |false=>rfl
theorem Fv{b:It}(e:∀j,b.us=Tc j->listed.getD j Tb=Tb):strip listed b=b:=by unfold strip;split;rename_i j c;rw[e j c];rfl;rfl
theorem C8{listed:Array Bool}{b:It}(e:b.k<listed.size)(c:listed.getD b.k Tb=Tb)(o:∀j,b.us=Tc j->(listed.setIfInBounds b.k Ta).getD j Tb=Tb):∀{f:List It},f.Pairwise (λi j=>i.k≠j.k)->b∈f->(Qi (listed.setIfInBounds b.k Ta) f).Perm (b::(Qi listed f).map (fv b.k))
 |[],_,h=>by cases h
 |i::l,hd,h=>by
  rw[za2]at hd;simp only[Qi];rcases YS.1 h with rfl|h;have p:(listed.setIfInBounds b.k Ta).getD b.k Tb=Ta:=by simp[e]
  rw[p,c,vf e c hd.1,Fv o];exact .refl _;have m:i.k≠b.k:=hd.1 b h;rw[getD_set_ne Tb (Ne.symm m)];have n:=C8 e c o hd.2 h;cases listed.getD i.k Tb with
  |true=>simp only[zF,zae];rw[F8 e c];exact(n.cons _).trans (.swap _ _ _)
  |false=>exact n
theorem Av{listed:Array Bool}{b:List It}:∀{new:List It},(∀i∈new,listed.getD i.k Tb=Tb)->Qi listed (new++b)=Qi listed b
 |[],_=>rfl
 |i::l,h=>by simp only[zaq,Qi];rw[h i ZB];exact Av λx c=>h x (YU _ c)
theorem Ep{listed:Array Bool}:∀{l:List It},(∀i∈l,listed.getD i.k Tb=Ta/\∀j,i.us=Tc j->listed.getD j Tb=Ta)->Qi listed l=lB l
 |[],_=>rfl
 |i::l,h=>by simp only[Qi,lB];obtain⟨h1,c⟩:=h i ZB;rw[h1,Ep λx e=>h x (YU _ e),zF];congr 1;unfold strip;split;rename_i j b;rw[c j b];rfl;rfl
theorem GInv.ready_pl{k:qz}{q:List It}(G:GInv h0 W M0 P n ops m pu k cs listed pl q)(hi:i∈Region.ready .any ops listed)(h:pl.getD i Tb=Tb):i∈Region.ready .any ops pl:=by obtain⟨_,o,f,b⟩:=mem_ready.1 hi;have c:i<ops.size:=(YV.1 f).1;exact mem_ready.2 ⟨by rw[getD_lt (by rw[G.size];exact c)];exact h,o,f,λe l p=>G.sub _ (b e l p)⟩
theorem JF(p:m<=ops.size)(b:y9 ops ops.size=Ta)(o:listed.size=ops.size)(c:∃k,k<m/\listed.getD k Tb=Tb):∃k,k<m/\k∈Region.ready .any ops listed:=by
 obtain⟨k,⟨h1,i⟩,l⟩:=exists_least c;refine⟨k,h1,mem_ready.2 ⟨by rw[getD_lt (by omega)];exact i,ops[k],zal (by omega),λe h n=>?_⟩⟩;have f:=qk b k ops[k] (by omega) (zal (by omega)) e h n;cases hb':listed.getD e.on Tb with
 |true=>rfl
 |false=>have:=l e.on ⟨by omega,hb'⟩;omega
def Wz(N m:Nat):Array Bool:=((zak N).map λk=>Nat.blt k m).toArray
theorem IB(l:m<=ops.size)(inv:HeadInv .any ops m listed)(b:∀k,k<m->listed.getD k Tb=Ta):listed=Wz ops.size m:=by
 refine Array.ext (by simp[Wz,inv.size]) λi h1 f=>?_;have hi:i<ops.size:=by rw[<-inv.size];exact h1
 have e:(Wz ops.size m)[i]=Nat.blt i m:=by simp[Wz]
 rw[e];rcases zad i m with h|h;have:=b i h;simp only[Array.getD,h1,dite_true]at this;rw[show Nat.blt i m=Ta by simpa[zbj]using h];exact this;have:=inv.tail i h hi;simp only[Array.getD,h1,dite_true]at this;have c:Nat.blt i m=Tb:=by
  cases hb:Nat.blt i m with
  |false=>rfl
  |true=>have:=zbj.mp hb;omega
 rw[c];exact this
def pv(ops:Array Oper)(pu:List Nat)(m i:Nat):Nat->Bool
 |0=>Tb
 |j+1=>bif (bif Region.waitsFor .any ops j i then(bif Nat.beq j m then Ta else !(memN pu j))else Tb)then Nat.blt i j else pv ops pu m i j
theorem E7{ops:Array Oper}{pu:List Nat}{m i:Nat}:∀{n:Nat},pv ops pu m i n=Ta->∃j,j<n/\i<j/\Region.waitsFor .any ops j i=Ta/\(j=m\/memN pu j=Tb)
 |0,h=>by cases h
 |n+1,h=>by
  simp only[pv]at h;cases hb:(bif Region.waitsFor .any ops n i then(bif Nat.beq n m then Ta else !(memN pu n))else Tb)with
  |false=>rw[hb]at h;obtain⟨j,h1,b⟩:=E7 h;exact⟨j,by omega,b⟩
  |true=>
   rw[hb]at h;refine⟨n,by omega,by simpa[zbj]using h,?_⟩;cases hw:Region.waitsFor .any ops n i with
   |false=>rw[hw]at hb;cases hb
   |true=>
    rw[hw]at hb;refine⟨rfl,?_⟩;cases hm:Nat.beq n m with
    |true=>exact .inl (YT hm)
    |false=>rw[hm]at hb;exact .inr (by simpa using hb)
def mI(ops:Array Oper)(pu:List Nat)(m:Nat):Nat->Bool
 |0=>Ta
 |i+1=>bif (bif memN pu i then Ta else pv ops pu m i (m+1))then mI ops pu m i else Tb
theorem CO{ops:Array Oper}{pu:List Nat}{m:Nat}:∀{n:Nat},mI ops pu m n=Ta->∀i,i<n->memN pu i=Tb->∃j,j<=m/\i<j/\Region.waitsFor .any ops j i=Ta/\(j=m\/memN pu j=Tb)
 |0,_,i,hi,_=>by omega
 |n+1,h,i,hi,hp=>by
  simp only[mI]at h;cases hb:(bif memN pu n then Ta else pv ops pu m n (m+1))with
  |false=>rw[hb]at h;cases h
  |true=>
   rw[hb]at h;rcases zad i n with h1|h1;exact CO h i h1 hp;have:i=n:=by omega
   subst this;rw[hp]at hb;obtain⟨j,b,a2⟩:=E7 hb;exact⟨j,by omega,a2⟩
def m5(ops:Array Oper)(pu:List Nat)(m:Nat):Bool:=bif Nat.beq m ops.size then Ta else bif mI ops pu m m then Region.chainB .any ops m else Tb
theorem OM(F:m<ops.size)(w:mI ops pu m m=Ta)(A:Region.chainB .any ops m=Ta)(inv:HeadInv .any ops m listed):
  ∀(d i:Nat),m-i=d->i<m->listed.getD i Tb=Tb->memN pu i=Tb->∀t,m<=t->t∉Region.ready .any ops listed:=by
 intro d;induction d using Nat.strongRecOn with
 |_ d y=>
  intro i C hi b l t E h;obtain⟨_,ot,p,s⟩:=mem_ready.1 h;have f:t<ops.size:=(YV.1 p).1;by_cases q:t=m;subst q;obtain⟨j,h1,D,r,z⟩:=CO w i hi l;by_cases c:j=t;subst c;rw[Qd h r]at b;cases b;have k:memN pu j=Tb:=z.resolve_left c;cases hl:listed.getD j Tb with
  |true=>obtain⟨B,o,e,x,u,n⟩:=Region.waitsFor_spec r;have:=inv.closed j B o hl e x u;rw[n,b]at this;cases this
  |false=>exact y (t-j) (by omega) j rfl (by omega) hl k t (YM _) h
  have h1:=ZJ.1 A t (zbc.2 f);simp only[zbb,zA]at h1;rcases h1 with h1|h1;omega;have:=Qd h h1;rw[getD_both (inv.tail (t-1) (by omega) (by omega))]at this;cases this
theorem TX(p:m<=ops.size)(b:m5 ops pu m=Ta)(inv:HeadInv .any ops m listed)(c:∃k,k<m/\k∈Region.ready .any ops listed/\memN pu k=Tb):∀i∈Region.ready .any ops listed,i<m:=by
 intro i hi;obtain⟨_,o,f,_⟩:=mem_ready.1 hi;have e:i<ops.size:=(YV.1 f).1;rcases zad i m with h|h;exact h;exfalso;unfold m5 at b;cases hb:Nat.beq m ops.size with
 |true=>have:=YT hb;omega
 |false=>
  rw[hb]at b;simp only[zG]at b;cases hs:mI ops pu m m with
  |false=>rw[hs]at b;cases b
  |true=>rw[hs]at b;obtain⟨k,h1,l,n⟩:=c;exact OM (by omega) hs b inv _ k rfl h1 (getD_both (mem_ready.1 l).1) n i h hi
theorem Sy(hgl:Fr.le gl M0){e0:qz}{Kt:List It->Prop}{Q:Exit->Act->World->Prop}(hm:m<=ops.size)(hnd:Jk ops m=Ta)(hback:y9 ops ops.size=Ta)(hends:m5 ops pu m=Ta)(hsel:Region.noSelect ops=Ta)(hQp:∀c a w,¬Q (.panic c) a w) (he0:∀x∈e0,x.2.1=[]/\x.1∉yl ops m/\Y2 x.2.2 (yl ops m)=Ta) (B:World) {g:Nat} {a0:Act} {γ0:Gh} (hQ:∀IL γ a d h,SatA n (fI IL++e0) γ a->Inv h0 W M0 (cK IL++cs) γ h->Same (yl ops m) a0 a->GxS (yl ops m) γ0 γ->Kt IL->wpAny P .any ops Q g (Wz ops.size m) a (mk B d h)):
    ∀(N:Nat) (U:List Nat) (listed:Array Bool) (ord:List Nat) (pl:Array Bool) (IL:List It) (γ:Gh) (a:Act) (d:Nat) (h:zc),U.length=N->U.Nodup->(∀k,k∈U↔k<m/\listed.getD k Tb=Tb)->HeadInv .any ops m listed -> dW P gl tr n ops m pu e0 cs Kt ord pl IL->tJ ops ord=Ta->GInv h0 W M0 P n ops m pu e0 cs listed pl IL->Mid h0 W M0 P n ops m e0 cs listed IL γ a h->Same (yl ops m) a0 a->GxS (yl ops m) γ0 γ -> wpAny P .any ops Q (N+g) listed a (mk B d h):=by
  intro N;induction N with
  |zero=>
    intro U listed ord pl IL γ a d h hU _ hmem inv H hanch G M hsame hgx;have hUn:U=[]:=zau.1 hU;subst hUn;have hall:∀k,k<m->listed.getD k Tb=Ta:=λk hk=>by
      cases hb:listed.getD k Tb with
      |true=>rfl
      |false=>exact absurd ((hmem k).2 ⟨hk,hb⟩) (by simp)
    have hKt:Kt (lB IL):=by
      cases ord with
      |nil=>
        unfold dW at H;cases hb:m4 pl m with
        |true=>rw[hb]at H;exact H
        |false=>rw[hb]at H;exact H.elim
      |cons k ord=>exfalso;obtain⟨o,ch,nb,us,Kan,ho,hst,hit,_,_⟩:=yR (h0:=h0) (W:=W) (M0:=M0) hgl H;have hk:k<m:=(hit (.g (.a (.v undef)))).lt;have h1:=(mem_ready.1 (yM hst).1).1;rw[getD_lt (by rw[G.size];omega),G.sub k (hall k hk)]at h1;cases h1
    have hact:Qi listed IL=lB IL:=Ep λi hi=>by obtain⟨Ki,Ti,_⟩:=G.items i hi;exact⟨hall _ Ti.lt,λj hj=>hall j (Ti.use j hj).1⟩
    have h1:=M.sat;have h2:=M.inv;rw[hact]at h1 h2;rw[ZP,IB hm inv hall];exact hQ (lB IL) γ a d h h1 h2 hsame hgx hKt
  |succ N ih=>
    intro U listed ord pl IL γ a d h hU hdup hmem inv H hanch G M hsame hgx;have hex:∃k,k<m/\listed.getD k Tb=Tb:=by
      cases U with
      |nil=>cases hU
      |cons k U=>exact⟨k,(hmem k).1 ZB⟩
    obtain⟨k0,hk0m,hk0⟩:=JF hm hback inv.size hex;rw[show N+1+g=(N+g)+1 by omega];have gen:∀i,i∈Region.ready .any ops listed->i<m->(memN pu i=Ta->wpAny P .any ops Q (N+g+1) listed a (mk B d h))/\wpOp P ops Q i (wpAny P .any ops Q (N+g) (listed.setIfInBounds i Ta)) a (mk B d h):=by
      intro i hi him;have hun:listed.getD i Tb=Tb:=getD_both (mem_ready.1 hi).1;have hils:i<listed.size:=by rw[inv.size];omega
      have hU':(U.erase i).length=N:=by rw[List.length_erase_of_mem ((hmem i).2 ⟨him,hun⟩),hU];rfl
      have hdup':(U.erase i).Nodup:=hdup.erase i;have hmem':∀k,k∈U.erase i↔k<m/\(listed.setIfInBounds i Ta).getD k Tb=Tb:=λk=>by rw[hdup.mem_erase_iff,hmem k];by_cases hk:i=k;subst hk;simp[hils];rw[getD_set_ne Tb hk];exact⟨λhx=>hx.2,λhx=>⟨λe=>hk e.symm,hx⟩⟩
      have inv':=inv.set hi him;have toS:∀{it:It} {Kan:AV->Prop},ItOK h0 W M0 P n ops m pu e0 cs IL it Kan->∀{γ':Gh},Gx (it.nb.map (·.1)) γ γ'->GxS (yl ops m) γ γ':=by
        intro it Kan T γ' gx;refine⟨gx.1,λj hj=>?_⟩;refine gx.2 j λhc=>hj ?_;obtain⟨o,e,eat,ho,_,sp,_,_⟩:=T.ex;cases hnb:it.nb with
        |none=>rw[hnb]at hc;cases hc
        |some b=>
          rw[hnb]at hc;have:b.1=j:=by simpa using hc
          subst this;obtain⟨_,h2,_⟩:=sp.box b hnb;exact uH T.lt (by rw[Wy ho];exact h2)
      have toSame:∀{it:It} {Kan:AV->Prop},ItOK h0 W M0 P n ops m pu e0 cs IL it Kan->∀u,Same (yl ops m) a (a.put it.dst u):=λ {it} {Kan} T u=>
        Same.put a it.dst u λj hj=>uH T.lt (by rw[T.dst];exact hj)
      have hILk:∀x∈IL,∃Kan,ItOK h0 W M0 P n ops m pu e0 cs IL x Kan/\Kan x.av:=λx hx=>by obtain⟨Kx,h1,h2,_⟩:=G.items x hx;exact⟨Kx,h1,h2⟩
      have hdist:∀x∈IL,∀y∈IL,x.k=y.k->x=y:=by
        have key:∀l:List It,l.Pairwise (λi j=>i.k≠j.k)->∀x∈l,∀y∈l,x.k=y.k->x=y:=by
          intro l;induction l with
          |nil=>intro _ x hx;cases hx
          |cons z l ihl=>intro hp x hx y hy e;rw[za2]at hp;rcases YS.1 hx with hx1|hx1;rcases YS.1 hy with hy1|hy1;rw[hx1,hy1];rw[hx1]at e;exact absurd e (hp.1 y hy1);rcases YS.1 hy with hy1|hy1;rw[hy1]at e;exact absurd e.symm (hp.1 x hx1);exact ihl hp.2 x hx1 y hy1 e
        exact key IL G.dist
      cases hpl:pl.getD i Tb with
      |true=>
        obtain⟨it,hit,hik⟩:=(G.mem i).1 hpl;subst hik;obtain⟨Kan,T,_,hdet⟩:=G.items it hit;have fwd:∀u γ' h' d',(∀L':List It,L'.Perm (it::(Qi listed IL).map (fv it.k))->SatA n (fI L'++e0) γ' (a.put it.dst u)/\Inv h0 W M0 (cK L'++cs) γ' h')->Gx (it.nb.map (·.1)) γ γ'->wpAny P .any ops Q (N+g) (listed.setIfInBounds it.k Ta) (a.put it.dst u) (mk B d' h'):=by
         intro u γ' h' d' hst hgx';have huse:∀j,it.us=Tc j->(listed.setIfInBounds it.k Ta).getD j Tb=Tb:=by
           intro j hj;have hw:=(T.use j hj).2;obtain⟨oj,hoj,e,he,hb,hon⟩:=Region.waitsFor_spec hw;have hjk:it.k≠j:=λe'=>by have:=qk hback j oj (YV.1 hoj).1 hoj e he hb;omega
           rw[getD_set_ne Tb hjk];cases hl:listed.getD j Tb with
           |false=>rfl
           |true=>have:=inv.closed j oj hoj hl e he hb;rw[hon,hun]at this;cases this
         obtain⟨s1,s2⟩:=hst _ (C8 hils hun huse G.dist hit);refine ih _ _ ord pl IL γ' _ d' h' hU' hdup' hmem' inv' H hanch ⟨G.size,G.mem,G.dist,λx hx=>?_,λk hk=>?_⟩ ⟨s1,s2⟩ (hsame.trans (toSame T u)) (hgx.trans (toS T hgx'));obtain⟨Kx,h1,h2,h3⟩:=G.items x hx;refine⟨Kx,h1,h2,λhf=>h3 ?_⟩;by_cases hk:it.k=x.k;rw[<-hk];exact hun;rw[getD_set_ne Tb hk]at hf;exact hf;by_cases hk':it.k=k;subst hk';exact hpl;rw[getD_set_ne Tb hk']at hk;exact G.sub k hk
        have hK0:Kan it.av:=by rw[hdet hun]
        refine⟨λhp=>I4 hnd he0 hILk hdist inv M T hK0 hi hp hsel hQp B d λu hst hgx'=>fwd u γ h d hst hgx',Bq hnd he0 hILk hdist inv M T hi B d λav u γ' h' d' hav hst hgx'=>?_⟩;have hav':av=it.av:=by rw[hdet hun]at hav;exact hav
        subst hav';exact fwd u γ' h' d' hst hgx'
      |false=>
        have hrp:=G.ready_pl hi hpl;cases ord with
        |nil=>
          exfalso;unfold dW at H;cases hb:m4 pl m with
          |true=>rw[CQ hb i him]at hpl;cases hpl
          |false=>rw[hb]at H;exact H
        |cons k ord=>
          obtain⟨o,ch,nb,us,Kan,ho,hst,hit,hK,_⟩:=yR (h0:=h0) (W:=W) (M0:=M0) hgl H;have hanc:yx o=Ta:=by simpa[tJ,ho]using hanch
          have hrk:=(yM hst).2 hanc;rw[hrk]at hrp;have hik:i=k:=by simpa using hrp
          subst hik;refine⟨λhp=>?_,Bq hnd he0 hILk hdist inv M (hit (.g (.a (.v undef)))) hi B d λav u γ' h' d' hav hst' hgx'=>?_⟩;obtain⟨o',_,_,ho',_,_,_,hpp,_⟩:=(hit (.g (.a (.v undef)))).ex;have:=(hpp hp).2.2.2;have e':o'=o:=ZS (ho'.symm.trans ho);rw[e',hanc]at this;cases this;have hne:∀j∈IL,i≠j.k:=λj hj e=>by have:=(G.mem i).2 ⟨j,hj,e.symm⟩;rw[hpl]at this;cases this
          have hips:i<pl.size:=by rw[G.size,<-inv.size];exact hils
          have G':GInv h0 W M0 P n ops m pu e0 cs (listed.setIfInBounds i Ta) (pl.setIfInBounds i Ta) (⟨i,o.dst,ch,av,nb,us⟩::IL):=by refine⟨by simp[G.size],λj=>?_,za2.2 ⟨λj hj=>hne j hj,G.dist⟩,λx hx=>?_,λj hj=>?_⟩;by_cases hjk:i=j;subst hjk;simp only[YS,exists_eq_or_imp,true_or,iff_true];simp[hips];rw[getD_set_ne Tb hjk,G.mem j];simp only[YS,exists_eq_or_imp,hjk,false_or];rcases YS.1 hx with rfl|hx;exact⟨Kan,(hit av).mono λx hx=>YU _ hx,hav,λhf=>by simp[hils]at hf⟩;obtain⟨Kx,h1,h2,h3⟩:=G.items x hx;refine⟨Kx,h1.mono λx hx=>YU _ hx,h2,λhf=>h3 ?_⟩;rw[getD_set_ne Tb (hne x hx)]at hf;exact hf;by_cases hjk:i=j;subst hjk;simp[hips];rw[getD_set_ne Tb hjk]at hj ⊢;exact G.sub j hj
          obtain⟨ord',pl',new,h1,h2,h3,h4⟩:=Ab hgl (hK av hav) G';have hact:Qi (listed.setIfInBounds i Ta) (new++⟨i,o.dst,ch,av,nb,us⟩::IL)=⟨i,o.dst,ch,av,nb,us⟩::(Qi listed IL).map (fv i):=by
            rw[Av h4];simp only[Qi];rw[show(listed.setIfInBounds i Ta).getD i Tb=Ta by simp[hils],vf hils hun hne,zF,Fv ?_];intro j hj;have hw:=((hit av).use j hj).2;obtain⟨oj,hoj,e,he,hb,hon⟩:=Region.waitsFor_spec hw;have hon:e.on=i:=hon;have hjk:i≠j:=λe'=>by have:=qk hback j oj (YV.1 hoj).1 hoj e he hb;omega
            rw[getD_set_ne Tb hjk];cases hl:listed.getD j Tb with
            |false=>rfl
            |true=>have:=inv.closed j oj hoj hl e he hb;rw[hon,hun]at this;cases this
          obtain⟨s1,s2⟩:=hst' (⟨i,o.dst,ch,av,nb,us⟩::(Qi listed IL).map (fv i)) (.refl _);exact ih _ _ ord' pl' _ γ' _ d' h' hU' hdup' hmem' inv' h1 h3 h2 ⟨by rw[hact];exact s1,by rw[hact];exact s2⟩ (hsame.trans (toSame (hit av) u)) (hgx.trans (toS (hit av) hgx'))
    by_cases hpe:∃i,i∈Region.ready .any ops listed/\i<m/\memN pu i=Ta;obtain⟨i,hi,him,hp⟩:=hpe;exact(gen i hi him).1 hp;refine⟨λhc=>(by rw[hc]at hk0;cases hk0),λi hi=>(gen i hi (TX hm hends inv ⟨k0,hk0m,hk0,?_⟩ i hi)).2⟩;cases hb:memN pu k0 with
    |false=>rfl
    |true=>exact absurd ⟨k0,hk0,hk0m,hb⟩ hpe
def vl(ops:Array Oper)(m:Nat)(pu:List Nat):Bool:=
 bif Nat.ble m ops.size then(bif Jk ops m then(bif y9 ops ops.size then(bif m5 ops pu m then(bif Region.noSelect ops then Region.seqB .any ops (ops.size-m) m (Wz ops.size m)else Tb)else Tb)else Tb)else Tb)else Tb
def vL(P:Program)(gl:Fr)(tr:TypeId)(n:Nat)(ops:Array Oper)(m:Nat)(ord pu:List Nat)(R:CS)(K:qz->CS->Prop)(e:qz)(C:CS):Prop:=
 bif vl ops m pu then dW P gl tr n ops m pu (hO (yl ops m) e) (C++R) (λb=>kw P gl tr n ops R K (ops.toList.drop m) (fI b++hO (yl ops m) e) (cK b++C)) ord (zar ops.size Tb) []else False
theorem KV(hm:P.follows .mixedOrders=Ta)(q:Fr.le gl M0){K:qz->CS->Prop}{e:qz} (H:vL P gl tr n ops m ord pu R K e C) (B:World) (d:Nat) (hs:SatA n e γ a) (I:Inv h0 W M0 (C++R) γ h) {Q:Exit->Act->World->Prop}
  (hQ:∀e' C' γ' a' V h',SatA n e' γ' a'->Inv h0 W M0 (C'++R) γ' h'->Same (j8 ops.toList) a a'->GxS (j8 ops.toList) γ γ'->K e' C'->Q .normal a' (mk B V h')):(zc3 id ops Ta).wp P Q a (mk B d h):=by
 unfold vL at H;cases hB:vl ops m pu with
 |false=>rw[hB]at H;exact H.elim
 |true=>
  rw[hB]at H;simp only[zF]at H;have aa:m<=ops.size/\Jk ops m=Ta/\y9 ops ops.size=Ta/\m5 ops pu m=Ta/\Region.noSelect ops=Ta/\Region.seqB .any ops (ops.size-m) m (Wz ops.size m)=Ta:=by
   unfold vl at hB;cases h1:Nat.ble m ops.size with
   |false=>rw[h1]at hB;cases hB
   |true=>
    rw[h1]at hB;cases D:Jk ops m with
    |false=>rw[D]at hB;cases hB
    |true=>
     rw[D]at hB;cases F:y9 ops ops.size with
     |false=>rw[F]at hB;cases hB
     |true=>
      rw[F]at hB;cases E:m5 ops pu m with
      |false=>rw[E]at hB;cases hB
      |true=>
       rw[E]at hB;cases h5:Region.noSelect ops with
       |false=>rw[h5]at hB;cases hB
       |true=>rw[h5]at hB;exact⟨zaw h1,rfl,rfl,rfl,rfl,hB⟩
  obtain⟨J,Z,p,r,z,s⟩:=aa;have b:j8 ops.toList=j8 (ops.toList.take m)++j8 (ops.toList.drop m):=by rw[<-Zz,zax]
  have L:∀x∈hO (yl ops m) e,x.2.1=[]/\x.1∉yl ops m/\Y2 x.2.2 (yl ops m)=Ta:=λx f=>(xh f).2;have u:HeadInv .any ops m (zar ops.size Tb):= ⟨by simp,λj oj _ hl=>(by rw[getD_replicate_false]at hl;cases hl),λt _ ht=>getD_in (by simpa using ht) (getD_replicate_false _ _)⟩;have G0:GInv h0 W M0 P n ops m pu (hO (yl ops m) e) (C++R) (zar ops.size Tb) (zar ops.size Tb) []:= ⟨by simp,λk=>by rw[getD_replicate_false];simp,List.Pairwise.nil,λi hi=>(by cases hi),λk hk=>hk⟩;obtain⟨y,ab,new,h1,D,F,E⟩:=Ab q H G0;have o:Qi (zar ops.size Tb) (new++[])=[]:=by rw[Av E];rfl
  have A:SatA n (hO (yl ops m) e) γ a:=hs.sub λx f=>(xh f).1;let Qn:Exit->Act->World->Prop:=λx a w=>x=.normal/\Q .normal a w;refine wp_mono (Q':=Q) (Q:=Qn) ?_ (λx a w S=>by obtain⟨rfl,h⟩:=S;exact h);refine wp_region_any hm ?_;have U:ops.size=m+(ops.size-m):=by omega
  have key:=Sy (n:=n) (Q:=Qn) (pu:=pu) q J Z p r z (λc a w S=>by cases S.1) L B (g:=ops.size-m) (a0:=a) (γ0:=γ) (Kt:=λIL=>kw P gl tr n ops R K (ops.toList.drop m) (fI IL++hO (yl ops m) e) (cK IL++C)) (λIL γ' a' V h' s1 s2 s3 s4 s5=>?_) m (zak m) (zar ops.size Tb) y ab (new++[]) γ a (d+1) h List.length_range List.nodup_range (λk=>by rw[zbc,getD_replicate_false];simp) u h1 F D ⟨by rw[o];exact A,by rw[o];exact I⟩ (Same.refl _ _) (GxS.refl _ _);rw[<-U]at key;exact key;have l:(ops.toList.drop m).length=ops.size-m:=by simp
  rw[<-l];refine wpAny_of_seq (md:=.any) (ops.toList.drop m) m _ a' _ (λj=>by simp[zan]) (by rw[l];exact s) ?_;refine tU q B _ _ _ _ _ _ V s5 s1 (by rw[zbh];exact s2) λM N ae G Y O q4 q5 q6 q7 q8=>⟨rfl,hQ M N ae G Y O q4 q5 ?_ ?_ q8⟩;rw[b];exact(s3.mono λx f=>YZ _ f).trans (q6.mono λx f=>ZL _ f);rw[b];exact(s4.mono λx f=>YZ _ f).trans (q7.mono λx f=>ZL _ f)
abbrev tW:=List (Nat×Nat×List Nat×List Nat×List Nat)
def Bv:tW->Nat->Option (Nat×List Nat×List Nat×List Nat)
 |[],_=>Td
 |(j,x)::l,i=>bif Nat.beq i j then Tc x else Bv l i
def Aq(P:Program)(gl:Fr)(tr:TypeId)(n:Nat)(c:pM)(f:tW)(id:Nat)(ops:Array Oper)(b:Bool)(R:CS)(K:qz->CS->Prop)(e:qz)(C:CS):Prop:=
 match Bv f id with
 |none=>vj P gl tr n c id ops b R K e C
 |some (m,fz,ord,pu)=>bif b then vL P gl tr n ops m ord pu R K e (frzL fz C)else False
theorem Li(q:P.follows .mixedOrders=Ta)(c:Fr.le gl M0){r:pM}{t:tW}{b:Bool}{K:qz->CS->Prop}{e:qz} (H:Aq P gl tr n r t id ops b R K e C) (B:World) (d:Nat) (o:SatA n e γ a) (I:Inv h0 W M0 (C++R) γ h) {Q:Exit->Act->World->Prop}
  (p:∀e' f γ' a' l h',SatA n e' γ' a'->Inv h0 W M0 (f++R) γ' h'->Same (j8 ops.toList) a a'->GxS (j8 ops.toList) γ γ'->K e' f->Q .normal a' (mk B l h')):(zc3 id ops b).wp P Q a (mk B d h):=by
 unfold Aq at H;split at H;exact OJ q c H B d o I p;rename_i m fz ord pu _;cases b with
 |false=>exact H.elim
 |true=>obtain⟨A,u,k⟩:=Inv.frzL (C:=C) (γ:=γ) fz I;refine KV q c H B d (o.gx k) u λe' f γ' a' l h' w y x s z=>p e' f γ' a' l h' w y x (GxS.trans ⟨k.1,λi _=>k.2 i (by simp)⟩ s) z
end
section
variable {S:List Nat} {γ γ':Gh} {u:Value} {C R:CS} {h:zc} {n:Nat} {a:Act} {P:Program} {f:FuncId}
variable {h0 : zc} {W : Nat -> Prop} {M0 : Fr}
structure PlanA where
 tails:pM
 draws:tW
 loops:List (Nat×AnnA)
 joins:List (Nat×AnnA)
def pk:List (Nat×AnnA)->Option Nat->Option AnnA
 |[],_=>Td
 |(j,m)::l,some i=>bif Nat.beq i j then Tc m else pk l (Tc i)
 |_,none=>Td
def mh:AA->List Nat
 |.box j _=>[j]
 |.own j=>[j]
 |.oelt j _ _ _=>[j]
 |_=>[]
def nu(S:List Nat):List AA->Bool
 |[]=>Ta
 |x::l=>bif (match mh x with
  |[]=>Ta
  |j::_=>!(memN S j))then nu S l else Tb
def s8(S:List Nat):AG->Bool
 |.a x=>nu S [x]
 |.agg l=>nu S l
def qS(S:List Nat):List AG->Bool
 |[]=>Ta
 |x::l=>bif s8 S x then qS S l else Tb
def xE(S:List Nat):AV->Bool
 |.g x=>s8 S x
 |.tup l=>qS S l
 |.nx _ _ _=>Ta
theorem DenA.gxS(g:GxS S γ γ'){x:AA}(c:(match mh x with
  |[]=>Ta
  |j::_=>!(memN S j))=Ta)(h:DenA γ x u):DenA γ' x u:=by
 have key:∀j,memN S j=Tb->γ'.β j=γ.β j/\γ'.σ j=γ.σ j:=λj n=>g.2 j (Q2 n);cases x with
 |v y=>exact h
 |d t y=>exact Rd.mono g.1 h
 |box j o=>rw[show u=_ from h];simp only[DenA,(key j (by simpa[mh]using c)).1]
 |own j=>rw[show u=_ from h];simp only[DenA,(key j (by simpa[mh]using c)).2]
 |oelt j z i o=>obtain⟨b,k,l⟩:=h;exact⟨b,by rw[(key j (by simpa[mh]using c)).2];exact k,l⟩
 |elt t y o=>obtain⟨b,f,cs,e,h1,m⟩:=h;exact⟨b,f,cs,e,g.1 _ _ h1,Rd.mono g.1 m⟩
 |dc t xs=>obtain⟨s,k,l,h⟩:=h;exact⟨s,k,l,Rd.mono g.1 h⟩
theorem DenL.gxS{S:List Nat}{γ γ':Gh}(g:GxS S γ γ'):∀{l:List AA} {us:List Value},nu S l=Ta->All2 (DenA γ) l us->All2 (DenA γ') l us
 |[],[],_,_=>trivial
 |[],_::_,_,h=>h.elim
 |_::_,[],_,h=>h.elim
 |x::l,u::us,hm,h=>by
  simp only[nu]at hm;cases hx:(match mh x with
   |[]=>Ta
   |j::_=>!(memN S j))with
  |false=>simp_all
  |true=>rw[hx]at hm;exact⟨DenA.gxS g hx h.1,DenL.gxS g hm h.2⟩
theorem DenG.gxS(g:GxS S γ γ'){x:AG}(b:s8 S x=Ta)(h:DenG γ x u):DenG γ' x u:=by
 cases x with
 |a x=>have:All2 (DenA γ') [x] [u]:=DenL.gxS g b (show All2 (DenA γ) [x] [u]from⟨h,trivial⟩);exact this.1
 |agg l=>obtain⟨us,e,h⟩:=h;exact⟨us,e,DenL.gxS g b h⟩
theorem DenV.gxS(g:GxS S γ γ'){x:AV}(f:xE S x=Ta)(h:DenV γ x u):DenV γ' x u:=by
 cases x with
 |g x=>exact DenG.gxS g f h
 |tup l=>
  obtain⟨us,e,h⟩:=h;refine⟨us,e,?_⟩;have:∀{l:List AG} {us:List Value},qS S l=Ta->All2 (DenG γ) l us->All2 (DenG γ') l us:=by
   intro l;induction l with
   |nil=>intro us _ h;cases us with
    |nil=>trivial
    |cons _ _=>exact h.elim
   |cons x l i=>
    intro us f h;cases us with
    |nil=>exact h.elim
    |cons u us=>
     simp only[qS]at f;cases hx:s8 S x with
     |false=>simp_all
     |true=>rw[hx]at f;exact⟨DenG.gxS g hx h.1,i f h.2⟩
  exact this f h
 |nx b p c=>exact h
def iJ(ms S:List Nat):qz->qz
 |[]=>[]
 |(i,[],v)::e=>bif memN ms i then iJ ms S e else(bif xE S v then(i,[],v)::iJ ms S e else iJ ms S e)
 |(_,_::_,_)::e=>iJ ms S e
theorem W0{ms S:List Nat}{γ l:Gh}{a k:Act}(g:GxS S γ l)(b:Same ms a k):∀{e:qz},(∀x∈e,jH γ (qe a) x)->∀x∈iJ ms S e,jH l (qe k) x
 |[],_,x,c=>by cases c
 |(i,[],v)::e,h,x,c=>by
  have m:=W0 g b (e:=e) λx c=>h x (YU _ c);simp only[iJ]at c;cases hm:memN ms i with
  |true=>simp_all
  |false=>
   rw[hm]at c;simp only[zG]at c;cases hn:xE S v with
   |false=>simp_all
   |true=>rw[hn]at c;rcases YS.1 c with rfl|c;refine⟨λ_=>?_,λf=>absurd trivial f⟩;have:=(h _ ZB).1 trivial;simp only at this ⊢;rw[b _ (Q2 hm)];exact this.gxS g hn;grind
 |(_,_::_,_)::e,h,x,c=>W0 g b (e:=e) (λx c=>h x (YU _ c)) x c
def gm(ro:List Nat):CS->CS
 |[]=>[]
 |(c,k)::l=>bif memN ro c then(c,k)::gm ro l else gm ro l
def lu(ro:List Nat):CS->CS
 |[]=>[]
 |(c,k)::l=>bif memN ro c then lu ro l else(c,k)::lu ro l
theorem GJ(ro:List Nat):∀C:CS,(lu ro C++gm ro C).Perm C
 |[]=>.nil
 |(c,k)::l=>by
  have b:=GJ ro l;simp only[gm,lu];cases memN ro c with
  |true=>exact List.perm_middle.trans (b.cons _)
  |false=>exact b.cons _
theorem Inv.part(I:Inv h0 W M0 (C++R) γ h)(ro:List Nat):Inv h0 W M0 (lu ro C++(gm ro C++R)) γ h:=by rw[<-zbh];exact I.perm ((GJ ro C).symm.append_right R)
abbrev jx:=Exit->qz->CS->Prop
def VZ(K:qz->CS->Prop)(Q:jx):jx
 |.normal,e,C=>K e C
 |x,e,C=>Q x e C
def Gu(id:Nat)(Q:jx):jx
 |.exit i,e,C=>bif Nat.beq i id then Q .normal e C else Q (.exit i) e C
 |x,e,C=>Q x e C
def AP(m:CS)(K:qz->CS->Prop)(Q:jx):jx
 |.normal,e,C=>K e C
 |x,e,C=>Q x e (C++m)
def fq(pl:PlanA):Code->List Nat
 |.region _ ops _=>j8 ops.toList
 |.seq a b=>fq pl a++(fq pl b++(match pk pl.joins (jh b)with
  |some J=>J.ids
  |none=>[]))
 |.cond _ a b=>fq pl a++fq pl b
 |.block _ b=>fq pl b
 |.loop b=>fq pl b++(match pk pl.loops (jh b)with
  |some J=>J.ids
  |none=>[])
 |_=>[]
def pc{X:Type}(J:AnnA)(R:CS)(F:gT (gH J) X)(e:qz)(C:CS)(k:X->Prop):Prop:=
 match qE J R e C with
 |some b=>match ic (gH J) b F with
  |some q=>k q
  |none=>False
 |none=>False
theorem wD{X:Type}{J:AnnA}{F:gT (gH J) X}{e:qz}{k:X->Prop}(h:pc J R F e C k):∃b q,qE J R e C=Tc b/\ic (gH J) b F=Tc q/\k q:=by unfold pc at h;grind
def WA(P:Program)(gl:Fr)(tr:TypeId)(n:Nat)(pl:PlanA):Code->CS->jx->qz->CS->Prop
 |.skip,_,Q,e,C=>Q .normal e C
 |.ret,_,Q,e,C=>Q .ret e C
 |.exit id,_,Q,e,C=>Q (.exit id) e C
 |.label _,_,Q,e,C=>Q .normal e C
 |.goto l,_,Q,e,C=>Q (.goto l) e C
 |.region id ops draw,R,Q,e,C=>Aq P gl tr n pl.tails pl.draws id ops draw R (λe C=>Q .normal e C) e C
 |.seq x y,R,Q,e,C=>match pk pl.joins (jh y)with
  |none=>WA P gl tr n pl x R (VZ (λe C=>WA P gl tr n pl y R Q e C) Q) e C
  |some J=>∀K:gT (gH J) Prop,om (gH J) K (λf q=>WA P gl tr n pl y R Q (kD J f++iJ (xu x) (J.ids++fq pl x) e) (ko J f++gm J.ro C)->q) ->
    WA P gl tr n pl x (gm J.ro C++R) (AP (gm J.ro C) (λh i=>pc J (gm J.ro C++R) K h i λq=>q) Q) e (lu J.ro C)
 |.cond c x y,R,Q,e,C=>match fB e [] c with
  |some v=>match m3 v with
   |some b=>(b=Ta->WA P gl tr n pl x R Q e C)/\(b=Tb->WA P gl tr n pl y R Q e C)
   |none=>False
  |none=>False
 |.block id x,R,Q,e,C=>WA P gl tr n pl x R (Gu id Q) e C
 |.loop x,R,Q,e,C=>match pk pl.loops (jh x)with
  |some J=>∃(I:gT (gH J) Prop) (μ:gT (gH J) Nat),pc J (gm J.ro C++R) (nv (gH J) I μ) e (lu J.ro C) (λp=>p.1) /\
    om (gH J) (nv (gH J) I μ) λf p=>p.1->WA P gl tr n pl x (gm J.ro C++R) (AP (gm J.ro C) (λh i=>pc J (gm J.ro C++R) (nv (gH J) I μ) h i λq=>q.1/\q.2<p.2) Q)
     (kD J f++iJ (xu x) (J.ids++fq pl x) e) (ko J f)
  |none=>False
 |_,_,_,_,_=>False
def R4(h0:zc)(W:Nat->Prop)(M0:Fr)(n:Nat)(B:World)(ms S:List Nat)(a0:Act)(b:Gh)(R:CS)(Q:jx):Exit->Act->World->Prop:=
 λx a w=>∃e C γ d h,w=mk B d h/\SatA n e γ a/\Inv h0 W M0 (C++R) γ h/\Same ms a0 a/\GxS S b γ/\Q x e C
theorem XR{e:qz}{i γ h:Gh}{a f:Act}(o:SatA n e i a){ms S ids:List Nat}(l:f.defers=[])(p:f.tmps.size=n)(c:Same ms a f)(g:GxS S i γ)(m:GxS ids γ h){J:AnnA}{k:List Dy}
  (q:∀x∈kD J k,jH h (qe f) x):SatA n (kD J k++iJ ms (ids++S) e) h f:=by
 refine⟨l,p,λx b=>?_⟩;rcases ZG.1 b with b|b;grind;exact W0 ((g.mono λx b=>ZL _ b).trans (m.mono λx b=>YZ _ b)) c o.all x b
theorem Ot(hm:P.follows .mixedOrders=Ta){gl:Fr}(ar:Fr.le gl M0){tr:TypeId}{pl:PlanA}:∀(c:Code) (R:CS) (Q:jx) (e:qz) (C:CS),WA P gl tr n pl c R Q e C ->
  ∀(γ:Gh) (h:zc) (B:World) (d:Nat) (a:Act),SatA n e γ a->Inv h0 W M0 (C++R) γ h->c.wp P (R4 h0 W M0 n B (xu c) (fq pl c) a γ R Q) a (mk B d h):=by
 intro c;induction c with
 |skip=>exact λR Q e C H γ h B d a f I=>wp_skip ⟨e,C,γ,d,h,rfl,f,I,Same.refl _ _,GxS.refl _ _,H⟩
 |ret=>exact λR Q e C H γ h B d a f I=>wp_ret ⟨e,C,γ,d,h,rfl,f,I,Same.refl _ _,GxS.refl _ _,H⟩
 |exit id=>exact λR Q e C H γ h B d a f I=>wp_exit ⟨e,C,γ,d,h,rfl,f,I,Same.refl _ _,GxS.refl _ _,H⟩
 |label l=>exact λR Q e C H γ h B d a f I=>wp_label ⟨e,C,γ,d,h,rfl,f,I,Same.refl _ _,GxS.refl _ _,H⟩
 |goto l=>exact λR Q e C H γ h B d a f I=>wp_goto ⟨e,C,γ,d,h,rfl,f,I,Same.refl _ _,GxS.refl _ _,H⟩
 |region id ops aG=>exact λR Q e C H γ h B d a f I=>Li hm ar H B d f I λe' C' γ' a' d' h' r u q3 q4 q5=>⟨e',C',γ',d',h',rfl,r,u,q3,q4,q5⟩
 |seq x y O U=>
  intro R Q e C H γ h B d a f I;simp only[WA]at H;have hl:∀i∈xu x,i∈xu (x.seq y):=λi hi=>YZ _ hi;have hr:∀i∈xu y,i∈xu (x.seq y):=λi hi=>ZL _ hi;have kl:∀i∈fq pl x,i∈fq pl (x.seq y):=λi hi=>YZ _ hi;have kr:∀i∈fq pl y,i∈fq pl (x.seq y):=λi hi=>ZL _ (YZ _ hi);split at H;refine wp_seq (wp_mono (O _ _ _ _ H γ h B d a f I) ?_);rintro ex w w1 ⟨Z,C1,k,t,h1,rfl,s1,F,D,s,r⟩;cases ex with
  |normal=>refine wp_mono (U _ _ _ _ r k h1 B t w s1 F) ?_;rintro ex a2 w2 ⟨N,S,M,z,A,rfl,s2,V,E,G,u⟩;exact⟨N,S,M,z,A,rfl,s2,V,(D.mono hl).trans (E.mono hr),(s.mono kl).trans (G.mono kr),u⟩
  |_=>exact⟨Z,C1,k,t,h1,rfl,s1,F,D.mono hl,s.mono kl,r⟩
  rename_i J hJ;have kJ:∀i∈J.ids,i∈fq pl (x.seq y):=λi hi=>by simp only[fq,hJ];simp_all
  have H':=H (pJ (gH J) λL=>WA P gl tr n pl y R Q (kD J L++iJ (xu x) (J.ids++fq pl x) e) (ko J L++gm J.ro C)) (GK λL hq=>hq);refine wp_seq (wp_mono (O _ _ _ _ H' γ h B d a f (I.part J.ro)) ?_);rintro ex w w1 ⟨Z,C1,k,t,h1,rfl,s1,F,D,s,r⟩;cases ex with
  |normal=>obtain⟨L,q,hv,hq,hk⟩:=wD r;have an:=B0 hq;subst an;obtain⟨ap,ab,ae,f1⟩:=vh hv s1 F;have af:=XR f s1.defers s1.size D s ae f1;rw[<-zbh]at ab;refine wp_mono (U _ _ _ _ hk ap h1 B t w af ab) ?_;rintro ex a2 w2 ⟨N,S,M,z,A,rfl,s2,V,E,G,u⟩;exact⟨N,S,M,z,A,rfl,s2,V,(D.mono hl).trans (E.mono hr),((s.mono kl).trans (ae.mono kJ)).trans (G.mono kr),u⟩
  |_=>exact⟨Z,C1++gm J.ro C,k,t,h1,rfl,s1,by simp_all,D.mono hl,s.mono kl,r⟩
 |cond c x y O U=>intro R Q e C H γ h B d a f I;simp only[WA]at H;have hl:∀i∈xu x,i∈xu (zda c x y):=λi hi=>YZ _ hi;have hr:∀i∈xu y,i∈xu (zda c x y):=λi hi=>ZL _ hi;have kl:∀i∈fq pl x,i∈fq pl (zda c x y):=λi hi=>YZ _ hi;have kr:∀i∈fq pl y,i∈fq pl (zda c x y):=λi hi=>ZL _ hi;split at H;rename_i v hv;split at H;rename_i b Y;refine wp_cond_split (wG Y (qa f (c:=[]) trivial hv)) (λai=>?_) (λax=>?_);refine wp_mono (O _ _ _ _ (H.1 ai) γ h B d a f I) ?_;rintro ex a2 w2 ⟨N,S,M,z,A,rfl,s2,V,E,G,u⟩;exact⟨N,S,M,z,A,rfl,s2,V,E.mono hl,G.mono kl,u⟩;refine wp_mono (U _ _ _ _ (H.2 ax) γ h B d a f I) ?_;rintro ex a2 w2 ⟨N,S,M,z,A,rfl,s2,V,E,G,u⟩;exact⟨N,S,M,z,A,rfl,s2,V,E.mono hr,G.mono kr,u⟩;exact H.elim;exact H.elim
 |block id x ih=>
  intro R Q e C H γ h B d a f I;refine wp_block (wp_mono (ih _ _ _ _ H γ h B d a f I) ?_);rintro ex w w1 ⟨Z,C1,k,t,h1,rfl,s1,F,D,s,r⟩;cases ex with
  |exit i=>simp only[Gu]at r;simp only[Exit.inBlock];by_cases Y:Nat.beq i id=Ta;rw[zb (YT Y)];simp only[Y,zF]at r;exact⟨Z,C1,k,t,h1,rfl,s1,F,D,s,r⟩;rw[za (λhe=>Y (by rw[he];simp))];simp only[Y,zG]at r;exact⟨Z,C1,k,t,h1,rfl,s1,F,D,s,r⟩
  |_=>exact⟨Z,C1,k,t,h1,rfl,s1,F,D,s,r⟩
 |loop x ih=>
  intro R Q e C H γ h B d a f I;simp only[WA]at H;split at H;rename_i J hJ;have kx:∀i∈fq pl x,i∈fq pl (Code.loop x):=λi hi=>YZ _ hi;have kJ:∀i∈J.ids,i∈fq pl (Code.loop x):=λi hi=>by simp only[fq,hJ];simp_all
  have kS:∀i∈J.ids++fq pl x,i∈fq pl (Code.loop x):=λi hi=>by grind
  obtain⟨Iv,μ,au,aa⟩:=H;obtain⟨ah,p0,aC,aE,aB⟩:=wD au;obtain⟨γ0,I0,g0,f0⟩:=vh aC f (I.part J.ro);refine wp_loop_ghost (λm w w1=>∃t h1 k L p,w1=mk B t h1/\w.defers=[]/\w.tmps.size=n/\Same (xu x) a w/\GxS (J.ids++fq pl x) γ k/\Inv h0 W M0 (ko J L++(gm J.ro C++R)) k h1/\(∀y∈kD J L,jH k (qe w) y) /\ ic (gH J) L (nv (gH J) Iv μ)=Tc p/\p.1/\p.2=m) p0.2 ⟨d,h,γ0,ah,p0,rfl,f.defers,f.size,Same.refl _ _,g0.mono λi hi=>YZ _ hi,I0,f0,aE,aB,rfl⟩ ?_;rintro m w w1 ⟨t,h1,k,L,p,rfl,ak,aA,o,s,F,f1,hp,aF,rfl⟩;have s1:SatA n (kD J L++iJ (xu x) (J.ids++fq pl x) e) k w:=⟨ak,aA,λy hy=>by rcases ZG.1 hy with hy|hy;grind;exact W0 s o f.all y hy⟩;have Y:=FM hp aa aF;refine wp_mono (ih _ _ _ _ Y k h1 B t w s1 F) ?_;rintro ex a2 w2 ⟨N,S,M,z,A,rfl,s2,V,E,G,u⟩;cases ex with
  |normal=>obtain⟨aj,q,az,hq,am,ay⟩:=wD u;obtain⟨γ3,I3,g3,f3⟩:=vh az s2 V;exact⟨q.2,ay,z,A,γ3,aj,q,rfl,s2.defers,s2.size,o.trans E,(s.trans (G.mono λi hi=>ZL _ hi)).trans (g3.mono λi hi=>YZ _ hi),I3,f3,hq,am,rfl⟩
  |_=>exact⟨N,S++gm J.ro C,M,z,A,rfl,s2,by simp_all,o.trans E,(s.mono kS).trans (G.mono kx),u⟩
  exact H.elim
 |_=>exact λR Q e C H=>H.elim
def lC:Nat->List Arg->qz
 |_,[]=>[]
 |i,a::l=>(i,[],.g (pF a.t a.x))::lC (i+1) l
def qC(e:qz)(i:Nat):Option AV:=match j3 e i with
 |some ([],v)=>Tc v
 |_=>Td
def jW(P:Program)(cs:CS)(e:qz):List ResultVar->(List AV->Prop)->Prop
 |[],K=>K []
 |.tmp t::l,K=>match qC e t with
  |some v=>jW P cs e l λvs=>K (v::vs)
  |none=>False
 |.cell a t::l,K=>match qC e a with
  |some (.g (.a aa))=>l8 P cs t aa Td λv=>jW P cs e l λvs=>K (v::vs)
  |_=>False
def jk(cs:CS):(l:List Ty)->List AV->Option (fi l)
 |[],[]=>Tc ()
 |[t],[v]=>pf cs t v
 |t::t'::l,v::vs=>match pf cs t v,jk cs (t'::l) vs with
  |some x,some y=>Tc (x,y)
  |_,_=>Td
 |_,_=>Td
theorem GY{γ:Gh}{cs:CS}(b:i8 γ cs):∀{l:List Ty} {vs:List AV} {r:fi l} {us:List Value},jk cs l vs=Tc r->All2 (DenV γ) vs us->tR γ.M l r us
 |[],[],r,[],_,_=>rfl
 |[],[],_,_::_,_,h=>h.elim
 |[t],[v],r,[u],h,hd=>⟨u,rfl,ug b (by simpa[jk]using h) hd.1⟩
 |[t],[v],_,[],_,h=>h.elim
 |[t],[v],_,_::_::_,_,h=>h.2.elim
 |t::t'::l,v::vs,r,[],_,h=>h.elim
 |t::t'::l,v::vs,r,u::us,h,hd=>by simp only[jk]at h;split at h;rename_i x y h1 c;simp only[YL]at h;subst h;exact⟨u,us,rfl,ug b h1 hd.1,GY b c hd.2⟩;cases h
 |[],_::_,_,_,h,_=>by simp[jk]at h
 |[t],[],_,_,h,_=>by simp[jk]at h
 |[t],_::_::_,_,_,h,_=>by simp[jk]at h
 |t::t'::l,[],_,_,h,_=>by simp[jk]at h
def uW(P:Program)(rs:List ResultVar)(rt:List Ty)(R:fi rt->Prop):jx:=λx e C=>match x with
 |.normal=>jW P C e rs λvs=>match jk (frzL (Xr vs) C) rt vs with
  |some r=>R r
  |none=>False
 |.ret=>jW P C e rs λvs=>match jk (frzL (Xr vs) C) rt vs with
  |some r=>R r
  |none=>False
 |_=>False
theorem wM{P:Program}{n:Nat}{C:CS}{e:qz}{γ:Gh}{a:Act}{h:zc}(E:SatA n e γ a)(I:Inv h0 W M0 C γ h):∀{l:List ResultVar} {K:List AV->Prop},jW P C e l K->∃vs us,K vs/\All2 (DenV γ) vs us/\us.length=l.length/\QExec P (l.mapM (lm a.tmps)) h us
 |[],K,H=>⟨[],[],H,trivial,rfl,λ_ _=>by simp⟩
 |.tmp t::l,K,H=>by
  simp only[jW]at H;split at H;rename_i v A;obtain⟨vs,us,h1,F,J,G⟩:=wM E I H;have m:DenV γ v (qe a t):=by unfold qC at A;split at A;rename_i u r;simp only[YL]at A;subst A;exact(E.all _ (Z9 r)).1 trivial;cases A
  refine⟨v::vs,qe a t::us,h1,⟨m,F⟩,by simp[J],?_⟩;rw[zc5];exact QExec.bind (x:=qe a t) (QExec.pure _) (G.bind (QExec.pure _));exact H.elim
 |.cell x t::l,K,H=>by
  simp only[jW]at H;split at H;rename_i q w;obtain⟨v,O,N⟩:=HE (h0:=h0) (W:=W) (M0:=M0) H;obtain⟨vs,us,h1,F,J,G⟩:=wM E I O;have m:DenA γ q (qe a x):=by unfold qC at w;split at w;rename_i u r;simp only[YL]at w;subst w;exact(E.all _ (Z9 r)).1 trivial;cases w
  obtain⟨u,Q,B⟩:=N trivial γ h _ I m;refine⟨v::vs,u::us,h1,⟨Q,F⟩,by simp[J],?_⟩;rw[zc5];refine QExec.bind (x:=u) ?_ (G.bind (QExec.pure _));have L:∃p,qe a x=.pointer (Tc p):=by
   have D:∀q,(∀k,rN C k q=Td)->(∀c z i o,q≠.oelt c z i o)->DenA γ q (qe a x)->l8 P C t q Td (λv=>jW P C e l λvs=>K (v::vs))->False:=by intro q U M _ r;unfold l8 at r;split at r;simp_all;exact r
   cases q with
   |box c o=>exact⟨_,m⟩
   |oelt c z i o=>obtain⟨g,_,e⟩:=m;grind
   |elt t y o=>obtain⟨b,f,cs,e,_⟩:=m;grind
   |v y=>exact(D _ (λ_=>rfl) (by simp) m H).elim
   |d t y=>exact(D _ (λ_=>rfl) (by simp) m H).elim
   |own c=>exact(D _ (λ_=>rfl) (by simp) m H).elim
   |dc t y=>exact(D _ (λ_=>rfl) (by simp) m H).elim
  obtain⟨p,s⟩:=L;rw[s]at B;have S:a.tmps.getD x undef=.pointer (Tc p):=s;simp only[lm,S];exact B;exact H.elim
theorem OG{fn:Func}{rs:List ResultVar}(f:fn.results.toList=rs){us:List Value}(e:us.length=rs.length)(c:QExec P (rs.mapM (lm a.tmps)) h us):QExec P (results fn a.tmps) h (iQ us):=by
 intro B d;have b:results fn a.tmps=(fn.results.mapM (lm a.tmps) >>= λvs=>zcf (if h:vs.size=1 then vs[0]else .tuple vs)):=by unfold results;congr 1
 rw[b,Array.mapM_eq_mapM_toList,f,Sem.run_bind,Sem.run_map,c B d];simp only[Result.andThen_ok,Sem.run_pure]
 match us,e with
 |[],_=>rfl
 |[v],_=>rfl
 |v::u::vs,_=>simp[iQ]
theorem BK{γ:Gh}{σ:Nat->Value}:∀{l:List Arg} {i:Nat} {us:List Value},Y1 γ.M l us->(∀j v,us[j]?=Tc v->σ (i+j)=v)->∀x∈lC i l,jH γ σ x
 |[],_,_,_,_,x,b=>by cases b
 |a::l,i,[],h,_,x,b=>h.elim
 |a::l,i,u::us,h,hσ,x,b=>by simp only[lC,YS]at b;rcases b with rfl|b;refine⟨λ_=>?_,λe=>absurd trivial e⟩;have:=hσ 0 u rfl;simp only at this ⊢;rw[show σ i=u from this];exact yP h.1;exact BK h.2 (λj v c=>by have:=hσ (j+1) v (by simpa using c);grind) x b
theorem RQ(hm:P.follows .mixedOrders=Ta)(gl:Fr)(tr:TypeId)(pl:PlanA)(args:List Arg){fn:Func}{rs:List ResultVar}{rt:List Ty}(Z:P.funcs[f]?=Tc fn)(y:Yc fn=Ta)(hr:fn.results.toList=rs)(hn:fn.ntmps=n)
  (Y:Nat.ble args.length n=Ta) {R:fi rt->Prop} (H:WA P gl tr n pl (codeOf fn) [] (uW P rs rt R) (lC 0 args) []):PC P gl f args rt R:=by
 intro h M vs J t c B d;subst hn;have G:fn.body=Tc (codeOf fn):=by unfold Yc at y;unfold codeOf;split at y;omega;cases y
 refine calls_of_wp Z G ?_;have p:vs.length=args.length:=(All2.length c).symm;have aa:vs.length<=fn.ntmps:=by rw[p];exact zaw Y
 let γ:Gh:=⟨M,λ_=>0,λ_=>⟨Td,0,0⟩⟩;have I:Inv h (λ_=>False) M ([]++[]) γ h:={ ag:=t,frame:=λ_ _ _=>rfl,size:=YM _,old:=λ_ _=>rfl,le:=Fr.le.refl _,den:=λx F=>(by cases F),sep:=λx F=>(by cases F),apart:=List.Pairwise.nil };have hs:SatA fn.ntmps (lC 0 args) γ { tmps:=vs.toArray++zar (fn.ntmps-vs.toArray.size) undef,defers:=[] }:=by refine⟨rfl,by simp;omega,BK c λj v Q=>?_⟩;have E:j<vs.length:=(ZH.1 Q).1;simp only[ZP,qe,zay];rw[zbs (by simpa using E)];simp[Q]
 have fin:∀(e:qz) (C:CS) (γ':Gh) (h':zc) (a:Act),SatA fn.ntmps e γ' a->Inv h (λ_=>False) M (C++[]) γ' h'->(jW P C e rs λvs=>match jk (frzL (Xr vs) C) rt vs with|some r=>R r|none=>False) ->
   ∃v,QExec P (results fn a.tmps) h' v/\Keep h.size h h'/\∃M' r,Fr.le M M'/\(∀b,b<h.size->M' b=M b)/\AgM M' h'/\Yf M' rt r v/\R r:=by
  intro e C γ' h' a s1 m q;rw[ZY]at m;obtain⟨D,us,A,S,hl,o⟩:=wM s1 m q;split at A;rename_i r hc;obtain⟨U,l,V⟩:=Inv.frzL (C:=C) (R:=[]) (γ:=γ') (Xr D) (by simpa using m);rw[ZY]at l;refine⟨iQ us,OG hr hl o,⟨l.size,λi hi=>l.frame i hi (λh=>h)⟩,U.M,r,l.le,l.old,l.ag,⟨us,GY l.fz hc (S.imp λv _ u hu=>hu.gx V rfl),rfl⟩,A⟩;exact A.elim
 refine wp_mono (Ot hm J _ _ _ _ _ H γ h B d _ hs I) ?_;rintro ex a w ⟨O,N,L,s,h1,rfl,s1,m,m1,g1,z⟩;cases ex with
 |normal=>obtain⟨v,o,k,rest⟩:=fin O N L h1 a s1 m z;exact⟨s1.defers,v,o B s,v,s,h1,rfl,rfl,k,rest⟩
 |ret=>obtain⟨v,o,k,rest⟩:=fin O N L h1 a s1 m z;exact⟨s1.defers,v,o B s,v,s,h1,rfl,rfl,k,rest⟩
 |_=>exact z.elim
theorem KF(b:P.follows .mixedOrders=Ta)(gl:Fr)(tr:TypeId)(pl:PlanA)(args:List Arg){fn:Func}{rs:List ResultVar}{rt:List Ty}(c:P.funcs[f]?=Tc fn)(i:Yc fn=Ta)(h:fn.results.toList=rs)(k:fn.ntmps=n)
  (l:Nat.ble args.length n=Ta) {R:fi rt->Prop} {F:Prop} (H:F) (e:F=WA P gl tr n pl (codeOf fn) [] (uW P rs rt R) (lC 0 args) []):PC P gl f args rt R:=
 RQ b gl tr pl args c i h k l (e ▸ H)
end
end Go.X
end
section
namespace Go.X
open Go Go.RowKit
section
variable {P:Program} {f:FuncId} {h:zc} {M gl:Fr} {v:Value} {us:List Value}
theorem XC.of_calls{args:Array Value}{R:Value->zc->Prop}
  (H:∀B d,Calls P f args (mk B d h) λe w'=>∃v,e=.returned v/\w'.os=B.os/\w'.tape=B.tape/\w'.output=B.output/\R v w'.heap):XC P f args h R:=by
 intro B d;refine(H B d).mono ?_;rintro e w' ⟨v,rfl,h1,b,i,c⟩;refine⟨v,w'.drawn,w'.heap,rfl,?_,c⟩;cases w';simp only[mk]at *;subst h1;subst b;subst i;rfl
theorem AgM.keep{h h':zc}(ag:AgM M h)(k:Keep h.size h h'):AgM M h':=λb c e=>by obtain⟨T,m,e'⟩:=ag b c e;exact⟨T,m,by rw[k.get b (ag.lt e)];exact e'⟩
def mz:Arg->Option Value
 |⟨.int k,x⟩=>Tc (.int k x)
 |⟨.bool,x⟩=>Tc (.bool x)
 |⟨.str,x⟩=>Tc (.string x)
 |_=>Td
def kE:List Arg->Option (List Value)
 |[]=>Tc []
 |a::l=>match mz a,kE l with
  |some v,some vs=>Tc (v::vs)
  |_,_=>Td
theorem Tv{a:Arg}{v u:Value}(h:mz a=Tc v)(b:RdV M a.t a.x u):u=v:=by
 obtain⟨t,x⟩:=a;cases t with
 |int k=>simp only[mz,YL]at h;subst h;simpa[RdV,Rd,fe]using b
 |bool=>simp only[mz,YL]at h;subst h;simpa[RdV,Rd,fe]using b
 |str=>simp only[mz,YL]at h;subst h;simpa[RdV,Rd,fe]using b
 |_=>simp[mz]at h
theorem tM{M:Fr}:∀{l:List Arg} {vs us:List Value},kE l=Tc vs->Y1 M l us->us=vs
 |[],vs,us,h,hd=>by
  simp only[kE,YL]at h;subst h;cases us with
  |nil=>rfl
  |cons _ _=>exact hd.elim
 |a::l,vs,us,h,hd=>by
  simp only[kE]at h;split at h;rename_i v c h1 b;simp only[YL]at h;subst h;cases us with
  |nil=>exact hd.elim
  |cons u us=>rw[Tv h1 hd.1,tM b hd.2]
  cases h
theorem PC.of_scal{args:List Arg}{rt:List Ty}{R:fi rt->Prop}(l:kE args=Tc us){r:fi rt}(o:∀M,Yf M rt r v)(p:R r)
  (H:∀w:World,AgM gl w.heap->Calls P f us.toArray w λe w'=>e=.returned v/\Below w.heap.size w w'):PC P gl f args rt R:=by
 intro h M vs m ag n;rw[tM l n];refine XC.of_calls λB d=>(H (mk B d h) λb c e=>ag b c (m b c e)).mono ?_;rintro e w' ⟨rfl,i⟩;have k:Keep h.size h w'.heap:=⟨i.size,i.block⟩;exact⟨v,rfl,i.os,i.tape,i.output,k,M,r,Fr.le.refl _,λ_ _=>rfl,ag.keep k,o M,p⟩
theorem PC.of_same{args:List Arg}{rt:List Ty}{R:fi rt->Prop}(b:kE args=Tc us){r:fi rt}(h:∀M,Yf M rt r v)(k:R r)
  (H:∀w:World,AgM gl w.heap->Calls P f us.toArray w λe w'=>e=.returned v/\w'=w):PC P gl f args rt R:=
 PC.of_scal b h k λw c=>(H w c).mono λe w' ⟨h1,i⟩=>⟨h1,i ▸ Below.refl _ _⟩
theorem nE(k:IntKind)(i:Int):Yf M [.int k] i (.int k i):=⟨[_],⟨_,rfl,rfl⟩,rfl⟩
theorem rU(b:Bool):Yf M [.bool] b (.bool b):=⟨[_],⟨_,rfl,rfl⟩,rfl⟩
theorem oP(s:Bt):Yf M [.str] s (.string s):=⟨[_],⟨_,rfl,rfl⟩,rfl⟩
theorem AgM.glob{w:World}(ag:AgM gl w.heap){b o:Nat}{cs:Array Value}(f:gl b=Tc cs)(c:cs[o]?=Tc v):w.cell? ⟨b,o,Option.none⟩=Tc v:=by obtain⟨T,m,e⟩:=ag b cs f;simp[World.cell?,e,c]
theorem Es{xs:List Bt}{cells:List Value}(H:RowC M .str xs cells):cells=xs.map ZD:=by
 obtain⟨h1,b⟩:=H;simp only[sz,zb1]at h1 b;refine List.ext_getElem (by simp[h1]) λi hi f=>?_;have c:i<xs.length:=by omega
 have:=b i c;have e:(cells.drop i).take 1=[cells[i]]:=by rw[ZM hi];rfl
 rw[e]at this;have:=show[cells[i]]=[ZD xs[i]]from this;simpa using this
theorem PC.of_ex{args:List Arg}{rt:List Ty}{R:fi rt->Prop}(l:kE args=Tc us)
  (H:∀w:World,AgM gl w.heap->Calls P f us.toArray w λe w'=>∃v r,e=.returned v/\(∀M,Yf M rt r v)/\R r/\Below w.heap.size w w'):PC P gl f args rt R:=by
 intro h M vs m ag n;rw[tM l n];refine XC.of_calls λB d=>(H (mk B d h) λb c e=>ag b c (m b c e)).mono ?_;rintro e w' ⟨v,r,rfl,o,p,i⟩;have k:Keep h.size h w'.heap:=⟨i.size,i.block⟩;exact⟨v,rfl,i.os,i.tape,i.output,k,M,r,Fr.le.refl _,λ_ _=>rfl,ag.keep k,o M,p⟩
end
section
variable {P:Program} {gl M:Fr} {f:FuncId} {h h':zc} {vs cs:List Value} {K:Value -> zc -> Prop} {t:Ty} {u v:Value} {i:Int} {s:Sl} {k:Nat}
def PX(P:Program)(f:FuncId)(vs:Array Value)(h:zc)(M:Fr)(rt:List Ty)(R:fi rt->Prop):Prop:=
 XC P f vs h λv h'=>Keep h.size h h'/\∃M' r,Fr.le M M'/\(∀b,b<h.size->M' b=M b)/\AgM M' h'/\Yf M' rt r v/\R r
theorem PC.px{args:List Arg}{rt:List Ty}{R:fi rt->Prop}(H:PC P gl f args rt R)(b:Fr.le gl M)(ag:AgM M h)(c:Y1 M args vs):PX P f vs.toArray h M rt R:=H h M vs b ag c
structure Later (h:zc) (M:Fr) (h':zc) (M':Fr):Prop where
 keep:Keep h.size h h'
 le:Fr.le M M'
 old:∀b,b<h.size->M' b=M b
 ag:AgM M' h'
theorem Later.refl(ag:AgM M h):Later h M h M:=⟨Keep.refl _ _,Fr.le.refl _,λ_ _=>rfl,ag⟩
theorem Later.trans{h h' c:zc}{M M' e:Fr}(a:Later h M h' M')(b:Later h' M' c e):Later h M c e:= ⟨a.keep.trans b.keep a.keep.size,a.le.trans b.le,λx f=>(b.old x (by have:=a.keep.size;omega)).trans (a.old x f),b.ag⟩
theorem Later.same(ag:AgM M h)(k:Keep h.size h h'):Later h M h' M:=⟨k,Fr.le.refl _,λ_ _=>rfl,ag.keep k⟩
theorem Later.push(ag:AgM M h)(o:Obj):Later h M (h.push o) M:=Later.same ag (Keep.push _ _ (YM _))
theorem PX.go{vs:Array Value}{rt:List Ty}{R:fi rt->Prop}(H:PX P f vs h M rt R)(l:∀v h' M' r,Later h M h' M'->Yf M' rt r v->R r->K v h'):XC P f vs h K:= XC.mono H λv h' ⟨k,M',r,c,m,e,i,b⟩=>l v h' M' r ⟨k,c,m,e⟩ i b
theorem PX.of{vs:Array Value}{rt:List Ty}{R:fi rt->Prop}(H:XC P f vs h λv h'=>∃M' r,Later h M h' M'/\Yf M' rt r v/\R r):PX P f vs h M rt R:= XC.mono H λv h' ⟨M',r,l,c,b⟩=>⟨l.keep,M',r,l.le,l.old,l.ag,c,b⟩
theorem PC.go{args:List Arg}{rt:List Ty}{R:fi rt->Prop}(H:PC P gl f args rt R)(c:Fr.le gl M)(ag:AgM M h)(b:Y1 M args vs) (e:∀v h' M' r,Later h M h' M'->Yf M' rt r v->R r->K v h'):XC P f vs.toArray h K:=(H.px c ag b).go e
theorem eK{x:El t}(b:fe t=Tb):RdV M t x u↔Rd M t x [u]:=by unfold RdV;rw[b];simp
theorem Yu{x:El t}:Yf M [t] x v↔RdV M t x v:=by constructor;rintro⟨us,⟨u,rfl,h⟩,rfl⟩;exact h;intro h;exact⟨[v],⟨v,rfl,h⟩,rfl⟩
theorem eP{b:Bool}(h:Yf M [.bool] b v):v=.bool b:=by have:=Yu.1 h;rw[eK rfl]at this;simpa[Rd]using this
theorem i3{k:IntKind}(h:Yf M [.int k] i v):v=.int k i:=by have:=Yu.1 h;rw[eK rfl]at this;simpa[Rd]using this
theorem iP{s:Bt}(h:Yf M [.str] s v):v=.string s:=by have:=Yu.1 h;rw[eK rfl]at this;simpa[Rd]using this
theorem zz:Y1 M [] []:=trivial
theorem zm{a:Arg}{l:List Arg}{us:List Value}(h:RdV M a.t a.x u)(b:Y1 M l us):Y1 M (a::l) (u::us):=⟨h,b⟩
theorem rdStr(s:Bt):RdV M .str s (.string s):=by rw[eK rfl];rfl
theorem Z2(k:IntKind)(i:Int):RdV M (.int k) i (.int k i):=by rw[eK rfl];rfl
theorem rdBool(b:Bool):RdV M .bool b (.bool b):=by rw[eK rfl];rfl
theorem xt{s:Bt}(h:RdV M .str s u):u=.string s:=by rw[eK rfl]at h;simpa[Rd]using h
theorem yj{k:IntKind}(h:RdV M (.int k) i u):u=.int k i:=by rw[eK rfl]at h;simpa[Rd]using h
theorem ye{v:Tr}(h:RdV M .tree v u):∃sk si:Sl,u=.agg #[.int .i64 v.kind,.string v.text,aK sk,aK si]/\Rd M (.row .str) v.keys [aK sk]/\Rd M (.row .tree) v.items [aK si]:=by unfold RdV at h;simp only[fe,if_true]at h;obtain⟨cs,rfl,k⟩:=h;obtain⟨vk,vi,rfl,h1,e⟩:=TrRd.keys k;have c:=h1;have b:=e;obtain⟨o,f,l,c1,m,_⟩:=c;obtain⟨p,i,a2,c2,n,_⟩:=b;simp only[za4,and_true]at f i;subst f;subst i;subst m;subst n;exact⟨⟨l,v.keys.length,c1⟩,⟨a2,v.items.length,c2⟩,rfl,h1,e⟩
theorem zj{v:Tr}{sk si:Sl}(h1:Rd M (.row .str) v.keys [aK sk])(b:Rd M (.row .tree) v.items [aK si]):RdV M .tree v (.agg #[.int .i64 v.kind,.string v.text,aK sk,aK si]):=by unfold RdV;simp only[fe,if_true];exact⟨[.int .i64 v.kind,.string v.text,aK sk,aK si],rfl,by cases v;exact TrRd.of h1 b⟩
theorem lI{xs:List (El t)}(h:RdV M (.row t) xs u):∃s:Sl,u=aK s/\Rd M (.row t) xs [aK s]:=by rw[eK rfl]at h;have h':=h;obtain⟨w,e,a,c,q,_⟩:=h';simp only[za4,and_true]at e;subst e;subst q;exact⟨⟨a,xs.length,c⟩,rfl,h⟩
theorem rowLen{xs:List (El t)}(h:Rd M (.row t) xs [aK s]):s.len=xs.length/\xs.length<=140737488355328/\xs.length<=s.cap:=by obtain⟨w,e,a,c,q,b,_⟩:=h;simp only[za4,and_true]at e;subst e;simp only[aK,ZU]at q;omega
theorem rowAt{xs:List (El t)}(h:Rd M (.row t) xs [aK s])(f:k<xs.length):∃b o cs,s.a=Tc ⟨b,o,Td⟩/\M b=Tc cs/\Rd M t xs[k] (cut cs (o+k*sz t) (sz t)):=by obtain⟨w,e,a,c,q,l,i⟩:=h;simp only[za4,and_true]at e;subst e;simp only[aK,ZU]at q;grind
theorem ku{M:Fr}{h:zc}(ag:AgM M h){b:Nat}{cs:Array Value}(k:M b=Tc cs):∀{vs:List Value} {o i:Nat},cut cs (o+i) vs.length=vs->zd h ⟨b,o,Td⟩ i vs
 |[],_,_,_=>trivial
 |v::vs,o,i,e=>by
  unfold cut at e;have c:o+i<cs.toList.length:=by rcases zad (o+i) cs.toList.length with f|f;exact f;grind
  rw[ZM c,ZV,List.take_succ_cons]at e;injection e with e1 e2;refine⟨?_,ku ag k (i:=i+1) e2⟩;rw[zw];refine ag.cell k ?_;grind
theorem nM(ag:AgM M h){b:Nat}{cs:Array Value}(c:M b=Tc cs){o:Nat}(e:cut cs o 1=[v]):ze h ⟨b,o,Td⟩=Tc v:=by have:=ku (vs:=[v]) (o:=o) (i:=0) ag c (by simpa using e);exact this.1
theorem qo(b o n:Nat):(⟨b,o,Td⟩:Addr).add n=⟨b,o+n,Td⟩:=zw b o n
theorem jt(ag:AgM M h){xs:List Bt}(H:Rd M (.row .str) xs [aK s])(f:k<xs.length)(hi:i=(k:Int)){L:Nat}(p:L=s.len){Q:Bt->Prop}(e:Q xs[k]):
  ∃a:Addr,(s.a=Tc a/\0<=i/\i<(L:Int))/\∃x:Bt,ze h (a.add (i.toNat*1))=Tc (.string x)/\Q x:=by
 obtain⟨b,o,cs,l,c,m⟩:=rowAt H f;have n:=(rowLen H).1;refine⟨_,⟨l,by omega,by omega⟩,xs[k],?_,e⟩;rw[qo,hi,YO];exact nM ag c m
theorem Xt(ag:AgM M h){xs:List Tr}(H:Rd M (.row .tree) xs [aK s])(f:k<xs.length):∃(a:Addr) (sk si:Sl),s.a=Tc a/\zd h (a.add (k*4)) 0 [.int .i64 xs[k].kind,.string xs[k].text,aK sk,aK si]/\Rd M (.row .str) xs[k].keys [aK sk]/\Rd M (.row .tree) xs[k].items [aK si]:=by
 obtain⟨b,o,cs,l,e,m⟩:=rowAt H f;have n:RdV M .tree xs[k] (.agg (cut cs (o+k*sz .tree) (sz .tree)).toArray):=by unfold RdV;simp only[fe,if_true];exact⟨_,rfl,m⟩
 obtain⟨sk,si,q,h1,c⟩:=ye n;refine⟨_,sk,si,l,?_,h1,c⟩;rw[qo];refine ku ag e (i:=0) ?_;have:(cut cs (o+k*sz .tree) (sz .tree))=[.int .i64 xs[k].kind,.string xs[k].text,aK sk,aK si]:=by injection q with q;exact congrArg Array.toList q
 exact this
def Mx(M:Fr)(b:Nat)(cs:Array Value):Fr:=λi=>if i=b then Tc cs else M i
theorem Later.frz(ag:AgM M h)(cs:Array Value)(T:TypeId):Later h M (h.push (.cells cs T)) (Mx M h.size cs) where
 keep:=Keep.push _ _ (YM _)
 le:=λb c e=>by have:=ag.lt e;unfold Mx;grind
 old:=λb hb=>by unfold Mx;grind
 ag:=λb c e=>by unfold Mx at e;split at e;simp_all;obtain⟨T',m,e'⟩:=ag b c e;grind
theorem Ql(M:Fr)(b:Nat)(cs:Array Value):Mx M b cs b=Tc cs:=by unfold Mx;simp
theorem rS{T:TypeId}(k:Keep (h.size+1) (h.push (.cells cs.toArray T)) h'):zd h' ⟨h.size,0,Td⟩ 0 cs:= ((Blk.new h cs.toArray T).keep (k.get _ (by omega))).ld
theorem KE{T:TypeId}(k:Keep (h.size+1) (h.push (.cells cs.toArray T)) h'){i:Nat}(b:cs[i]?=Tc v):ze h' ((⟨h.size,0,Td⟩:Addr).add i)=Tc v:=by have:=((Blk.new h cs.toArray T).keep (k.get _ (by omega)));exact this.cellAdd (o:=0) (by simpa using b)
end
end Go.X
end
