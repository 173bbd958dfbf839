/- A part of the proof: nothing is stated here for its own sake. -/
import Derived.Test.YtplilfikcimcbaaGreatDoorPdA
import Derived.Laws.StructEq
import Derived.Deep.AppendSrc
import Derived.Laws.BytesString
import Derived.Deep.LoopGhost
import Derived.Below
open _root_.Go.Addr renaming add->XT
open _root_.Array renaming getD_eq_getD_getElem?->zas,getElem?_append_left->zb0,getElem?_eq_getElem->zae,getElem?_eq_some_iff->YE,getElem?_push->zau,getElem?_setIfInBounds_ne->YV,length_toList->zcb,range->zdv,replicate->za0,size_setIfInBounds->ZL,toList_map->zce
open _root_.Bool renaming false_eq_true->zad,or_eq_true->zbt
open _root_.Go.Builtin renaming append_->YO,firstCells->zbv,len_->zb4
open _root_.Go.Code renaming cond->zdn,region->zdq
open _root_.Go.Deferred renaming ofValue->zc7
open _root_.Go.Instr renaming fill->zd0,indexAt->zdo,next->zcg,range->zdg,sliceAt->zdd,storeAt->YG,sureAddr->zc2
open _root_.List.Pairwise renaming nil->zdw
open _root_.List renaming all_eq_true->ZH,append_assoc->YS,append_nil->ZO,cons_append->ZU,drop_eq_getElem_cons->zaf,drop_zero->za2,eq_nil_of_length_eq_zero->YU,ext_getElem?->zab,getElem?_append_left->zbn,getElem?_append_right->zbg,getElem?_drop->zaa,getElem?_eq_getElem->YA,getElem?_eq_none->ZQ,getElem?_eq_some_iff->ZV,getElem?_map->zap,getElem?_take->ZJ,getElem_map->zbl,length_append->XX,length_cons->YL,length_drop->zai,length_eq_zero_iff->zba,length_map->YF,length_nil->zag,length_take->ZP,mapM_cons->zdh,map_cons->ZE,mem_append->YK,mem_append_left->YM,mem_append_right->ZD,mem_cons->YB,mem_cons_of_mem->XZ,mem_cons_self->YJ,mem_map->ZI,mem_range->ZR,mem_singleton->YY,nil_append->za6,nodup_range->zc9,pairwise_append->zby,pairwise_cons->zam,range->ZN,size_toArray->zcl,take_append_drop->zan,take_left->zc4,take_of_length_le->ZS,take_succ_eq_append_getElem->YD
open _root_.List.cons renaming injEq->zbs
open _root_.Nat renaming add_mul->za4,blt_eq->zbo,eq_of_beq_eq_true->YC,eq_zero_or_pos->zcy,le_mul_of_pos_right->zcw,le_of_ble_eq_true->za3,le_refl->XV,le_trans->zay,lt_or_ge->ZX,mul_le_mul_right->ZK,mul_one->zac,one_mul->zc5,zero_add->YP,zero_le->YT
open _root_.Go.Next renaming value->zcp
open _root_.Go.Op renaming equal->zdt
open _root_.Option renaming map_eq_some_iff->zbk,map_some->zds
open _root_.Option.some renaming inj->ZA,injEq->XU
open _root_.Prod.mk renaming injEq->zar
open _root_.Pure renaming pure->zcj
open _root_.UInt8 renaming ofNat->zat
open _root_.Go.Utf8 renaming decode->zdu
open _root_.Go.Value renaming int->zax,string->ZC
open _root_.Go.Value.slice renaming injEq->ZG
set_option linter.unusedVariables false
set_option maxRecDepth 100000
namespace Go.X
end Go.X
namespace Go.Proofs
end Go.Proofs
open Go Go.X Go.Proofs
open _root_.Bool renaming true->Ta,false->Tc
open _root_.Option renaming some->Td,none->Te
section
namespace Go.X
section
variable {cs:CS} {γ:Gh} {h:zc} {u:Value} {t el:TypeId} {a:Option Addr} {n:Int} {av:AV} {P:Program} {g:Option Bool} {σ:Operand -> Value} {b:Bool} {o:Oper}
variable {h0 : zc} {W : Nat -> Prop} {M0 : Fr}
def rowOf(cs:CS):AA->Option ((t:Ty)×List (El t))
 |.d (.row t) xs=>Td ⟨t,xs⟩
 |.dc t xs=>Td ⟨t,xs⟩
 |.own c=>match Q7 cs c with
  |some (.fz t xs)=>Td ⟨t,xs⟩
  |_=>Te
 |_=>Te
theorem qM(I:Inv h0 W M0 cs γ h){e:AA}{r:(t:Ty)×List (El t)}(b:rowOf cs e=Td r)(c:DenA γ e u):Rd γ.M (.row r.1) r.2 [u]:=by unfold rowOf at b;split at b;simp only[XU]at b;subst b;exact c;simp only[XU]at b;subst b;obtain⟨s,_,_,h⟩:=c;exact h;split at b;rename_i t xs f;simp only[XU]at b;subst b;rw[show u=_ from c];exact I.den _ (qi f);cases b;cases b
theorem Rd.sub{M:Fr}{t:Ty}{xs:List (El t)}{n c:Nat}(H:Rd M (.row t) xs [.slice a n c]){l r m:Nat}(h1:l<=r)(z:r<=xs.length)(E:r<=m)(C:m<=c):
  Rd M (.row t) ((xs.take r).drop l) [.slice (iG a (sz t) l m) (r-l) (m-l)]:=by
 obtain⟨v,e,B,A,k,F,H⟩:=H;cases e;simp only[ZG]at k;obtain⟨rfl,rfl,rfl⟩:=k;have f:((xs.take r).drop l).length=r-l:=by simp;omega
 refine⟨_,rfl,iG a (sz t) l m,m-l,by rw[f],⟨by rw[f];omega,by rw[f];omega⟩,?_⟩;by_cases D:r=l;left;apply YU;omega;rcases H with j|⟨b,o,cs,w,p,hi⟩;left;subst j;simp;right;have h:¬(m=l):=by omega
 refine⟨b,o+l*sz t,cs,?_,p,λi u=>?_⟩;unfold iG;rw[za h,w];simp[zh];have:=hi (l+i) (by omega);have x:((xs.take r).drop l)[i]=xs[l+i]:=by simp
 rw[x];have y:o+l*sz t+i*sz t=o+(l+i)*sz t:=by rw[za4];omega
 rw[y];exact this
def s8:AV->Option Int
 |.g (.a (.v (.int _ n)))=>Td n
 |_=>Te
theorem FJ(h:s8 av=Td n)(b:DenV γ av u):∃k,u=.int k n:=by unfold s8 at h;split at h;simp only[XU]at h;subst h;exact⟨_,b⟩;cases h
def ma(P:Program)(t:TypeId):Option TypeId:=match P.underlying t with
 |some (.slice el)=>bif yc P el then Td el else Te
 |_=>Te
theorem Jj(h:ma P t=Td el):P.underlying t=Td (.slice el)/\yc P el=Ta:=by
 unfold ma at h;split at h;rename_i e b;cases ho:yc P e with
 |false=>rw[ho]at h;cases h
 |true=>rw[ho]at h;simp only[zI,XU]at h;subst h;exact⟨b,ho⟩
 cases h
def Ay(P:Program)(cs:CS)(t:TypeId)(b:AA)(n:Int)(g:Option Bool)(K:AV->Prop):Prop:=
 match ma P t with
 |some el=>match rowOf cs b with
  |some r=>bif Nat.beq (yf P el) (sz r.1)then ∃y:El r.1,req g (0<=n/\r.2[n.toNat]?=Td y)/\K (.g (.a (.elt r.1 y 0)))else False
  |none=>match b with
   |.own c=>match Q7 cs c with
    |some (.row e ty xs)=>bif Nat.beq (yf P el) (sz ty)then req g (0<=n/\n.toNat<xs.length)/\K (.g (.a (.oelt c (sz ty) n.toNat 0)))else False
    |_=>False
   |_=>False
 |none=>False
theorem Ct(c:P.underlying t=Td (.slice el))(e:yc P el=Ta){a:Addr}{len cap:Nat}{k:IntKind}(h1:0<=n)(j:n<(len:Int))(h:zc):
  QExec P (zdo t (.slice (Td a) len cap) (.int k n)) h (.pointer (Td (a.add (n.toNat*yf P el)))):=by
 have:=Z0 (P:=P) (t:=t) (x:=.slice (Td a) len cap) (i:=.int k n) (g:=Te) (K:=λv=>v=.pointer (Td (a.add (n.toNat*yf P el)))) (λl b=>by rcases b with b|⟨m,b⟩;rw[c]at b;cases b;exact jm e;rw[c]at b;cases b) (by unfold rV;rw[c];exact⟨a,⟨rfl,h1,j⟩,rfl⟩);obtain⟨v,rfl,f⟩:=this;exact f trivial h
theorem JQ{J:AA}{K:AV->Prop}(H:Ay P cs t J n g K):
  ∃av,K av/\(ij g->∀γ h u k,Inv h0 W M0 cs γ h->DenA γ J u->∃v,DenV γ av v/\QExec P (zdo t u (.int k n)) h v):=by
 unfold Ay at H;split at H;rename_i el z;obtain⟨G,F⟩:=Jj z;split at H;rename_i r U;cases hz:Nat.beq (yf P el) (sz r.1)with
 |false=>rw[hz]at H;exact H.elim
 |true=>rw[hz]at H;obtain⟨y,B,A⟩:=H;refine⟨_,A,λw γ h u k I p=>?_⟩;obtain⟨i,l⟩:=B.out w;have j:=YC hz;obtain⟨v,e,a,c,Q,hn,H⟩:=qM I U p;cases e;subst Q;have hi:n.toNat<r.2.length:=(ZV.1 l).1;have V:r.2[n.toNat]=y:=(ZV.1 l).2;rcases H with E|⟨b,o,M,Y,N,x⟩;rw[E]at hi;simp at hi;subst Y;refine⟨_,?_,Ct G F i (by omega) h⟩;have:=x n.toNat hi;rw[V]at this;rw[zh,j];exact⟨b,o+n.toNat*sz r.1,M,rfl,N,this⟩
 split at H;rename_i c _;split at H;rename_i e ty xs Z;cases hz:Nat.beq (yf P el) (sz ty)with
 |false=>rw[hz]at H;exact H.elim
 |true=>rw[hz]at H;obtain⟨B,A⟩:=H;refine⟨_,A,λw γ h u k I p=>?_⟩;obtain⟨i,hi⟩:=B.out w;have j:=YC hz;obtain⟨cells,f,L,_,T⟩:=I.den _ (qi Z);simp only at T f;rcases f.2 with⟨m,h1⟩|⟨g',cap,S,m,_,O,_,_,_,C⟩;omega;simp only[ZG]at m;have D:u=aK (γ.σ c):=p;subst D;unfold aK;rw[m.1];refine⟨_,?_,Ct G F i (by omega) h⟩;rw[zh,j,YP];exact⟨g',m.1,rfl⟩
 exact H.elim;exact H.elim;exact H.elim
def qZ(ρ:Operand->Option AV)(d:Int):Option Operand->Option Int
 |none=>Td d
 |some x=>match ρ x with
  |some av=>s8 av
  |none=>Te
theorem Jk{ρ:Operand->Option AV}(c:∀x av,ρ x=Td av->DenV γ av (σ x)){d n:Int}{x:Option Operand}(h:qZ ρ d x=Td n):yz (x.map σ) d=Td n:=by unfold qZ at h;split at h;exact h;rename_i y;split at h;rename_i av b;obtain⟨k,e⟩:=FJ h (c _ _ b);simp[yz,e];cases h
def Bi(P:Program)(cs:CS)(ρ:Operand->Option AV)(t:TypeId)(b:AA)(lo hi mx:Option Operand)(g:Option Bool)(K:AV->Prop):Prop:=
 match ma P t with
 |some el=>match rowOf cs b with
  |some r=>bif Nat.beq (yf P el) (sz r.1)then(match qZ ρ 0 lo,qZ ρ (r.2.length:Int) hi with
   |some l,some h=>match mx with
    |none=>req g (0<=l/\l<=h/\h<=(r.2.length:Int))/\K (.g (.a (.d (.row r.1) ((r.2.take h.toNat).drop l.toNat))))
    |some m=>match qZ ρ 0 (Td m),hi with
     |some m,some _=>req g (0<=l/\l<=h/\h<=(r.2.length:Int)/\m=h)/\K (.g (.a (.dc r.1 ((r.2.take h.toNat).drop l.toNat))))
     |_,_=>False
   |_,_=>False)else False
  |none=>False
 |none=>False
theorem Dc(c:P.underlying t=Td (.slice el))(e:yc P el=Ta){len cap:Nat}{lo hi mx:Option Value}{l r m:Int}(f:yz lo 0=Td l)(j:yz hi (len:Int)=Td r)(n:yz mx (cap:Int)=Td m) (h0:mx=Te\/∃v,hi=Td v) (h1:0<=l) (i:l<=r) (k:r<=m) (p:m<=(cap:Int)) (h:zc):
  QExec P (zdd t (.slice a len cap) lo hi mx) h (.slice (iG a (yf P el) l.toNat m.toNat) (r.toNat-l.toNat) (m.toNat-l.toNat)):=by
 have:=Yo (P:=P) (t:=t) (x:=.slice a len cap) (lo:=lo) (hi:=hi) (mx:=mx) (g:=Te) (K:=λv=>v=.slice (iG a (yf P el) l.toNat m.toNat) (r.toNat-l.toNat) (m.toNat-l.toNat)) (λu b=>by rcases b with b|⟨w,b⟩ <;> (rw[c]at b;cases b);exact jm e) (by unfold vc;rw[c];simp only[f,j,n];exact⟨h0,⟨h1,i,k,p⟩,trivial⟩);obtain⟨v,rfl,o⟩:=this;exact o trivial h
theorem UJ{ρ:Operand->Option AV}{J:AA}{lo hi mx:Option Operand}{K:AV->Prop}(H:Bi P cs ρ t J lo hi mx g K):
  ∃av,K av/\(ij g->∀γ h u σ,Inv h0 W M0 cs γ h->(∀x av,ρ x=Td av->DenV γ av (σ x))->DenA γ J u->∃v,DenV γ av v/\QExec P (zdd t u (lo.map σ) (hi.map σ) (mx.map σ)) h v):=by
 unfold Bi at H;split at H;rename_i el y;obtain⟨G,D⟩:=Jj y;split at H;rename_i r F;cases hz:Nat.beq (yf P el) (sz r.1)with
 |false=>rw[hz]at H;exact H.elim
 |true=>
  rw[hz]at H;have n:=YC hz;simp only[zI]at H;split at H;rename_i l Q E k;split at H;obtain⟨C,z⟩:=H;refine⟨_,z,λw γ h u σ I j o=>?_⟩;obtain⟨h1,p,M⟩:=C.out w;have f:=qM I F o;have b:=f;obtain⟨v,e,a,c,A,N,_⟩:=b;cases e;subst A;refine⟨_,?_,Dc G D (Jk j E) (Jk j k) (m:=(c:Int)) rfl (.inl rfl) h1 p (by omega) (Int.le_refl _) h⟩;rw[n];exact f.sub (by omega) (by omega) (by omega) (by omega);rename_i m;split at H;rename_i m' S O;obtain⟨C,z⟩:=H;refine⟨_,z,λw γ h u σ I j o=>?_⟩;obtain⟨h1,p,M,L⟩:=C.out w;subst L;have f:=qM I F o;have b:=f;obtain⟨v,e,a,c,A,N,_⟩:=b;cases e;subst A;have i:=Jk j O;have B:yz ((Td m).map σ) (c:Int)=Td m':=by unfold yz at i ⊢;simp only[zds]at i ⊢;split at i <;> simp_all
  refine⟨_,?_,Dc G D (Jk j E) (Jk j k) B (.inr ⟨_,rfl⟩) h1 p (Int.le_refl _) (by omega) h⟩;rw[n];refine⟨⟨_,_,_⟩,rfl,rfl,f.sub (by omega) (by omega) (by omega) (by omega)⟩;exact H.elim;exact H.elim
 exact H.elim;exact H.elim
def zY(cs:CS):AA->Option Nat
 |.d (.row _) xs=>Td xs.length
 |.dc _ xs=>Td xs.length
 |.own c=>match Q7 cs c with
  |some (.fz _ xs)=>Td xs.length
  |some (.row _ _ xs)=>Td xs.length
  |_=>Te
 |_=>Te
theorem MM(I:Inv h0 W M0 cs γ h){k:AA}{n:Nat}(b:zY cs k=Td n)(f:DenA γ k u):∃a c,u=.slice a n c:=by
 have key:∀{t:Ty} {xs:List (El t)},Rd γ.M (.row t) xs [u]->∃a c,u=.slice a xs.length c:=by rintro t xs ⟨v,e,a,c,l,_⟩;cases e;exact⟨a,c,l⟩
 unfold zY at b;split at b;simp only[XU]at b;subst b;exact key f;simp only[XU]at b;subst b;obtain⟨s,_,_,f⟩:=f;exact key f;split at b;rename_i c t xs i;simp only[XU]at b;subst b;rw[show u=_ from f]at key ⊢;exact key (I.den _ (qi i));rename_i c e t xs i;simp only[XU]at b;subst b;obtain⟨cells,_,_,_,j⟩:=I.den _ (qi i);simp only at j;rw[show u=_ from f];exact⟨_,_,by unfold aK;rw[j]⟩;cases b;cases b
def Cl:AA->List AA
 |.v x=>x.cells.toList.map .v
 |x=>[x]
def oQ:AV->Option (List AA)
 |.g (.a x)=>Td (Cl x)
 |.g (.agg l)=>Td l
 |_=>Te
theorem Ml(h:u.oneCell'=Ta):u.cells.toList=[u]:=by cases u <;> first|rfl|simp[Value.oneCell']at h
theorem Z3(γ:Gh):∀l:List Value,All2 (DenA γ) (l.map .v) l
 |[]=>trivial
 |_::l=>⟨rfl,Z3 γ l⟩
theorem WT{x:AA}(j:DenA γ x u):All2 (DenA γ) (Cl x) u.cells.toList:=by
 have key:u.oneCell'=Ta->All2 (DenA γ) [x] u.cells.toList:=λh=>by rw[Ml h];exact⟨j,trivial⟩
 cases x with
 |v y=>rw[show u=y from j];exact Z3 γ _
 |d t y=>exact key (Rd.one (show Rd γ.M t y [u]from j) u (by simp))
 |box c o=>exact key (by rw[show u=_ from j];rfl)
 |own c=>exact key (by rw[show u=_ from j];rfl)
 |oelt c z i o=>obtain⟨g,_,e⟩:=j;exact key (by rw[e];rfl)
 |elt t y o=>obtain⟨b,f,cs,e,_⟩:=j;exact key (by rw[e];rfl)
 |dc t xs=>obtain⟨s,e,_⟩:=j;exact key (by rw[e];rfl)
theorem vI{l:List AA}(h:oQ av=Td l)(b:DenV γ av u):All2 (DenA γ) l u.cells.toList:=by unfold oQ at h;split at h;simp only[XU]at h;subst h;exact WT b;simp only[XU]at h;subst h;obtain⟨us,rfl,c⟩:=b;simpa[Value.cells]using c;cases h
def nh(b:Nat->Option (Nat×Nat))(cells:List AA):List (Nat×AV)->Option (List AA)
 |[]=>Td cells
 |(i,av)::rest=>match b i,oQ av with
  |some (off,size),some l=>bif Nat.beq l.length size then(bif Nat.ble (off+l.length) cells.length then nh b (cells.take off++l++cells.drop (off+l.length)) rest else Te)else Te
  |_,_=>Te
theorem KB(vs:List Value):∀(k off:Nat) (cs:Array Value),off+k+vs.length<=cs.size ->
  ((vs.zipIdx k).foldl (λcs (x:Value×Nat)=>cs.setIfInBounds (off+x.2) x.1) cs).toList=cs.toList.take (off+k)++vs++cs.toList.drop (off+k+vs.length):=by
 induction vs with
 |nil=>intro k off cs h;simp
 |cons v vs b=>
  intro k off cs h;simp only[YL]at h;rw[List.zipIdx_cons,List.foldl_cons];refine(b (k+1) off (cs.setIfInBounds (off+k) v) (by rw[ZL];omega)).trans ?_;simp only[Array.toList_setIfInBounds,YL];have hi:off+k<cs.toList.length:=by simp;omega
  rw[<-Nat.add_assoc,List.drop_set_of_lt (by omega)];have c:(cs.toList.set (off+k) v).take (off+k+1)=cs.toList.take (off+k)++[v]:=by
   rw[List.take_set,YD hi,List.set_append_right _ _ (by simp;omega)];have:off+k-(cs.toList.take (off+k)).length=0:=by simp;omega
   rw[this];rfl
  rw[c,show off+k+(vs.length+1)=off+k+1+vs.length by omega];simp
theorem J9{b:Nat->Option (Nat×Nat)}{γ:Gh}:∀{c:List (Nat×AV)} {cells r:List AA} {us:List Value} {ps:List (Nat×Value)},nh b cells c=Td r->All2 (DenA γ) cells us->All2 (λ(x:Nat×AV) (y:Nat×Value)=>x.1=y.1/\DenV γ x.2 y.2) c ps ->
  ∃ws:List Value,zd0 b us.toArray ps=Td ws.toArray/\All2 (DenA γ) r ws
 |[],cells,r,us,[],h,hc,_=>by simp only[nh,XU]at h;subst h;exact⟨us,rfl,hc⟩
 |[],_,_,_,_::_,_,_,e=>e.elim
 |_::_,_,_,_,[],_,_,e=>e.elim
 |(i,av)::rest,cells,r,us,(j,v)::ps,h,hc,e=>by
  obtain⟨⟨k,u⟩,e⟩:=e;simp only at k u;subst k;simp only[nh]at h;split at h;rename_i off size l p z;cases hb:Nat.beq l.length size with
  |false=>rw[hb]at h;cases h
  |true=>
   rw[hb]at h;simp only[zI]at h;cases hb2:Nat.ble (off+l.length) cells.length with
   |false=>rw[hb2]at h;cases h
   |true=>
    rw[hb2]at h;simp only[zI]at h;have n:=vI z u;have f:=n.length;have B:=hc.length;have h1:=YC hb;have C:=za3 hb2;have t:v.cells.size=size:=by rw[<-h1,f];simp
    have m:All2 (DenA γ) (cells.take off++l++cells.drop (off+l.length)) (us.take off++v.cells.toList++us.drop (off+l.length)):=((hc.take off).append n).append (hc.drop _);obtain⟨ws,A,w⟩:=J9 h m e;refine⟨ws,?_,w⟩;simp only[zd0,p];have o:¬((decide (v.cells.size≠size)||decide (off+v.cells.size>us.toArray.size))=Ta):=by rw[t];simp;omega
    rw[za o];rw[<-A];congr 1;apply Array.ext';have:=KB v.cells.toList 0 off us.toArray (by simp;omega);rw[<-Array.foldl_toList,Array.toList_zipIdx];refine this.trans ?_;simp[<-f]
  cases h
def p6(P:Program):List Field->Bool
 |[]=>Ta
 |f::l=>bif yc P f.type then p6 P l else Tc
theorem Hb{P:Program}{h:zc}:∀{l:List Field},p6 P l=Ta->QExec P (l.mapM λf=>do pure (f.offset,<-Go.sizeOf f.type)) h (l.map λf=>(f.offset,yf P f.type))
 |[],_=>λ_ _=>rfl
 |f::l,H=>by
  simp only[p6]at H;cases ho:yc P f.type with
  |false=>rw[ho]at H;cases H
  |true=>rw[ho]at H;obtain⟨i,hi⟩:=jm ho;rw[zdh];exact QExec.bind (QExec.bind (QExec.sizeOf hi) (QExec.pure _)) (QExec.bind (Hb H) (QExec.pure _))
def placeOf(P:Program)(b:Array Field)(i:Nat):Option (Nat×Nat):=match b[i]? with
 |some f=>Td (f.offset,yf P f.type)
 |none=>Te
def mq(ρ:Operand->Option AV):List (Nat×Operand)->Option (List (Nat×AV))
 |[]=>Td []
 |(i,x)::l=>match ρ x,mq ρ l with
  |some av,some r=>Td ((i,av)::r)
  |_,_=>Te
theorem u7{γ:Gh}{ρ:Operand->Option AV}{σ:Operand->Value}(b:∀x av,ρ x=Td av->DenV γ av (σ x)):∀{l:List (Nat×Operand)} {r:List (Nat×AV)},mq ρ l=Td r ->
  All2 (λ(x:Nat×AV) (y:Nat×Value)=>x.1=y.1/\DenV γ x.2 y.2) r (l.map λx=>(x.1,σ x.2))
 |[],r,h=>by simp only[mq,XU]at h;subst h;trivial
 |(i,x)::l,r,h=>by simp only[mq]at h;split at h;rename_i av e h1 c;simp only[XU]at h;subst h;exact⟨⟨rfl,b _ _ h1⟩,u7 b c⟩;cases h
def zeroOf(P:Program)(t:TypeId):Option Value:=match P.info? t with
 |some i=>i.zero
 |none=>Te
theorem Jl{z:Value}(h:zeroOf P t=Td z)(b:zc):QExec P (zeroValue t) b z:=by unfold zeroOf at h;split at h;rename_i i hi;intro B d;simp[zeroValue,typeInfo,program,hi,Sem.run,h];cases h
def wY(P:Program)(t:TypeId)(b:List (Nat×AV)):Option (List AA):=match P.underlying t,zeroOf P t with
 |some (.struct fs),some z=>bif p6 P fs.toList then nh (placeOf P fs) (z.cells.toList.map .v) b else Te
 |_,_=>Te
theorem Oq{b:List (Nat×AV)}{r:List AA}(h:wY P t b=Td r){ps:List (Nat×Value)}(m:All2 (λ(x:Nat×AV) (y:Nat×Value)=>x.1=y.1/\DenV γ x.2 y.2) b ps)(c:zc):
  ∃ws:List Value,QExec P (Instr.build t ps.toArray) c (.agg ws.toArray)/\All2 (DenA γ) r ws:=by
 unfold wY at h;split at h;rename_i e z n hz;cases hof:p6 P e.toList with
 |false=>rw[hof]at h;cases h
 |true=>
  rw[hof]at h;simp only[zI]at h;obtain⟨ws,l,w⟩:=J9 h (Z3 γ _) m;refine⟨ws,?_,w⟩;intro B d;have o:=QExec.underlying (h:=c) n B d;have j:=Jl hz c B d;have k:=Hb (P:=P) (h:=c) hof B d;unfold Instr.build;rw[Sem.run_bind,j];simp only[Result.andThen_ok];rw[Sem.run_bind,o];simp only[Result.andThen_ok];rw[Sem.run_bind,Array.mapM_eq_mapM_toList,Sem.run_map,k];simp only[Result.andThen_ok];have p:(λi=>((e.toList.map λf=>(f.offset,yf P f.type)).toArray)[i]?)=placeOf P e:=by funext i;unfold placeOf;cases hi:e[i]? <;> simp[hi]
  rw[p];have u:z.cells.toList.toArray=z.cells:=by simp
  rw[u]at l;simp only[l];rfl
 cases h
def Ag(P:Program)(t:TypeId)(a b:Value):Option Bool:=match P.underlying t,a,b with
 |some (.int _),.int k x,.int k' y=>if k=k' then Td (x==y)else Te
 |some .string,.string x,.string y=>Td (x.toList==y.toList)
 |some .bool,.bool x,.bool y=>Td (x==y)
 |_,_,_=>Te
def ns(P:Program)(xs ys:List AA):List Field->Option Bool
 |[]=>Td Ta
 | f :: fs => if f.name = "_" then none else match qY P f.type xs f.offset, qY P f.type ys f.offset with
  |some (.a (.v a)),Td (.a (.v b))=>match Ag P f.type a b,ns P xs ys fs with
   |some p,some q=>Td (p&&q)
   |_,_=>Te
  |_,_=>Te
def BH(P:Program)(o:Oper)(ρ:Operand->Option AV):Option Bool:=match o.op with
 |.binOp .eql t x y _=>match ρ x,ρ y with
  |some (.g (.agg xs)),Td (.g (.agg ys))=>match P.underlying t with
   |some (.struct _)=>bif P.stoodInHeld t then Te else bif P.eqGuardType P.depth t then Te else ns P xs ys (P.fieldsOf t).toList
   |_=>Te
  |_,_=>Te
 |.binOp .neq t x y _=>match ρ x,ρ y with
  |some (.g (.agg xs)),Td (.g (.agg ys))=>match P.underlying t with
   |some (.struct _)=>bif P.stoodInHeld t then Te else bif P.eqGuardType P.depth t then Te else(match ns P xs ys (P.fieldsOf t).toList with
    |some b=>Td (!b)
    |none=>Te)
   |_=>Te
  |_,_=>Te
 |_=>Te
theorem VX{a b:Value}{r:Bool}(h:Ag P t a b=Td r)(d:Nat)(w:World):(Op.equalIn (d+1) t a b).run P w=.ok r w:=by unfold Ag at h;split at h;rename_i f k x i y c;split at h;rename_i e;simp only[XU]at h;subst e;subst h;exact run_equalIn_int w d t k f x y c;cases h;rename_i x y c;simp only[XU]at h;subst h;exact run_equalIn_string w d t x y c;rename_i x y c;simp only[XU]at h;subst h;exact run_equalIn_bool' w d t x y c;cases h
theorem FE{P:Program}{γ:Gh}{xs ys:List AA}{us vs:List Value}(n:All2 (DenA γ) xs us)(m:All2 (DenA γ) ys vs)(d:Nat)(h:zc):∀(c:List Field) (b:Bool),ns P xs ys c=Td b->QExec P (Op.eqFields (d+1) us.toArray vs.toArray c) h b
 |[],b,hb=>by simp only[ns,XU]at hb;subst hb;exact QExec.pure _
 |f::c,b,hb=>by
  unfold ns at hb;split at hb;cases hb;rename_i y;split at hb;rename_i a b' k i;split at hb;rename_i p q w r;simp only[XU]at hb;subst hb;obtain⟨t,A,o⟩:=yW k n h;obtain⟨x,u,z⟩:=yW i m h;have l:t=a:=A;have e:x=b':=u;subst l;subst e;intro B j;unfold Op.eqFields;rw[zb (by exact y)];rw[Sem.run_bind,o B j];simp only[Result.andThen_ok];rw[Sem.run_bind,z B j];simp only[Result.andThen_ok];rw[Sem.run_bind,VX w d];simp only[Result.andThen_ok];cases p with
  |false=>rfl
  |true=>simpa using FE n m d h c q r B j
  cases hb;cases hb
theorem EU{ρ:Operand->Option AV}(H:BH P o ρ=Td b)(k:∀x av,ρ x=Td av->DenV γ av (σ x))(h:zc):QExec P (execOp σ o) h (.value (.bool b)):=by
 have key:∀{t:TypeId} {xs ys:List AA} {us vs:List Value} {j:Array Field} {b:Bool},P.underlying t=Td (.struct j)->P.stoodInHeld t=Tc->All2 (DenA γ) xs us->All2 (DenA γ) ys vs->ns P xs ys (P.fieldsOf t).toList=Td b->QExec P (Op.equalIn 10000 t (.agg us.toArray) (.agg vs.toArray)) h b:=by
  intro t xs ys us vs j b e c i f w B d;have u:P.underlying t=Td (.struct (P.fieldsOf t)):=by rw[e];simp[Program.fieldsOf,e]
  rw[run_equalIn_struct _ 9999 t us.toArray vs.toArray u c];exact FE i f 9998 h _ b w B d
 unfold BH at H;split at H;rename_i t x y z l;split at H;rename_i xs ys i f;split at H;rename_i j e;cases c:P.stoodInHeld t with
 |true=>rw[c]at H;cases H
 |false=>
  cases hg:P.eqGuardType P.depth t with
  |true=>rw[c,hg]at H;cases H
  |false=>rw[c,hg]at H;obtain⟨us,p,d1⟩:=k _ _ i;obtain⟨vs,r,d2⟩:=k _ _ f;have m:=key e c d1 d2 H;simp only[execOp,l,p,r];refine QExec.val λB d=>?_;rw[Sem.run_bind,run_eqGuard_agg _ _ _ _ _ _ _ hg];simp only[Result.andThen_ok];rw[run_eql_struct,m B d];rfl
 cases H;cases H;rename_i t x y z l;split at H;rename_i xs ys i f;split at H;rename_i j e;cases c:P.stoodInHeld t with
 |true=>rw[c]at H;cases H
 |false=>
  cases hg:P.eqGuardType P.depth t with
  |true=>rw[c,hg]at H;cases H
  |false=>rw[c,hg]at H;simp only[zJ]at H;split at H;rename_i b' n;simp only[XU]at H;subst H;obtain⟨us,p,d1⟩:=k _ _ i;obtain⟨vs,r,d2⟩:=k _ _ f;have m:=key e c d1 d2 n;simp only[execOp,l,p,r];refine QExec.val λB d=>?_;rw[Sem.run_bind,run_eqGuard_agg _ _ _ _ _ _ _ hg];simp only[Result.andThen_ok];rw[run_neq_struct,m B d];rfl;cases H
 cases H;cases H;cases H
def uS(P:Program)(o:Oper)(ρ:Operand->Option AV)(g:Option Bool)(cs:CS)(K:AV->Prop):Prop:=
 bif (bif lP o then(bif lH P o then(bif Yk o.op then np ρ o.op.operands.toList else Tc)else Tc)else Tc)then Jz P o (uh ρ) g #[] (λv=>K (oy v))else
 match o.op with
 |.move x=>match ρ x with
  |some av=>K av
  |none=>False
 |.assign x=>match ρ x with
  |some av=>K av
  |none=>False
 |.extract x i=>match ρ x with
  |some (.tup l)=>match l[i]? with
   |some ag=>K (.g ag)
   |none=>False
  |some (.nx b p c)=>match i with
   |0=>K (.g (.a (.v (.bool b))))
   |1=>req g (b=Ta)/\K (.g (.a (.v (.int .i64 p))))
   |2=>req g (b=Ta)/\K (.g (.a (.v (.int .i32 c))))
   |_=>False
  |_=>False
 |.field t x f=>match ρ x,qs P t f with
  |some (.g (.agg l)),Td (k,ty)=>match qY P ty l k with
   |some ag=>K (.g ag)
   |none=>False
  |_,_=>False
 |.fieldAddr t x f=>match ρ x,qs P t f with
  |some (.g (.a aa)),Td (k,_)=>match vK k aa with
   |some h=>K (.g (.a h))
   |none=>False
  |_,_=>False
 |.load t x=>match ρ x with
  |some (.g (.a aa))=>po P cs t aa g K
  |_=>False
 |.indexAddr t x i=>match ρ x,ρ i with
  |some (.g (.a aa)),some iv=>match s8 iv with
   |some n=>Ay P cs t aa n g K
   |none=>False
  |_,_=>False
 |.slice t x lo hi mx=>match ρ x with
  |some (.g (.a aa))=>Bi P cs ρ t aa lo hi mx g K
  |_=>False
 |.nilCheck x=>match ρ x with
  |some (.g (.a aa))=>match vK 0 aa with
   |some _=>K (.g (.a aa))
   |none=>False
  |_=>False
 |.build t e=>match mq ρ e.toList with
  |some ps=>match wY P t ps with
   |some r=>K (.g (.agg r))
   |none=>False
  |none=>False
 |.call c=>match c.callee with
  |.builtin .len=>match c.args.toList,c.argTypes.toList with
   |[x],[t]=>match ρ x,P.underlying t with
    |some (.g (.a (.v (.string s)))),Td .string=>K (.g (.a (.v (.int .i64 (s.size:Int)))))
    |some (.g (.a (.v (.slice _ n _)))),Td (.slice _)=>K (.g (.a (.v (.int .i64 (n:Int)))))
    |some (.g (.a aa)),Td (.slice _)=>match zY cs aa with
     |some n=>K (.g (.a (.v (.int .i64 (n:Int)))))
     |none=>False
    |_,_=>False
   |_,_=>False
  |_=>False
 |_=>False
theorem XD{ρ:Operand->Option AV}{K:AV->Prop}(H:uS P o ρ g cs K):
  ∃av,K av/\(ij g->∀γ h σ,Inv h0 W M0 cs γ h->(∀x av,ρ x=Td av->DenV γ av (σ x))->∃v,DenV γ av v/\QExec P (execOp σ o) h (.value v)):=by
 unfold uS at H;cases hb:(bif lP o then(bif lH P o then(bif Yk o.op then np ρ o.op.operands.toList else Tc)else Tc)else Tc)with
 |true=>
  rw[hb]at H;cases hfam:lP o with
  |false=>rw[hfam]at hb;cases hb
  |true=>
   cases y:lH P o with
   |false=>rw[hfam,y]at hb;cases hb
   |true=>
    cases hns:Yk o.op with
    |false=>rw[hfam,y,hns]at hb;cases hb
    |true=>rw[hfam,y,hns]at hb;simp only[zI]at hb H;obtain⟨v,h1,C⟩:=wC hfam H;refine⟨_,h1,λD γ h σ I m=>⟨v,Ji γ v,?_⟩⟩;rw[EI m hns hb];exact C D h ⟨by simp,λi hi=>absurd hi (by simp)⟩
 |false=>
  rw[hb]at H;simp only[zJ]at H;have val:∀{s:Sem Value} {h:zc} {v:Value},QExec P s h v->QExec P (s >>= λx=>(zcj (zcp x):Sem Next)) h (.value v):=λy=>QExec.val y;split at H;rename_i x w;split at H;rename_i av j;exact⟨av,H,λ_ γ h σ I m=>⟨_,m _ _ j,by simp only[execOp,w];exact QExec.pure _⟩⟩;exact H.elim;rename_i x w;split at H;rename_i av j;exact⟨av,H,λ_ γ h σ I m=>⟨_,m _ _ j,by simp only[execOp,w];exact QExec.pure _⟩⟩;exact H.elim;rename_i x i w;split at H;rename_i l j;split at H;rename_i ag J;refine⟨_,H,λ_ γ h σ I m=>?_⟩;obtain⟨us,e,C⟩:=m _ _ j;obtain⟨u,F,z⟩:=C.get J;refine⟨u,z,?_⟩;simp only[execOp,w,e];refine val λB d=>?_;unfold Instr.extract;simp[F];exact H.elim;rename_i b p c j;split at H;refine⟨_,H,λ_ γ h σ I m=>⟨_,rfl,?_⟩⟩;obtain⟨S,e2⟩:=m _ _ j;simp only[execOp,w];refine val λB d=>?_;cases b with
  |true=>rw[S rfl];rfl
  |false=>rw[e2 rfl];rfl
  refine⟨_,H.2,λD γ h σ I m=>⟨_,rfl,?_⟩⟩;obtain⟨S,_⟩:=m _ _ j;simp only[execOp,w,S (H.1.out D)];exact val λB d=>rfl;refine⟨_,H.2,λD γ h σ I m=>⟨_,rfl,?_⟩⟩;obtain⟨S,_⟩:=m _ _ j;simp only[execOp,w,S (H.1.out D)];exact val λB d=>rfl;exact H.elim;exact H.elim;rename_i t x f w;split at H;rename_i l k ty j A;split at H;rename_i ag J;refine⟨_,H,λ_ γ h σ I m=>?_⟩;obtain⟨us,e,C⟩:=m _ _ j;obtain⟨v,z,y⟩:=yW J C h;refine⟨v,z,?_⟩;simp only[execOp,w,e];refine val λB d=>?_;unfold qs at A;split at A;rename_i fs F;split at A;rename_i fl U;split at A;rename_i i hi;cases hz:Nat.beq i.size 0 with
  |true=>rw[hz]at A;cases A
  |false=>rw[hz]at A;simp only[zJ,XU,zar]at A;obtain⟨rfl,rfl⟩:=A;have T:=QExec.underlying (h:=h) F B d;unfold Instr.field;rw[Sem.run_bind,T];simp only[Result.andThen_ok,U,asAgg,Sem.run_bind,Sem.run_pure];exact y B d
  cases A;cases A;cases A;exact H.elim;exact H.elim;rename_i t x f w;split at H;rename_i Q k ty j A;split at H;rename_i ac M;refine⟨_,H,λ_ γ h σ I m=>?_⟩;obtain⟨b,o',e,z⟩:=Iw M (m _ _ j);refine⟨_,z,?_⟩;simp only[execOp,w];rw[e];exact val (WK A b o');exact H.elim;exact H.elim;rename_i t x w;split at H;rename_i Q j;obtain⟨av,h1,C⟩:=GR (h0:=h0) (W:=W) (M0:=M0) H;refine⟨av,h1,λD γ h σ I m=>?_⟩;obtain⟨v,z,y⟩:=C D γ h _ I (m _ _ j);refine⟨v,z,?_⟩;simp only[execOp,w];exact val y;exact H.elim;rename_i t x i w;split at H;rename_i Q iv j V;split at H;rename_i n Y;obtain⟨av,h1,C⟩:=JQ (h0:=h0) (W:=W) (M0:=M0) H;refine⟨av,h1,λD γ h σ I m=>?_⟩;obtain⟨k,e⟩:=FJ Y (m _ _ V);obtain⟨v,z,y⟩:=C D γ h _ k I (m _ _ j);refine⟨v,z,?_⟩;simp only[execOp,w];rw[e];exact val y;exact H.elim;exact H.elim;rename_i t x lo hi mx w;split at H;rename_i Q j;obtain⟨av,h1,C⟩:=UJ (h0:=h0) (W:=W) (M0:=M0) H;refine⟨av,h1,λD γ h σ I m=>?_⟩;obtain⟨v,z,y⟩:=C D γ h _ σ I m (m _ _ j);refine⟨v,z,?_⟩;simp only[execOp,w];exact val y;exact H.elim;rename_i x w;split at H;rename_i Q j;split at H;rename_i ac M;refine⟨_,H,λ_ γ h σ I m=>?_⟩;obtain⟨b,o',e,z⟩:=Iw M (m _ _ j);have ab:=m _ _ j;refine⟨σ x,ab,?_⟩;simp only[execOp,w];rw[e];exact QExec.pure _;exact H.elim;exact H.elim;rename_i t E w;split at H;rename_i ps Z;split at H;rename_i r hr;refine⟨_,H,λ_ γ h σ I m=>?_⟩;obtain⟨ws,y,z⟩:=Oq hr (u7 m Z) h;refine⟨.agg ws.toArray,⟨ws,rfl,z⟩,?_⟩;simp only[execOp,w];have e:(E.map λx=>(x.1,σ x.2))=(E.toList.map λx=>(x.1,σ x.2)).toArray:=by rw[<-zce]
  have:=val y;rw[<-e]at this;exact this;exact H.elim;exact H.elim;rename_i c w;split at H;rename_i hc;split at H;rename_i x t L O;have G:c.args=#[x]:=by have:=congrArg List.toArray L;simp at this;exact this
  have N:c.argTypes=#[t]:=by have:=congrArg List.toArray O;simp at this;exact this
  have key:∀(σ:Operand->Value) (h:zc) (n:Int),(QExec P (zb4 #[t] o.type #[σ x]) h (.int .i64 n))->QExec P (execOp σ o) h (.value (.int .i64 n)):=by
   intro σ h n y;have e:execOp σ o=(zb4 c.argTypes o.type (c.args.map σ) >>= λx=>(zcj (zcp x):Sem Next)):=by simp only[execOp,w,resolve,hc];rfl
   rw[e,G,N];refine val ?_;simpa using y
  split at H;rename_i s j F;refine⟨_,H,λ_ γ h σ I m=>⟨_,rfl,key σ h _ λB d=>?_⟩⟩;have y:=QExec.underlying (h:=h) F B d;have e:σ x=.string s:=m _ _ j;unfold zb4;simp only[List.getElem?_toArray,List.getElem?_cons_zero,e,Sem.run_bind,y,Result.andThen_ok,Sem.run_pure];rfl;rename_i a n cp el j F;refine⟨_,H,λ_ γ h σ I m=>⟨_,rfl,key σ h _ λB d=>?_⟩⟩;have y:=QExec.underlying (h:=h) F B d;have e:σ x=.slice a n cp:=m _ _ j;unfold zb4;simp only[List.getElem?_toArray,List.getElem?_cons_zero,e,Sem.run_bind,y,Result.andThen_ok,Sem.run_pure];rfl;rename_i Q el _ _ j F;split at H;rename_i n Y;refine⟨_,H,λ_ γ h σ I m=>⟨_,rfl,key σ h _ λB d=>?_⟩⟩;have y:=QExec.underlying (h:=h) F B d;obtain⟨a,cp,e⟩:=MM I Y (m _ _ j);unfold zb4;simp only[List.getElem?_toArray,List.getElem?_cons_zero,e,Sem.run_bind,y,Result.andThen_ok,Sem.run_pure];rfl;exact H.elim;exact H.elim;exact H.elim;exact H.elim;exact H.elim
def xZ(P:Program)(o:Oper)(ρ:Operand->Option AV):Option Bool:=match o.op with
 |.binOp op t x (.const .nilIface) _=>match ρ x,ρ (.const .nilIface),P.underlying t with
  |some (.g (.a (.d .err b))),Td (.g (.a (.v .nilIface))),Td (.interface _)=>match op with
   |.eql=>Td b
   |.neq=>Td (!b)
   |_=>Te
  |_,_,_=>Te
 |_=>Te
theorem En{ρ:Operand->Option AV}(H:xZ P o ρ=Td b)(n:∀x av,ρ x=Td av->DenV γ av (σ x))(h:zc):QExec P (execOp σ o) h (.value (.bool b)):=by
 have key:∀{t:TypeId} {ms:Array (String×TypeId)} {b:Bool} {u:Value},P.underlying t=Td (.interface ms)->((b=Ta/\u=.nilIface)\/(b=Tc/\∃t k,u=.iface t k))->QExec P (zdt t u .nilIface) h b:=by intro t ms b u l j B d;have p:=QExec.underlying (h:=h) l B d;unfold zdt Op.maxDepth;rcases j with⟨rfl,rfl⟩|⟨rfl,t',k,rfl⟩;unfold Op.equalIn;rw[Sem.run_bind,p];rfl;unfold Op.equalIn;rw[Sem.run_bind,p];rfl
 unfold xZ at H;split at H;rename_i c t x D r;split at H;rename_i b0 ms z w l;have A:σ (.const .nilIface)=.nilIface:=n _ _ w;obtain⟨u,e,j⟩:=(show Rd γ.M .err b0 [σ x]from n _ _ z);have C:u=σ x:=by simpa using e.symm
 subst C;have m:=key l j;have y:∀c,QExec P (eqGuard c t x (.const .nilIface) (σ x) .nilIface) h ():=by intro c B d;unfold eqGuard;rcases j with⟨_,i⟩|⟨_,t',k,i⟩;rw[i];cases c <;> simp;rw[i];cases c <;> simp
 have f:∀c,(binOp c t (σ x) .nilIface=match c with | .eql=>(do pure (.bool (<-zdt t (σ x) .nilIface))) | .neq=>(do pure (.bool (!(<-zdt t (σ x) .nilIface))))|_=>binOp c t (σ x) .nilIface):=by intro c;rcases j with⟨_,i⟩|⟨_,t',k,i⟩;rw[i];cases c <;> rfl;rw[i];cases c <;> rfl
 simp only[execOp,r,A];refine QExec.val ((y c).bind ?_);split at H;simp only[XU]at H;subst H;rw[f];exact m.bind (QExec.pure _);simp only[XU]at H;subst H;rw[f];exact m.bind (QExec.pure _);cases H;cases H;cases H
def BQ(o:Oper)(ρ:Operand->Option AV):Option (TypeId×Nat×Nat):=match o.op with
 |.load t x=>match ρ x with
  |some (.g (.a (.v (.pointer (Td ⟨b,off,Te⟩)))))=>Td (t,b,off)
  |_=>Te
 |_=>Te
def rD(gl:Fr)(b off:Nat)(v:Value):Prop:=∃cs,gl b=Td cs/\cs[off]?=Td v
def pA(gl:Fr)(b:Nat)(g:Option Bool):List Atom->Nat->(List AA->Prop)->Prop
 |[],_,K=>K []
 |.int k::l,o,K=>∃x:Int,req g (rD gl b o (.int k x))/\pA gl b g l (o+1) λr=>K (.v (.int k x)::r)
 |.str::l,o,K=>∃x:Bt,req g (rD gl b o (.string x))/\pA gl b g l (o+1) λr=>K (.v (.string x)::r)
 |.bool::l,o,K=>∃x:Bool,req g (rD gl b o (.bool x))/\pA gl b g l (o+1) λr=>K (.v (.bool x)::r)
 |_::_,_,_=>False
theorem Z4{gl:Fr}{b:Nat}{g:Option Bool}:∀{l:List Atom} {o:Nat} {K:List AA->Prop},pA gl b g l o K->∃vs:List Value,vs.length=l.length/\K (vs.map .v)/\(ij g->∀(j:Nat) (v:Value),vs[j]?=Td v->rD gl b (o+j) v)
 |[],o,K,H=>⟨[],rfl,H,λ_ j v h=>by simp at h⟩
 |.int k::l,o,K,⟨x,h1,h2⟩=>by
  obtain⟨vs,i,m,f⟩:=Z4 h2;refine⟨.int k x::vs,by simp[i],m,λe j v c=>?_⟩;cases j with
  |zero=>simp at c;subst c;exact h1.out e
  |succ j=>have:=f e j v (by simpa using c);rwa[show o+1+j=o+(j+1)by omega]at this
 |.str::l,o,K,⟨x,h1,h2⟩=>by
  obtain⟨vs,i,m,f⟩:=Z4 h2;refine⟨.string x::vs,by simp[i],m,λe j v c=>?_⟩;cases j with
  |zero=>simp at c;subst c;exact h1.out e
  |succ j=>have:=f e j v (by simpa using c);rwa[show o+1+j=o+(j+1)by omega]at this
 |.bool::l,o,K,⟨x,h1,h2⟩=>by
  obtain⟨vs,i,m,f⟩:=Z4 h2;refine⟨.bool x::vs,by simp[i],m,λe j v c=>?_⟩;cases j with
  |zero=>simp at c;subst c;exact h1.out e
  |succ j=>have:=f e j v (by simpa using c);rwa[show o+1+j=o+(j+1)by omega]at this
 |.sl::_,_,_,H=>H.elim
 |.mp::_,_,_,H=>H.elim
 |.ptr::_,_,_,H=>H.elim
 |.raw::_,_,_,H=>H.elim
def GI(P:Program)(gl:Fr)(t:TypeId)(b off:Nat)(g:Option Bool)(K:AV->Prop):Prop:=match kM P t with
 |some (.one a)=>pA gl b g [a] off λr=>match r with
  |[x]=>K (.g (.a x))
  |_=>False
 |some (.agg l)=>pA gl b g l off λr=>K (.g (.agg r))
 |none=>False
def BG(P:Program)(o:Oper)(ρ:Operand->Option AV):Option (Nat×Nat×Int×Nat×Nat):=match o.op with
 |.indexAddr t x i=>match ρ x,ρ i,P.underlying t with
  |some (.g (.a (.v (.pointer (Td ⟨b,off,Te⟩))))),Td (.g (.a (.v (.int _ n)))),Td (.array len el)=>bif yc P el then Td (b,off,n,len,yf P el)else Te
  |_,_,_=>Te
 |_=>Te
def qA(P:Program)(gl:Fr)(o:Oper)(ρ:Operand->Option AV)(g:Option Bool)(cs:CS)(K:AV->Prop):Prop:=match BH P o ρ with
 |some b=>K (.g (.a (.v (.bool b))))
 |none=>match xZ P o ρ with
  |some b=>K (.g (.a (.v (.bool b))))
  |none=>match BQ o ρ with
   |some (t,b,off)=>GI P gl t b off g K
   |none=>match BG P o ρ with
    |some (b,off,n,len,z)=>req g (0<=n/\n<(len:Int))/\K (.g (.a (.v (.pointer (Td ⟨b,off+n.toNat*z,Te⟩)))))
    |none=>uS P o ρ g cs K
theorem uq{gl:Fr}(O:Fr.le gl M0){ρ:Operand->Option AV}{K:AV->Prop}(H:qA P gl o ρ g cs K):
  ∃av,K av/\(ij g->∀γ h σ,Inv h0 W M0 cs γ h->(∀x av,ρ x=Td av->DenV γ av (σ x))->∃v,DenV γ av v/\QExec P (execOp σ o) h (.value v)):=by
 unfold qA at H;split at H;rename_i b D;exact⟨_,H,λ_ γ h σ _ p=>⟨_,rfl,EU D p h⟩⟩;split at H;rename_i b D;exact⟨_,H,λ_ γ h σ _ p=>⟨_,rfl,En D p h⟩⟩;split at H;rename_i t b off e;unfold BQ at e;split at e;rename_i t' x J;split at e;rename_i b' c L;simp only[XU,zar]at e;obtain⟨rfl,rfl,rfl⟩:=e;have key:∀{s:Option Nat} {vs:List Value} {ag:AG},Xv P t'=Td s->vs.length=l9 s->mb s (vs.map .v)=Td ag->(ij g->∀(j:Nat) (v:Value),vs[j]?=Td v->rD gl b' (c+j) v)->ij g->∀γ h σ,Inv h0 W M0 cs γ h->(∀x av,ρ x=Td av->DenV γ av (σ x))->∃u,DenV γ (.g ag) u/\QExec P (execOp σ o) h (.value u):=by intro s vs ag Z hn Y hc e γ h σ I p;have A:σ x=.pointer (Td ⟨b',c,Te⟩):=p _ _ L;obtain⟨u,S,F⟩:=xo (γ:=γ) Z (u:=σ x) (us:=vs) ⟨_,_,A,λj w V=>by obtain⟨cc,y,r⟩:=hc e j w V;exact I.ag.cell (I.le _ _ (O _ _ y)) r⟩ hn (Z3 γ vs) Y;exact⟨u,S,by simp only[execOp,J];exact QExec.val F⟩
 unfold GI at H;split at H;rename_i a M;obtain⟨vs,y,r,B⟩:=Z4 H
 match vs,y,r,B with
 |[v],y,r,B=>exact⟨_,r,key (s:=Te) (by unfold Xv;rw[M]) rfl rfl B⟩
 rename_i l M;obtain⟨vs,y,r,B⟩:=Z4 H;exact⟨_,r,key (s:=Td l.length) (by unfold Xv;rw[M]) y rfl B⟩;exact H.elim;cases e;cases e;split at H;rename_i b off n len z e;unfold BG at e;split at e;rename_i t x i J;split at e;rename_i b' c k C Q el L hi A;cases hok:yc P el with
 |false=>rw[hok]at e;cases e
 |true=>rw[hok]at e;simp only[zI,XU,zar]at e;obtain⟨rfl,rfl,rfl,rfl,rfl⟩:=e;refine⟨_,H.2,λG γ h σ I p=>⟨_,rfl,?_⟩⟩;have E:σ x=.pointer (Td ⟨b',c,Te⟩):=p _ _ L;have N:σ i=.int k C:=p _ _ hi;obtain⟨h1,T⟩:=H.1.out G;obtain⟨v,rfl,F⟩:=Z0 (P:=P) (t:=t) (x:=.pointer (Td ⟨b',c,Te⟩)) (i:=.int k C) (g:=Te) (K:=λv=>v=.pointer (Td (XT ⟨b',c,Te⟩ (C.toNat*yf P el)))) (λU f=>by rcases f with f|⟨m,f⟩;rw[A]at f;cases f;rw[A]at f;cases f;exact jm hok) (by unfold rV;rw[A];exact⟨_,⟨rfl,h1,T⟩,rfl⟩);have:=F trivial h;rw[zh]at this;simp only[execOp,J,E,N];exact QExec.val this
 cases e;cases e;exact XD H
end
section
variable {M gl:Fr} {u:Value} {P:Program} {f:FuncId} {γ:Gh} {cs C R:CS} {o:Oper} {σ:Operand -> Value} {h:zc} {Post:Value -> zc -> Prop} {tr:TypeId}
variable {h0 : zc} {W : Nat -> Prop} {M0 : Fr}
def iu:Ty->Bool
 |.tree=>Ta
 |.unit=>Ta
 |.pair _ _=>Ta
 |_=>Tc
def RdV(M:Fr)(t:Ty)(x:El t)(u:Value):Prop:=if iu t=Ta then ∃cs:List Value,u=.agg cs.toArray/\Rd M t x cs else Rd M t x [u]
theorem RdV.mono{M M':Fr}(c:Fr.le M M'){t:Ty}{x:El t}(h:RdV M t x u):RdV M' t x u:=by unfold RdV at *;by_cases b:iu t=Ta;rw[zb b]at *;obtain⟨cs,e,h⟩:=h;exact⟨cs,e,Rd.mono c h⟩;rw[za b]at *;exact Rd.mono c h
structure Arg where
 t:Ty
 x:El t
def Xw(M:Fr)(l:List Arg)(vs:List Value):Prop:=All2 (λ(a:Arg) u=>RdV M a.t a.x u) l vs
@[reducible] def ie:List Ty->Type
 |[]=>Unit
 |[t]=>El t
 |t::t'::l=>El t×ie (t'::l)
def Gq:(l:List Ty)->ie l
 |[]=>()
 |[t]=>pH t
 |t::t'::l=>(pH t,Gq (t'::l))
def vC(M:Fr):(l:List Ty)->ie l->List Value->Prop
 |[],_,us=>us=[]
 |[t],x,us=>∃u,us=[u]/\RdV M t x u
 |t::t'::l,x,us=>∃u b,us=u::b/\RdV M t x.1 u/\vC M (t'::l) x.2 b
def ig(M:Fr)(l:List Ty)(x:ie l)(v:Value):Prop:=∃us,vC M l x us/\v=lz us
def PC(P:Program)(gl:Fr)(f:FuncId)(args:List Arg)(c:List Ty)(R:ie c->Prop):Prop:=
 ∀(h:zc) (M:Fr) (vs:List Value),Fr.le gl M->AgM M h->Xw M args vs->XC P f vs.toArray h λv h'=>
  Keep h.size h h'/\∃M' r,Fr.le M M'/\(∀b,b<h.size->M' b=M b)/\AgM M' h'/\ig M' c r v/\R r
theorem PC.mono{args:List Arg}{b:List Ty}{R c:ie b->Prop}(H:PC P gl f args b R)(o:∀r,R r->c r):PC P gl f args b c:= λh M vs h1 i j=>(H h M vs h1 i j).mono λv h' ⟨k,M',r,l,p,m,n,e⟩=>⟨k,M',r,l,p,m,n,o r e⟩
def UM:(l:List Ty)->ie l->Prop
 |[],_=>True
 |[t],x=>Bd t x
 |t::t'::l,x=>Bd t x.1/\UM (t'::l) x.2
theorem RdV.bd{t:Ty}{x:El t}(h:RdV M t x u):Bd t x:=by unfold RdV at h;split at h;obtain⟨cs,_,h⟩:=h;exact h.bd;exact h.bd
theorem PC.bd{args:List Arg}{e:List Ty}{R:ie e->Prop}(H:(∀a∈args,Bd a.t a.x)->PC P gl f args e R):PC P gl f args e R:=by
 intro h M vs h1 j c;refine H ?_ h M vs h1 j c;clear H h1 j;induction args generalizing vs with
 |nil=>intro a k;cases k
 |cons a args l=>
  cases vs with
  |nil=>exact c.elim
  |cons u us=>intro b i;rcases YB.1 i with rfl|i;exact RdV.bd c.1;exact l us c.2 b i
def sh(t:Ty)(x:El t):AG:=bif iu t then .agg (Jg t x)else(match Jg t x with
 |[y]=>.a y
 |l=>.agg l)
theorem Al{t:Ty}{x:El t}(h:RdV γ.M t x u):DenG γ (sh t x) u:=by
 unfold RdV at h;unfold sh;split at h;rename_i c;rw[c];obtain⟨cs,e,h⟩:=h;exact⟨cs,e,xr h⟩;rename_i c;have f:iu t=Tc:=by simpa using c
 rw[f];simp only[zJ];have b:=xr (γ:=γ) h
 match hx:Jg t x,b with
 |[y],b=>exact b.1
 |[],b=>exact b.elim
 |_::_::_,b=>exact b.2.elim
def uF:(l:List Ty)->ie l->List AG
 |[],_=>[]
 |[t],x=>[sh t x]
 |t::t'::l,x=>sh t x.1::uF (t'::l) x.2
theorem EV{γ:Gh}:∀{l:List Ty} {x:ie l} {us:List Value},vC γ.M l x us->All2 (DenG γ) (uF l x) us
 |[],_,_,h=>by rw[h];trivial
 |[_],_,_,⟨u,e,h⟩=>by rw[e];exact⟨Al h,trivial⟩
 |_::_::_,_,_,⟨u,us,e,h,h'⟩=>by rw[e];exact⟨Al h,EV h'⟩
def oe(l:List Ty)(x:ie l):AV:=match uF l x with
 |[g]=>.g g
 |gs=>.tup gs
theorem KR{l:List Ty}{x:ie l}{v:Value}(h:ig γ.M l x v):DenV γ (oe l x) v:=by
 obtain⟨us,h,rfl⟩:=h;have b:=EV (γ:=γ) h;unfold oe;generalize uF l x=gs at *
 match gs,us,b with
 |[],[],_=>exact⟨[],rfl,trivial⟩
 |[g],[u],b=>exact b.1
 |g::g'::gs,u::u'::us,b=>exact⟨_,rfl,b⟩
 |[],_::_,b=>exact b.elim
 |_::_,[],b=>exact b.elim
 |[_],_::_::_,b=>exact b.2.elim
 |_::_::_,[_],b=>exact b.2.elim
def mW(P:Program)(tr:TypeId):Nat->TypeId->Option Ty
 |0,_=>Te
 |n+1,t=>bif Nat.beq t tr then Td .tree else match P.underlying t with
  |some (.int k)=>Td (.int k)
  |some .bool=>Td .bool
  |some .string=>Td .str
  |some (.slice e)=>match mW P tr n e with
   |some x=>Td (.row x)
   |none=>Te
  |some (.struct fs)=>tysOf P (λt=>mW P tr n t) fs.toList
  |some (.interface _)=>Td .err
  |_=>Te
where tysOf (P:Program) (f:TypeId->Option Ty):List Field->Option Ty
 |[]=>Td .unit
 |[x]=>f x.type
 |x::y::l=>match f x.type,tysOf P f (y::l)with
  |some a,some b=>Td (.pair a b)
  |_,_=>Te
def vS(P:Program)(tr:TypeId):List TypeId->Option (List Ty)
 |[]=>Td []
 |t::l=>match mW P tr 8 t,vS P tr l with
  |some a,some b=>Td (a::b)
  |_,_=>Te
def FW:AA->List Nat
 |.own c=>[c]
 |_=>[]
def oH:List AA->List Nat
 |[]=>[]
 |x::l=>FW x++oH l
def QD:AV->List Nat
 |.g (.a x)=>FW x
 |.g (.agg l)=>oH l
 |_=>[]
def Xa:List AV->List Nat
 |[]=>[]
 |v::l=>QD v++Xa l
def frzL:List Nat->CS->CS
 |[],C=>C
 |c::l,C=>frzL l (nD c C)
theorem Inv.frzL{C R:CS}{γ:Gh}{h:zc}:∀(l:List Nat) {C:CS} {γ:Gh},Inv h0 W M0 (C++R) γ h->∃γ',Inv h0 W M0 (frzL l C++R) γ' h/\Gx Te γ γ'
 |[],C,γ,I=>⟨γ,I,Gx.refl _ _⟩
 |c::l,C,γ,I=>by obtain⟨j,f,g1⟩:=Inv.freeze c C [] I;obtain⟨b,e,g2⟩:=Inv.frzL (C:=C) (γ:=γ) l f;exact⟨b,e,g1.1.trans g2.1,λi hi=>⟨(g2.2 i hi).1.trans (g1.2 i hi).1,(g2.2 i hi).2.trans (g1.2 i hi).2⟩⟩
def pF(cs:CS)(t:Ty):AV->Option (El t)
 |.g (.agg l)=>bif iu t then(match collect cs t l with
  |some (y,[])=>Td y
  |_=>Te)else Te
 |.g (.a x)=>bif iu t then Te else lO cs t x
 |_=>Te
theorem Af(c:lQ γ cs){t:Ty}{av:AV}{y:El t}(h:pF cs t av=Td y)(b:DenV γ av u):RdV γ.M t y u:=by
 unfold pF at h;unfold RdV;split at h;rename_i l;cases ha:iu t with
 |false=>rw[ha]at h;cases h
 |true=>
  rw[ha]at h;simp only[zI]at h;split at h;rename_i m k;simp only[XU]at h;subst h;obtain⟨us,e,f⟩:=b;obtain⟨c1,c2,rfl,i,j⟩:=Jh c k f;cases c2 with
  |nil=>simp only[if_true];exact⟨c1,by rw[e,ZO],i⟩
  |cons _ _=>exact j.elim
  cases h
 rename_i x;cases ha:iu t with
 |true=>rw[ha]at h;cases h
 |false=>rw[ha]at h;simp only[zad,if_false];exact j6 c h b
 cases h
def jq(cs:CS):List Ty->List AV->Option (List Arg)
 |[],[]=>Td []
 |t::ts,v::vs=>match pF cs t v,jq cs ts vs with
  |some x,some l=>Td (⟨t,x⟩::l)
  |_,_=>Te
 |_,_=>Te
theorem wu{γ:Gh}{cs:CS}(b:lQ γ cs):∀{ts:List Ty} {vs:List AV} {l:List Arg},jq cs ts vs=Td l->∀{us:List Value},All2 (DenV γ) vs us->Xw γ.M l us
 |[],[],l,h,[],_=>by simp only[jq,XU]at h;subst h;trivial
 |[],[],_,_,_::_,hd=>hd.elim
 |t::ts,v::vs,l,h,[],hd=>hd.elim
 |t::ts,v::vs,l,h,u::us,hd=>by simp only[jq]at h;split at h;rename_i x e h1 c;simp only[XU]at h;subst h;exact⟨Af b h1 hd.1,wu b c hd.2⟩;cases h
 |[],_::_,_,h,_,_=>by simp[jq]at h
 |_::_,[],_,h,_,_=>by simp[jq]at h
def nq(ρ:Operand->Option AV):List Operand->Option (List AV)
 |[]=>Td []
 |x::l=>match ρ x,nq ρ l with
  |some v,some vs=>Td (v::vs)
  |_,_=>Te
theorem Xx{γ:Gh}{ρ:Operand->Option AV}{σ:Operand->Value}(b:∀x av,ρ x=Td av->DenV γ av (σ x)):∀{l:List Operand} {vs:List AV},nq ρ l=Td vs->All2 (DenV γ) vs (l.map σ)
 |[],vs,h=>by simp only[nq,XU]at h;subst h;trivial
 |x::l,vs,h=>by simp only[nq]at h;split at h;rename_i v e h1 c;simp only[XU]at h;subst h;exact⟨b _ _ h1,Xx b c⟩;cases h
def ExA(P:Program)(s:Sem Next)(h:zc)(Post:Value->zc->Prop):Prop:=∀B d,
 (∃v b h',s.run P (mk B d h)=.ok (.value v) (mk B b h')/\Post v h') \/
 (∃b h',s.run P (mk B d h)=.ok .skip (mk B b h')/\Post undef h') \/
 (∃f args,s.run P (mk B d h)=.ok (.enter f args) (mk B d h)/\XC P f args h Post)
theorem ExA.upon(H:ExA P (execOp σ o) h Post)(B:World)(d:Nat){a:Act}{next:Act->World->Prop}{Q:Exit->Act->World->Prop}
  (i:∀v b h',Post v h'->next (a.put o.dst v) (mk B b h')):o.upon P a next Q ((execOp σ o).run P (mk B d h)):=by
 rcases H B d with⟨v,b,h',e,c⟩|⟨b,h',e,c⟩|⟨f,args,e,k⟩;exact upon_value e (i _ _ _ c);exact upon_skip e (i _ _ _ c);rw[e];refine(k B d).mono ?_;rintro e' w' ⟨v,b,h'',rfl,rfl,j⟩;exact i _ _ _ j
theorem ExA.mono{s:Sem Next}{Post b:Value->zc->Prop}(H:ExA P s h Post)(c:∀v h',Post v h'->b v h'):ExA P s h b:=λB d=>by rcases H B d with⟨v,i,h',e,q⟩|⟨i,h',e,q⟩|⟨f,args,e,j⟩;exact .inl ⟨v,i,h',e,c _ _ q⟩;exact .inr (.inl ⟨i,h',e,c _ _ q⟩);exact .inr (.inr ⟨f,args,e,j.mono c⟩)
def jH(h0:zc)(W:Nat->Prop)(M0:Fr)(R:CS)(γ:Gh)(K:AV->CS->Option Nat->Prop)(v:Value)(h':zc):Prop:=
 ∃av b c γ',K av b c/\DenV γ' av v/\Inv h0 W M0 (b++R) γ' h'/\Gx c γ γ'
theorem yF(b:Fr.le gl M0){ρ:Operand->Option AV}{K:AV->CS->Option Nat->Prop}(H:qA P gl o ρ Te (C++R) λav=>K av C Te)(I:Inv h0 W M0 (C++R) γ h)
  (f:∀x av,ρ x=Td av->DenV γ av (σ x)):ExA P (execOp σ o) h (jH h0 W M0 R γ K):=by
 obtain⟨av,h1,i⟩:=uq (h0:=h0) (W:=W) (M0:=M0) b H;obtain⟨v,c,e⟩:=i trivial γ h σ I f;exact λB d=>.inl ⟨v,d,h,e B d,av,C,Te,γ,h1,c,I,Gx.refl _ _⟩
def rC:Operand->Option FuncId
 |.func f=>Td f
 |_=>Te
def BC(P:Program)(tr:TypeId)(f:FuncId):Option (List Ty×List Ty):=match P.funcs[f]? with
 |some fn=>match vS P tr fn.params.toList,vS P tr fn.resultTypes.toList with
  |some a,some b=>Td (a,b)
  |_,_=>Te
 |none=>Te
def xW(P:Program)(gl:Fr)(tr:TypeId)(o:Oper)(ρ:Operand->Option AV)(C R:CS)(K:AV->CS->Prop):Prop:=
 match o.op with
 |.call c=>match c.callee with
  |.value x=>match rC x with
   |some f=>bif zm P f then(match BC P tr f,nq ρ c.args.toList with
    |some (ts,rt),some vs=>match jq (frzL (Xa vs) C++R) ts vs with
     |some args=>PC P gl f args rt λr=>K (oe rt r) (frzL (Xa vs) C)
     |none=>False
    |_,_=>False)else False
   |none=>False
  |_=>False
 |_=>False
def pm(P:Program)(gl:Fr)(tr:TypeId)(o:Oper)(ρ:Operand->Option AV)(b:Bool)(cs:CS)(K:AV->Prop):Prop:=
 match o.op with
 |.call c=>match c.callee with
  |.value x=>match rC x with
   |some f=>bif zm P f then(match BC P tr f,nq ρ c.args.toList with
    |some (ts,rt),some vs=>match jq cs ts vs with
     |some args=>∃J:ie rt->Prop,(b=Ta->PC P gl f args rt J)/\∀r,(b=Ta->J r)->K (oe rt r)
     |none=>False
    |_,_=>False)else False
   |none=>False
  |_=>False
 |_=>False
theorem tu{x:Operand}(h:rC x=Td f):x=.func f:=by unfold rC at h;split at h;simp only[XU]at h;rw[h];cases h
theorem uI{c:Call}(e:o.op=.call c)(i:c.callee=.value (.func f))(b:zm P f=Ta)(h:σ (.func f)=.func (.func f) #[] #[])(w:World):
  (execOp σ o).run P w=.ok (.enter f (c.args.map σ)) w:=by
 simp only[execOp,e,resolve,i,h,zc7,Sem.run_bind,Sem.run_pure,Result.andThen_ok,invoke];rw[Xo b];simp
theorem tG(c:Fr.le gl M0){args:List Arg}{b:List Ty}{i:ie b->Prop}(H:PC P gl f args b i)(I:Inv h0 W M0 cs γ h){us:List Value}(m:Xw γ.M args us):
  XC P f us.toArray h λv h'=>∃r γ',i r/\DenV γ' (oe b r) v/\Inv h0 W M0 cs γ' h'/\Gx Te γ γ'/\Keep h.size h h':=
 (H h γ.M us (c.trans I.le) I.ag m).mono λv h' ⟨k,M',r,e,o,l,n,j⟩=>
  ⟨r,{ γ with M:=M' },j,KR (γ:={ γ with M:=M' }) n,I.call k e o l,⟨e,λ_ _=>⟨rfl,rfl⟩⟩,k⟩
theorem Ry(l:Fr.le gl M0){ρ:Operand->Option AV}{K:AV->CS->Option Nat->Prop}(H:xW P gl tr o ρ C R λav n=>K av n Te)(I:Inv h0 W M0 (C++R) γ h)
  (F:∀f,σ (.func f)=.func (.func f) #[] #[]) (E:∀x av,ρ x=Td av->DenV γ av (σ x)):ExA P (execOp σ o) h (jH h0 W M0 R γ K):=by
 unfold xW at H;split at H;rename_i c y;split at H;rename_i x D;split at H;rename_i f w;cases hcal:zm P f with
 |false=>rw[hcal]at H;exact H.elim
 |true=>
  rw[hcal]at H;simp only[zI]at H;split at H;rename_i ts J vs M k;split at H;rename_i args b;intro B d;have e:=tu w;subst e;obtain⟨L,m,g1⟩:=Inv.frzL (C:=C) (γ:=γ) (Xa vs) I;have G:=wu m.fz b ((Xx E k).imp λv _ u z=>z.gx g1 rfl);refine .inr (.inr ⟨f,c.args.map σ,uI y D hcal (F f) _,?_⟩);have t:c.args.map σ=(c.args.toList.map σ).toArray:=by rw[<-zce]
  rw[t];refine(tG l H m G).mono ?_;rintro v h' ⟨r,γ',h1,p,A,j,_⟩;exact⟨_,_,Te,γ',h1,p,A,g1.1.trans j.1,λi hi=>⟨(j.2 i hi).1.trans (g1.2 i hi).1,(j.2 i hi).2.trans (g1.2 i hi).2⟩⟩;exact H.elim;exact H.elim
 exact H.elim;exact H.elim;exact H.elim
theorem zX{ρ:Operand->Option AV}{b:Bool}{K:AV->Prop}(H:pm P gl tr o ρ b cs K):(b=Tc->∃av,K av) /\
  (b=Ta->Fr.le gl M0->∀γ h σ,Inv h0 W M0 cs γ h->(∀f,σ (.func f)=.func (.func f) #[] #[])->(∀x av,ρ x=Td av->DenV γ av (σ x))->∃f args,(∀w,(execOp σ o).run P w=.ok (.enter f args) w) /\ XC P f args h λv h'=>∃av γ',K av/\DenV γ' av v/\Inv h0 W M0 cs γ' h'/\Gx Te γ γ'/\Keep h.size h h'):=by
 unfold pm at H;split at H;rename_i c t;split at H;rename_i x u;split at H;rename_i f A;cases hcal:zm P f with
 |false=>rw[hcal]at H;exact H.elim
 |true=>
  rw[hcal]at H;simp only[zI]at H;split at H;rename_i ts z vs E k;split at H;rename_i args i;obtain⟨J,h1,m⟩:=H;refine⟨λj=>⟨_,m (Gq z) (λh=>by rw[j]at h;cases h)⟩,λj l γ h σ I y C=>?_⟩;have e:=tu A;subst e;refine⟨f,c.args.map σ,λw=>uI t u hcal (y f) w,?_⟩;have n:c.args.map σ=(c.args.toList.map σ).toArray:=by rw[<-zce]
  rw[n];refine(tG l (h1 j) I (wu I.fz i (Xx C k))).mono ?_;rintro v h' ⟨r,γ',g1,g2,D,p,B⟩;exact⟨_,γ',m r (λ_=>g1),g2,D,p,B⟩;exact H.elim;exact H.elim
 exact H.elim;exact H.elim;exact H.elim
end
section
variable {P:Program} {t:TypeId} {o:Oper} {d:Nat} {C R:CS} {γ:Gh} {h:zc} {σ:Operand -> Value} {av:AV}
variable {h0 : zc} {W : Nat -> Prop} {M0 : Fr}
def Be(P:Program)(t:TypeId)(d:Nat)(C R:CS)(K:AV->CS->Option Nat->Prop):Prop:=match zeroOf P t with
 |some z=>bif qq d R then(bif iW (z.cells.toList.map .v)then False else K (.g (.a (.box d 0))) ((d,.box (z.cells.toList.map .v))::q9 d C) (Td d))else False
 |none=>False
theorem yL(c:Nat):∀l:List Value,i8 c (l.map .v)=Tc
 |[]=>rfl
 |_::l=>by simp only[ZE,i8,ke,zJ,yL c l]
theorem tO(t:TypeId)(v:Value)(B:World)(d:Nat)(h:zc):(newVar t v).run P (mk B d h)=.ok ⟨h.size,0,Te⟩ (mk B d (h.push (.cells v.cells t))):=rfl
theorem N7(f:o.op=.alloc t){K:AV->CS->Option Nat->Prop}(H:Be P t d C R K)(I:Inv h0 W M0 (C++R) γ h):ExA P (execOp σ o) h (jH h0 W M0 R γ K):=by
 unfold Be at H;split at H
 ·rename_i z hz;cases hR:qq d R with
  |false=>rw[hR]at H;exact H.elim
  |true=>
   rw[hR]at H;cases hit:iW (z.cells.toList.map .v)with
   |true=>rw[hit]at H;exact H.elim
   |false=>
   rw[hit]at H;intro B e;refine .inl ⟨.pointer (Td ⟨h.size,0,Te⟩),e,h.push (.cells z.cells t),?_,_,_,_,kL γ d h.size,H,?_,?_,Xt _ _ _⟩;have b:=Jl hz h B e;simp only[execOp,f];refine Yl ?_;unfold Instr.alloc;rw[Sem.run_bind,b];simp only[Result.andThen_ok];rw[Sem.run_bind,tO];rfl;simp only[DenV,DenG,DenA,Z1];have:=I.newBox (c:=d) hR (Z3 γ z.cells.toList) (yL d _) hit t;simpa using this
 exact H.elim
def y7(t:TypeId)(d:Nat)(l:List AA)(C R:CS)(K:AV->CS->Option Nat->Prop):Prop:=
 bif qq d R then(bif i8 d l then False else(bif iW l then False else K (.g (.a (.box d 0))) ((d,.box l)::q9 d C) (Td d)))else False
theorem Mr{x:Operand}(b:o.op=.box t x){l:List AA}{K:AV->CS->Option Nat->Prop}(H:y7 t d l C R K)(I:Inv h0 W M0 (C++R) γ h)
  (f:All2 (DenA γ) l (σ x).cells.toList):ExA P (execOp σ o) h (jH h0 W M0 R γ K):=by
 unfold y7 at H;cases hR:qq d R with
 |false=>rw[hR]at H;exact H.elim
 |true=>
  rw[hR]at H;cases hm:i8 d l with
  |true=>rw[hm]at H;exact H.elim
  |false=>
   rw[hm]at H;cases hit:iW l with
   |true=>rw[hit]at H;exact H.elim
   |false=>
   rw[hit]at H;intro B e;refine .inl ⟨.pointer (Td ⟨h.size,0,Te⟩),e,h.push (.cells (σ x).cells t),?_,_,_,_,kL γ d h.size,H,?_,?_,Xt _ _ _⟩;simp only[execOp,b];refine Yl ?_;unfold Instr.box;rw[Sem.run_bind,tO];rfl;simp only[DenV,DenG,DenA,Z1];have:=I.newBox (c:=d) hR f hm hit t;simpa using this
def zL:AA->Bool
 |.v x=>x.oneCell'
 |_=>Ta
def qP:List AA->Bool
 |[]=>Ta
 |x::l=>bif zL x then qP l else Tc
theorem LK{x:AA}{u:Value}(h:zL x=Ta)(j:DenA γ x u):u.oneCell'=Ta:=by
 cases x with
 |v y=>rw[show u=y from j];exact h
 |d t y=>exact Rd.one (show Rd γ.M t y [u]from j) u (by simp)
 |box c o=>rw[show u=_ from j];rfl
 |own c=>rw[show u=_ from j];rfl
 |oelt c z i o=>obtain⟨g,_,e⟩:=j;rw[e];rfl
 |elt t y o=>obtain⟨b,f,cs,e,_⟩:=j;rw[e];rfl
 |dc t xs=>obtain⟨s,e,_⟩:=j;rw[e];rfl
theorem CN{γ:Gh}:∀{l:List AA} {us:List Value},qP l=Ta->All2 (DenA γ) l us->∀u∈us,u.oneCell'=Ta
 |[],[],_,_,u,b=>by cases b
 |[],_::_,_,h,_,_=>h.elim
 |_::_,[],_,h,_,_=>h.elim
 |x::l,v::us,h,hd,u,b=>by
  simp only[qP]at h;cases hx:zL x with
  |false=>rw[hx]at h;cases h
  |true=>rw[hx]at h;rcases YB.1 b with rfl|b;exact LK hx hd.1;exact CN h hd.2 u b
def lA(c:Nat):CS->Bool
 |[]=>Ta
 |(j,_)::l=>bif Nat.beq j c then Tc else lA c l
theorem om{c:Nat}:∀{l:CS},lA c l=Ta->∀x∈l,x.1≠c
 |[],_,x,b=>by cases b
 |(j,k)::l,h,x,b=>by
  simp only[lA]at h;cases hb:Nat.beq j c with
  |true=>rw[hb]at h;cases h
  |false=>rw[hb]at h;rcases YB.1 b with rfl|b;intro e;simp only at e;subst e;simp at hb;exact om h x b
theorem BP{P:Program}{g o:Nat}:∀(vs:List Value) (i:Nat) (w:World),(storeCells ⟨g,o,Te⟩ vs i).run P w=(storeCells ⟨g,0,Te⟩ vs (o+i)).run P w
 |[],i,w=>rfl
 |v::vs,i,w=>by unfold storeCells;rw[Sem.run_bind,Sem.run_bind,zh,zh,YP];congr 1;funext a w';exact BP vs (i+1) w'
theorem Q9{n:Nat}(hi:yc P t=Ta)(k:yf P t=n){b o:Nat}{cs:Array Value}{T:TypeId}(e:h[b]?=Td (.cells cs T (0,0))){v:Value}(c:v.cells.size=n)(p:o+n<=cs.size)(h1:∀u∈v.cells.toList,u.oneCell'=Ta)(B:World)(d:Nat):
  ∃h',(YG t (.pointer (Td ⟨b,o,Te⟩)) v).run P (mk B d h)=.ok () (mk B d h')/\h'[b]?=Td (.cells (cs.toList.take o++v.cells.toList++cs.toList.drop (o+n)).toArray T (0,0))/\h'.size=h.size/\∀j,j≠b->h'[j]?=h[j]?:=by
 obtain⟨h',i,l,f,m⟩:=Y1 (P:=P) B d v.cells.toList (o+0) h cs e (by simp;omega) h1;refine⟨h',?_,by rw[l];simp[c],f,m⟩;have hz:=QExec.sizeOf (P:=P) (h:=h) (jm hi).choose_spec B d;unfold YG zc2;simp only[Sem.run_bind,Sem.run_pure,Result.andThen_ok];unfold storeVar;rw[Sem.run_bind,hz];simp only[Result.andThen_ok];rw[k,c];simp only[ne_eq,not_true_eq_false,if_false];rw[BP];exact i
theorem Qs{α:Type}{L vs:List α}{p:Nat}(h:p+vs.length<=L.length)(q:Nat):(L.take p++vs++L.drop (p+vs.length))[q]?=if q<p then L[q]? else if q<p+vs.length then vs[q-p]? else L[q]?:=by
 have h1:(L.take p).length=p:=by simp;omega
 by_cases b:q<p;rw[zb b,YS,zbn (by omega),ZJ,zb b];rw[za b];by_cases c:q<p+vs.length;rw[zb c,zbn (by rw[XX,h1];omega),zbg (by omega),h1];rw[za c,zbg (by rw[XX,h1];omega),zaa,XX,h1];congr 1;omega
theorem RowC.set{M:Fr}{t:Ty}{xs:List (El t)}{cells:List Value}(H:RowC M t xs cells){i:Nat}(hi:i<xs.length){y:El t}{o:Nat}{vs:List Value}(n:o+vs.length<=sz t) (p:Rd M t y ((((cells.drop (i*sz t)).take (sz t)).take o)++vs++(((cells.drop (i*sz t)).take (sz t)).drop (o+vs.length)))):
  RowC M t (xs.set i y) (cells.take (i*sz t+o)++vs++cells.drop (i*sz t+o+vs.length)):=by
 have h:(i+1)*sz t<=cells.length:=by rw[H.1];exact ZK _ hi
 rw[za4,zc5]at h;have m:((cells.drop (i*sz t)).take (sz t)).length=sz t:=by rw[ZP,zai];omega
 refine⟨?_,λj l=>?_⟩;rw[List.length_set,<-H.1];simp only[XX,ZP,zai];omega;rw[List.length_set]at l;by_cases c:i=j;subst c;rw[List.getElem_set_self];have e:(((cells.take (i*sz t+o)++vs++cells.drop (i*sz t+o+vs.length)).drop (i*sz t)).take (sz t))=(((cells.drop (i*sz t)).take (sz t)).take o)++vs++(((cells.drop (i*sz t)).take (sz t)).drop (o+vs.length)):=by apply zab;intro k;rw[Qs (by rw[m];exact n),ZJ,ZJ,zaa,zaa,Qs (by omega)];by_cases b:k<sz t;simp only[b,if_true];by_cases h1:k<o;rw[zb (by omega),zb h1];rw[za (by omega),za h1];by_cases f:k<o+vs.length;rw[zb (by omega),zb f];congr 1;omega;rw[za (by omega),za f];simp only[b,if_false];rw[za (by omega),za (by omega)]
 rw[e];exact p;rw[List.getElem_set_ne c];have e:(((cells.take (i*sz t+o)++vs++cells.drop (i*sz t+o+vs.length)).drop (j*sz t)).take (sz t))=(cells.drop (j*sz t)).take (sz t):=by
  apply zab;intro k;rw[ZJ,ZJ,zaa,zaa,Qs (by omega)];by_cases b:k<sz t;simp only[b,if_true];rcases ZX j i with h1|h1;have:(j+1)*sz t<=i*sz t:=ZK _ h1;rw[za4,zc5]at this;rw[zb (by omega)];have f:i+1<=j:=by omega
  have:(i+1)*sz t<=j*sz t:=ZK _ f;rw[za4,zc5]at this;rw[za (by omega),za (by omega)];simp only[b,if_false]
 rw[e];exact H.2 j l
theorem Inv.setRow{h h':zc}(I:Inv h0 W M0 (C++R) γ h){c:Nat}{e:TypeId}{t:Ty}{xs l:List (El t)}(D:(c,Ch.row e t xs)∈C){g:Nat}(p:(γ.σ c).a.map (·.block)=Td g)
  (w:∀i,i≠g->h'[i]?=h[i]?) (O:h'.size=h.size) (E:DenC h0.size γ h' c (.row e t l)) (N:∀x∈R,x.1≠c):Inv h0 W M0 ((c,.row e t l)::J7 c C++R) γ h':=by
 have j:=I.sep _ (YM R D) g p;have n:∀x∈J7 c C++R,blk γ x.1 x.2≠Td g:=by
  intro x k;have u:x≠(c,Ch.row e t xs):=by rintro rfl;rcases YK.1 k with k|k;exact(Ys k).2 rfl;exact N _ k rfl
  have r:x∈C++R:=((xc c C).append_right R).subset k;have J:=@rq _ (λ(x y:Nat×Ch)=>∀b,blk γ x.1 x.2=Td b->blk γ y.1 y.2≠Td b) (λx y h b f A=>h b A f) _ I.apart;intro f;exact J (YM R D) r (λe=>u e.symm) _ p f
 have L:Inv h0 W M0 (J7 c C++R) γ h':=by refine I.rest ((xc c C).append_right R) (c:=Te) (Gx.refl _ _) (λx _=>⟨by simp,rfl⟩) (λx k b f=>?_) (λb G z=>?_) (λi hi B=>?_) (by omega) (λb f=>rfl);exact⟨w b λo=>n x k (o ▸ f),(I.sep x (((xc c C).append_right R).subset k) b f).2⟩;obtain⟨M,m,o⟩:=I.ag b G z;exact⟨M,m,by rw[w b λH=>by rw[H,j.2]at z;cases z];exact o⟩;refine w i λo=>?_;have F:=j.1;rcases F with h1|h1;omega;rw[o]at B;exact B h1
 refine L.cons E (λb f=>?_) (λb f x k=>?_);simp only[blk,p,XU]at f;subst f;exact j;simp only[blk,p,XU]at f;subst f;exact n x k
def Au(P:Program)(t:TypeId)(f:AA)(b:List AA)(C R:CS)(K:AV->CS->Option Nat->Prop):Prop:=
 bif yc P t then(bif Nat.beq b.length (yf P t)then(bif qP b then(match f with
 |.box c o=>match Q7 C c with
  |some (.box l)=>bif lA c R then(bif (bif iW l then Ta else iW (l.take o++b++l.drop (o+b.length)))then False else(bif Nat.ble (o+b.length) l.length then K (oy undef) ((c,.box (l.take o++b++l.drop (o+b.length)))::J7 c C) Te else False))else False
  |_=>False
 |.oelt c z i o=>match Q7 (frzL (oH b) C) c with
  |some (.row e ty xs)=>bif lA c R then(bif Nat.beq z (sz ty)then(bif Nat.ble (o+b.length) (sz ty)then ∃y:El ty,xs[i]?=Td y/\(match collect (frzL (oH b) C++R) ty ((Jg ty y).take o++b++(Jg ty y).drop (o+b.length))with
   |some (y',[])=>K (oy undef) ((c,.row e ty (xs.set i y'))::J7 c (frzL (oH b) C)) Te
   |_=>False)else False)else False)else False
  |_=>False
 |_=>False)else False)else False)else False
theorem Lh{a x:Operand}(ho:o.op=.store t a x){aa:AA}{m:List AA}{K:AV->CS->Option Nat->Prop}(H:Au P t aa m C R K)(I:Inv h0 W M0 (C++R) γ h)
  (M:All2 (DenA γ) m (σ x).cells.toList) (ha:DenA γ aa (σ a)):ExA P (execOp σ o) h (jH h0 W M0 R γ K):=by
 unfold Au at H;cases hi:yc P t with
 |false=>rw[hi]at H;exact H.elim
 |true=>
  rw[hi]at H;cases hn:Nat.beq m.length (yf P t)with
  |false=>rw[hn]at H;exact H.elim
  |true=>
   rw[hn]at H;cases hok:qP m with
   |false=>rw[hok]at H;exact H.elim
   |true=>
    rw[hok]at H;have U:m.length=yf P t:=YC hn;have r:(σ x).cells.size=yf P t:=by rw[<-U,M.length];simp
    have h1:=CN hok M;simp only[zI]at H;split at H
    ·rename_i c off;split at H
     ·rename_i l hc;cases hR:lA c R with
      |false=>rw[hR]at H;exact H.elim
      |true=>
       rw[hR]at H;cases hit:iW l with
       |true=>rw[hit]at H;exact H.elim
       |false=>
       rw[hit]at H;cases hit2:iW (l.take off++m++l.drop (off+m.length))with
       |true=>rw[hit2]at H;exact H.elim
       |false=>
       rw[hit2]at H;simp only[zI,zJ]at H;cases hble:Nat.ble (off+m.length) l.length with
       |false=>rw[hble]at H;exact H.elim
       |true=>
        rw[hble]at H;have V:=za3 hble;obtain⟨us,e,J⟩:=I.den _ (YM R (qi hc));rcases e with⟨⟨T,e⟩,_⟩|⟨s,p,e,_⟩;case inr=>exact absurd e (sH hit J s p)
        have au:=J.length;intro B d;obtain⟨h',r1,r2,r3,r4⟩:=Q9 (P:=P) hi rfl e (o:=off) r (by simp;omega) h1 B d;refine .inr (.inl ⟨d,h',?_,_,_,_,γ,H,Ji _ _,?_,Gx.refl _ _⟩);simp only[execOp,ho];rw[show σ a=_ from ha];exact ov r1;refine I.setBox (qi hc) (us:=us.take off++(σ x).cells.toList++us.drop (off+m.length)) (.inl ⟨⟨T,?_⟩,λs p=>sH hit2 (((J.take off).append M).append (J.drop _)) s p⟩) r4 r3 ?_ (om hR);rw[r2,U];exact((J.take off).append M).append (J.drop _)
     exact H.elim
    rename_i c z i off;split at H;rename_i e ty xs hc;cases hR:lA c R with
    |false=>rw[hR]at H;exact H.elim
    |true=>
     rw[hR]at H;cases hz:Nat.beq z (sz ty)with
     |false=>rw[hz]at H;exact H.elim
     |true=>
      rw[hz]at H;cases hble:Nat.ble (off+m.length) (sz ty)with
      |false=>rw[hble]at H;exact H.elim
      |true=>
       rw[hble]at H;simp only[zI]at H;obtain⟨y,hy,H⟩:=H;split at H;rename_i y' Y;have V:=za3 hble;obtain⟨γ1,I1,g1⟩:=Inv.frzL (C:=C) (γ:=γ) (oH m) I;have N:=ha.gx g1 rfl;have af:=DenL.gx (c:=Te) g1 rfl M;rw[YC hz]at N;obtain⟨g,hg,ai⟩:=N;have w:=qi hc;obtain⟨cells,A,f,j,b⟩:=I1.den _ (YM R w);simp only at A f j b;have G:i<xs.length:=(ZV.1 hy).1;have aj:xs[i]=y:=(ZV.1 hy).2;rcases A.2 with⟨hv,ar⟩|⟨g',cap,S,hv,ak,ah,al,Q,E,D⟩;omega;simp only[ZG]at hv;have am:g'=g:=by have:=hv.1;rw[hg]at this;simp only[XU,Addr.mk.injEq]at this;exact this.1.symm
       subst am;have n:cells.length=xs.length*sz ty:=f.1;have O:(i+1)*sz ty<=xs.length*sz ty:=ZK _ G;rw[za4,zc5]at O;have ae:xs.length*sz ty<=cap*sz ty:=ZK _ (by omega);have F:(σ x).cells.toList.length=m.length:=M.length.symm;intro B d;obtain⟨h',r1,r2,r3,r4⟩:=Q9 (P:=P) hi rfl ah (o:=i*sz ty+off) r (by rw[E];omega) h1 B d;refine .inr (.inl ⟨d,h',?_,_,_,_,γ1,H,Ji _ _,?_,g1⟩);simp only[execOp,ho];rw[ai];exact ov r1;refine I1.setRow w (g:=g') (by rw[hg];rfl) r4 r3 ?_ (om hR);have hE:=f.2 i G;rw[aj]at hE;have Z:=xr (γ:=γ1) hE;have ac:=((Z.take off).append af).append (Z.drop (off+m.length));obtain⟨c1,c2,e1,r5,r6⟩:=Jh I1.fz Y ac;cases c2 with
       |cons _ _=>exact r6.elim
       |nil=>
        rw[ZO]at e1;rw[<-e1]at r5;have u:=f.set G (o:=off) (vs:=(σ x).cells.toList) (by rw[F];exact V) (by rw[F];exact r5);refine⟨_,⟨?_,.inr ⟨g',cap,_,by simp[hv],ak,r2,al,Q,?_,?_⟩⟩,u,by simpa using j,by simpa using b⟩;rw[u.1,b,List.length_set];simp only[zcl,XX,ZP,zai,zcb];have:(σ x).cells.toList.length=yf P t:=by simpa using r
        simp only[zcb]at this;rw[this,E];omega;apply zab;intro k;have ab:(σ x).cells.toList.length=yf P t:=by simpa using r
        rw[ZJ,<-ab];simp only;rw[Qs (L:=cells) (by rw[n];omega)];have an:cells=S.toList.take (xs.length*sz ty):=by rw[<-D,b]
        rw[Qs (L:=S.toList) (by simp only[zcb];rw[E];simp only[zcb]at F;omega),an,b];by_cases hk:k<xs.length*sz ty;rw[zb hk,ZJ,zb hk];rw[za hk,ZJ,za hk];rw[za (by omega),za (by omega)]
       exact H.elim
    exact H.elim;exact H.elim
def iS(s:Bt)(p:Nat):Bool:=Nat.blt p s.size
def iN(s:Bt)(p:Nat):Nat:=bif Nat.blt p s.size then p+(zdu s p).2 else p
def ki(s:Bt)(p:Nat):Int:=((zdu s p).1:Int)
def BM(P:Program)(t:TypeId)(av:AV)(d:Nat)(C R:CS)(K:AV->CS->Option Nat->Prop):Prop:=match av,P.underlying t with
 |.g (.a (.v (.string s))),Td .string=>bif qq d R then K (.g (.a (.box d 0))) ((d,.box [.d .iter (s,0)])::q9 d C) (Td d)else False
 |_,_=>False
theorem LQ{x:Operand}(f:o.op=.range t x){K:AV->CS->Option Nat->Prop}(H:BM P t av d C R K)(I:Inv h0 W M0 (C++R) γ h)
  (b:DenV γ av (σ x)):ExA P (execOp σ o) h (jH h0 W M0 R γ K):=by
 unfold BM at H;split at H;rename_i s j;cases hR:qq d R with
 |false=>rw[hR]at H;exact H.elim
 |true=>rw[hR]at H;intro B e;refine .inl ⟨.pointer (Td ⟨h.size,0,Te⟩),e,h.push (.stringIter s 0),?_,_,_,_,kL γ d h.size,H,?_,?_,Xt _ _ _⟩;simp only[execOp,f,show σ x=.string s from b];refine Yl ?_;have i:=QExec.underlying (h:=h) j B e;unfold zdg;rw[Sem.run_bind,i];rfl;simp only[DenV,DenG,DenA,Z1];exact Inv.newBoxO (c:=d) I hR (l:=[.d .iter (s,0)]) (us:=[Zu s 0]) ⟨rfl,trivial⟩ rfl (.inr ⟨s,0,rfl,rfl⟩)
 exact H.elim
def Ad(av:AV)(C R:CS)(K:AV->CS->Option Nat->Prop):Prop:=match av with
 |.g (.a (.box c 0))=>match Q7 C c with
  |some (.box [.d .iter x])=>bif lA c R then K (.nx (iS x.1 x.2) (x.2:Int) (ki x.1 x.2)) ((c,.box [.d .iter (x.1,iN x.1 x.2)])::J7 c C) Te else False
  |_=>False
 |_=>False
theorem Tm{x:Operand}(A:o.op=.next x Ta){K:AV->CS->Option Nat->Prop}(H:Ad av C R K)(I:Inv h0 W M0 (C++R) γ h)
  (G:DenV γ av (σ x)):ExA P (execOp σ o) h (jH h0 W M0 R γ K):=by
 unfold Ad at H;split at H;rename_i c;split at H;rename_i y f;cases hR:lA c R with
 |false=>rw[hR]at H;exact H.elim
 |true=>
  rw[hR]at H;simp only[zI]at H;obtain⟨us,ob,m⟩:=I.den _ (YM R (qi f));have n:us=[Zu y.1 y.2]:=by
   match us,m with
   |[u],m=>have L:Rd γ.M .iter y [u]:=m.1;simpa[Rd]using L
  subst n;have b:h[γ.β c]?=Td (.stringIter y.1 y.2):=by
   rcases ob with⟨_,e⟩|⟨s,p,E,J⟩;exact absurd rfl (e _ _);have F:y.1=s/\y.2=p:=by simp only[Zu,zbs,Value.iface.injEq,Value.agg.injEq,Array.mk.injEq,Value.string.injEq,Value.int.injEq,and_true,true_and]at E;exact⟨E.1,by omega⟩
   rw[J,F.1,F.2]
  have l:γ.β c<h.size:=(YE.1 b).1;intro B d;have z:∀(w:World),w.heap[γ.β c]?=Td (.stringIter y.1 y.2)->(getObj (γ.β c)).run P w=.ok (.stringIter y.1 y.2) w:=λw e=>by simp[getObj,Sem.run,e]
  have N:∀(w:World) (r:Obj),w.heap[γ.β c]?=Td (.stringIter y.1 y.2)->(setObj (γ.β c) r).run P w=.ok () { w with heap:=w.heap.setIfInBounds (γ.β c) r }:=λw r e=>by simp[setObj,Sem.run,e]
  have D:σ x=.pointer (Td ⟨γ.β c,0,Te⟩):=G;by_cases k:y.2<y.1.size;have j:iS y.1 y.2=Ta:=by simpa[iS,zbo]using k
  have t:iN y.1 y.2=y.2+(zdu y.1 y.2).2:=by unfold iN;rw[show Nat.blt y.2 y.1.size=Ta from j];rfl
  refine .inl ⟨.tuple #[.bool Ta,.int .i64 y.2,.int .i32 (ki y.1 y.2)],d,h.setIfInBounds (γ.β c) (.stringIter y.1 (iN y.1 y.2)),?_,_,_,_,γ,H,⟨λ_=>rfl,λf=>by rw[j]at f;cases f⟩,?_,Gx.refl _ _⟩;simp only[execOp,A,D];refine Yl ?_;unfold zcg;simp only;rw[Sem.run_bind,z _ b];simp only[Result.andThen_ok,k,if_true];rw[Sem.run_bind,N _ _ b,t];rfl;refine I.setBox (qi f) (us:=[Zu y.1 (iN y.1 y.2)]) (.inr ⟨_,_,rfl,by simp[l]⟩) (λi hi=>by simp[YV (Ne.symm hi)]) (by simp) ⟨rfl,trivial⟩ (om hR);have j:iS y.1 y.2=Tc:=by
   cases h:iS y.1 y.2 with
   |false=>rfl
   |true=>exact absurd (by simpa[iS,zbo]using h) k
  have t:iN y.1 y.2=y.2:=by unfold iN;rw[show Nat.blt y.2 y.1.size=Tc from j];rfl
  refine .inl ⟨.tuple #[.bool Tc],d,h,?_,_,_,_,γ,H,⟨λf=>(by rw[j]at f;cases f),λ_=>rfl⟩,?_,Gx.refl _ _⟩;simp only[execOp,A,D];refine Yl ?_;unfold zcg;simp only;rw[Sem.run_bind,z _ b];simp only[Result.andThen_ok,k,if_false];rfl;refine I.setBox (qi f) (us:=[Zu y.1 (iN y.1 y.2)]) (.inr ⟨_,_,rfl,by rw[t];exact b⟩) (λi hi=>rfl) rfl ⟨rfl,trivial⟩ (om hR)
 exact H.elim;exact H.elim
end
section
variable {P:Program} {tr t tx e ty:TypeId} {n d m b:Nat} {C R:CS} {γ:Gh} {h:zc} {z x u:Value} {xs news:List Value}
variable {h0 : zc} {W : Nat -> Prop} {M0 : Fr}
def Wa(cs:CS)(t:Ty):Nat->List AA->Option (List (El t)×List AA)
 |0,l=>Td ([],l)
 |n+1,l=>match collect cs t l with
  |some (y,l')=>match Wa cs t n l' with
   |some (ys,l'')=>Td (y::ys,l'')
   |none=>Te
  |none=>Te
theorem zS{γ:Gh}{cs:CS}(c:lQ γ cs){t:Ty}:∀{n:Nat} {l b:List AA} {ys:List (El t)},Wa cs t n l=Td (ys,b)->∀{us:List Value},All2 (DenA γ) l us->∃c1 c2,us=c1++c2/\RowC γ.M t ys c1/\ys.length=n/\All2 (DenA γ) b c2
 |0,l,b,ys,h,us,hu=>by simp only[Wa,XU,zar]at h;obtain⟨rfl,rfl⟩:=h;exact⟨[],us,rfl,RowC.nil _ _,rfl,hu⟩
 |n+1,l,b,ys,h,us,hu=>by simp only[Wa]at h;split at h;rename_i y u h1;split at h;rename_i e w i;simp only[XU,zar]at h;obtain⟨rfl,rfl⟩:=h;obtain⟨c1,c2,rfl,j,o⟩:=Jh c h1 hu;obtain⟨k,r,rfl,f,p,m⟩:=zS c i o;exact⟨c1++k,r,by simp,by simpa using (RowC.single j).append f,by simp[p],m⟩;cases h;cases h
def oD(P:Program)(el:TypeId)(k:Nat):Option (List Value):=bif Nat.beq k 0 then Td []else(match zeroOf P el with
 |some z=>Td ((zdv k).map (z.cells[· % z.cells.size]!)).toList
 |none=>Te)
def sw:List (Nat×AV)->List AV
 |[]=>[]
 |(_,v)::l=>v::sw l
def Wb(P:Program)(tr:TypeId)(t:TypeId)(n:Nat)(ps:List (Nat×AV))(d:Nat)(C R:CS)(K:AV->CS->Option Nat->Prop):Prop:=
 match ma P t with
 |some el=>match mW P tr 8 el,oD P el (n*yf P el)with
  |some ty,some zs=>bif Nat.beq (yf P el) (sz ty)then(bif Nat.ble (n*yf P el) 16777216 then(bif Nat.blt 0 (yf P el)then(bif qq d R then(match nh (λi=>Td (i*yf P el,yf P el)) (zs.map .v) ps with
   |some r=>match Wa (frzL (Xa (sw ps)) C++R) ty n r with
    |some (ys,[])=>K (.g (.a (.own d))) ((d,.row el ty ys)::q9 d (frzL (Xa (sw ps)) C)) (Td d)
    |_=>False
   |none=>False)else False)else False)else False)else False
  |_,_=>False
 |none=>False
theorem CG{c:Array (Nat×Operand)}{o:Oper}(Z:o.op=.buildSlice t n c){ps:List (Nat×AV)}{ρ:Operand->Option AV}(J:mq ρ c.toList=Td ps){K:AV->CS->Option Nat->Prop}
  (H:Wb P tr t n ps d C R K) {σ:Operand->Value} (I:Inv h0 W M0 (C++R) γ h) (hρ:∀x av,ρ x=Td av->DenV γ av (σ x)):ExA P (execOp σ o) h (jH h0 W M0 R γ K):=by
 unfold Wb at H;split at H
 ·rename_i el E;obtain⟨hu,L⟩:=Jj E;split at H
  ·rename_i ty y aa f;cases hz:Nat.beq (yf P el) (sz ty)with
   |false=>rw[hz]at H;exact H.elim
   |true=>
   rw[hz]at H;cases hb1:Nat.ble (n*yf P el) 16777216 with
   |false=>rw[hb1]at H;exact H.elim
   |true=>
   rw[hb1]at H;cases hb2:Nat.blt 0 (yf P el)with
   |false=>rw[hb2]at H;exact H.elim
   |true=>
   rw[hb2]at H;cases hR:qq d R with
   |false=>rw[hR]at H;exact H.elim
   |true=>
   rw[hR]at H;simp only[zI]at H;split at H
   ·rename_i r hr;split at H
    ·rename_i ys F;obtain⟨l,Q,g1⟩:=Inv.frzL (C:=C) (γ:=γ) (Xa (sw ps)) I;have N:∀x av,ρ x=Td av->DenV l av (σ x):=λx av hx=>(hρ x av hx).gx g1 rfl;obtain⟨ws,e1,V⟩:=J9 hr (Z3 l y) (u7 N J);obtain⟨c1,c2,rfl,O,S,Y⟩:=zS Q.fz F V;cases c2 with
     |cons _ _=>exact Y.elim
     |nil=>
     rw[ZO]at *;have j:=YC hz;have m:0<yf P el:=by simpa[zbo]using hb2
     have ab:n*yf P el<=16777216:=za3 hb1;have hn:n<=n*yf P el:=zcw _ m;have u:c1.length=n*yf P el:=by rw[O.1,S,j]
     intro B e;refine .inl ⟨.slice (Td ⟨h.size,0,Te⟩) n n,e,h.push (.cells c1.toArray el),?_,_,_,_,jL l d ⟨Td ⟨h.size,0,Te⟩,n,n⟩,H,?_,?_,?_⟩;have D:=QExec.underlying (h:=h) hu B e;have hs:=QExec.sizeOf (P:=P) (h:=h) (jm L).choose_spec B e;have U:(c.map λx=>(x.1,σ x.2)).toList=c.toList.map λx=>(x.1,σ x.2):=by rw[zce]
     have T:zd0 (λi=>Td (i*yf P el,yf P el)) y.toArray (c.map λx=>(x.1,σ x.2)).toList=Td c1.toArray:=by rw[U];exact e1
     simp only[execOp,Z];refine Yl ?_;unfold Instr.buildSlice;rw[Sem.run_bind,D];simp only[Result.andThen_ok];rw[Sem.run_bind,hs];simp only[Result.andThen_ok];rw[za (by omega)];unfold oD at f;by_cases k:n*yf P el=0;rw[zb k];rw[k]at f ⊢;simp at f;subst f;simp only[Sem.run_bind,Sem.run_pure,Result.andThen_ok];have w:Array.map (λx=>(#[]:Array Value)[x % (#[]:Array Value).size]!) (zdv 0)=([]:List Value).toArray:=by simp
     rw[w,T];rfl;rw[za k];have A:Nat.beq (n*yf P el) 0=Tc:=by
      cases hh:Nat.beq (n*yf P el) 0 with
      |false=>rfl
      |true=>exact absurd (YC hh) k
     rw[A]at f;simp only[zJ]at f;split at f;rename_i z M;have G:=Jl M h B e;simp only[XU]at f;rw[Sem.run_bind,G];simp only[Result.andThen_ok,Sem.run_bind,Sem.run_pure];have w:Array.map (λx=>z.cells[x % z.cells.size]!) (zdv (n*yf P el))=y.toArray:=by rw[<-f]
     rw[w,T];rfl;cases f;simp only[DenV,DenG,DenA,yd];rfl;refine Q.newRow hR (by simp) (p:=Te) (λi hi _=>by rw[zau,za (by omega)]) (λb A=>by cases A) (cells:=c1) ⟨by rw[u,<-j],.inr ⟨h.size,n,c1.toArray,rfl,I.size,qm _ _,XV _,by unfold maxLen;omega,by rw[<-j];simpa using u,?_⟩⟩ (λq D=>.inr (by cases D;rfl)) O (by omega) S.symm;rw[ZS];rw[<-j];simp;omega;exact⟨g1.1,λi hi=>⟨((Qd l d _).2 i hi).1.trans (g1.2 i (by simp)).1,((Qd l d _).2 i hi).2.trans (g1.2 i (by simp)).2⟩⟩
    exact H.elim
   exact H.elim
  exact H.elim
 exact H.elim
theorem Ya{n sz:Nat}{s:Sl}{cells:List Value}(k:Arr n h s.a cells)(f:cells.length=s.len*sz)(c:0<sz)(B:World)(d:Nat):
  (zbv sz s.len (.slice s.a s.len s.cap)).run P (mk B d h)=.ok cells.toArray (mk B d h):=by
 rcases k with rfl|⟨b,o,e,_,l⟩;have h0:s.len=0:=by rcases zcy s.len with h0|h0;exact h0;have:=Nat.mul_pos h0 c;simp at f;omega
 rw[h0];cases s.a with
 |none=>simp[zbv]
 |some p=>simp[zbv,loadCells,loadCellsFrom]
 rw[e];exact run_firstCells_some (mk B d h) sz s.len ⟨b,o,Te⟩ s.len s.cap cells f λj u i=>by rw[zh];exact l j u i
theorem Gp{n sz:Nat}{s:Sl}{cells:List Value}(e:Arr n h s.a cells)(c:cells.length=s.len*sz)(b:0<sz)(h1:∀u∈cells,u.oneCell'=Ta){tx f:TypeId}(i:P.underlying tx=Td (.slice f))(B:World)(d:Nat):
  Src P sz tx (aK s) s.len cells (mk B d h):=
 ⟨.inl ⟨f,i⟩,λ_=>rfl,Ya e c b B d,Ya e c b B (d+1),c,h1⟩
theorem GY{g o:Nat}{b:Array Value}{T:TypeId}(k:h[g]?=Td (.cells b T (0,0))){vs:List Value}(l:o+vs.length<=b.size)(h1:∀u∈vs,u.oneCell'=Ta)(B:World)(d:Nat):
  ∃h',(storeCells ⟨g,o,Te⟩ vs 0).run P (mk B d h)=.ok () (mk B d h')/\h'[g]?=Td (.cells (b.toList.take o++vs++b.toList.drop (o+vs.length)).toArray T (0,0))/\h'.size=h.size/\∀j,j≠g->h'[j]?=h[j]?:=by
 obtain⟨h',i,c,f,e⟩:=Y1 (P:=P) B d vs (o+0) h b k (by omega) h1;exact⟨h',by rw[BP];exact i,c,f,e⟩
theorem Wc{sz bytes:Nat}(T:ElemT P t e z sz bytes){base:Nat}{s:Sl}(j:xs.length=s.len*sz)(k:∀B d,(zbv sz s.len (aK s)).run P (mk B d h)=.ok xs.toArray (mk B d h))(A:∀B d,Src P sz tx x m news (mk B d h))(b:(s.len+m)*bytes<=140737488355328)(w:s.len+m<=140737488355328)(p:base<=h.size)(C:s.cap<s.len+m)(B:World)(d:Nat):
  ∃c blk,(YO #[t,tx] ty #[aK s,x]).run P (mk B d h)=.ok (.slice (Td ⟨h.size,0,Te⟩) (s.len+m) c) (mk B (d+1) (h.push (.cells blk e)))/\s.len+m<=c/\c<=maxLen/\blk.size=c*sz/\blk.toList.take ((s.len+m)*sz)=xs++news:=by
 obtain⟨i,hi,hz,r,n⟩:=T.info;subst r;subst n;have u:=A B d;have f:=u.newsLen;have y:=run_append_grow_src (P:=P) (mk B d h) t tx ty e i z T.slice hi hz s.a s.len s.cap xs (k B (d+1)) x m news u C (by omega) (growslice_fits (by omega) b);have l:=grownCap_ge (mk B d h) (s.len+m) s.cap e;have o:=grownCap_le_maxLen (mk B d h) (s.len+m) s.cap e (by unfold maxLen;omega);generalize grownCap (mk B d h) (s.len+m) s.cap e=c at *;refine⟨c,_,y,l,o,?_,?_⟩;simp only[Array.size_append,zcl,size_zeroCells,XX,T.zero,j,f,<-za4];congr 1;omega;simp only[Array.toList_append];have:(xs++news).length=(s.len+m)*i.size:=by rw[XX,j,f,za4]
 rw[<-this];exact zc4
theorem Yb{sz bytes:Nat}(T:ElemT P t e z sz bytes){h h':zc}{s:Sl}{B:World}(c:Src P sz tx x m news (mk B d h))(b:s.len+m<=s.cap)
  (j:∀p,s.a=Td p->(storeCells (p.add (s.len*sz)) news 0).run P (mk B d h)=.ok () (mk B d h')) (f:s.a=Te->h'=h):(YO #[t,tx] ty #[aK s,x]).run P (mk B d h)=.ok (.slice s.a (s.len+m) s.cap) (mk B d h'):=by
 obtain⟨i,hi,hz,n,o⟩:=T.info;subst n;have l:=T.slice;unfold aK;rcases c.kind with⟨r,k⟩|k;cases ha:s.a with
 |none=>rw[f ha];simp[YO,run_underlying l,run_underlying k,sizeOf,typeInfo,hi,c.len,b,c.cells]
 |some p=>simp[YO,run_underlying l,run_underlying k,sizeOf,typeInfo,hi,c.len,b,c.cells,j p ha]
 cases ha:s.a with
 |none=>rw[f ha];simp[YO,run_underlying l,run_underlying k,sizeOf,typeInfo,hi,c.len,b,c.cells]
 |some p=>simp[YO,run_underlying l,run_underlying k,sizeOf,typeInfo,hi,c.len,b,c.cells,j p ha]
theorem s7{sz bytes:Nat}(T:ElemT P t e z sz bytes){base:Nat}{s:Sl}(H:Owns h base e sz s xs)(hs:∀B d,Src P sz tx x m news (mk B d h)) (n:(s.len+m)*bytes<=140737488355328) (y:s.len+m<=140737488355328) (k:base<=h.size) {K:Value->zc->Prop} (O:∀(G:Sl) (h':zc),G.len=s.len+m->Owns h' base e sz G (xs++news)->(∀i,i<h.size->(∀p,s.a=Td p->i≠p.block)->h'[i]?=h[i]?)->h.size<=h'.size->(∀w,G.a=Td w->(∃p,s.a=Td p/\w.block=p.block)\/w.block=h.size)->K (aK G) h'):
  yp P (YO #[t,tx] ty #[aK s,x]) h K:=by
 intro B d;have J:=hs B d;have l:=J.newsLen;have f:=H.1;have A:=H.arr;by_cases j:s.len+m<=s.cap;rcases H.2 with⟨F,ab⟩|⟨g,cap,Q,F,U,hg,ac,M,E,r⟩;simp only[ZG]at F;obtain⟨u,e2,e3⟩:=F;have hm:m=0:=by omega
 subst hm;have I:news=[]:=YU (by simpa using l);subst I;have D:=Yb (P:=P) (ty:=ty) T (s:=s) (h':=h) J j (λp C=>by rw[u]at C;cases C) (λ_=>rfl);refine⟨_,d,h,D,O ⟨s.a,s.len+0,s.cap⟩ h rfl ?_ (λ_ _ _=>rfl) (XV _) (λw b=>by rw[show s.a=Te from u]at b;cases b)⟩;rw[ZO];exact H;simp only[ZG]at F;obtain⟨u,_,e3⟩:=F;have N:h[g]?=Td (.cells Q e (0,0)):=hg;have Y:(s.len+m)*sz<=cap*sz:=ZK _ (by omega);rw[za4]at Y;obtain⟨h',r1,r2,r3,r4⟩:=GY (P:=P) N (o:=s.len*sz) (vs:=news) (by rw[E];omega) J.one B d;have D:=Yb (P:=P) (ty:=ty) T (s:=s) (h':=h') J j (λp C=>by rw[u]at C;cases C;rw[zh,YP];exact r1) (λI=>by rw[u]at I;cases I);refine⟨_,d,h',D,O ⟨s.a,s.len+m,s.cap⟩ h' rfl ⟨?_,.inr ⟨g,cap,_,?_,U,r2,(by show s.len+m<=cap;omega),M,?_,?_⟩⟩ (λi hi L=>r4 i λe'=>L _ u e') (by omega) (λw b=>.inl ⟨w,b,rfl⟩)⟩;rw[XX,f,l,za4];simp[u,e3];simp only[zcl,XX,ZP,zai,zcb];rw[l,E]at *;omega;simp only;rw[r];have:(xs++news).length=(s.len+m)*sz:=by rw[XX,f,l,za4]
 rw[<-this];exact zc4;obtain⟨c,blk,D,aa,V,Z,S⟩:=Wc (P:=P) (ty:=ty) (base:=base) T f (λB d=>Ya A f T.pos B d) hs n y k (by omega) B d;refine⟨_,d+1,_,D,O ⟨Td ⟨h.size,0,Te⟩,s.len+m,c⟩ _ rfl ⟨?_,.inr ⟨h.size,c,blk,rfl,k,qm _ _,aa,V,Z,S⟩⟩ (λi hi _=>by rw[zau,za (by omega)]) (by simp) (λw b=>.inr (by cases b;rfl))⟩;rw[XX,f,l,za4]
def yg(s:Bt):List Int:=s.data.toList.map λb=>(b.toNat:Int)
def E0:(ty:Ty)->Bt->Option (List (El ty))
 |.int .u8,s=>Td (yg s)
 |_,_=>Te
def nW(P:Program)(cs:CS)(tx:TypeId)(ty:Ty):AV->Option (List (El ty))
 |.g (.a (.v (.string s)))=>match P.underlying tx with
  |some .string=>E0 ty s
  |_=>Te
 |.g (.a (.v (.slice Te 0 0)))=>match P.underlying tx with
  |some (.slice _)=>Td []
  |_=>Te
 |.g (.a aa)=>match P.underlying tx with
  |some (.slice _)=>match rowOf cs aa with
   |some r=>Qc (.row r.1) (.row ty) r.2
   |none=>match aa with
    |.own c=>match Q7 cs c with
     |some (.row _ t xs)=>Qc (.row t) (.row ty) xs
     |_=>Te
    |_=>Te
  |_=>Te
 |_=>Te
theorem RowC.bytes(M:Fr)(s:Bt):RowC M (.int .u8) (yg s) (byteCells s):=by
 have c:(byteCells s).length=(yg s).length:=by unfold byteCells yg;simp
 refine⟨by rw[c];simp[sz],λi hi=>?_⟩;have b:i<(byteCells s).length:=by rw[c];exact hi
 have e:(byteCells s)[i]=.int .u8 (yg s)[i]:=by simp only[byteCells,yg,zbl]
 have f:((byteCells s).drop (i*1)).take 1=[(byteCells s)[i]]:=by rw[zac,zaf b];rfl
 show((byteCells s).drop (i*1)).take 1=[.int .u8 (yg s)[i]];rw[f,e]
theorem Yc{t t':Ty}{xs:List (El t)}{ys:List (El t')}(h:Qc (.row t) (.row t') xs=Td ys):∃e:t=t',ys=e ▸ xs:=by
 unfold Qc at h;split at h;rename_i e;have b:t=t':=by injection e
 subst b;simp only[XU]at h;exact⟨rfl,h.symm⟩;cases h
theorem FY{cs:CS}(I:Inv h0 W M0 cs γ h){ty:Ty}{av:AV}{ys:List (El ty)}(b:nW P cs tx ty av=Td ys)(m:0<sz ty)(p:DenV γ av u):
  ∃news,RowC γ.M ty ys news/\∀B d,Src P (sz ty) tx u ys.length news (mk B d h):=by
 have row:∀{t:Ty} {xs:List (El t)} {n:Nat} {s:Sl} {cells:List Value} {w:TypeId},Qc (.row t) (.row ty) xs=Td ys->P.underlying tx=Td (.slice w)->u=aK s->s.len=xs.length->RowC γ.M t xs cells->Arr n h s.a cells ->
   ∃news,RowC γ.M ty ys news/\∀B d,Src P (sz ty) tx u ys.length news (mk B d h):=by
  intro t xs n s cells w x i e j l C;obtain⟨A,y⟩:=Yc x;subst A;simp only at y;subst y;refine⟨cells,l,λB d=>?_⟩;rw[e,<-j];exact Gp C (by rw[j];exact l.1) m l.one i B d
 unfold nW at b;split at b
 ·rename_i s;split at b
  ·rename_i i;unfold E0 at b;split at b;case h_2=>cases b
   simp only[XU]at b;subst b;refine⟨byteCells s,RowC.bytes _ s,λB d=>?_⟩;rw[show u=.string s from p];have:=Src.ofString (P:=P) (mk B d h) i s;have e:(yg s).length=s.size:=by unfold yg;rw[YF,zcb];rfl
   rw[e];exact this
  cases b
 split at b;rename_i w i;simp only[XU]at b;subst b;refine⟨[],RowC.nil _ _,λB d=>?_⟩;rw[show u=.slice Te 0 0 from p];exact Src.ofNil (mk B d h) i 0;cases b;rename_i D _ _;split at b;rename_i w i;split at b;rename_i r l;obtain⟨s,e,j,z,cells,f,o⟩:=(qM I l p).rowC I.ag;exact row b i e j f o;split at b;rename_i c _ _ _;split at b;rename_i e t xs x;obtain⟨cells,k,f,z,j⟩:=I.den _ (qi x);exact row b i (show u=aK _ from p) j f k.arr;cases b;cases b;cases b;cases b
def sE(P:Program)(el:TypeId)(ty:Ty):Option Nat:=match P.info? el with
 |some i=>match i.zero with
  |some z=>bif (bif Nat.beq i.size (sz ty)then(bif Nat.beq z.cells.size i.size then(bif Nat.blt 0 i.size then Nat.blt 0 i.bytes else Tc)else Tc)else Tc)then Td i.bytes else Te
  |none=>Te
 |none=>Te
theorem DO{t el:TypeId}{ty:Ty}(j:P.underlying t=Td (.slice el))(h:sE P el ty=Td b):(∃z,ElemT P t el z (sz ty) b)/\0<b:=by
 unfold sE at h;split at h
 ·rename_i i hi;split at h
  ·rename_i z hz;cases h1:Nat.beq i.size (sz ty)with
   |false=>rw[h1]at h;cases h
   |true=>
   cases h2:Nat.beq z.cells.size i.size with
   |false=>rw[h1,h2]at h;cases h
   |true=>
   cases h3:Nat.blt 0 i.size with
   |false=>rw[h1,h2,h3]at h;cases h
   |true=>
   cases h4:Nat.blt 0 i.bytes with
   |false=>rw[h1,h2,h3,h4]at h;cases h
   |true=>
   rw[h1,h2,h3,h4]at h;simp only[zI,XU]at h;have c:=YC h1;have k:=YC h2;have e:0<i.size:=by simpa[zbo]using h3
   have f:0<i.bytes:=by simpa[zbo]using h4
   exact⟨⟨z,j,⟨i,hi,hz,c,h⟩,by rw[k,c],by rw[<-c];exact e⟩,by rw[<-h];exact f⟩
  cases h
 cases h
def Xy(P:Program)(tr:TypeId)(t tx:TypeId)(bv sv:AV)(d:Nat)(C R:CS)(K:AV->CS->Option Nat->Prop):Prop:=
 match ma P t with
 |some el=>match mW P tr 8 el with
  |some ty=>match sE P el ty,nW P (C++R) tx ty sv with
   |some b,some ys=>match bv with
    |.g (.a (.v (.slice Te 0 0)))=>bif qq d R then(ys.length*b<=140737488355328/\K (.g (.a (.own d))) ((d,.row el ty ys)::q9 d C) (Td d))else False
    |.g (.a (.own c))=>match Q7 C c with
     |some (.row e t' xs)=>match Qc (.row t') (.row ty) xs with
      |some xs=>bif Nat.beq e el then(bif qq d R then((xs.length+ys.length)*b<=140737488355328/\K (.g (.a (.own d))) ((d,.row el ty (xs++ys))::q9 d (J7 c C)) (Td d))else False)else False
      |none=>False
     |_=>False
    |.g (.a (.dc t' xs))=>match Qc (.row t') (.row ty) xs with
     |some xs=>(xs.length+ys.length)*b<=140737488355328/\K (.g (.a (.d (.row ty) (xs++ys)))) C Te
     |none=>False
    |_=>False
   |_,_=>False
  |none=>False
 |none=>False
theorem sJ{n b k:Nat}(c:0<b)(h:n*b<=k):n<=k:=zay (zcw _ c) h
theorem CB{tr t tx ty':TypeId}{bv sv:AV}{K:AV->CS->Option Nat->Prop}(H:Xy P tr t tx bv sv d C R K)(I:Inv h0 W M0 (C++R) γ h)
  {u v:Value} (U:DenV γ bv u) (ax:DenV γ sv v):yp P (YO #[t,tx] ty' #[u,v]) h (jH h0 W M0 R γ K):=by
 unfold Xy at H;split at H
 ·rename_i el ak;obtain⟨hu,aG⟩:=Jj ak;split at H
  ·rename_i ty aF;split at H
   ·rename_i b ys l al;obtain⟨⟨z,T⟩,L⟩:=DO hu l;obtain⟨news,E,J⟩:=FY I al T.pos ax;split at H
    ·cases hR:qq d R with
     |false=>rw[hR]at H;exact H.elim
     |true=>
     rw[hR]at H;obtain⟨r,Y⟩:=H;rw[show u=aK ⟨Te,0,0⟩from U];have w:=sJ L r;refine s7 T (Owns.nil h h0.size el (sz ty)) J (by simpa using r) (by simpa using w) I.size λs' h' hl F hk hs n=>?_;rw[za6]at F;simp only[YP]at hl;refine⟨_,_,_,jL γ d s',Y,?_,I.newRow hR hs (p:=Te) (λi hi _=>hk i hi (by simp)) (λb l=>by cases l) F (λq hq=>?_) E w hl,Qd _ _ _⟩;simp only[DenV,DenG,DenA,yd];rcases n q hq with⟨p,n,_⟩|n;simp at n;exact .inr n
    ·rename_i c;split at H
     ·rename_i e t' az hc;split at H
      ·rename_i xs A;cases hee:Nat.beq e el with
       |false=>rw[hee]at H;exact H.elim
       |true=>
       rw[hee]at H;cases hR:qq d R with
       |false=>rw[hR]at H;exact H.elim
       |true=>
       rw[hR]at H;obtain⟨r,Y⟩:=H;have w:=sJ L r;have G:=qi hc;obtain⟨e1,Z⟩:=Yc A;subst e1;simp only at Z;subst Z;have e3:=YC hee;subst e3;have ae:=I.den _ (YM R G);obtain⟨cells,D,j,aC,f⟩:=ae;simp only at D j f;rw[show u=aK (γ.σ c)from U];refine s7 T D J (by rw[f];exact r) (by rw[f];exact w) I.size λs' h' hl F hk hs n=>?_;have ab:=I.sep _ (YM R G);have aE:=Q8 hR;have am:Inv h0 W M0 (J7 c C++R) γ h:=I.sub ((xc c C).append_right R);refine⟨_,_,_,jL γ d s',Y,?_,am.newRow hR hs (p:=(γ.σ c).a.map (·.block)) (λi hi S=>hk i hi λp n e=>S (by rw[n,e];rfl)) (λb l=>?_) F (λq hq=>?_) (j.append E) (by rw[XX];exact w) (by rw[hl,f,XX]),Qd _ _ _⟩;simp only[DenV,DenG,DenA,yd];obtain⟨h1,h2⟩:=ab b l;refine⟨?_,h2,λx V ay=>?_⟩;simp only[zbk]at l;obtain⟨p,n,rfl⟩:=l;exact(D.base_le p n).1;have ai:x∈C++R:=((xc c C).append_right R).subset V;have S:x≠(c,Ch.row e t' xs):=by rintro rfl;rcases YK.1 V with V|V;exact(Ys V).2 rfl;have ac:=I.apart;rw[zby]at ac;exact ac.2.2 _ G _ V b l l
       have n:=@rq _ (λ(x y:Nat×Ch)=>∀b,blk γ x.1 x.2=Td b->blk γ y.1 y.2≠Td b) (λx y h b l N=>h b N l) _ I.apart;exact n ai (YM R G) S b ay l;rcases n q hq with⟨p,n,au⟩|n;exact .inl (by rw[n,au];rfl);exact .inr n
      exact H.elim
     exact H.elim
    rename_i t' az;split at H;rename_i xs A;obtain⟨r,Y⟩:=H;have w:=sJ L r;obtain⟨e1,Z⟩:=Yc A;subst e1;simp only at Z;subst Z;obtain⟨s,e,aI,af⟩:=(show ∃s:Sl,u=aK s/\s.cap=s.len/\Rd γ.M (.row t') xs [u]from U);subst e;obtain⟨s2,e,f,aC,cells,j,aa⟩:=af.rowC I.ag;have e':s=s2:=by cases s;cases s2;simp only[aK,ZG]at e;simp[e]
    subst e';have Q:cells.length=s.len*sz t':=by rw[f];exact j.1
    intro B dr;by_cases hm:ys.length=0;have an:ys=[]:=YU hm;subst an;have aB:news=[]:=YU (by rw[E.1];simp);subst aB;have hr:=Yb (P:=P) (ty:=ty') T (s:=s) (h':=h) (J B dr) (by simp;omega) (λp n=>by simp[storeCells]) (λ_=>rfl);refine⟨_,dr,h,hr,_,C,Te,γ,Y,?_,I,Gx.refl _ _⟩;rw[ZO];exact af;obtain⟨c,k,hr,aD,aH,aJ,aA⟩:=Wc (P:=P) (ty:=ty') (base:=0) T Q (λB d=>Ya aa Q T.pos B d) J (by rw[f];exact r) (by rw[f];exact w) (YT _) (by omega) B dr;have ar:γ.M h.size=Te:=I.ag.none (XV _);have hM:Fr.le γ.M (iA γ h.size k).M:=by
     intro b cc O;have:Nat.beq b h.size=Tc:=by
      cases l:Nat.beq b h.size with
      |false=>rfl
      |true=>rw[YC l,ar]at O;cases O
     simp[iA,this,O]
    have aj:AgM (iA γ h.size k).M (h.push (.cells k el)):=by
     intro b cc O;by_cases l:b=h.size;subst l;have:cc=k:=by simp[iA]at O;exact O.symm
     subst this;exact⟨_,_,qm _ _⟩;have:Nat.beq b h.size=Tc:=by
      cases N:Nat.beq b h.size with
      |false=>rfl
      |true=>exact absurd (YC N) l
     simp only[iA,this,zJ]at O;obtain⟨T',m,e'⟩:=I.ag b cc O;exact⟨T',m,by rw[zau,za l];exact e'⟩
    refine⟨_,dr+1,_,hr,_,C,Te,iA γ h.size k,Y,?_,I.call (Keep.push h _ (XV _)) hM (λb l=>?_) aj,⟨hM,λ_ _=>⟨rfl,rfl⟩⟩⟩;have ah:=((j.append E).mono hM).rd (b:=h.size) (o:=0) (c:=c) (cs:=k) (by simp[iA]) (by rw[za2,XX,<-f];exact aA) (by rw[XX,<-f];exact⟨by rw[f];exact w,aD⟩);rw[XX,<-f]at ah;exact ah;have:Nat.beq b h.size=Tc:=by
     cases N:Nat.beq b h.size with
     |false=>rfl
     |true=>have:=YC N;omega
    simp[this];exact H.elim;exact H.elim
   exact H.elim
  exact H.elim
 exact H.elim
end
section
variable {cs C R:CS} {γ b:Gh} {h:zc} {u:Value} {P:Program} {o:Oper} {σ:Operand -> Value} {n:Nat} {gl:Fr} {tr:TypeId} {c:qf} {a:Act} {S:List Nat}
variable {h0 : zc} {W : Nat -> Prop} {M0 : Fr}
def mX(b:List Int):Bt:=b.foldl (λr n=>r.push (zat n.toNat)) ByteArray.empty
def WM(t:Ty)(xs:List (El t)):Option (List Int):=Qc (.row t) (.row (.int .u8)) xs
def um(cs:CS):AA->Option ((t:Ty)×List (El t))
 |.own c=>match Q7 cs c with
  |some (.row _ t xs)=>Td ⟨t,xs⟩
  |some (.fz t xs)=>Td ⟨t,xs⟩
  |_=>Te
 |aa=>rowOf cs aa
theorem GX(I:Inv h0 W M0 cs γ h){o:AA}{r:(t:Ty)×List (El t)}(b:um cs o=Td r)(k:DenA γ o u):
  ∃s:Sl,u=aK s/\s.len=r.2.length/\∃cells,RowC γ.M r.1 r.2 cells/\Arr h.size h s.a cells:=by
 unfold um at b;split at b;split at b;rename_i c e t xs m;simp only[XU]at b;subst b;obtain⟨cells,f,j,n,i⟩:=I.den _ (qi m);exact⟨_,k,i,cells,j,f.arr⟩;rename_i c t xs m;simp only[XU]at b;subst b;have:Rd γ.M (.row t) xs [u]:=by rw[show u=_ from k];exact I.den _ (qi m)
 obtain⟨s,e,i,n,cells,h1,l⟩:=this.rowC I.ag;exact⟨s,e,i,cells,h1,l⟩;cases b;obtain⟨s,e,i,n,cells,h1,l⟩:=(qM I b k).rowC I.ag;exact⟨s,e,i,cells,h1,l⟩
def xK(P:Program)(s t:TypeId)(av:AV)(cs:CS)(K:AV->Prop):Prop:=
 match P.underlying s,P.underlying t with
 |some (.slice e),Td .string=>match P.underlying e,av with
  |some (.int .u8),.g (.a aa)=>match um cs aa with
   |some r=>match WM r.1 r.2 with
    |some b=>K (.g (.a (.v (.string (mX b)))))
    |none=>False
   |none=>False
  |_,_=>False
 |some (.int _),Td .string=>match av with
  |.g (.a (.v (.int _ n)))=>K (.g (.a (.v (.string (Utf8.encode n)))))
  |_=>False
 |_,_=>False
theorem Lz{M:Fr}{k:IntKind}:∀{b:List Int} {cells:List Value},RowC M (.int k) b cells->cells=b.map (zax k)
 |b,cells,H=>by
  apply zab;intro i;have f:cells.length=b.length:=by rw[H.1];simp[sz]
  rw[zap];by_cases hi:i<b.length;have:((cells.drop (i*1)).take 1)=[.int k b[i]]:=H.2 i hi;have e:cells[i]?=Td (.int k b[i]):=by
   have c:((cells.drop (i*1)).take 1)[0]?=Td (.int k b[i]):=by rw[this];rfl
   rw[ZJ,zb (by omega),zaa]at c;simpa using c
  rw[e,YA hi];rfl;rw[ZQ (by omega),ZQ (by omega)];rfl
theorem XL{s t:TypeId}{x:Operand}(O:o.op=.convert s t x){av:AV}{K:AV->Prop}(H:xK P s t av cs K)(I:Inv h0 W M0 cs γ h)(J:DenV γ av (σ x)):
  ∃l v,K l/\DenV γ l v/\QExec P (execOp σ o) h (.value v):=by
 have val:∀{v:Value},QExec P (convert s t (σ x)) h v->QExec P (execOp σ o) h (.value v):=λU=>by simp only[execOp,O];exact QExec.val U
 unfold xK at H;split at H;rename_i e D w;split at H;rename_i Y S;split at H;rename_i r V;split at H;rename_i i C;refine⟨_,.string (mX i),H,rfl,val λB d=>?_⟩;obtain⟨sl,G,m,cells,f,j⟩:=GX I V J;obtain⟨tt,xs⟩:=r;obtain⟨F,M⟩:=Yc C;simp only at F;subst F;simp only at M m f;subst M;have T:=Lz f;subst T;have h1:=QExec.underlying (h:=h) D B d;have u:=QExec.underlying (h:=h) w B d;have Q:=QExec.underlying (h:=h) S B d;have c:(Conv.bytesToString (σ x)).run P (mk B d h)=.ok (.string (mX i)) (mk B d h):=by
  rw[G];unfold aK;rcases j with z|⟨b,L,y,_,A⟩;have E:i=[]:=by simpa using z
  subst E;simp only[zag]at m;cases ha:sl.a with
  |none=>simp[Conv.bytesToString,mX]
  |some p=>have:=run_bytesToString (P:=P) (mk B d h) p sl.len sl.cap [] (by rw[m];simp[loadCells,loadCellsFrom]);exact this
  rw[y];refine run_bytesToString (mk B d h) ⟨b,L,Te⟩ sl.len sl.cap i ?_;have:=Ya (P:=P) (h:=h) (n:=b+1) (sz:=1) (s:=sl) (cells:=i.map (zax .u8)) (.inr ⟨b,L,y,by omega,A⟩) (by rw[m];simp) (by omega) B d;rw[y]at this;simpa[zbv]using this
 unfold convert;rw[Sem.run_bind,h1];simp only[Result.andThen_ok];rw[Sem.run_bind,u];simp only[Result.andThen_ok];rw[G]at c ⊢;unfold aK at c ⊢;simp only[Sem.run_bind,Q,Result.andThen_ok];exact c;exact H.elim;exact H.elim;exact H.elim;rename_i k D w;split at H;rename_i N n;refine⟨_,.string (Utf8.encode n),H,rfl,val λB d=>?_⟩;have h1:=QExec.underlying (h:=h) D B d;have u:=QExec.underlying (h:=h) w B d;have e:σ x=.int N n:=J;unfold convert;rw[Sem.run_bind,h1];simp only[Result.andThen_ok];rw[Sem.run_bind,u,e];rfl;exact H.elim;exact H.elim
def E2:BinOp->Option Bool
 |.eql=>Td Ta
 |.neq=>Td Tc
 |_=>Te
def AD(P:Program)(o:Oper)(ρ:Operand->Option AV)(cs:CS):Option (Bool×Nat):=match o.op with
 |.binOp b t x y _=>match E2 b,ρ x,ρ y with
  |some pol,Td (.g (.a aa)),Td (.g (.a (.v (.slice Te 0 0))))=>match um cs aa,P.underlying t with
   |some ⟨ty,xs⟩,Td (.slice _)=>bif Nat.blt 0 (sz ty)then Td (pol,xs.length)else Te
   |_,_=>Te
  |_,_,_=>Te
 |_=>Te
theorem RR(e:BinOp)(t:TypeId)(x y:Operand)(a b:Option Addr)(l c f h:Nat)(w:World):(eqGuard e t x y (.slice a l c) (.slice b f h)).run P w=.ok () w:=by unfold eqGuard;cases e <;> rfl
theorem Rw{ρ:Operand->Option AV}{i:Bool}(c:AD P o ρ (C++R)=Td (i,n)){K:AV->CS->Option Nat->Prop}(H:∀b:Bool,(b=Ta->n=0)->K (.g (.a (.v (.bool (bif i then b else !b))))) C Te)
  (I:Inv h0 W M0 (C++R) γ h) (w:∀x av,ρ x=Td av->DenV γ av (σ x)):ExA P (execOp σ o) h (jH h0 W M0 R γ K):=by
 unfold AD at c;split at c
 ·rename_i M t x y O A;split at c
  ·rename_i r S f D J;split at c
   ·rename_i ty xs e L p;cases hz:Nat.blt 0 (sz ty)with
    |false=>rw[hz]at c;cases c
    |true=>
     rw[hz]at c;simp only[zI,XU,zar]at c;obtain⟨rfl,rfl⟩:=c;have N:0<sz ty:=by simpa[zbo]using hz
     obtain⟨s,E,Q,cells,l,j⟩:=GX I L (w _ _ D);have z:σ y=.slice Te 0 0:=w _ _ J;have k:s.a.isNone=Ta->xs.length=0:=by
      intro u;have m:cells=[]:=by rcases j with m|⟨b,o,F,_⟩;exact m;rw[F]at u;cases u
      have:=l.1;rw[m]at this;simp only[zag]at this;rcases Nat.mul_eq_zero.1 this.symm with h1|h1;exact h1;omega
     have G:=H s.a.isNone k;intro B d;refine .inl ⟨_,d,h,?_,_,C,Te,γ,G,rfl,I,Gx.refl _ _⟩;simp only[execOp,A];refine Yl ?_;rw[E,z];simp only[aK];rw[Sem.run_bind,RR];simp only[Result.andThen_ok];cases M <;> simp only[E2,XU]at f <;> (try (cases f;done)) <;> subst f;simp only[binOp,Sem.run_bind,run_equal_slice_nil _ t _ _ _ _ p];rfl;simp only[binOp,Sem.run_bind,run_equal_slice_nil _ t _ _ _ _ p];rfl
   cases c
  cases c
 cases c
def mo(P:Program)(gl:Fr)(tr:TypeId)(o:Oper)(ρ:Operand->Option AV)(C R:CS)(K:AV->CS->Option Nat->Prop):Prop:=
 match o.op with
 |.alloc t=>match o.dst with
  |some d=>Be P t d C R K
  |none=>False
 |.box t x=>match o.dst,ρ x with
  |some d,some av=>match oQ av with
   |some l=>y7 t d l C R K
   |none=>False
  |_,_=>False
 |.store t a x=>match ρ a,ρ x with
  |some (.g (.a aa)),some xv=>match oQ xv with
   |some h=>Au P t aa h C R K
   |none=>False
  |_,_=>False
 |.buildSlice t n b=>match o.dst,mq ρ b.toList with
  |some d,some ps=>Wb P tr t n ps d C R K
  |_,_=>False
 |.convert s t x=>bif lH P o then qA P gl o ρ Te (C++R) (λav=>K av C Te)else(match ρ x with
  |some av=>xK P s t av (C++R) λe=>K e C Te
  |none=>False)
 |.call c=>match c.callee with
  |.builtin .append=>match c.args.toList,c.argTypes.toList,o.dst with
   |[s,x],[t,tx],some d=>match ρ s,ρ x with
    |some bv,some sv=>Xy P tr t tx bv sv d C R K
    |_,_=>False
   |_,_,_=>False
  |.builtin _=>qA P gl o ρ Te (C++R) λav=>K av C Te
  |_=>xW P gl tr o ρ C R λav f=>K av f Te
 |.range t x=>match o.dst,ρ x with
  |some d,some av=>BM P t av d C R K
  |_,_=>False
 |.next x true=>match ρ x with
  |some av=>Ad av C R K
  |none=>False
 |_=>qA P gl o ρ Te (C++R) λav=>K av C Te
theorem toList_eq{α:Type}{x:Array α}{l:List α}(h:x.toList=l):x=l.toArray:=by have:=congrArg List.toArray h;simpa using this
theorem Nh(k:Fr.le gl M0){ρ:Operand->Option AV}{K:AV->CS->Option Nat->Prop}(H:mo P gl tr o ρ C R K)(I:Inv h0 W M0 (C++R) γ h)
  (O:∀f,σ (.func f)=.func (.func f) #[] #[]) (j:∀x av,ρ x=Td av->DenV γ av (σ x)):ExA P (execOp σ o) h (jH h0 W M0 R γ K):=by
 unfold mo at H;split at H;rename_i t i;split at H;exact N7 i H I;exact H.elim;rename_i t x i;split at H;rename_i d av u b;split at H;rename_i l y;exact Mr i H I (vI y (j _ _ b));exact H.elim;exact H.elim;rename_i t a x i;split at H;rename_i U T Q z;split at H;rename_i l y;exact Lh i H I (vI y (j _ _ z)) (j _ _ Q);exact H.elim;exact H.elim;rename_i t n D i;split at H;rename_i d ps u A;exact CG i A H I j;exact H.elim;rename_i s t x i;cases hq:lH P o with
 |true=>rw[hq]at H;exact yF k H I j
 |false=>rw[hq]at H;simp only[zJ]at H;split at H;rename_i av b;obtain⟨E,v,h1,F,M⟩:=XL i H I (j _ _ b);exact λB d=>.inl ⟨v,d,h,M B d,E,C,Te,γ,h1,F,I,Gx.refl _ _⟩;exact H.elim
 rename_i c i;split at H;rename_i S;split at H;rename_i s x t tx d m p u;split at H;rename_i bv sv N z;have w:=CB (ty':=o.type) H I (j _ _ N) (j _ _ z);intro B e;obtain⟨v,L,h',r,J⟩:=w B e;refine .inl ⟨v,L,h',?_,J⟩;have G:execOp σ o=(YO c.argTypes o.type (c.args.map σ) >>= λx=>(zcj (zcp x):Sem Next)):=by simp only[execOp,i,resolve,S];rfl
 rw[G,toList_eq m,toList_eq p];refine Yl ?_;simpa using r;exact H.elim;exact H.elim;exact yF k H I j;exact Ry k H I O j;rename_i t x i;split at H;rename_i d av u b;exact LQ i H I (j _ _ b);exact H.elim;rename_i x i;split at H;rename_i av b;exact Tm i H I (j _ _ b);exact H.elim;exact yF k H I j
def hA(P:Program)(gl:Fr)(tr:TypeId)(o:Oper)(ρ:Operand->Option AV)(C R:CS)(K:AV->CS->Option Nat->Prop):Prop:=match AD P o ρ (C++R)with
 |some (pol,n)=>∀b:Bool,(b=Ta->n=0)->K (.g (.a (.v (.bool (bif pol then b else !b))))) C Te
 |none=>mo P gl tr o ρ C R K
theorem Uo(b:Fr.le gl M0){ρ:Operand->Option AV}{K:AV->CS->Option Nat->Prop}(H:hA P gl tr o ρ C R K)(I:Inv h0 W M0 (C++R) γ h)
  (i:∀f,σ (.func f)=.func (.func f) #[] #[]) (c:∀x av,ρ x=Td av->DenV γ av (σ x)):ExA P (execOp σ o) h (jH h0 W M0 R γ K):=by
 unfold hA at H;split at H;rename_i e n j;exact Rw j H I c;exact Nh b H I i c
def tF:Option AV->Option AV->Option AV
 |some v,_=>Td v
 |none,w=>w
def xH(b:Bool)(x y:AV):Option AV:=match pw x,pw y with
 |some u,some v=>Td (oy (rY b u v))
 |_,_=>match x,y with
  |.g (.a (.d t xs)),.g (.a (.d t' ys))=>match Qc t' t ys with
   |some ys=>Td (.g (.a (.d t (bif b then xs else ys))))
   |none=>Te
  |_,_=>Te
theorem Pa{b:Bool}{x y z:AV}(h:xH b x y=Td z){u v:Value}(f:b=Ta->DenV γ x u)(c:b=Tc->DenV γ y v):DenV γ z (if b=Ta then u else v):=by
 unfold xH at h;split at h;rename_i p q i k;simp only[XU]at h;subst h;have e:(if b=Ta then u else v)=rY b p q:=by
  rw[D9];cases b with
  |true=>simp only[if_true];exact xV i (f rfl)
  |false=>simp only[zad,if_false];exact xV k (c rfl)
 rw[e];exact Ji γ _;split at h;rename_i t xs t' ys _;split at h;rename_i j l;simp only[XU]at h;subst h;cases b with
 |true=>exact f rfl
 |false=>exact J6 l (c rfl)
 cases h;cases h
def un(e:qo)(c:qf)(x a b:Operand)(K:AV->Prop):Prop:=
 match x with
 |.tmp s=>match mD e s with
  |some (cs,v)=>match oZ v with
   |some t=>bif lu cs c then(match tF (iD e c a) (iD e ((s,Ta)::cs) a),tF (iD e c b) (iD e ((s,Tc)::cs) b)with
    |some va,some vb=>match xH t va vb with
     |some z=>K z
     |none=>False
    |_,_=>False)else False
   |none=>False
  |none=>False
 |_=>False
theorem Wd{e:qo}{x a b:Operand}{K:AV->Prop}(H:un e c x a b K):
  ∃z,K z/\∀(n:Nat) (γ:Gh) (f:Act),SatA n e γ f->valid (qh f) c->∃t,f.eval x=.bool t/\DenV γ z (if t=Ta then f.eval a else f.eval b):=by
 unfold un at H;split at H;rename_i s;split at H;rename_i cs v r;split at H;rename_i t u;cases hsf:lu cs c with
 |false=>rw[hsf]at H;exact H.elim
 |true=>rw[hsf]at H;simp only[zI]at H;split at H;rename_i y A k i;split at H;rename_i z hz;refine⟨z,H,λn γ f j p=>?_⟩;have h:=Ja hsf p;have o:qh f s=.bool t:=y4 u ((j.all _ (Z2 r)).1 h);refine⟨t,o,Pa hz (λm=>?_) (λl=>?_)⟩;unfold tF at k;split at k;rename_i w _ h1;simp only[XU]at k;subst k;exact zx j p h1;exact zx j (c:=(s,Ta)::cs) ⟨by rw[o,m],h⟩ k;unfold tF at i;split at i;rename_i w _ h1;simp only[XU]at i;subst i;exact zx j p h1;exact zx j (c:=(s,Tc)::cs) ⟨by rw[o,l],h⟩ i;exact H.elim;exact H.elim
 exact H.elim;exact H.elim;exact H.elim
def pK(P:Program)(gl:Fr)(tr:TypeId)(o:Oper)(e:qo)(c:qf)(C R:CS)(K:AV->CS->Option Nat->Prop):Prop:=
 match o.op with
 |.pick x a b=>un e c x a b λav=>K av C Te
 |_=>match J8 e c with
  |some none=>hA P gl tr o (iD e c) C R K
  |some (Td b)=>bif qW o then pm P gl tr o (iD e c) b (C++R) (λav=>K av C Te)else qA P gl o (iD e c) (Td b) (C++R) (λav=>K av C Te)
  |none=>False
theorem XJ(i:Fr.le gl M0){e:qo}{K:AV->CS->Option Nat->Prop}(H:pK P gl tr o e c C R K)(k:SatA n e γ a)(I:Inv h0 W M0 (C++R) γ h)(m:valid (qh a) c):
  ExA P (execOp a.eval o) h (jH h0 W M0 R γ K):=by
 have r:∀f,a.eval (.func f)=.func (.func f) #[] #[]:=λ_=>rfl;have l:∀x av,iD e c x=Td av->DenV γ av (a.eval x):=λx av F=>zx k m F;unfold pK at H;split at H;rename_i x y z A;obtain⟨av,h1,j⟩:=Wd H;obtain⟨t,D,J⟩:=j n γ a k m;refine λB d=>.inl ⟨_,d,h,?_,av,C,Te,γ,h1,J,I,Gx.refl _ _⟩;simp only[execOp,A,D,asBool,Sem.run_bind,Sem.run_pure,Result.andThen_ok];split at H;exact Uo i H I r l;rename_i b E;have p:=xt k E m;cases hic:qW o with
 |true=>rw[hic]at H;simp only[zI]at H;obtain⟨f,args,h1,j⟩:=(zX (h0:=h0) (W:=W) (M0:=M0) H).2 p i γ h a.eval I r l;refine λB d=>.inr (.inr ⟨f,args,h1 _,j.mono ?_⟩);rintro v h' ⟨av,γ',g1,g2,L,w,_⟩;exact⟨av,C,Te,γ',g1,g2,L,w⟩
 |false=>rw[hic]at H;simp only[zJ]at H;obtain⟨av,h1,j⟩:=uq (h0:=h0) (W:=W) (M0:=M0) i H;obtain⟨v,u,G⟩:=j p γ h a.eval I l;exact λB d=>.inl ⟨v,d,h,G B d,av,C,Te,γ,h1,u,I,Gx.refl _ _⟩
 exact H.elim
theorem MN{e:qo}{K:AV->CS->Option Nat->Prop}(H:pK P gl tr o e c C R K)(i:SatA n e γ a)(h:¬valid (qh a) c):∃av,K av C Te:=by
 unfold pK at H;split at H;obtain⟨av,h1,_⟩:=Wd H;exact⟨av,h1⟩;split at H;rename_i k;have:=BJ i k h;cases this;rename_i b j;have f:=BJ i j h;simp only[XU]at f;cases hic:qW o with
 |true=>rw[hic]at H;simp only[zI]at H;exact(zX (h0:=#[]) (W:=λ_=>False) (M0:=λ_=>Te) H).1 f
 |false=>rw[hic]at H;simp only[zJ]at H;obtain⟨av,h1,_⟩:=uq (h0:=#[]) (W:=λ_=>False) (M0:=gl) (Fr.le.refl _) H;exact⟨av,h1⟩
 exact H.elim
def GxS(S:List Nat)(γ γ':Gh):Prop:=Fr.le γ.M γ'.M/\∀i,i∉S->γ'.β i=γ.β i/\γ'.σ i=γ.σ i
theorem GxS.refl(S:List Nat)(γ:Gh):GxS S γ γ:=⟨Fr.le.refl _,λ_ _=>⟨rfl,rfl⟩⟩
theorem GxS.trans{a b c:Gh}(h:GxS S a b)(k:GxS S b c):GxS S a c:=⟨h.1.trans k.1,λi hi=>⟨(k.2 i hi).1.trans (h.2 i hi).1,(k.2 i hi).2.trans (h.2 i hi).2⟩⟩
theorem GxS.mono{S c:List Nat}{a b:Gh}(h:GxS S a b)(f:∀x∈S,x∈c):GxS c a b:=⟨h.1,λi hi=>h.2 i λe=>hi (f i e)⟩
def vf(c:Option Nat)(d:Option Nat):Bool:=match c,d with
 |none,_=>Ta
 |some x,some y=>Nat.beq x y
 |some _,none=>Tc
theorem Gx.toS{c d:Option Nat}{γ γ':Gh}(g:Gx c γ γ')(h:vf c d=Ta)(b:∀i,d=Td i->i∈S):GxS S γ γ':=by
 refine⟨g.1,λi hi=>g.2 i λe=>?_⟩;subst e;cases d with
 |none=>cases h
 |some y=>have:i=y:=YC h;subst this;exact hi (b _ rfl)
def mP(P:Program)(gl:Fr)(tr:TypeId)(n:Nat)(ops:Array Oper)(R:CS)(K:qo->CS->Prop):List Oper->qo->CS->Prop
 |[],e,C=>K (m7 e) C
 |o::rest,e,C=>match Yt ops e o.guard with
  |some c=>bif jr n c o.dst then pK P gl tr o e c C R (λav b i=>bif vf i o.dst then mP P gl tr n ops R K rest (uc (ug i e) o.dst c av) b else False)else False
  |none=>False
theorem uG{P:Program}{gl:Fr}(w:Fr.le gl M0){tr:TypeId}{n:Nat}{ops:Array Oper}{R:CS}{K:qo->CS->Prop}{Q:Exit->Act->World->Prop}(B:World):
  ∀(l:List Oper) (e:qo) (C:CS) (γ:Gh) (h:zc) (a:Act) (d:Nat),mP P gl tr n ops R K l e C->SatA n e γ a->Inv h0 W M0 (C++R) γ h -> (∀y f γ' t p h',SatA n y γ' t->Inv h0 W M0 (f++R) γ' h'->Same (wl l) a t->GxS (wl l) γ γ'->K y f->Q .normal t (mk B p h'))->wpList P ops Q l a (mk B d h)
 |[],e,C,γ,h,a,d,H,hs,I,hQ=>hQ _ _ _ _ _ _ hs.clean I (Same.refl _ _) (GxS.refl _ _) H
 |o::rest,e,C,γ,h,a,d,H,hs,I,hQ=>by
  unfold mP at H;split at H
  ·rename_i c Y;cases hd:jr n c o.dst with
   |false=>rw[hd]at H;exact H.elim
   |true=>
    rw[hd]at H;simp only[zI]at H;have G:=x9 hs Y;have j:∀i,o.dst=Td i->i∈wl (o::rest):=λi hi=>by simp[wl,hi]
    have b:∀x∈wl rest,x∈wl (o::rest):=λx A=>by unfold wl;split;exact XZ _ A;exact A
    have k:∀av u p h' f i γ',(valid (qh a) c->DenV γ' av u)->(¬valid (qh a) c->u=undef)->Inv h0 W M0 (f++R) γ' h'->Gx i γ γ'->(bif vf i o.dst then mP P gl tr n ops R K rest (uc (ug i e) o.dst c av) f else False) ->
      wpList P ops Q rest (a.put o.dst u) (mk B p h'):=λav u p h' f i γ' h1 J N g z=>by
     cases hid:vf i o.dst with
     |false=>rw[hid]at z;exact z.elim
     |true=>
      rw[hid]at z;exact uG w B rest _ _ _ _ _ _ z ((hs.gx g).putO hd h1 J) N λy D F t E h'' M Z S V T=>
       hQ y D F t E h'' M Z ((Same.put a o.dst u j).trans (S.mono b)) ((g.toS hid j).trans (V.mono b)) T
    unfold wpList;by_cases r:valid (qh a) c;rw[zb (G.2 r)];refine .inl ((XJ w H hs I r).upon B d ?_);rintro v p h' ⟨av,f,i,γ',g1,g2,L,U⟩;exact k av v p h' f i γ' (λ_=>g2) (λm=>absurd r m) L U g1;rw[za (λA=>r (G.1 A))];obtain⟨av,O⟩:=MN H hs r;exact k av undef d h C Te γ (λm=>absurd m r) (λ_=>rfl) I (Gx.refl _ _) O
  exact H.elim
end
section
variable {cs C R:CS} {γ:Gh} {h:zc} {i:Nat} {e:TypeId} {t:Ty}
variable {h0 : zc} {W : Nat -> Prop} {M0 : Fr}
inductive Shp where
 |dat (t:Ty)
 |own (e:TypeId) (t:Ty)
 deriving DecidableEq
@[reducible] def DS:Shp->Type
 |.dat t=>El t
 |.own _ t=>List (El t)
inductive SG where
 |one (s:Shp)
 |agg (l:List Shp)
structure AnnA where
 slots:List (Nat×SG)
 boxes:List (Nat×List Shp)
 ro:List Nat
 ids:List Nat
abbrev Dy:=(s:Shp)×DS s
@[reducible] def kn:List Shp->Type->Type
 |[],X=>X
 |s::l,X=>DS s->kn l X
def A0(s b:Shp)(x:DS s):Option (DS b):=if h:s=b then Td (h ▸ x)else Te
def qC{X:Type}:(l:List Shp)->kn l X->(List Dy->X->Prop)->Prop
 |[],f,k=>k [] f
 |s::l,f,k=>∀x:DS s,qC l (f x) λvs y=>k (⟨s,x⟩::vs) y
def kP{X:Type}:(l:List Shp)->List Dy->kn l X->Option X
 |[],[],f=>Td f
 |s::l,d::ds,f=>match A0 d.1 s d.2 with
  |some x=>kP l ds (f x)
  |none=>Te
 |_,_,_=>Te
def qE{X:Type}:(l:List Shp)->(List Dy->X)->kn l X
 |[],f=>f []
 |s::l,f=>λx=>qE l λvs=>f (⟨s,x⟩::vs)
def pM{X Y:Type}:(l:List Shp)->kn l X->kn l Y->kn l (X×Y)
 |[],f,g=>(f,g)
 |_::l,f,g=>λx=>pM l (f x) (g x)
theorem Hc{s b:Shp}{x:DS s}{y:DS b}(h:A0 s b x=Td y):(⟨b,y⟩:Dy)=⟨s,x⟩:=by unfold A0 at h;split at h;rename_i e;subst e;have h:=ZA h;rw[<-h];cases h
theorem EL{X:Type}:∀{l:List Shp} {vs:List Dy} {f:kn l X} {x:X} {k:List Dy->X->Prop},kP l vs f=Td x->qC l f k->k vs x
 |[],[],f,x,k,h,g=>by have h:=ZA h;subst h;exact g
 |[],_::_,f,x,k,h,g=>by simp[kP]at h
 |_::_,[],f,x,k,h,g=>by simp[kP]at h
 |s::l,d::ds,f,x,k,h,g=>by simp only[kP]at h;split at h;rename_i y b;have:=EL h (g y);rw[Hc b]at this;exact this;cases h
theorem Ih{X:Type}:∀{l:List Shp} {vs:List Dy} {f:List Dy->X} {x:X},kP l vs (qE l f)=Td x->x=f vs
 |[],[],f,x,h=>(ZA h).symm
 |[],_::_,f,x,h=>by simp[kP]at h
 |_::_,[],f,x,h=>by simp[kP]at h
 |s::l,d::ds,f,x,h=>by simp only[kP,qE]at h;split at h;rename_i y b;have:=Ih h;rw[Hc b]at this;exact this;cases h
theorem Gv{X:Type}:∀{l:List Shp} {f:List Dy->X} {k:List Dy->X->Prop},(∀vs,k vs (f vs))->qC l (qE l f) k
 |[],_,_,h=>h []
 |_::_,_,_,h=>λ_=>Gv λ_=>h _
structure Pl where
 id:Nat
 s:Shp
 a:AA
def mQ(base:Nat):List Shp->List AA->Option (List Pl)
 |[],[]=>Td []
 |s::ss,a::as=>match mQ (base+1) ss as with
  |some l=>Td (⟨base,s,a⟩::l)
  |none=>Te
 |_,_=>Te
def pE(e:qo):List (Nat×SG)->Option (List Pl)
 |[]=>Td []
 |(i,sg)::l=>match mD e i,pE e l with
  |some ([],.g x),some r=>match sg,x with
   |.one s,.a a=>Td (⟨100000+64*i,s,a⟩::r)
   |.agg ss,.agg as=>match mQ (100000+64*i) ss as with
    |some q=>Td (q++r)
    |none=>Te
   |_,_=>Te
  |_,_=>Te
def pZ(C:CS):List (Nat×List Shp)->Option (List Pl)
 |[]=>Td []
 |(c,ss)::l=>match Q7 C c,pZ C l with
  |some (.box as),some r=>match mQ (1000000+64*c) ss as with
   |some q=>Td (q++r)
   |none=>Te
  |_,_=>Te
def OL:SG->List Shp
 |.one s=>[s]
 |.agg l=>l
def G6:List (Nat×SG)->List Shp
 |[]=>[]
 |(_,sg)::l=>OL sg++G6 l
def Dk:List (Nat×List Shp)->List Shp
 |[]=>[]
 |(_,ss)::l=>ss++Dk l
def jG(J:AnnA):List Shp:=G6 J.slots++Dk J.boxes
def pC:List Pl->List Nat
 |[]=>[]
 |⟨_,.dat _,.own c⟩::l=>c::pC l
 |_::l=>pC l
def p8(c:Nat):List Pl->Bool
 |[]=>Tc
 |p::l=>bif (bif Nat.beq p.id c then Ta else ke c p.a)then Ta else p8 c l
def mn(R:CS):List Pl->CS->Option CS
 |[],C=>Td C
 |p::l,C=>match p.s with
  |.dat _=>mn R l C
  |.own e t=>bif p8 p.id l then Te else(match p.a with
   |.own c=>match Q7 C c with
    |some (.row e' t' xs)=>match Qc (.row t') (.row t) xs with
     |some ys=>bif Nat.beq e e' then(bif Nat.beq c p.id then mn R l C else(bif qq p.id R then mn R l ((p.id,.row e t ys)::q9 p.id (J7 c C))else Te))else Te
     |none=>Te
    |_=>Te
   |.v (.slice Te 0 0)=>bif qq p.id R then mn R l ((p.id,.row e t [])::q9 p.id C)else Te
   |_=>Te)
theorem IW(I:Inv h0 W M0 cs γ h){x y:Nat×Ch}(j:x∈cs)(f:y∈cs)(e:x≠y):∀b,blk γ x.1 x.2=Td b->blk γ y.1 y.2≠Td b:= @rq _ (λ(x y:Nat×Ch)=>∀b,blk γ x.1 x.2=Td b->blk γ y.1 y.2≠Td b) (λx y h b i c=>h b c i) _ I.apart _ _ j f e
theorem Inv.rename(I:Inv h0 W M0 (C++R) γ h){c i:Nat}(w:qq i R=Ta){xs:List (El t)}(y:(c,Ch.row e t xs)∈C):
  Inv h0 W M0 ((i,.row e t xs)::q9 i (J7 c C)++R) (jL γ i (γ.σ c)) h:=by
 have k:(q9 i (J7 c C)++R).Sublist (C++R):=(((wi i _).trans (xc c C))).append_right R;have l:(c,Ch.row e t xs)∈C++R:=YM R y;have p:∀x∈q9 i (J7 c C)++R,∀b,blk γ c (.row e t xs)=Td b->blk γ x.1 x.2≠Td b:=by
  intro x j b f o;have n:x≠(c,Ch.row e t xs):=by rintro rfl;rcases YK.1 j with j|j;exact(Ys ((wi i _).subset j)).2 rfl;have m:=I.apart;rw[zby]at m;exact m.2.2 _ y _ j b f f
  exact IW I (k.subset j) l n b o f
 have B:Inv h0 W M0 (q9 i (J7 c C)++R) (jL γ i (γ.σ c)) h:= I.rest k (Qd γ i _) (oa w) (λx j b f=>⟨rfl,(I.sep x (k.subset j) b f).2⟩) I.ag (λ_ _ _=>rfl) (XV _) (λ_ _=>rfl);obtain⟨cells,h1,z,D,A⟩:=I.den _ l;have u:∀b,blk (jL γ i (γ.σ c)) i (.row e t xs)=Td b->blk γ c (.row e t xs)=Td b:=λb f=>by simpa[blk,yd]using f
 refine B.cons ⟨cells,by rw[yd];exact h1,z,D,by rw[yd];exact A⟩ (λb f=>I.sep _ l b (u b f)) (λb f x j r=>?_);rw[pt (Qd γ i _) _ (oa w x j).1]at r;exact p x j b (u b f) r
theorem Inv.nilRow(I:Inv h0 W M0 (C++R) γ h)(k:qq i R=Ta)(e:TypeId)(t:Ty):
  Inv h0 W M0 ((i,.row e t [])::q9 i C++R) (jL γ i ⟨Te,0,0⟩) h:=by
 have c:=(wi i C).append_right R;have j:Inv h0 W M0 (q9 i C++R) (jL γ i ⟨Te,0,0⟩) h:= I.rest c (Qd γ i _) (oa k) (λx l b f=>⟨rfl,(I.sep x (c.subset l) b f).2⟩) I.ag (λ_ _ _=>rfl) (XV _) (λ_ _=>rfl);refine j.cons ⟨[],by rw[yd];exact Owns.nil _ _ _ _,RowC.nil _ _,by simp,by rw[yd];rfl⟩ (λb f=>by simp[blk,yd]at f) (λb f=>by simp[blk,yd]at f)
theorem HZ{c:Nat}:∀{l:List Pl},p8 c l=Tc->∀p∈l,p.id≠c/\ke c p.a=Tc
 |[],_,p,b=>by cases b
 |q::l,h,p,b=>by
  simp only[p8]at h;cases hq:(bif Nat.beq q.id c then Ta else ke c q.a)with
  |true=>rw[hq]at h;cases h
  |false=>
   rw[hq]at h;rcases YB.1 b with rfl|b;cases hb:Nat.beq p.id c with
   |true=>rw[hb]at hq;cases hq
   |false=>rw[hb]at hq;exact⟨λe=>by rw[e]at hb;simp at hb,hq⟩
   exact HZ h p b
def kb:List Pl->List Nat
 |[]=>[]
 |p::l=>p.id::kb l
theorem Ae{R:CS}{h:zc}:∀{l:List Pl} {C z:CS} {γ:Gh},mn R l C=Td z->Inv h0 W M0 (C++R) γ h ->
  ∃f,Inv h0 W M0 (z++R) f h/\GxS (kb l) γ f/\(f.M=γ.M/\f.β=γ.β)/\∀p∈l,∀e t,p.s=.own e t->∀u,DenA γ p.a u->DenA f (.own p.id) u
 |[],C,z,γ,hn,I=>by simp only[mn,XU]at hn;subst hn;exact⟨γ,I,GxS.refl _ _,⟨rfl,rfl⟩,λp Z=>by cases Z⟩
 |p::l,C,z,γ,hn,I=>by
  have Q:∀{S:List Nat} {a b:Gh},GxS (kb l) a b->GxS (kb (p::l)) a b:=λg=>g.mono λx hx=>XZ _ hx;have j:∀s,GxS (kb (p::l)) γ (jL γ p.id s):=λs=>⟨Fr.le.refl _,λi hi=>(Qd γ p.id s).2 i (by simp only[kb,YB,not_or]at hi;intro e;simp only[XU]at e;exact hi.1 e.symm)⟩;simp only[mn]at hn;split at hn;rename_i t U;obtain⟨f,J,g1,B,h1⟩:=Ae hn I;exact⟨f,J,Q (S:=[]) g1,B,λq o e t' m=>by rcases YB.1 o with rfl|o;rw[U]at m;cases m;exact h1 q o e t' m⟩
  ·rename_i e t U;cases hm:p8 p.id l with
   |true=>rw[hm]at hn;cases hn
   |false=>
    rw[hm]at hn;simp only[zJ]at hn;have A:=HZ hm;have fin:∀{H:CS} {n:Gh},mn R l H=Td z->Inv h0 W M0 (H++R) n h->GxS (kb (p::l)) γ n->(n.M=γ.M/\n.β=γ.β)->(∀i,i≠p.id->n.σ i=γ.σ i/\n.β i=γ.β i)->(∀u,DenA γ p.a u->DenA n (.own p.id) u) ->
      ∃f,Inv h0 W M0 (z++R) f h/\GxS (kb (p::l)) γ f/\(f.M=γ.M/\f.β=γ.β)/\∀q∈p::l,∀e t,q.s=.own e t->∀u,DenA γ q.a u->DenA f (.own q.id) u:=by
     intro H n O Y g2 G w E;obtain⟨f,J,g1,B,h1⟩:=Ae O Y;refine⟨f,J,g2.trans (Q (S:=[]) g1),⟨B.1.trans G.1,B.2.trans G.2⟩,λq o L t' m u k=>?_⟩;rcases YB.1 o with rfl|o;have V:=E u k;have P:q.id∉kb l:=by
      intro hi;have:∀{l:List Pl},q.id∈kb l->∃p∈l,p.id=q.id:=by
       intro l;induction l with
       |nil=>intro h;cases h
       |cons x l ih=>intro h;simp only[kb,YB]at h;rcases h with h|h;exact⟨x,YJ,h.symm⟩;obtain⟨y,N,e⟩:=ih h;exact⟨y,XZ _ N,e⟩
      obtain⟨y,N,e⟩:=this hi;exact(A y N).1 e
     rw[show u=_ from V];simp only[DenA,(g1.2 _ P).2];refine h1 q o L t' m u ?_;have gx:Gx (Td p.id) γ n:=⟨by rw[G.1];exact Fr.le.refl _,λi hi=>by have:=w i (λe=>hi (by rw[e]));exact⟨this.2,this.1⟩⟩;exact k.gx gx (A q o).2
    split at hn;rename_i c D;split at hn;rename_i L t' xs hc;split at hn;rename_i ys r;obtain⟨e1,T⟩:=Yc r;subst e1;simp only at T;subst T;cases hee:Nat.beq e L with
    |false=>rw[hee]at hn;cases hn
    |true=>
     rw[hee]at hn;have:=YC hee;subst this;simp only[zI]at hn;cases hci:Nat.beq c p.id with
     |true=>rw[hci]at hn;simp only[zI]at hn;have F:=YC hci;exact fin hn I (GxS.refl _ _) ⟨rfl,rfl⟩ (λ_ _=>⟨rfl,rfl⟩) (λu k=>by rw[D,F]at k;exact k)
     |false=>
      rw[hci]at hn;simp only[zJ]at hn;cases hR:qq p.id R with
      |false=>rw[hR]at hn;cases hn
      |true=>rw[hR]at hn;simp only[zI]at hn;refine fin hn (I.rename hR (qi hc)) (j _) ⟨rfl,rfl⟩ (λi hi=>?_) (λu k=>?_);have:=(Qd γ p.id (γ.σ c)).2 i (by simp;exact λe=>hi e.symm);exact⟨this.2,this.1⟩;rw[D]at k;rw[show u=_ from k];simp only[DenA,yd]
    cases hn;cases hn;rename_i D;cases hR:qq p.id R with
    |false=>rw[hR]at hn;cases hn
    |true=>rw[hR]at hn;simp only[zI]at hn;refine fin hn (I.nilRow hR e t) (j _) ⟨rfl,rfl⟩ (λi hi=>?_) (λu k=>?_);have:=(Qd γ p.id ⟨Te,0,0⟩).2 i (by simp;exact λe=>hi e.symm);exact⟨this.2,this.1⟩;rw[D]at k;rw[show u=_ from k];simp only[DenA,yd];rfl
    cases hn
def IQ(b cs:CS)(p:Pl):Option Dy:=match p.s with
 |.dat t=>match lO b t p.a with
  |some x=>Td ⟨.dat t,x⟩
  |none=>Te
 |.own e t=>match Q7 cs p.id with
  |some (.row e' t' xs)=>match Qc (.row t') (.row t) xs with
   |some ys=>bif Nat.beq e e' then Td ⟨.own e t,ys⟩else Te
   |none=>Te
  |_=>Te
def ko(b cs:CS):List Pl->Option (List Dy)
 |[]=>Td []
 |p::l=>match IQ b cs p,ko b cs l with
  |some d,some v=>Td (d::v)
  |_,_=>Te
def tR(i:Nat):Dy->AA
 |⟨.dat t,x⟩=>match Jg t x with
  |[a]=>a
  |_=>.v undef
 |⟨.own _ _,_⟩=>.own i
def uT:Nat->List Dy->List AA
 |_,[]=>[]
 |i,d::l=>tR i d::uT (i+1) l
def oJ(i:Nat):Dy->CS
 |⟨.own e t,xs⟩=>[(i,.row e t xs)]
 |_=>[]
def oV:Nat->List Dy->CS
 |_,[]=>[]
 |i,d::l=>oJ i d++oV (i+1) l
theorem Hs{x:El t}{u:Value}(h:Rd γ.M t x [u]):DenA γ (tR i ⟨.dat t,x⟩) u:=by
 have b:=xr (γ:=γ) h;unfold tR
 match hx:Jg t x,b with
 |[a],b=>simp only[hx];exact b.1
 |[],b=>exact b.elim
 |_::_::_,b=>exact b.2.elim
theorem Pz{t':Ty}{xs:List (El t')}{ys:List (El t)}(h:Qc (.row t') (.row t) xs=Td ys):Ch.row e t' xs=Ch.row e t ys:=by obtain⟨c,b⟩:=Yc h;subst c;simp only at b;rw[b]
theorem Hp{b cs:CS}{p:Pl}{l:List Pl}{v:List Dy}(h:ko b cs (p::l)=Td v):∃d w,v=d::w/\ko b cs l=Td w /\
  ((∃t x,p.s=.dat t/\d=⟨.dat t,x⟩/\lO b t p.a=Td x)\/(∃e t xs,p.s=.own e t/\d=⟨.own e t,xs⟩/\(p.id,Ch.row e t xs)∈cs)):=by
 simp only[ko]at h;split at h;rename_i d w h1 i;have h:=ZA h;refine⟨d,w,h.symm,i,?_⟩;unfold IQ at h1;split at h1;rename_i t c;split at h1;rename_i y j;exact .inl ⟨t,y,c,(ZA h1).symm,j⟩;cases h1;rename_i e t c;split at h1;rename_i k t' xs f;split at h1;rename_i ys m;cases he:Nat.beq e k with
 |false=>rw[he]at h1;cases h1
 |true=>rw[he]at h1;refine .inr ⟨e,t,ys,c,(ZA (show Td (⟨.own e t,ys⟩:Dy)=Td d from h1)).symm,?_⟩;have:=qi f;rw[Pz m,<-YC he]at this;exact this
 cases h1;cases h1;cases h
theorem We{b cs:CS}:∀{q r:List Pl} {v:List Dy},ko b cs (q++r)=Td v->∃c e,v=c++e/\c.length=q.length/\ko b cs q=Td c/\ko b cs r=Td e
 |[],r,v,h=>⟨[],v,rfl,rfl,rfl,h⟩
 |p::q,r,v,h=>by simp only[ZU,ko]at h;split at h;rename_i d w h1 j;have h:=ZA h;obtain⟨c,e,rfl,f,k,i⟩:=We j;exact⟨d::c,e,by rw[<-h];rfl,by simp[f],by simp only[ko,h1,k],i⟩;cases h
theorem Cv{base:Nat}:∀{ss:List Shp} {b:List AA} {l:List Pl},mQ base ss b=Td l->l.length=ss.length/\∀{γ m:Gh} {c f:CS} {v:List Dy} {us:List Value},lQ γ c->m.M=γ.M->ko c f l=Td v ->
   (∀p∈l,∀e t,p.s=.own e t->∀u,DenA γ p.a u->DenA m (.own p.id) u)->All2 (DenA γ) b us->All2 (DenA m) (uT base v) us/\∀x∈oV base v,x∈f:=by
 intro ss;induction ss generalizing base with
 |nil=>
  intro b l h;cases b with
  |nil=>
   simp only[mQ,XU]at h;subst h;refine⟨rfl,λo n k r j=>?_⟩;have k:=ZA k;subst k;refine⟨?_,λx H=>by cases H⟩;rename_i us;cases us with
   |nil=>trivial
   |cons _ _=>exact j.elim
  |cons a b=>simp[mQ]at h
 |cons s ss z=>
  intro b l h;cases b with
  |nil=>simp[mQ]at h
  |cons a b=>
   simp only[mQ]at h;split at h;rename_i N F;simp only[XU]at h;subst h;obtain⟨J,z⟩:=z F;refine⟨by simp[J],λ {γ m c f v us} o n k r j=>?_⟩;obtain⟨d,w,rfl,D,G⟩:=Hp k;cases us with
   |nil=>exact j.elim
   |cons u us=>obtain⟨C,A⟩:=z o n D (λp E=>r p (XZ _ E)) j.2;rcases G with⟨t,x,B,rfl,L⟩|⟨e,t,xs,B,rfl,I⟩;have:=j6 o L j.1;rw[<-n]at this;refine⟨⟨Hs this,C⟩,λy i=>A y ?_⟩;simpa[oV,oJ]using i;refine⟨⟨r _ YJ e t B u j.1,C⟩,λy i=>?_⟩;simp only[oV,oJ,ZU,za6,YB]at i;rcases i with rfl|i;exact I;exact A y i
   cases h
def nn:List (Nat×SG)->List Dy->qo
 |[],_=>[]
 |(i,.one _)::l,d::ds=>(i,[],.g (.a (tR (100000+64*i) d)))::nn l ds
 |(_,.one _)::_,[]=>[]
 |(i,.agg ss)::l,ds=>(i,[],.g (.agg (uT (100000+64*i) (ds.take ss.length))))::nn l (ds.drop ss.length)
def Wg:List (Nat×SG)->List Dy->CS
 |[],_=>[]
 |(i,.one _)::l,d::ds=>oJ (100000+64*i) d++Wg l ds
 |(_,.one _)::_,[]=>[]
 |(i,.agg ss)::l,ds=>oV (100000+64*i) (ds.take ss.length)++Wg l (ds.drop ss.length)
def vr:List (Nat×List Shp)->List Dy->CS
 |[],_=>[]
 |(c,ss)::l,ds=>(c,.box (uT (1000000+64*c) (ds.take ss.length)))::(oV (1000000+64*c) (ds.take ss.length)++vr l (ds.drop ss.length))
def nH:List (Nat×SG)->Nat
 |[]=>0
 |(_,.one _)::l=>1+nH l
 |(_,.agg ss)::l=>ss.length+nH l
def m0(J:AnnA)(b:List Dy):qo:=nn J.slots b
def mK(J:AnnA)(b:List Dy):CS:=Wg J.slots b++vr J.boxes (b.drop (nH J.slots))
theorem Wh{e:qo}{n:Nat}{a:Act}:∀{ss:List (Nat×SG)} {l:List Pl},pE e ss=Td l->l.length=nH ss/\∀{γ A:Gh} {f j:CS} {v w:List Dy},SatA n e γ a->lQ γ f->A.M=γ.M->ko f j l=Td v ->
   (∀p∈l,∀e t,p.s=.own e t->∀u,DenA γ p.a u->DenA A (.own p.id) u)->(∀x∈nn ss (v++w),mA A (qh a) x)/\∀x∈Wg ss (v++w),x∈j
 |[],l,h=>by simp only[pE,XU]at h;subst h;refine⟨rfl,λ_ _ _ k _=>?_⟩;have k:=ZA k;subst k;exact⟨λx N=>(by cases N),λx N=>(by cases N)⟩
 |(i,sg)::ss,l,h=>by
  simp only[pE]at h;split at h;rename_i x r Q S;split at h;rename_i s aa;simp only[XU]at h;subst h;obtain⟨O,P⟩:=Wh (n:=n) (a:=a) S;refine⟨by simp[O,nH];omega,λ {γ A f j v w} E C z k D=>?_⟩;obtain⟨d,v',rfl,V,h3⟩:=Hp k;obtain⟨H,G⟩:=P (w:=w) E C z V (λp m=>D p (XZ _ m));have c:DenA γ aa (qh a i):=(E.all _ (Z2 Q)).1 trivial;rcases h3 with⟨t,x,o,rfl,hc⟩|⟨e',t,xs,o,rfl,hm⟩;have:=j6 C hc c;rw[<-z]at this;refine⟨λy b=>?_,λy b=>?_⟩;simp only[ZU,nn,YB]at b;rcases b with rfl|b;exact⟨λ_=>Hs this,λF=>absurd trivial F⟩;exact H y b;simp only[ZU,Wg,oJ,za6]at b;exact G y b;refine⟨λy b=>?_,λy b=>?_⟩;simp only[ZU,nn,YB]at b;rcases b with rfl|b;exact⟨λ_=>D _ YJ e' t o _ c,λF=>absurd trivial F⟩;exact H y b;simp only[ZU,Wg,oJ,za6,YB]at b;rcases b with rfl|b;exact hm;exact G y b;rename_i B Z;split at h;rename_i q hq;simp only[XU]at h;subst h;obtain⟨O,P⟩:=Wh (n:=n) (a:=a) S;obtain⟨J,m⟩:=Cv hq;refine⟨by simp[O,J,nH],λ {γ A f j v w} E C z k D=>?_⟩;obtain⟨I,L,rfl,U,d1,d2⟩:=We k;obtain⟨H,G⟩:=P (w:=w) E C z d2 (λp m=>D p (ZD _ m));obtain⟨us,hu,c⟩:=(show ∃us,qh a i=.agg us.toArray/\All2 (DenA γ) Z us from(E.all _ (Z2 Q)).1 trivial);obtain⟨p1,Y⟩:=m C z d1 (λp m=>D p (YM _ m)) c;have et:(I++L++w).take B.length=I:=by rw[<-J,<-U,YS,zc4]
  have T:(I++L++w).drop B.length=L++w:=by rw[<-J,<-U,YS,List.drop_left]
  refine⟨λy b=>?_,λy b=>?_⟩;simp only[nn,et,T,YB]at b;rcases b with rfl|b;exact⟨λ_=>⟨us,hu,p1⟩,λF=>absurd trivial F⟩;exact H y b;simp only[Wg,et,T,YK]at b;rcases b with b|b;exact Y y b;exact G y b;cases h;cases h;cases h
theorem Eb{y:CS}:∀{bs:List (Nat×List Shp)} {l:List Pl},pZ y bs=Td l->∀{R:CS} {γ k:Gh} {f i:CS} {v:List Dy} {h:zc},Inv h0 W M0 (y++R) γ h->lQ γ f->k.M=γ.M->k.β=γ.β->ko f i l=Td v -> (∀p∈l,∀e t,p.s=.own e t->∀u,DenA γ p.a u->DenA k (.own p.id) u) ->
   ∀x∈vr bs v,x∈i\/(DenC h0.size k h x.1 x.2/\(∃m,(x.1,Ch.box m)∈y)/\(∃m,x.2=Ch.box m)/\∃ss,(x.1,ss)∈bs)
 |[],l,b,R,γ,k,f,i,v,h,I,hf,hM,hβ,hd,ho,x,j=>by cases j
 |(c,ss)::bs,l,b,R,γ,k,f,i,v,h,I,hf,hM,hβ,hd,ho,x,j=>by
  simp only[pZ]at b;split at b;rename_i m r C N;split at b;rename_i q G;simp only[XU]at b;subst b;obtain⟨A,o⟩:=Cv G;obtain⟨w,z,rfl,B,d1,d2⟩:=We hd;obtain⟨us,J,n⟩:=I.den _ (YM R (qi C));obtain⟨L,F⟩:=o hf hM d1 (λp b=>ho p (YM _ b)) n;have et:(w++z).take ss.length=w:=by rw[<-A,<-B,zc4]
  have P:(w++z).drop ss.length=z:=by rw[<-A,<-B,List.drop_left]
  simp only[vr,et,P,YB,YK]at j;rcases j with rfl|j|j;exact .inr ⟨⟨us,by rw[hβ];exact J,L⟩,⟨m,qi C⟩,⟨_,rfl⟩,ss,YJ⟩;exact .inl (F x j);rcases Eb N I hf hM hβ d2 (λp b=>ho p (ZD _ b)) x j with h1|⟨h1,E,O,D,H⟩;exact .inl h1;exact .inr ⟨h1,E,O,D,XZ _ H⟩;cases b;cases b
def rz(C:CS):List (Nat×List Shp)->Bool
 |[]=>Ta
 |(c,_)::l=>match Q7 C c with
  |some (.box _)=>rz C l
  |_=>Tc
theorem EG{C:CS}:∀{l:List (Nat×List Shp)},rz C l=Ta->∀c ss,(c,ss)∈l->∃b,(c,Ch.box b)∈C
 |[],_,c,ss,h=>by cases h
 |(c',ss')::l,hb,c,ss,h=>by simp only[rz]at hb;split at hb;rename_i b e;rcases YB.1 h with h|h;cases h;exact⟨b,qi e⟩;exact EG hb c ss h;cases hb
def oz:CS->Bool
 |[]=>Ta
 |(c,_)::l=>bif lA c l then oz l else Tc
theorem Hd:∀{l:CS},oz l=Ta->l.Pairwise λx y=>x.1≠y.1
 |[],_=>.nil
 |(c,k)::l,h=>by
  simp only[oz]at h;cases hn:lA c l with
  |false=>rw[hn]at h;cases h
  |true=>rw[hn]at h;exact zam.2 ⟨λy b e=>om hn y b e.symm,Hd h⟩
def allIn(S:List Nat):List Nat->Bool
 |[]=>Ta
 |i::l=>bif memN S i then allIn S l else Tc
theorem GM{l:List Nat}(h:memN l i=Ta):i∈l:=by
 induction l with
 |nil=>cases h
 |cons j l b=>
  simp only[memN]at h;cases hb:Nat.beq i j with
  |true=>rw[YC hb];exact YJ
  |false=>rw[hb]at h;exact XZ _ (b h)
theorem Gc{S:List Nat}:∀{l:List Nat},allIn S l=Ta->∀i∈l,i∈S
 |[],_,i,h=>by cases h
 |j::l,hl,i,h=>by
  simp only[allIn]at hl;cases hm:memN S j with
  |false=>rw[hm]at hl;cases hl
  |true=>rw[hm]at hl;rcases YB.1 h with rfl|h;exact GM hm;exact Gc hl i h
theorem Inv.pick{C F R:CS}(I:Inv h0 W M0 (C++R) γ h)(hnd:oz F=Ta)(hsrc:∀x∈F,DenC h0.size γ h x.1 x.2/\∃k,(x.1,k)∈C/\blk γ x.1 k=blk γ x.1 x.2):Inv h0 W M0 (F++R) γ h where
 ag:=I.ag
 frame:=I.frame
 size:=I.size
 old:=I.old
 le:=I.le
 den:=λx hx=>by rcases YK.1 hx with hx|hx;exact(hsrc x hx).1;exact I.den x (ZD _ hx)
 sep:=λx hx b hb=>by rcases YK.1 hx with hx|hx;obtain⟨_,k,hk,e⟩:=hsrc x hx;exact I.sep _ (YM _ hk) b (by rw[e];exact hb);exact I.sep x (ZD _ hx) b hb
 apart:=by have hI:=I.apart;rw[zby]at hI ⊢;refine⟨(Hd hnd).imp_of_mem λ {x y} hx hy hne b hb hb'=>?_,hI.2.1,λx hx y hy b hb=>?_⟩;obtain⟨_,k,hk,e⟩:=hsrc x hx;obtain⟨_,k',hk',e'⟩:=hsrc y hy;exact IW I (YM R hk) (YM R hk') (λe2=>hne (Prod.mk.inj e2).1) b (by rw[e];exact hb) (by rw[e'];exact hb');obtain⟨_,k,hk,e⟩:=hsrc x hx;exact hI.2.2 _ hk y hy b (by rw[e];exact hb)
def sR(J:AnnA)(R:CS)(e:qo)(C:CS):Option (List Dy):=
 match pE e J.slots,pZ C J.boxes with
 |some ps,some pb=>match pZ (frzL (pC (ps++pb)) C) J.boxes with
  |some b=>match mn R (ps++b) (frzL (pC (ps++pb)) C)with
   |some c=>bif rz c J.boxes then(bif allIn J.ids (kb (ps++b))then(match ko (frzL (pC (ps++pb)) C++R) c (ps++b)with
    |some f=>bif oz (mK J f)then Td f else Te
    |none=>Te)else Te)else Te
   |none=>Te
  |none=>Te
 |_,_=>Te
theorem A8{J:AnnA}{e:qo}{l:List Dy}(b:sR J R e C=Td l){n:Nat}{a:Act}(U:SatA n e γ a)(I:Inv h0 W M0 (C++R) γ h):
  ∃c,Inv h0 W M0 (mK J l++R) c h/\GxS J.ids γ c/\∀x∈m0 J l,mA c (qh a) x:=by
 unfold sR at b;split at b
 ·rename_i ps pb D H;split at b
  ·rename_i o f;split at b
   ·rename_i S E;cases hbi:rz S J.boxes with
    |false=>rw[hbi]at b;cases b
    |true=>
    rw[hbi]at b;cases hai:allIn J.ids (kb (ps++o))with
    |false=>rw[hai]at b;cases b
    |true=>
    rw[hai]at b;simp only[zI]at b;split at b
    ·rename_i j r;cases hnd:oz (mK J j)with
     |false=>rw[hnd]at b;cases b
     |true=>
     rw[hnd]at b;have b:=ZA (show Td j=Td l from b);subst b;obtain⟨γ0,m,g0⟩:=Inv.frzL (C:=C) (γ:=γ) (pC (ps++pb)) I;have u:=U.gx0 g0;obtain⟨c,t,g1,⟨F,Q⟩,G⟩:=Ae E m;obtain⟨P,B,rfl,l1,d1,d2⟩:=We r;obtain⟨e1,y⟩:=Wh (n:=n) (a:=a) D;obtain⟨N,Z⟩:=y (w:=B) u m.fz F d1 (λp A=>G p (YM _ A));have z:=Eb f m m.fz F Q d2 (λp A=>G p (ZD _ A));have V:(P++B).drop (nH J.slots)=B:=by rw[<-e1,<-l1,List.drop_left]
     have M:GxS J.ids γ c:=⟨g0.1.trans g1.1,λi hi=>by have k:=g1.2 i (λY=>hi (Gc hai i Y));have h1:=g0.2 i (by simp);exact⟨k.1.trans h1.1,k.2.trans h1.2⟩⟩;refine⟨c,t.pick hnd λx b=>?_,M,N⟩;unfold mK at b;rw[V]at b;rcases YK.1 b with b|b;have:=Z x b;exact⟨t.den x (YM _ this),x.2,this,rfl⟩;rcases z x b with h1|⟨h1,_,⟨as,k⟩,ss,T⟩;exact⟨t.den x (YM _ h1),x.2,h1,rfl⟩;obtain⟨L,O⟩:=EG hbi _ _ T;exact⟨h1,_,O,by rw[k];rfl⟩
    cases b
   cases b
  cases b
 cases b
theorem Mk{α:Type}{R:α->α->Prop}(k:∀x y,R x y->R y x){l e:List α}(p:l.Perm e):l.Pairwise R->e.Pairwise R:=by
 induction p with
 |nil=>exact id
 |cons x p m=>intro h;rw[zam]at h ⊢;exact⟨λy f=>h.1 y (p.symm.subset f),m h.2⟩
 |swap x y l=>intro h;simp only[zam,YB]at h ⊢;obtain⟨h1,i,j⟩:=h;exact⟨λz hz=>by rcases hz with rfl|hz;exact k _ _ (h1 _ (.inl rfl));exact i z hz,λz hz=>h1 z (.inr hz),j⟩
 |trans _ _ b c=>exact λh=>c (b h)
theorem Inv.perm{cs cs':CS}(I:Inv h0 W M0 cs γ h)(p:cs.Perm cs'):Inv h0 W M0 cs' γ h where
 ag:=I.ag
 frame:=I.frame
 size:=I.size
 old:=I.old
 le:=I.le
 den:=λx hx=>I.den x (p.symm.subset hx)
 sep:=λx hx=>I.sep x (p.symm.subset hx)
 apart:=Mk (λx y h b hb hb'=>h b hb' hb) p I.apart
end
section
variable {P:Program} {gl:Fr}
variable {h0 : zc} {W : Nat -> Prop} {M0 : Fr}
def mE(P:Program)(gl:Fr)(o:Oper)(e:qo)(c:qf)(cs:CS)(K:AV->Prop):Prop:=
 match o.op with
 |.pick x a b=>un e c x a b K
 |_=>match J8 e c with
  |some g=>qA P gl o (iD e c) g cs K
  |none=>False
def pQ(P:Program)(gl:Fr)(n:Nat)(ops:Array Oper)(cs:CS)(K:qo->Prop):List Oper->qo->Prop
 |[],e=>K e
 |o::rest,e=>match Yt ops e o.guard with
  |some c=>bif jr n c o.dst then mE P gl o e c cs λv=>pQ P gl n ops cs K rest (uc e o.dst c v)else False
  |none=>False
theorem JB(j:Fr.le gl M0){o:Oper}{e:qo}{c:qf}{cs:CS}{K:AV->Prop}(H:mE P gl o e c cs K):∃av,K av/\∀(n:Nat) (γ:Gh) (a:Act) (h:zc),SatA n e γ a->Inv h0 W M0 cs γ h->valid (qh a) c->∃v,DenV γ av v/\QExec P (execOp a.eval o) h (.value v):=by unfold mE at H;split at H;rename_i x y z k;obtain⟨av,h1,i⟩:=Wd H;refine⟨av,h1,λn γ a h b I f=>?_⟩;obtain⟨t,l,r⟩:=i n γ a b f;refine⟨_,r,λB d=>?_⟩;simp only[execOp,k,l,asBool,Sem.run_bind,Sem.run_pure,Result.andThen_ok];split at H;rename_i g m;obtain⟨av,h1,i⟩:=uq (h0:=h0) (W:=W) (M0:=M0) j H;exact⟨av,h1,λn γ a h b I f=>i (xt b m f) γ h a.eval I λx av p=>zx b f p⟩;exact H.elim
theorem yI{P:Program}{gl:Fr}(r:Fr.le gl M0){n:Nat}{ops:Array Oper}{cs:CS}{K:qo->Prop}{Q:Act->Prop}{γ:Gh}{h:zc}(I:Inv h0 W M0 cs γ h)(B:World)(d:Nat):
  ∀(l:List Oper) (e:qo) (a:Act),pQ P gl n ops cs K l e->SatA n e γ a->(∀t k,SatA n t γ k->Same (wl l) a k->K t->Q k)->wpStill P ops (mk B d h) Q l a
 |[],e,a,H,hs,hQ=>hQ _ _ hs (Same.refl _ _) H
 |o::rest,e,a,H,hs,hQ=>by
  unfold pQ at H;split at H;rename_i c F;cases hd:jr n c o.dst with
  |false=>rw[hd]at H;exact H.elim
  |true=>
   rw[hd]at H;simp only[zI]at H;have z:=x9 hs F;have m:∀i,o.dst=Td i->i∈wl (o::rest):=λi hi=>by simp[wl,hi]
   have j:∀x∈wl rest,x∈wl (o::rest):=λx w=>by unfold wl;split;exact XZ _ w;exact w
   obtain⟨av,C,E⟩:=JB (h0:=h0) (W:=W) (M0:=M0) r H;have b:∀u,(valid (qh a) c->DenV γ av u)->(¬valid (qh a) c->u=undef)->wpStill P ops (mk B d h) Q rest (a.put o.dst u):=λu h1 y=>
    yI r I B d rest _ _ C (hs.putO hd h1 y) λt k A G D=>hQ t k A ((Same.put a o.dst u m).trans (G.mono j)) D
   unfold wpStill;by_cases p:valid (qh a) c;rw[zb (z.2 p)];unfold Oper.still;obtain⟨v,h1,y⟩:=E n γ a h hs I p;rw[y B d,Oper.stillUpon_value];exact b v (λ_=>h1) (λf=>absurd p f);rw[za (λw=>p (z.1 w))];exact b undef (λf=>absurd f p) (λ_=>rfl)
  exact H.elim
abbrev qV:=List (Nat×Nat)
def xI(P:Program)(gl:Fr)(tr:TypeId)(n:Nat)(f:qV)(id:Nat)(ops:Array Oper)(b:Bool)(R:CS)(K:qo->CS->Prop)(e:qo)(C:CS):Prop:=
 bif b then(match AQ f id with
  |none=>bif Region.lexB .any ops then pQ P gl n ops (C++R) (λc=>K (m7 c) C) ops.toList e else False
  |some m=>bif Region.lexTailB .any ops m then pQ P gl n ops (C++R) (λc=>mP P gl tr n ops R K (ops.toList.drop m) c C) (ops.toList.take m) e else False)
 else mP P gl tr n ops R K ops.toList e C
theorem TQ(G:P.follows .mixedOrders=Ta)(f:Fr.le gl M0){tr:TypeId}{n:Nat}{J:qV}{id:Nat}{ops:Array Oper}{c:Bool}{R C:CS}{K:qo->CS->Prop}{e:qo} (H:xI P gl tr n J id ops c R K e C) {γ:Gh} {h:zc} (B:World) (d:Nat) {a:Act} (A:SatA n e γ a) (I:Inv h0 W M0 (C++R) γ h) {Q:Exit->Act->World->Prop}
  (t:∀k F γ' i S h',SatA n k γ' i->Inv h0 W M0 (F++R) γ' h'->Same (wl ops.toList) a i->GxS (wl ops.toList) γ γ'->K k F->Q .normal i (mk B S h')):(zdq id ops c).wp P Q a (mk B d h):=by
 unfold xI at H;cases c with
 |false=>exact wp_region_list (uG f B _ _ _ _ _ _ _ H A I t)
 |true=>
  simp only[zI]at H;split at H;cases hB:Region.lexB .any ops with
  |false=>rw[hB]at H;exact H.elim
  |true=>rw[hB]at H;refine wp_region_still G hB ?_;exact yI f I B (d+1) _ _ _ H A λk i u D y=>t _ _ _ _ _ _ u.clean I D (GxS.refl _ _) y
  rename_i m _;cases hB:Region.lexTailB .any ops m with
  |false=>rw[hB]at H;exact H.elim
  |true=>
   rw[hB]at H;have b:wl ops.toList=wl (ops.toList.take m)++wl (ops.toList.drop m):=by rw[<-Qz,zan]
   have:=wp_region_still_tail (id:=id) (Q:=Q) (a:=a) (w:=mk B d h) (l:=ops.toList) m G (by simpa using hB) (by simp only[Array.toArray_toList];refine yI f I B (d+1) _ _ _ H A λk i u D y=>?_;refine uG f B _ _ _ _ _ _ (d+1) y u I λp r E o z h'' O N M L T=>t p r E o z h'' O N ?_ ?_ T;rw[b];exact(D.mono λx j=>YM _ j).trans (M.mono λx j=>ZD _ j);rw[b];exact L.mono λx j=>ZD _ j);simpa using this
end
section
variable {P:Program} {t tr tx:TypeId} {n d m i id:Nat} {cs R C:CS} {γ:Gh} {h:zc} {o:Oper} {sv:AV} {gl:Fr} {c:qf} {ops:Array Oper} {listed pl:Array Bool} {a:Act} {ord:List Nat}
variable {h0 : zc} {W : Nat -> Prop} {M0 : Fr}
structure It where
 k:Nat
 dst:Option Nat
 ch:qf
 av:AV
 nb:Option (Nat×Ch)
 us:Option Nat:=Te
def iH:List It->qo
 |[]=>[]
 |i::l=>match i.dst with
  |some s=>(s,i.ch,i.av)::iH l
  |none=>iH l
def fK:List It->CS
 |[]=>[]
 |i::l=>match i.nb with
  |some b=>b::fK l
  |none=>fK l
theorem Xz{x:Nat×qf×AV}:∀{l:List It},x∈iH l↔∃i∈l,i.dst=Td x.1/\i.ch=x.2.1/\i.av=x.2.2
 |[]=>by simp[iH]
 |i::l=>by simp only[iH];split;rename_i s f;rw[YB,Xz (l:=l)];constructor;rintro(rfl|⟨j,b,h⟩);exact⟨i,YJ,f,rfl,rfl⟩;exact⟨j,XZ _ b,h⟩;rintro⟨j,b,h1,c,e⟩;rcases YB.1 b with rfl|b;left;rw[f]at h1;cases h1;rw[c,e];exact .inr ⟨j,b,h1,c,e⟩;rename_i f;rw[Xz (l:=l)];constructor;rintro⟨j,b,h⟩;exact⟨j,XZ _ b,h⟩;rintro⟨j,b,h1,c,e⟩;rcases YB.1 b with rfl|b;rw[f]at h1;cases h1;exact⟨j,b,h1,c,e⟩
def Xb(S:List Nat):qo->qo
 |[]=>[]
 |(i,c,v)::e=>bif memN S i then(i,c,v)::Xb S e else Xb S e
theorem Jm{S:List Nat}{x:Nat×qf×AV}:∀{e:qo},x∈Xb S e->x∈e/\x.1∈S
 |[],h=>by cases h
 |(i,c,v)::e,h=>by
  simp only[Xb]at h;cases hm:memN S i with
  |true=>rw[hm]at h;rcases YB.1 h with rfl|h;exact⟨YJ,GM hm⟩;exact⟨XZ _ (Jm h).1,(Jm h).2⟩
  |false=>rw[hm]at h;exact⟨XZ _ (Jm h).1,(Jm h).2⟩
def yP(P:Program)(tr:TypeId)(t:TypeId)(n:Nat)(ps:List (Nat×AV))(cs:CS)(K:AV->Prop):Prop:=
 match ma P t with
 |some el=>match mW P tr 8 el,oD P el (n*yf P el)with
  |some ty,some zs=>bif Nat.beq (yf P el) (sz ty)then(bif Nat.ble (n*yf P el) 16777216 then(bif Nat.blt 0 (yf P el)then(match nh (λi=>Td (i*yf P el,yf P el)) (zs.map .v) ps with
   |some r=>match Wa cs ty n r with
    |some (ys,[])=>K (.g (.a (.dc ty ys)))
    |_=>False
   |none=>False)else False)else False)else False
  |_,_=>False
 |none=>False
theorem Pv{t el:TypeId}(p:P.underlying t=Td (.slice el))(l:yc P el=Ta)(y:n*yf P el<=16777216){k:List Value}(b:oD P el (n*yf P el)=Td k){ps:Array (Nat×Value)}{c1:List Value} (o:zd0 (λi=>Td (i*yf P el,yf P el)) k.toArray ps.toList=Td c1.toArray) (B:World) (e:Nat) (h:zc):
  (Instr.buildSlice t n ps).run P (mk B e h)=.ok (.slice (Td ⟨h.size,0,Te⟩) n n) (mk B e (h.push (.cells c1.toArray el))):=by
 have w:=QExec.underlying (h:=h) p B e;have u:=QExec.sizeOf (P:=P) (h:=h) (jm l).choose_spec B e;unfold Instr.buildSlice;rw[Sem.run_bind,w];simp only[Result.andThen_ok];rw[Sem.run_bind,u];simp only[Result.andThen_ok];rw[za (by omega)];unfold oD at b;by_cases c:n*yf P el=0;rw[zb c];rw[c]at b ⊢;simp at b;subst b;simp only[Sem.run_bind,Sem.run_pure,Result.andThen_ok];have j:Array.map (λx=>(#[]:Array Value)[x % (#[]:Array Value).size]!) (zdv 0)=([]:List Value).toArray:=by simp
 rw[j,o];rfl;rw[za c];have r:Nat.beq (n*yf P el) 0=Tc:=by
  cases hh:Nat.beq (n*yf P el) 0 with
  |false=>rfl
  |true=>exact absurd (YC hh) c
 rw[r]at b;simp only[zJ]at b;split at b;rename_i z m;have f:=Jl m h B e;simp only[XU]at b;rw[Sem.run_bind,f];simp only[Result.andThen_ok,Sem.run_bind,Sem.run_pure];have j:Array.map (λx=>z.cells[x % z.cells.size]!) (zdv (n*yf P el))=k.toArray:=by rw[<-b]
 rw[j,o];rfl;cases b
theorem Inv.newFrozen(I:Inv h0 W M0 cs γ h)(c:Array Value)(el:TypeId):Inv h0 W M0 cs (iA γ h.size c) (h.push (.cells c el))/\Gx Te γ (iA γ h.size c)/\(iA γ h.size c).M h.size=Td c:=by
 have k:γ.M h.size=Te:=I.ag.none (XV _);have l:Fr.le γ.M (iA γ h.size c).M:=by
  intro b i e;have:Nat.beq b h.size=Tc:=by
   cases f:Nat.beq b h.size with
   |false=>rfl
   |true=>rw[YC f,k]at e;cases e
  simp[iA,this,e]
 have j:AgM (iA γ h.size c).M (h.push (.cells c el)):=by
  intro b i e;by_cases f:b=h.size;subst f;have:i=c:=by simp[iA]at e;exact e.symm
  subst this;exact⟨_,_,qm _ _⟩;have:Nat.beq b h.size=Tc:=by
   cases hb':Nat.beq b h.size with
   |false=>rfl
   |true=>exact absurd (YC hb') f
  simp only[iA,this,zJ]at e;obtain⟨n,m,o⟩:=I.ag b i e;exact⟨n,m,by rw[zau,za f];exact o⟩
 refine⟨I.call (Keep.push h _ (XV _)) l (λb f=>?_) j,⟨l,λ_ _=>⟨rfl,rfl⟩⟩,by simp[iA]⟩;have:Nat.beq b h.size=Tc:=by
  cases hb':Nat.beq b h.size with
  |false=>rfl
  |true=>have:=YC hb';omega
 simp[this]
def nL:Option (Nat×Ch)->CS->CS
 |none,C=>C
 |some c,C=>J7 c.1 C
def nA(h0:zc)(W:Nat->Prop)(M0:Fr)(P:Program)(o:Oper)(a:Act)(γ:Gh)(h:zc)(cs:CS)(b:Option (Nat×Ch))(c:AV->Prop)(eat:Option (Nat×Ch):=Te):Prop:=
 ExA P (execOp a.eval o) h λv h'=>∃av γ',c av/\DenV γ' av v/\Inv h0 W M0 (b.toList++nL eat cs) γ' h'/\Gx (b.map (·.1)) γ γ'
theorem Um{f:Array (Nat×Operand)}(G:o.op=.buildSlice t n f){ps:List (Nat×AV)}{ρ:Operand->Option AV}(z:mq ρ f.toList=Td ps){K:AV->Prop}(H:yP P tr t n ps cs K):
  ∃av,K av/\∀(γ:Gh) (h:zc) (a:Act) (Y:CS),Inv h0 W M0 (Y++cs) γ h->(∀x av,ρ x=Td av->DenV γ av (a.eval x))->nA h0 W M0 P o a γ h (Y++cs) Te (· = av):=by
 unfold yP at H;split at H
 ·rename_i el l;obtain⟨J,u⟩:=Jj l;split at H
  ·rename_i ty E L p;cases hz:Nat.beq (yf P el) (sz ty)with
   |false=>rw[hz]at H;exact H.elim
   |true=>
   rw[hz]at H;cases hb1:Nat.ble (n*yf P el) 16777216 with
   |false=>rw[hb1]at H;exact H.elim
   |true=>
   rw[hb1]at H;cases hb2:Nat.blt 0 (yf P el)with
   |false=>rw[hb2]at H;exact H.elim
   |true=>
   rw[hb2]at H;simp only[zI]at H;split at H
   ·rename_i r S;split at H
    ·rename_i ys m;refine⟨_,H,λγ h a Y I T=>?_⟩;have N:Inv h0 W M0 cs γ h:=I.sub (by simp);obtain⟨ws,M,F⟩:=J9 S (Z3 γ E) (u7 T z);obtain⟨c1,c2,rfl,C,w,Q⟩:=zS N.fz m F;cases c2 with
     |cons _ _=>exact Q.elim
     |nil=>
     rw[ZO]at *;have i:=YC hz;have j:0<yf P el:=by simpa[zbo]using hb2
     have A:n*yf P el<=16777216:=za3 hb1;have V:n<=n*yf P el:=zcw _ j;have U:c1.length=n*yf P el:=by rw[C.1,w,i]
     obtain⟨O,g2,y⟩:=I.newFrozen c1.toArray el;intro B e;refine .inl ⟨.slice (Td ⟨h.size,0,Te⟩) n n,e,_,?_,_,_,rfl,?_,O,g2⟩;have D:(f.map λx=>(x.1,a.eval x.2)).toList=f.toList.map λx=>(x.1,a.eval x.2):=by rw[zce]
     simp only[execOp,G];refine Yl ?_;exact Pv J u A p (by show zd0 _ _ (f.map λx=>(x.1,a.eval x.2)).toList=_;rw[D];exact M) B e h;have k:=(C.mono g2.1).rd (b:=h.size) (o:=0) (c:=n) (cs:=c1.toArray) y (by rw[za2,ZS (by rw[w,<-i];simp;omega)]) ⟨by omega,by omega⟩;rw[w]at k;exact⟨⟨Td ⟨h.size,0,Te⟩,n,n⟩,rfl,rfl,k⟩
    exact H.elim
   exact H.elim
  exact H.elim
 exact H.elim
def wX:AV->Bool
 |.g (.a (.dc _ _))=>Ta
 |_=>Tc
theorem Rj{bv sv:AV}{c:Call}(ho:o.op=.call c)(hc:c.callee=.builtin .append){s x:Operand}(n:c.args.toList=[s,x])(G:c.argTypes.toList=[t,tx]){K:AV->Prop}(y:wX bv=Ta) (H:Xy P tr t tx bv sv 0 [] cs (λav _ _=>K av)) {ρ:Operand->Option AV} (hs:ρ s=Td bv) (hx:ρ x=Td sv):
  ∀(γ:Gh) (h:zc) (a:Act) (Y:CS),Inv h0 W M0 (Y++cs) γ h->(∀x av,ρ x=Td av->DenV γ av (a.eval x))->nA h0 W M0 P o a γ h (Y++cs) Te K:=by
 intro γ h a Y I hρ;have N:=hρ _ _ hs;have aa:=hρ _ _ hx;have I1:Inv h0 W M0 ([]++cs) γ h:=I.sub (by simp);have key:∀{Q:Value->zc->Prop},yp P (YO #[t,tx] o.type #[a.eval s,a.eval x]) h Q->ExA P (execOp a.eval o) h Q:=by
  intro Q S B e;obtain⟨v,d',h',r,hp⟩:=S B e;refine .inl ⟨v,d',h',?_,hp⟩;have ee:execOp a.eval o=(YO c.argTypes o.type (c.args.map a.eval) >>= λx=>(zcj (zcp x):Sem Next)):=by simp only[execOp,ho,resolve,hc];rfl
  rw[ee,toList_eq n,toList_eq G];refine Yl ?_;simpa using r
 refine key ?_;clear key;unfold Xy at H;split at H;rename_i el U;obtain⟨hu,ah⟩:=Jj U;split at H;rename_i ty af;split at H;rename_i b ys hb V;obtain⟨⟨z,T⟩,D⟩:=DO hu hb;obtain⟨news,k,m⟩:=FY I1 V T.pos aa;split at H;cases y;cases y;rename_i t' al;split at H;rename_i xs w;obtain⟨C,hK⟩:=H;have E:=sJ D C;obtain⟨e1,e2⟩:=Yc w;subst e1;simp only at e2;subst e2;generalize a.eval s=u at *;generalize a.eval x=v at *;obtain⟨s2,e,am,F⟩:=(show ∃s:Sl,u=aK s/\s.cap=s.len/\Rd γ.M (.row t') xs [u]from N);subst e;obtain⟨s3,e,f,aj,cells,i,A⟩:=F.rowC I.ag;have e':s2=s3:=by cases s2;cases s3;simp only[aK,ZG]at e;simp[e]
 subst e';have l:cells.length=s2.len*sz t':=by rw[f];exact i.1
 intro B L;by_cases hm:ys.length=0;have Z:ys=[]:=YU hm;subst Z;have ac:news=[]:=YU (by rw[k.1];simp);subst ac;have hr:=Yb (P:=P) (ty:=o.type) T (s:=s2) (h':=h) (m B L) (by simp;omega) (λp hp=>by simp[storeCells]) (λ_=>rfl);refine⟨_,L,h,hr,_,γ,hK,?_,I,Gx.refl _ _⟩;rw[ZO];exact F;obtain⟨cp,j,hr,ae,ai,ak,O⟩:=Wc (P:=P) (ty:=o.type) (base:=0) T l (λB d=>Ya A l T.pos B d) m (by rw[f];exact C) (by rw[f];exact E) (YT _) (by omega) B L;obtain⟨I2,g2,ab⟩:=I.newFrozen j el;refine⟨_,L+1,_,hr,_,_,hK,?_,I2,g2⟩;have J:=((i.append k).mono g2.1).rd (b:=h.size) (o:=0) (c:=cp) (cs:=j) ab (by rw[za2,XX,<-f];exact O) (by rw[XX,<-f];exact⟨by rw[f];exact E,ae⟩);rw[XX,<-f]at J;exact J;exact H.elim;exact H.elim;exact H.elim;exact H.elim;exact H.elim
def A3(P:Program)(gl:Fr)(tr:TypeId)(o:Oper)(ρ:Operand->Option AV)(cs:CS)(K:AV->Prop):Prop:=
 match o.op with
 |.call c=>match c.callee with
  |.value x=>match rC x with
   |some f=>bif zm P f then(match BC P tr f,nq ρ c.args.toList with
    |some (ts,rt),some vs=>match jq cs ts vs with
     |some args=>PC P gl f args rt λr=>K (oe rt r)
     |none=>False
    |_,_=>False)else False
   |none=>False
  |_=>False
 |_=>False
theorem Nj(j:Fr.le gl M0){ρ:Operand->Option AV}{K:AV->Prop}(H:A3 P gl tr o ρ cs K):
  ∀(γ:Gh) (h:zc) (a:Act) (Y:CS),Inv h0 W M0 (Y++cs) γ h->(∀x av,ρ x=Td av->DenV γ av (a.eval x))->nA h0 W M0 P o a γ h (Y++cs) Te K:=by
 intro γ h a Y I y;unfold A3 at H;split at H;rename_i c t;split at H;rename_i x w;split at H;rename_i f p;cases hcal:zm P f with
 |false=>rw[hcal]at H;exact H.elim
 |true=>
  rw[hcal]at H;simp only[zI]at H;split at H;rename_i ts A vs C i;split at H;rename_i args b;intro B d;have e:=tu p;subst e;have l:Inv h0 W M0 cs γ h:=I.sub (by simp);have z:=wu l.fz b (Xx y i);refine .inr (.inr ⟨f,c.args.map a.eval,uI t w hcal rfl _,?_⟩);have n:c.args.map a.eval=(c.args.toList.map a.eval).toArray:=by rw[<-zce]
  rw[n];refine(tG j H I z).mono ?_;rintro v h' ⟨r,γ',h1,k,u,m,_⟩;exact⟨_,γ',h1,k,u,m⟩;exact H.elim;exact H.elim
 exact H.elim;exact H.elim;exact H.elim
theorem PL(k:Fr.le gl M0){ρ:Operand->Option AV}{b:Bool}{K:AV->Prop}(H:pm P gl tr o ρ b cs K)(m:b=Ta):
  ∀(γ:Gh) (h:zc) (a:Act) (Y:CS),Inv h0 W M0 (Y++cs) γ h->(∀x av,ρ x=Td av->DenV γ av (a.eval x))->nA h0 W M0 P o a γ h (Y++cs) Te K:=by
 intro γ h a Y I z;unfold pm at H;split at H;rename_i c w;split at H;rename_i x y;split at H;rename_i f t;cases hcal:zm P f with
 |false=>rw[hcal]at H;exact H.elim
 |true=>
  rw[hcal]at H;simp only[zI]at H;split at H;rename_i ts D vs E j;split at H;rename_i args i;obtain⟨J,h1,l⟩:=H;intro B d;have e:=tu t;subst e;have n:Inv h0 W M0 cs γ h:=I.sub (by simp);have A:=wu n.fz i (Xx z j);refine .inr (.inr ⟨f,c.args.map a.eval,uI w y hcal rfl _,?_⟩);have p:c.args.map a.eval=(c.args.toList.map a.eval).toArray:=by rw[<-zce]
  rw[p];refine(tG k (h1 m) I A).mono ?_;rintro v h' ⟨r,γ',g1,g2,C,u,_⟩;exact⟨_,γ',l r (λ_=>g1),g2,C,u⟩;exact H.elim;exact H.elim
 exact H.elim;exact H.elim;exact H.elim
theorem Lp(i:o.op=.alloc t){z:Value}(hz:zeroOf P t=Td z)(b:iW (z.cells.toList.map .v)=Tc):
  ∀(γ:Gh) (h:zc) (a:Act) (Y:CS),Inv h0 W M0 (Y++cs) γ h->qq d (Y++cs)=Ta->nA h0 W M0 P o a γ h (Y++cs) (Td (d,.box (z.cells.toList.map .v))) (· = .g (.a (.box d 0))):=by
 intro γ h a Y I j B e;refine .inl ⟨.pointer (Td ⟨h.size,0,Te⟩),e,h.push (.cells z.cells t),?_,_,kL γ d h.size,rfl,?_,?_,Xt _ _ _⟩;have f:=Jl hz h B e;simp only[execOp,i];refine Yl ?_;unfold Instr.alloc;rw[Sem.run_bind,f];simp only[Result.andThen_ok];rw[Sem.run_bind,tO];rfl;simp only[DenV,DenG,DenA,Z1];have:=Inv.newBox (C:=[]) (R:=Y++cs) (by simpa using I) (c:=d) j (Z3 γ z.cells.toList) (yL d _) b t;simpa[q9,nL]using this
theorem UB{x:Operand}(i:o.op=.box t x){l:List AA}(f:i8 d l=Tc)(b:iW l=Tc):
  ∀(γ:Gh) (h:zc) (a:Act) (Y:CS),Inv h0 W M0 (Y++cs) γ h->qq d (Y++cs)=Ta->All2 (DenA γ) l (a.eval x).cells.toList->nA h0 W M0 P o a γ h (Y++cs) (Td (d,.box l)) (· = .g (.a (.box d 0))):=by
 intro γ h a Y I k j B e;refine .inl ⟨.pointer (Td ⟨h.size,0,Te⟩),e,h.push (.cells (a.eval x).cells t),?_,_,kL γ d h.size,rfl,?_,?_,Xt _ _ _⟩;simp only[execOp,i];refine Yl ?_;unfold Instr.box;rw[Sem.run_bind,tO];rfl;simp only[DenV,DenG,DenA,Z1];have:=Inv.newBox (C:=[]) (R:=Y++cs) (by simpa using I) (c:=d) k j f b t;simpa[q9,nL]using this
def yq(o:Oper):Bool:=match o.op with
 |.call c=>match c.callee with
  |.builtin .append=>Ta
  |.builtin _=>Tc
  |_=>Ta
 |_=>Tc
def mF:List AA->Bool
 |[]=>Ta
 |.v _::l=>mF l
 |.d _ _::l=>mF l
 |.elt _ _ _::l=>mF l
 |.dc _ _::l=>mF l
 |_::_=>Tc
theorem Qt{c:Nat}:∀{l:List AA},mF l=Ta->i8 c l=Tc
 |[],_=>rfl
 |.v _::l,h=>by simp only[i8,ke,zJ];exact Qt (l:=l) h
 |.d _ _::l,h=>by simp only[i8,ke,zJ];exact Qt (l:=l) h
 |.elt _ _ _::l,h=>by simp only[i8,ke,zJ];exact Qt (l:=l) h
 |.dc _ _::l,h=>by simp only[i8,ke,zJ];exact Qt (l:=l) h
 |.box _ _::_,h=>by cases h
 |.own _::_,h=>by cases h
 |.oelt _ _ _ _::_,h=>by cases h
theorem Cr:∀l:List Value,mF (l.map .v)=Ta
 |[]=>rfl
 |_::l=>Cr l
def qF(P:Program)(gl:Fr)(tr:TypeId)(o:Oper)(e:qo)(ch:qf)(cs:CS)(K:AV->Option (Nat×Ch)->Prop):Prop:=
 match o.op with
 |.alloc t=>match ch,o.dst,zeroOf P t with
  |[],Td d,some z=>bif qq d cs then(bif iW (z.cells.toList.map .v)then False else K (.g (.a (.box d 0))) (Td (d,.box (z.cells.toList.map .v))))else False
  |_,_,_=>False
 |.box t x=>match ch,o.dst,iD e [] x with
  |[],Td d,some av=>match oQ av with
   |some l=>bif qq d cs then(bif mF l then(bif iW l then False else K (.g (.a (.box d 0))) (Td (d,.box l)))else False)else False
   |none=>False
  |_,_,_=>False
 |.buildSlice t n f=>match ch,mq (iD e []) f.toList with
  |[],some ps=>yP P tr t n ps cs λav=>K av Te
  |_,_=>False
 |.call c=>match c.callee with
  |.builtin .append=>match ch,c.args.toList,c.argTypes.toList with
   |[],[s,x],[t,tx]=>match iD e [] s,iD e [] x with
    |some bv,some sv=>bif wX bv then Xy P tr t tx bv sv 0 [] cs (λav _ _=>K av Te)else False
    |_,_=>False
   |_,_,_=>False
  |.builtin _=>mE P gl o e ch cs λav=>K av Te
  |_=>match ch with
   |[]=>A3 P gl tr o (iD e []) cs λav=>K av Te
   |_=>match J8 e ch with
    |some (Td b)=>pm P gl tr o (iD e ch) b cs λav=>K av Te
    |_=>False
 |_=>mE P gl o e ch cs λav=>K av Te
structure Spec (h0:zc) (W:Nat->Prop) (M0:Fr) (P:Program) (o:Oper) (e:qo) (ch:qf) (cs:CS) (nb:Option (Nat×Ch)) (Kan:AV->Prop) (eat:Option (Nat×Ch):=Te):Prop where
 yes:∀(n:Nat) (γ:Gh) (h:zc) (a:Act) (Y:CS),SatA n e γ a->Inv h0 W M0 (Y++cs) γ h->(∀b,nb=Td b->qq b.1 (Y++cs)=Ta)->(∀c,eat=Td c->c∈Y++cs/\∀x∈Y++cs,x.1=c.1->x.2=c.2)->(∀d,o.dst=Td d->eat≠Te->qq d (Y++cs)=Ta)->valid (qh a) ch->nA h0 W M0 P o a γ h (Y++cs) nb Kan eat
 no:∀(n:Nat) (γ:Gh) (a:Act),SatA n e γ a->¬valid (qh a) ch->nb=Te/\eat=Te/\∃av,Kan av
 box:∀b,nb=Td b->qq b.1 cs=Ta/\o.dst=Td b.1/\(((∃l,b.2=.box l/\mF l=Ta)/\Kan=(· = .g (.a (.box b.1 0))))\/((∃e t xs,b.2=.row e t xs)/\Kan=(· = .g (.a (.own b.1)))))
 dn:eat≠Te->∃d,o.dst=Td d/\qq d cs=Ta
theorem Spec.ofQ(c:Fr.le gl M0){e:qo}{ch:qf}{K:AV->Option (Nat×Ch)->Prop}(H:mE P gl o e ch cs λav=>K av Te):∃i Kan,Spec h0 W M0 P o e ch cs i Kan/\(∀av,Kan av->K av i)/\∃av,Kan=(· = av):=by obtain⟨av,h1,l⟩:=JB (h0:=h0) (W:=W) (M0:=M0) c H;refine⟨Te,(· = av),⟨λn γ h a Y f I _ _ _ j=>?_,λn γ a f j=>⟨rfl,rfl,av,rfl⟩,λb m=>(by cases m),λp=>absurd rfl p⟩,λt e=>e ▸ h1,av,rfl⟩;obtain⟨v,k,r⟩:=l n γ a h f (I.sub (by simp)) j;exact λB d=>.inl ⟨v,d,h,r B d,av,γ,rfl,k,I,Gx.refl _ _⟩
theorem W3(u:Fr.le gl M0){e:qo}{ch:qf}{K:AV->Option (Nat×Ch)->Prop}(H:qF P gl tr o e ch cs K):
  ∃y Kan,Spec h0 W M0 P o e ch cs y Kan/\(∀av,Kan av->K av y)/\(yq o=Tc->∃av,Kan=(· = av)):=by
 unfold qF at H;split at H
 ·rename_i t r;split at H
  ·rename_i d z C hz;cases hR:qq d cs with
   |false=>rw[hR]at H;exact H.elim
   |true=>
    rw[hR]at H;cases hit:iW (z.cells.toList.map .v)with
    |true=>rw[hit]at H;exact H.elim
    |false=>
    rw[hit]at H;refine⟨_,(· = .g (.a (.box d 0))),⟨λn γ h a Y j I p _ _ _=>Lp r hz hit γ h a Y I (p _ rfl),λn γ a j m=>absurd trivial m,λb k=>?_,λi=>absurd rfl i⟩,λav e=>e ▸ H,λ_=>⟨_,rfl⟩⟩;cases k;exact⟨hR,C,.inl ⟨⟨_,rfl,Cr _⟩,rfl⟩⟩
  exact H.elim
 ·rename_i t x r;split at H
  ·rename_i d av C D;split at H
   ·rename_i l Q;cases hR:qq d cs with
    |false=>rw[hR]at H;exact H.elim
    |true=>
     rw[hR]at H;cases hm:mF l with
     |false=>rw[hm]at H;exact H.elim
     |true=>
      rw[hm]at H;cases hit:iW l with
      |true=>rw[hit]at H;exact H.elim
      |false=>
      rw[hit]at H;refine⟨_,(· = .g (.a (.box d 0))),⟨λn γ h a Y j I p _ _ _=>UB r (Qt hm) hit γ h a Y I (p _ rfl) (vI Q (zx j (c:=[]) trivial D)),λn γ a j m=>absurd trivial m,λb k=>?_,λi=>absurd rfl i⟩,λav e=>e ▸ H,λ_=>⟨_,rfl⟩⟩;cases k;exact⟨hR,C,.inl ⟨⟨_,rfl,hm⟩,rfl⟩⟩
   exact H.elim
  exact H.elim
 rename_i t n L r;split at H;rename_i ps J;obtain⟨av,h1,B⟩:=Um (h0:=h0) (W:=W) (M0:=M0) r J H;exact⟨Te,(· = av),⟨λn γ h a Y j I _ _ _ _=>B γ h a Y I λx av i=>zx j (c:=[]) trivial i,λn γ a j m=>absurd trivial m,λb k=>(by cases k),λi=>absurd rfl i⟩,λS e=>e ▸ h1,λ_=>⟨_,rfl⟩⟩;exact H.elim;rename_i c r;split at H;rename_i O;have f:yq o=Ta:=by simp[yq,r,O]
 split at H;rename_i s x t tx w A;split at H;rename_i bv sv F E;cases hdc:wX bv with
 |false=>rw[hdc]at H;exact H.elim
 |true=>rw[hdc]at H;simp only[zI]at H;exact⟨Te,λav=>K av Te,⟨λn γ h a Y j I _ _ _ _=>Rj r O w A hdc H F E γ h a Y I λx av i=>zx j (c:=[]) trivial i,λn γ a j m=>absurd trivial m,λb k=>(by cases k),λi=>absurd rfl i⟩,λav e=>e,λp=>by rw[f]at p;cases p⟩
 exact H.elim;exact H.elim;obtain⟨y,Kan,h1,B,G⟩:=Spec.ofQ (h0:=h0) (W:=W) (M0:=M0) u H;exact⟨y,Kan,h1,B,λ_=>G⟩;rename_i N M;have f:yq o=Ta:=by simp only[yq,r]
 split at H;exact⟨Te,λav=>K av Te,⟨λn γ h a Y j I _ _ _ _=>Nj u H γ h a Y I λx av i=>zx j (c:=[]) trivial i,λn γ a j m=>absurd trivial m,λb k=>(by cases k),λi=>absurd rfl i⟩,λav e=>e,λp=>by rw[f]at p;cases p⟩;split at H;rename_i b k;refine⟨Te,λav=>K av Te,⟨λn γ h a Y j I _ _ _ m=>PL u H (xt j k m) γ h a Y I λx av i=>zx j m i,λn γ a j m=>⟨rfl,rfl,?_⟩,λb k=>(by cases k),λi=>absurd rfl i⟩,λav e=>e,λp=>by rw[f]at p;cases p⟩;have:=BJ j k m;simp only[XU]at this;exact(zX (h0:=#[]) (W:=λ_=>False) (M0:=λ_=>Te) H).1 this;exact H.elim;obtain⟨y,Kan,h1,B,G⟩:=Spec.ofQ (h0:=h0) (W:=W) (M0:=M0) u H;exact⟨y,Kan,h1,B,λ_=>G⟩
def uk:List Nat->Nat->Option (Option Nat)
 |[],_=>Te
 |x::l,k=>bif Nat.ble 2000000 x then(bif Nat.beq (x-2000000) k then Td Te else uk l k)else(bif Nat.ble 1000000 x then(bif Nat.beq ((x-1000000) / 1000) k then Td (Td ((x-1000000) % 1000))else uk l k)else uk l k)
def pn(k:Nat):List It->Option (Nat×Ch)
 |[]=>Te
 |i::l=>bif (match i.us with
  |some j=>Nat.beq j k
  |none=>Tc)then(match i.nb with
  |some b=>Td b
  |none=>pn k l)else pn k l
theorem AL{k:Nat}{c:Nat×Ch}:∀{l:List It},pn k l=Td c->∃i∈l,i.nb=Td c/\i.us=Td k
 |[],h=>by cases h
 |i::l,h=>by
  simp only[pn]at h;cases hb:(match i.us with
   |some j=>Nat.beq j k
   |none=>Tc)with
  |false=>rw[hb]at h;obtain⟨x,f,q⟩:=AL h;exact⟨x,XZ _ f,q⟩
  |true=>rw[hb]at h;simp only[zI]at h;split at h;rename_i b e;cases h;refine⟨i,YJ,e,?_⟩;split at hb;rename_i j m;rw[m,YC hb];cases hb;obtain⟨x,f,q⟩:=AL h;exact⟨x,XZ _ f,q⟩
def vQ(P:Program)(tr:TypeId)(t:TypeId)(n:Nat)(K:Ch->Prop):Prop:=bif Nat.beq n 0 then(match ma P t with
 |some el=>match mW P tr 8 el,oD P el (0*yf P el)with
  |some ty,Td []=>bif Nat.beq (yf P el) (sz ty)then(bif Nat.ble (0*yf P el) 16777216 then(bif Nat.blt 0 (yf P el)then K (.row el ty [])else False)else False)else False
  |_,_=>False
 |none=>False)else False
theorem Ss{b:Array (Nat×Operand)}(m:o.op=.buildSlice t n b)(k:b.toList=[]){K:Ch->Prop}(H:vQ P tr t n K):
  ∃el ty,K (.row el ty [])/\∀(γ:Gh) (h:zc) (a:Act) (L:CS),Inv h0 W M0 L γ h->qq d L=Ta->ExA P (execOp a.eval o) h (jH h0 W M0 L γ λav l c=>av=.g (.a (.own d))/\l=[(d,.row el ty [])]/\c=Td d):=by
 unfold vQ at H;cases hn:Nat.beq n 0 with
 |false=>rw[hn]at H;exact H.elim
 |true=>
  rw[hn]at H;obtain rfl:=YC hn;simp only[zI]at H;split at H;rename_i el i;split at H;rename_i ty e f;cases h1:Nat.beq (yf P el) (sz ty)with
  |false=>rw[h1]at H;exact H.elim
  |true=>
   rw[h1]at H;cases h2:Nat.ble (0*yf P el) 16777216 with
   |false=>rw[h2]at H;exact H.elim
   |true=>
    rw[h2]at H;cases h3:Nat.blt 0 (yf P el)with
    |false=>rw[h3]at H;exact H.elim
    |true=>rw[h3]at H;refine⟨el,ty,H,λγ h a L I j=>?_⟩;refine CG (tr:=tr) (ps:=[]) m (ρ:=λ_=>Te) (by rw[k];rfl) (C:=[]) (R:=L) (d:=d) ?_ (by simpa using I) (λx av p=>by cases p);unfold Wb;rw[i];simp only;rw[e,f];simp only;rw[h1,h2,h3,j];simp[nh,Wa,sw,Xa,frzL,q9]
  exact H.elim;exact H.elim
def vU(P:Program)(tx:TypeId)(ty:Ty):AV->Option (List (El ty))
 |.g (.a (.d (.row t) xs))=>match P.underlying tx with
  |some (.slice _)=>Qc (.row t) (.row ty) xs
  |_=>Te
 |.g (.a (.dc t xs))=>match P.underlying tx with
  |some (.slice _)=>Qc (.row t) (.row ty) xs
  |_=>Te
 |.g (.a (.v (.slice Te 0 0)))=>match P.underlying tx with
  |some (.slice _)=>Td []
  |_=>Te
 |_=>Te
def A9(P:Program)(tr:TypeId)(t tx:TypeId)(e:TypeId)(c:Ty)(xs:List (El c))(sv:AV)(K:TypeId->(ty:Ty)->List (El ty)->Prop):Prop:=match ma P t with
 |some el=>match mW P tr 8 el with
  |some ty=>match sE P el ty,vU P tx ty sv with
   |some b,some ys=>match Qc (.row c) (.row ty) xs with
    |some xs=>bif Nat.beq e el then((xs.length+ys.length)*b<=140737488355328/\K el ty (xs++ys))else False
    |none=>False
   |_,_=>False
  |none=>False
 |none=>False
theorem Py{L:CS}{ty:Ty}{ys:List (El ty)}(h:vU P tx ty sv=Td ys):nW P L tx ty sv=Td ys:=by unfold vU at h;split at h;rename_i t xs;split at h;rename_i e b;simp only[nW,b,rowOf];exact h;cases h;rename_i t xs;split at h;rename_i e b;simp only[nW,b,rowOf];exact h;cases h;split at h;rename_i e b;simp only[nW,b];exact h;cases h;cases h
theorem Ec{c:Nat}:∀{l:CS},qq c l=Ta->q9 c l=l
 |[],_=>rfl
 |(j,k)::l,h=>by
  simp only[qq]at h;cases hb:(bif Nat.beq j c then Ta else kz c k)with
  |true=>rw[hb]at h;cases h
  |false=>rw[hb]at h;simp only[q9];rw[hb,zJ,Ec h]
theorem tQ{c d:Nat}:∀{l:CS},qq c l=Ta->qq c (J7 d l)=Ta
 |[],_=>rfl
 |(j,k)::l,h=>by
  simp only[qq]at h;cases hb:(bif Nat.beq j c then Ta else kz c k)with
  |true=>rw[hb]at h;cases h
  |false=>
   rw[hb]at h;simp only[J7];cases Nat.beq j d with
   |true=>exact tQ h
   |false=>simp only[zJ,qq];rw[hb];exact tQ h
theorem Do{c:Nat×Ch}:∀{l:CS},c∈l->(∀x∈l,x.1=c.1->x.2=c.2)->Q7 l c.1=Td c.2
 |[],h,_=>by cases h
 |(j,k)::l,h,hu=>by
  simp only[Q7];cases hb:Nat.beq c.1 j with
  |true=>have:=YC hb;have:=hu (j,k) YJ this.symm;simp only at this;rw[zI,this]
  |false=>rw[zJ];rcases YB.1 h with rfl|h;simp at hb;exact Do h λx b=>hu x (XZ _ b)
theorem OV{c:Call}(M:o.op=.call c)(S:c.callee=.builtin .append){s x:Operand}(f:c.args.toList=[s,x])(l:c.argTypes.toList=[t,tx]){n:TypeId}{A:Ty}{xs:List (El A)}{K:TypeId->(ty:Ty)->List (El ty)->Prop}
  (H:A9 P tr t tx n A xs sv K):∃el ty ys,K el ty ys/\∀(γ:Gh) (h:zc) (a:Act) (L:CS) (k:Nat),Inv h0 W M0 L γ h->Q7 L k=Td (.row n A xs)->DenV γ (.g (.a (.own k))) (a.eval s)->DenV γ sv (a.eval x) -> ExA P (execOp a.eval o) h (jH h0 W M0 [] γ λav p u=>av=.g (.a (.own d))/\p=(d,.row el ty ys)::q9 d (J7 k L)/\u=Td d):=by
 unfold A9 at H;split at H;rename_i el w;split at H;rename_i ty C;split at H;rename_i b ys D z;split at H;rename_i m i;cases hee:Nat.beq n el with
 |false=>rw[hee]at H;exact H.elim
 |true=>
  rw[hee]at H;obtain⟨j,E⟩:=H;refine⟨el,ty,m++ys,E,λγ h a L k I J O Q=>?_⟩;have y:Xy P tr t tx (.g (.a (.own k))) sv d L [] (λav p u=>av=.g (.a (.own d))/\p=(d,.row el ty (m++ys))::q9 d (J7 k L)/\u=Td d):=by unfold Xy;rw[w];simp only;rw[C];simp only;rw[D,ZO,Py z];simp only;rw[J];simp only;rw[i];simp only;rw[hee];first|exact⟨j,rfl,rfl,rfl⟩|exact⟨j,trivial,trivial,trivial⟩|exact⟨j,by simp⟩
  have:=CB (ty':=o.type) y (by simpa using I) O Q;intro B e;obtain⟨v,N,h',r,G⟩:=this B e;refine .inl ⟨v,N,h',?_,G⟩;have F:execOp a.eval o=(YO c.argTypes o.type (c.args.map a.eval) >>= λx=>(zcj (zcp x):Sem Next)):=by simp only[execOp,M,resolve,S];rfl
  rw[F,toList_eq f,toList_eq l];refine Yl ?_;simpa using r
 exact H.elim;exact H.elim;exact H.elim;exact H.elim
def yJ(P:Program)(tr:TypeId)(o:Oper)(k:Nat)(e:qo)(b:List It)(cs:CS)(own:Bool)(K:AV->Option (Nat×Ch)->Option (Nat×Ch)->Prop):Prop:=
 match o.op,o.dst with
 |.buildSlice t n parts,some d=>bif own then(bif qq d cs then(match parts.toList with
  |[]=>vQ P tr t n λch=>K (.g (.a (.own d))) (Td (d,ch)) Te
  |_=>False)else False)else False
 |.call c,some d=>match c.callee,c.args.toList,c.argTypes.toList,pn k b with
  |.builtin .append,[s,x],[t,tx],Td (c0,.row e0 t0 xs)=>match iD e [] s,iD e [] x with
   |some (.g (.a (.own c1))),some sv=>bif Nat.beq c1 c0 then(bif qq d cs then A9 P tr t tx e0 t0 xs sv (λel ty ys=>bif own then K (.g (.a (.own d))) (Td (d,.row el ty ys)) (Td (c0,.row e0 t0 xs))else K (.g (.a (.d (.row ty) ys))) Te (Td (c0,.row e0 t0 xs)))else False)else False
   |_,_=>False
  |_,_,_,_=>False
 |_,_=>False
theorem Ue{k:Nat}{e:qo}{IL:List It}{own:Bool}{K:AV->Option (Nat×Ch)->Option (Nat×Ch)->Prop}(H:yJ P tr o k e IL cs own K):
  ∃nb eat av,Spec h0 W M0 P o e [] cs nb (· = av) eat/\K av nb eat/\∀c,eat=Td c->pn k IL=Td c:=by
 unfold yJ at H;split at H;rename_i t n ac d Z w;cases own with
 |false=>exact H.elim
 |true=>
  simp only[zI]at H;cases hR:qq d cs with
  |false=>rw[hR]at H;exact H.elim
  |true=>rw[hR]at H;simp only[zI]at H;split at H;rename_i hp;obtain⟨el,ty,O,j⟩:=Ss (h0:=h0) (W:=W) (M0:=M0) (d:=d) Z hp H;refine⟨_,Te,_,⟨λn γ h a Y l I z _ _ _=>?_,λn γ a l m=>absurd trivial m,λb f=>?_,λj=>absurd rfl j⟩,O,λc p=>by cases p⟩;refine(j γ h a (Y++cs) I (z _ rfl)).mono ?_;rintro v h' ⟨av,C',c,γ',⟨rfl,rfl,rfl⟩,T,h3,h4⟩;exact⟨_,γ',rfl,T,h3,h4⟩;cases f;exact⟨hR,w,.inr ⟨⟨_,_,_,rfl⟩,rfl⟩⟩;exact H.elim
 ·rename_i c d Z w;split at H
  ·rename_i s x t tx c0 S V xs p r F N;split at H
   ·rename_i c1 sv aa U;cases f:Nat.beq c1 c0 with
    |false=>rw[f]at H;exact H.elim
    |true=>
     obtain rfl:=YC f;rw[f]at H;simp only[zI]at H;cases hR:qq d cs with
     |false=>rw[hR]at H;exact H.elim
     |true=>
      rw[hR]at H;simp only[zI]at H;obtain⟨el,ty,ys,O,j⟩:=OV (h0:=h0) (W:=W) (M0:=M0) (d:=d) Z p r F H;have run:∀(n:Nat) (γ:Gh) (h:zc) (a:Act) (Y:CS),SatA n e γ a->Inv h0 W M0 (Y++cs) γ h->(∀G,(Td (c1,Ch.row S V xs):Option (Nat×Ch))=Td G->G∈Y++cs/\∀x∈Y++cs,x.1=G.1->x.2=G.2)->qq d (Y++cs)=Ta ->
        ExA P (execOp a.eval o) h λv h'=>∃γ',DenV γ' (.g (.a (.own d))) v/\Inv h0 W M0 ((d,.row el ty ys)::J7 c1 (Y++cs)) γ' h'/\Gx (Td d) γ γ':=by
       intro n γ h a Y l I D z;obtain⟨h1,T⟩:=D _ rfl;have hf:=Do h1 T;refine(j γ h a (Y++cs) c1 I hf (zx l (c:=[]) trivial aa) (zx l (c:=[]) trivial U)).mono ?_;rintro v h' ⟨av,C',G,γ',⟨rfl,rfl,rfl⟩,E,u,y⟩;rw[ZO,Ec (tQ z)]at u;exact⟨γ',E,u,y⟩
      cases own with
      |true=>refine⟨Td (d,.row el ty ys),Td (c1,.row S V xs),.g (.a (.own d)),⟨λn γ h a Y l I z D C _=>?_,λn γ a l m=>absurd trivial m,λb f=>?_,λ_=>⟨d,w,hR⟩⟩,O,λc p=>by cases p;exact N⟩;refine(run n γ h a Y l I D (z _ rfl)).mono ?_;rintro v h' ⟨γ',E,u,y⟩;exact⟨_,γ',rfl,E,u,y⟩;cases f;exact⟨hR,w,.inr ⟨⟨_,_,_,rfl⟩,rfl⟩⟩
      |false=>refine⟨Te,Td (c1,.row S V xs),.g (.a (.d (.row ty) ys)),⟨λn γ h a Y l I z D C _=>?_,λn γ a l m=>absurd trivial m,λb f=>(by cases f),λ_=>⟨d,w,hR⟩⟩,O,λc p=>by cases p;exact N⟩;have J:=C d w (by simp);refine(run n γ h a Y l I D J).mono ?_;rintro v h' ⟨γ',E,u,y⟩;obtain⟨B,Q,g2⟩:=Inv.freeze1 (A:=[]) u;have ab:Rd B.M (.row ty) ys [aK (B.σ d)]:=Q.den (d,.fz ty ys) (by simp);have m:v=aK (γ'.σ d):=E;have hσ:B.σ d=γ'.σ d:=(g2.2 d (by simp)).2;have L:=Q8 (tQ (d:=c1) J);refine⟨_,{ B with β:=γ.β,σ:=γ.σ },rfl,?_,?_,⟨y.1.trans g2.1,λi _=>⟨rfl,rfl⟩⟩⟩;show Rd B.M (.row ty) ys [v];rw[m,<-hσ];exact ab;refine Q.rest (by simp[nL]) (c:=Td d) ⟨Fr.le.refl _,λi hi=>?_⟩ (λx j=>⟨(L x j).1,(L x j).2⟩) (λx j b f=>⟨rfl,(Q.sep x (by simp;exact .inr j) b f).2⟩) Q.ag (λ_ _ _=>rfl) (XV _) (λ_ _=>rfl);have a1:=y.2 i hi;have a2:=g2.2 i (by simp);exact⟨a1.1.symm.trans a2.1.symm,a1.2.symm.trans a2.2.symm⟩
   exact H.elim
  exact H.elim
 exact H.elim
def yh(ops:Array Oper)(m:Nat):List Nat:=wl (ops.toList.take m)
def Yu(av:AV):List Nat->Bool
 |[]=>Ta
 |s::l=>bif lF s av then Tc else Yu av l
theorem G9{av:AV}:∀{l:List Nat},Yu av l=Ta->∀s∈l,lF s av=Tc
 |[],_,s,b=>by cases b
 |x::l,h,s,b=>by
  simp only[Yu]at h;cases hb:lF x av with
  |true=>rw[hb]at h;cases h
  |false=>rw[hb]at h;rcases YB.1 b with rfl|b;exact hb;exact G9 h s b
def kK(S:List Nat):qo->qo
 |[]=>[]
 |(i,[],v)::e=>bif memN S i then kK S e else(bif Yu v S then(i,[],v)::kK S e else kK S e)
 |(_,_::_,_)::e=>kK S e
theorem wv{S:List Nat}{x:Nat×qf×AV}:∀{e:qo},x∈kK S e->x∈e/\x.2.1=[]/\x.1∉S/\Yu x.2.2 S=Ta
 |[],h=>by cases h
 |(i,[],v)::e,h=>by
  simp only[kK]at h;cases hm:memN S i with
  |true=>rw[hm]at h;exact⟨XZ _ (wv h).1,(wv h).2⟩
  |false=>
   rw[hm]at h;simp only[zJ]at h;cases hn:Yu v S with
   |false=>rw[hn]at h;exact⟨XZ _ (wv h).1,(wv h).2⟩
   |true=>rw[hn]at h;rcases YB.1 h with rfl|h;exact⟨YJ,rfl,Qq hm,hn⟩;exact⟨XZ _ (wv h).1,(wv h).2⟩
 |(_,_::_,_)::e,h=>⟨XZ _ (wv (e:=e) h).1,(wv (e:=e) h).2⟩
def AK(ops:Array Oper)(o:Oper):qf->Bool
 |[]=>Ta
 |[(g,_)]=>match o.guard with
  |some (j,_)=>match ja ops j with
   |some g'=>Nat.beq g g'
   |none=>Tc
  |none=>Tc
 |_=>Tc
def Ce:List Nat->Nat->Bool
 |[x],k=>Nat.beq x k
 |_,_=>Tc
def tc:List Nat->Nat->Bool
 |[],_=>Tc
 |x::l,k=>bif Nat.beq x k then Ta else tc l k
theorem C8{k:Nat}:∀{l:List Nat},tc l k=Ta->k∈l
 |[],h=>by cases h
 |x::l,h=>by
  simp only[tc]at h;cases hb:Nat.beq x k with
  |true=>rw[YC hb];exact YJ
  |false=>rw[hb]at h;exact XZ _ (C8 h)
def nC(ops:Array Oper)(m:Nat)(o:Oper)(k:Nat)(pl:Array Bool):Bool:=
 bif Nat.blt k m then(bif Qy ops k (Zr ops o) m then(bif yq o then Ce (Region.ready .any ops pl) k else tc (Region.ready .any ops pl) k)else Tc)else Tc
def pN(S:List Nat)(av:AV)(b:Option (Nat×Ch)):Bool:=match b with
 |none=>Yu av S
 |some _=>Ta
def oA(pl:Array Bool):Nat->Bool
 |0=>Ta
 |k+1=>bif pl.getD k Tc then oA pl k else Tc
theorem Ft{pl:Array Bool}:∀{m:Nat},oA pl m=Ta->∀k,k<m->pl.getD k Tc=Ta
 |0,_,k,hk=>by omega
 |m+1,h,k,hk=>by
  simp only[oA]at h;cases hb:pl.getD m Tc with
  |false=>rw[hb]at h;cases h
  |true=>
   rw[hb]at h;rcases ZX k m with h1|h1;exact Ft h k h1;have:k=m:=by omega
   subst this;exact hb
def uV(P:Program)(ρ:Operand->Option AV)(o:Oper):Bool:=bif lP o then(bif lH P o then(bif Yk o.op then np ρ o.op.operands.toList else Tc)else Tc)else Tc
def kj(P:Program)(e:qo)(c:qf)(o:Oper):Bool:=match o.op with
 |.pick _ _ _=>Ta
 |.move _=>Ta
 |.assign _=>Ta
 |.extract _ _=>Ta
 |.alloc _=>Tc
 |.box _ _=>Tc
 |.buildSlice _ _ _=>Tc
 |.call _=>Tc
 |.load _ _=>Tc
 |.indexAddr _ _ _=>Tc
 |_=>uV P (iD e c) o
theorem Pd{e:qo}(h:kj P e c o=Ta):yq o=Tc:=by unfold yq;split;rename_i c b;rw[kj,b]at h;cases h;rfl
def rI(P:Program)(o:Oper)(e:qo)(ch:qf)(Kan:AV->Prop):Prop:=
 ∀av,Kan av->∀(n:Nat) (γ:Gh) (a:Act),SatA n e γ a->valid (qh a) ch->∃v,DenV γ av v/\∀w,(execOp a.eval o).run P w=.ok (.value v) w
theorem QExec.all{α:Type}{s:Sem α}{x:α}(H:∀h,QExec P s h x)(w:World):s.run P w=.ok x w:=H w.heap w w.drawn
theorem R9{e:qo}{K:AV->Prop}(H:mE P gl o e c cs K)(D:kj P e c o=Ta):∃av,K av/\rI P o e c (· = av):=by
 unfold mE at H;split at H;rename_i x y z r;obtain⟨av,h1,F⟩:=Wd H;refine⟨av,h1,λw m n γ a f j=>?_⟩;obtain⟨t,T,O⟩:=F n γ a f j;subst m;refine⟨_,O,QExec.all λh B d=>?_⟩;simp only[execOp,r,T,asBool,Sem.run_bind,Sem.run_pure,Result.andThen_ok];rename_i M;split at H;rename_i g L;unfold qA at H;split at H;rename_i b A;exact⟨_,H,λw m n γ a f j=>⟨_,m ▸ (show DenV γ (.g (.a (.v (.bool b)))) _ from rfl),QExec.all λh=>EU A (λx av G=>zx f j G) h⟩⟩;split at H;rename_i b A;exact⟨_,H,λw m n γ a f j=>⟨_,m ▸ (show DenV γ (.g (.a (.v (.bool b)))) _ from rfl),QExec.all λh=>En A (λx av G=>zx f j G) h⟩⟩;split at H;rename_i t b off C;exfalso;unfold BQ at C;split at C;rename_i t' x r;rw[kj,r]at D;cases D;cases C;split at H;rename_i b off n len z C;exfalso;unfold BG at C;split at C;rename_i t' x i r;rw[kj,r]at D;cases D;cases C;unfold uS at H;cases A:uV P (iD e c) o with
 |true=>
  unfold uV at A;rw[A]at H;cases hfam:lP o with
  |false=>rw[hfam]at A;cases A
  |true=>
   cases hq:lH P o with
   |false=>rw[hfam,hq]at A;cases A
   |true=>
    cases hns:Yk o.op with
    |false=>rw[hfam,hq,hns]at A;cases A
    |true=>rw[hfam,hq,hns]at A;simp only[zI]at A H;obtain⟨v,h1,F⟩:=wC hfam H;refine⟨_,h1,λw m n γ a f j=>⟨v,m ▸ Ji γ v,QExec.all λh=>?_⟩⟩;rw[EI (γ:=γ) (λx av G=>zx f j G) hns A];exact F (xt f L j) h ⟨by simp,λi hi=>absurd hi (by simp)⟩
 |false=>
  have I:=A;unfold uV at I;rw[I]at H;simp only[zJ]at H;unfold kj at D;split at D;rename_i x y z r;exact absurd r (M x y z);rename_i x r;rw[r]at H;simp only at H;split at H;rename_i av k;exact⟨av,H,λw m n γ a f j=>⟨_,m ▸ zx f j k,QExec.all λh=>by simp only[execOp,r];exact QExec.pure _⟩⟩;exact H.elim;rename_i x r;rw[r]at H;simp only at H;split at H;rename_i av k;exact⟨av,H,λw m n γ a f j=>⟨_,m ▸ zx f j k,QExec.all λh=>by simp only[execOp,r];exact QExec.pure _⟩⟩;exact H.elim;rename_i x i r;rw[r]at H;simp only at H;split at H;rename_i l k;split at H;rename_i ag J;refine⟨_,H,λw m n γ a f j=>?_⟩;subst m;obtain⟨us,E,F⟩:=zx f j k;obtain⟨u,S,N⟩:=F.get J;refine⟨u,N,QExec.all λh=>?_⟩;simp only[execOp,r,E];refine QExec.val λB d=>?_;unfold Instr.extract;simp[S];exact H.elim;rename_i b p c k;split at H;refine⟨_,H,λw m n γ a f j=>⟨_,m ▸ (show DenV γ (.g (.a (.v (.bool b)))) _ from rfl),QExec.all λh=>?_⟩⟩;obtain⟨E,Q⟩:=zx f j k;simp only[execOp,r];refine QExec.val λB d=>?_;cases b with
  |true=>rw[E rfl];rfl
  |false=>rw[Q rfl];rfl
  refine⟨_,H.2,λw m n γ a f j=>⟨_,m ▸ (show DenV γ (.g (.a (.v (.int .i64 p)))) _ from rfl),QExec.all λh=>?_⟩⟩;obtain⟨E,_⟩:=zx f j k;simp only[execOp,r,E (H.1.out (xt f L j))];exact QExec.val λB d=>rfl;refine⟨_,H.2,λw m n γ a f j=>⟨_,m ▸ (show DenV γ (.g (.a (.v (.int .i32 c)))) _ from rfl),QExec.all λh=>?_⟩⟩;obtain⟨E,_⟩:=zx f j k;simp only[execOp,r,E (H.1.out (xt f L j))];exact QExec.val λB d=>rfl;exact H.elim;exact H.elim;cases D;cases D;cases D;cases D;cases D;cases D;rw[A]at D;cases D
 exact H.elim
theorem Lq{e:qo}{ch:qf}{K:AV->Option (Nat×Ch)->Prop}(H:qF P gl tr o e ch cs K)(f:kj P e ch o=Ta):
  ∃av,Spec h0 W M0 P o e ch cs Te (· = av)/\K av Te/\rI P o e ch (· = av):=by
 have w:mE P gl o e ch cs λav=>K av Te:=by unfold qF at H;split at H;rename_i t i;rw[kj,i]at f;cases f;rename_i t x i;rw[kj,i]at f;cases f;rename_i t n ps i;rw[kj,i]at f;cases f;rename_i c i;rw[kj,i]at f;cases f;exact H
 obtain⟨av,h1,j⟩:=R9 w f;refine⟨av,⟨λn γ h a Y k I _ _ _ l=>?_,λn γ a k l=>⟨rfl,rfl,av,rfl⟩,λb p=>(by cases p),λr=>absurd rfl r⟩,h1,j⟩;obtain⟨v,m,u⟩:=j av rfl n γ a k l;exact λB d=>.inl ⟨v,d,h,u _,av,γ,rfl,m,I,Gx.refl _ _⟩
def Ba(ops:Array Oper)(k:Nat)(o:Oper)(j:Nat):Bool:=bif Nat.beq j k then Ta else bif Region.waitsFor .any ops j k then Ta else bif Region.waitsFor .any ops k j then Ta else match ops[j]? with
 |some b=>o.apart ops b
 |none=>Ta
def nX(ops:Array Oper)(k:Nat)(o:Oper):Nat->Bool
 |0=>Ta
 |j+1=>bif Ba ops k o j then nX ops k o j else Tc
theorem CE{ops:Array Oper}{k:Nat}{o:Oper}:∀{n:Nat},nX ops k o n=Ta->∀j c,j<n->ops[j]?=Td c->j≠k->Region.waitsFor .any ops j k=Tc->Region.waitsFor .any ops k j=Tc->o.apart ops c=Ta
 |0,_,j,c,hj,_,_,_,_=>by omega
 |n+1,h,j,c,hj,ho,h1,h2,h3=>by
  simp only[nX]at h;cases hx:Ba ops k o n with
  |false=>rw[hx]at h;cases h
  |true=>
   rw[hx]at h;rcases ZX j n with b|b;exact CE h j c b ho h1 h2 h3;have:j=n:=by omega
   subst this;have e:Nat.beq j k=Tc:=by
    cases hb:Nat.beq j k with
    |false=>rfl
    |true=>exact absurd (YC hb) h1
   unfold Ba at hx;rw[e,h2,h3,ho]at hx;exact hx
def yR(P:Program)(ops:Array Oper)(pu:List Nat)(o:Oper)(k:Nat)(e:qo)(ch:qf):Bool:=
 bif memN pu k then(bif kj P e ch o then nX ops k o ops.size else Tc)else Ta
def wD(ops:Array Oper)(m k:Nat):Option Nat->Bool
 |none=>Ta
 |some j=>bif Nat.blt j m then Region.waitsFor .any ops j k else Tc
def uC(pu:List Nat)(k:Nat):Option (Option Nat):=bif memN pu k then Te else uk pu k
def nj:List It->List It
 |[]=>[]
 |i::l=>(match i.us with
  |some _=>{ i with nb:=Te }
  |none=>i)::nj l
def dW(P:Program)(gl:Fr)(tr:TypeId)(n:Nat)(ops:Array Oper)(m:Nat)(pu:List Nat)(b:qo)(cs:CS)(Kt:List It->Prop):List Nat->Array Bool->List It->Prop
 |[],pl,IL=>bif oA pl m then Kt (nj IL)else False
 |k::ord,pl,IL=>match ops[k]? with
  |none=>False
  |some o=>bif nC ops m o k pl then(match Yt ops (Xb (Zr ops o) (iH IL++b)) o.guard with
   |some ch=>bif AK ops o ch then(bif jr n ch o.dst then(bif yR P ops pu o k (Xb (Zr ops o) (iH IL++b)) ch then(match uC pu k with
    |none=>qF P gl tr o (Xb (Zr ops o) (iH IL++b)) ch cs (λav c=>bif pN (yh ops m) av c then dW P gl tr n ops m pu b cs Kt ord (pl.setIfInBounds k Ta) (⟨k,o.dst,ch,av,c,Te⟩::IL)else False)
    |some us=>bif wD ops m k us then(match ch with
     |[]=>yJ P tr o k (Xb (Zr ops o) (iH IL++b)) IL cs us.isSome (λav c _=>bif pN (yh ops m) av c then dW P gl tr n ops m pu b cs Kt ord (pl.setIfInBounds k Ta) (⟨k,o.dst,[],av,c,us⟩::IL)else False)
     |_=>False)else False)else False)else False)else False
   |none=>False)else False
def strip(listed:Array Bool)(i:It):It:=match i.us with
 |some j=>bif listed.getD j Tc then { i with nb:=Te } else i
 |none=>i
theorem oI(listed:Array Bool)(i:It):(strip listed i).k=i.k/\(strip listed i).dst=i.dst/\(strip listed i).ch=i.ch/\(strip listed i).av=i.av/\(strip listed i).us=i.us/\((strip listed i).nb=i.nb\/(strip listed i).nb=Te):=by
 unfold strip;split;cases listed.getD _ Tc with
 |true=>exact⟨rfl,rfl,rfl,rfl,rfl,.inr rfl⟩
 |false=>exact⟨rfl,rfl,rfl,rfl,rfl,.inl rfl⟩
 exact⟨rfl,rfl,rfl,rfl,rfl,.inl rfl⟩
def iw(k:Nat)(i:It):It:=match i.us with
 |some j=>bif Nat.beq j k then { i with nb:=Te } else i
 |none=>i
theorem tW(k:Nat)(i:It):(iw k i).k=i.k/\(iw k i).dst=i.dst/\(iw k i).ch=i.ch/\(iw k i).av=i.av/\(iw k i).us=i.us/\((iw k i).nb=i.nb\/(iw k i).nb=Te):=by
 unfold iw;split;cases Nat.beq _ k with
 |true=>exact⟨rfl,rfl,rfl,rfl,rfl,.inr rfl⟩
 |false=>exact⟨rfl,rfl,rfl,rfl,rfl,.inl rfl⟩
 exact⟨rfl,rfl,rfl,rfl,rfl,.inl rfl⟩
def Qb(listed:Array Bool):List It->List It
 |[]=>[]
 |i::l=>bif listed.getD i.k Tc then strip listed i::Qb listed l else Qb listed l
theorem tM{listed:Array Bool}{i:It}:∀{l:List It},i∈l->listed.getD i.k Tc=Ta->strip listed i∈Qb listed l
 |j::l,h,hl=>by
  simp only[Qb];rcases YB.1 h with rfl|h;rw[hl];exact YJ;cases listed.getD j.k Tc with
  |true=>exact XZ _ (tM h hl)
  |false=>exact tM h hl
theorem Wi{listed:Array Bool}{x:It}:∀{l:List It},x∈Qb listed l->∃i∈l,listed.getD i.k Tc=Ta/\x=strip listed i
 |j::l,h=>by
  simp only[Qb]at h;cases hl:listed.getD j.k Tc with
  |true=>rw[hl]at h;rcases YB.1 h with rfl|h;exact⟨j,YJ,hl,rfl⟩;obtain⟨i,hi,q⟩:=Wi h;exact⟨i,XZ _ hi,q⟩
  |false=>rw[hl]at h;obtain⟨i,hi,q⟩:=Wi h;exact⟨i,XZ _ hi,q⟩
structure ItOK (h0:zc) (W:Nat->Prop) (M0:Fr) (P:Program) (n:Nat) (ops:Array Oper) (m:Nat) (pu:List Nat) (e0:qo) (cs:CS) (IL:List It) (it:It) (Kan:AV->Prop):Prop where
 lt:it.k<m
 dst:ja ops it.k=it.dst
 ok:jr n it.ch it.dst=Ta
 chw:∀x∈it.ch,∀p,p<m->ja ops p=Td x.1->Region.waitsFor .any ops it.k p=Ta
 ex:∃o e eat,ops[it.k]?=Td o/\Yt ops e o.guard=Td it.ch/\Spec h0 W M0 P o e it.ch cs it.nb Kan eat /\
  (∀x∈e,x∈e0\/(x∈iH IL/\∀p,p<m->ja ops p=Td x.1->Region.waitsFor .any ops it.k p=Ta)) /\
  (memN pu it.k=Ta->it.nb=Te/\rI P o e it.ch Kan/\nX ops it.k o ops.size=Ta/\yq o=Tc) /\
  (∀c,eat=Td c->∃i∈IL,i.nb=Td c/\i.us=Td it.k)
 use:∀j,it.us=Td j->j<m/\Region.waitsFor .any ops j it.k=Ta
 men:∀av,Kan av->it.nb=Te->Yu av (yh ops m)=Ta
theorem ItOK.mono{pu:List Nat}{j:qo}{l b:List It}{it:It}{Kan:AV->Prop}(H:ItOK h0 W M0 P n ops m pu j cs l it Kan)(k:∀i∈l,i∈b):ItOK h0 W M0 P n ops m pu j cs b it Kan:= {lt:=H.lt,dst:=H.dst,ok:=H.ok,chw:=H.chw,men:=H.men,use:=H.use,ex:=by obtain⟨o,e,eat,h1,p,r,w,h,f⟩:=H.ex;refine⟨o,e,eat,h1,p,r,λx t=>(w x t).imp id λ⟨y,u⟩=>⟨?_,u⟩,h,λc z=>by obtain⟨i,hi,q⟩:=f c z;exact⟨i,k i hi,q⟩⟩;obtain⟨i,hi,q⟩:=Xz.1 y;exact Xz.2 ⟨i,k i hi,q⟩ }
theorem Z5{i p:Nat}(hi:i∈Region.ready .any ops listed)(h:Region.waitsFor .any ops i p=Ta):listed.getD p Tc=Ta:=by obtain⟨m,f,e,k,l,c⟩:=Region.waitsFor_spec h;obtain⟨_,o,j,b⟩:=mem_ready.1 hi;have:m=o:=ZA (f.symm.trans j);subst this;rw[<-c];exact b e k l
structure Mid (h0:zc) (W:Nat->Prop) (M0:Fr) (P:Program) (n:Nat) (ops:Array Oper) (m:Nat) (e0:qo) (cs:CS) (listed:Array Bool) (IL:List It) (γ:Gh) (a:Act) (h:zc):Prop where
 sat:SatA n (iH (Qb listed IL)++e0) γ a
 inv:Inv h0 W M0 (fK (Qb listed IL)++cs) γ h
theorem Wj{k:Nat}(h:ops[k]?=Td o):ja ops k=o.dst:=by simp[ja,h]
theorem yE{m k t:Nat}(e:k<m)(h:ja ops k=Td t):t∈yh ops m:=by
 unfold ja at h;split at h;rename_i o f;unfold yh;have b:o∈ops.toList.take m:=by rw[List.mem_iff_getElem?];exact⟨k,by rw[ZJ,zb e];simpa using f⟩
 generalize ops.toList.take m=l at b;induction l with
 |nil=>cases b
 |cons x l c=>simp only[wl];rcases YB.1 b with rfl|b;rw[h];exact YJ;split;exact XZ _ (c b);exact c b
 cases h
theorem su{x:Nat×Ch}:∀{l:List It},x∈fK l↔∃i∈l,i.nb=Td x
 |[]=>by simp[fK]
 |i::l=>by simp only[fK];split;rename_i b e;rw[YB,su (l:=l)];constructor;rintro(rfl|⟨j,c,h⟩);exact⟨i,YJ,e⟩;exact⟨j,XZ _ c,h⟩;rintro⟨j,c,h⟩;rcases YB.1 c with rfl|c;left;rw[e]at h;exact(ZA h).symm;exact .inr ⟨j,c,h⟩;rename_i e;rw[su (l:=l)];constructor;rintro⟨j,c,h⟩;exact⟨j,XZ _ c,h⟩;rintro⟨j,c,h⟩;rcases YB.1 c with rfl|c;rw[e]at h;cases h;exact⟨j,c,h⟩
theorem G4{c:Nat}:∀{l:CS},(∀x∈l,x.1≠c/\kz c x.2=Tc)->qq c l=Ta
 |[],_=>rfl
 |(j,k)::l,h=>by
  obtain⟨h1,b⟩:=h _ YJ;simp only[qq];have:Nat.beq j c=Tc:=by
   cases hb:Nat.beq j c with
   |false=>rfl
   |true=>exact absurd (YC hb) h1
  rw[this,b];exact G4 λx e=>h x (XZ _ e)
theorem II{pu:List Nat}{e0:qo}(ae:Yq ops m=Ta)(aN:∀x∈e0,x.2.1=[]/\x.1∉yh ops m/\Yu x.2.2 (yh ops m)=Ta)
  {t:List It} (G:∀i∈t,∃Kan,ItOK h0 W M0 P n ops m pu e0 cs t i Kan/\Kan i.av) (au:∀i∈t,∀j∈t,i.k=j.k->i=j) (ba:HeadInv .any ops m listed) (M:Mid h0 W M0 P n ops m e0 cs listed t γ a h)
  {it:It} {Kan:AV->Prop} (T:ItOK h0 W M0 P n ops m pu e0 cs t it Kan) (hr:it.k∈Region.ready .any ops listed):
  ∃o e eat,ops[it.k]?=Td o/\o.dst=it.dst/\SatA n e γ a/\Yt ops e o.guard=Td it.ch/\Spec h0 W M0 P o e it.ch cs it.nb Kan eat/\(memN pu it.k=Ta->it.nb=Te/\rI P o e it.ch Kan/\nX ops it.k o ops.size=Ta/\yq o=Tc) /\
   (∀b,it.nb=Td b->qq b.1 (fK (Qb listed t)++cs)=Ta) /\
   (∀c,eat=Td c->c∈fK (Qb listed t)++cs/\∀x∈fK (Qb listed t)++cs,x.1=c.1->x.2=c.2)/\(∀d,o.dst=Td d->eat≠Te->qq d (fK (Qb listed t)++cs)=Ta) /\
   ∀av u γ' h',Kan av->(valid (qh a) it.ch->DenV γ' av u)->(¬valid (qh a) it.ch->u=undef)->Inv h0 W M0 (it.nb.toList++nL eat (fK (Qb listed t)++cs)) γ' h'->Gx (it.nb.map (·.1)) γ γ' ->
    ∀L':List It,L'.Perm ({ it with av:=av }::(Qb listed t).map (iw it.k))->SatA n (iH L'++e0) γ' (a.put it.dst u)/\Inv h0 W M0 (fK L'++cs) γ' h':=by
 obtain⟨o,e,eat,ho,aF,sp,aC,aJ,V⟩:=T.ex
 have af:o.dst=it.dst:=by rw[<-Wj ho];exact T.dst
 have ay:listed.getD it.k Ta=Tc:=(mem_ready.1 hr).1
 have aj:SatA n e γ a:=M.sat.sub λx r=>by
  rcases aC x r with h1|⟨h1,J⟩
  ·exact ZD _ h1
  ·refine YM _ ?_
   obtain⟨i,hi,q⟩:=Xz.1 h1
   obtain⟨Ki,F,_⟩:=G i hi
   have hw:=J i.k F.lt (by rw[F.dst];exact q.1)
   obtain⟨f1,f2,f3,f4,_⟩:=oI listed i
   exact Xz.2 ⟨strip listed i,tM hi (Z5 hr hw),by rw[f2];exact q.1,by rw[f3];exact q.2.1,by rw[f4];exact q.2.2⟩
 have hw:=x9 aj aF
 have ah:∀i∈Qb listed t,i.k≠it.k:=by
  intro x hi e
  obtain⟨i,B,this,rfl⟩:=Wi hi
  rw[(oI listed i).1]at e
  rw[e]at this
  have J:=getD_both ay
  rw[J]at this
  cases this
 have ak:∀d,o.dst=Td d->qq d cs=Ta->qq d (fK (Qb listed t)++cs)=Ta:=by
  intro d J h1
  refine G4 λx r=>?_
  rcases YK.1 r with r|r
  ·obtain⟨i',hi,z⟩:=su.1 r
   obtain⟨i,B,ab,rfl⟩:=Wi hi
   have aa:=ah _ hi
   obtain⟨f1,_,_,_,_,E⟩:=oI listed i
   have w:i.nb=Td x:=by
    rcases E with E|E
    ·rw[<-E];exact z
    ·rw[E]at z;cases z
   obtain⟨Ki,F,ar⟩:=G i B
   obtain⟨oi,ei,aL,Q,_,S,_,_⟩:=F.ex
   obtain⟨_,h4,O⟩:=S.box x w
   refine⟨λe=>aa ?_,?_⟩
   ·rw[f1]
    refine wa ae i.k it.k d F.lt T.lt ?_ (by rw[T.dst,<-af];exact J)
    rw[Wj Q,h4,e]
   ·rcases O with⟨⟨l,O,h6⟩,_⟩|⟨⟨e',t',bg,O⟩,_⟩
    ·rw[O];exact Qt h6
    ·rw[O];rfl
  ·obtain⟨e1,e2⟩:=Q8 h1 x r
   exact⟨λe=>e1 (by rw[e]),e2⟩
 have aI:∀b,it.nb=Td b->qq b.1 (fK (Qb listed t)++cs)=Ta:=by
  intro b D
  obtain⟨h1,J,_⟩:=sp.box b D
  exact ak b.1 J h1
 have aQ:∀d,o.dst=Td d->eat≠Te->qq d (fK (Qb listed t)++cs)=Ta:=by
  intro d hd he
  obtain⟨d',aS,hn⟩:=sp.dn he
  have:d'=d:=ZA (aS.symm.trans hd)
  subst this
  exact ak d' hd hn
 have aE:∀c,eat=Td c->∀i∈t,∀b,i.nb=Td b->b.1=c.1->i.us=Td it.k/\b=c:=by
  intro c A i hi b D e1
  obtain⟨Y,I,H,L⟩:=V c A
  obtain⟨Ki,F,_⟩:=G i hi
  obtain⟨K3,T3,_⟩:=G Y I
  obtain⟨oi,ei,aL,Q,_,S,_⟩:=F.ex
  obtain⟨o3,e3,aT,aG,_,ax,_⟩:=T3.ex
  obtain⟨_,d1,_⟩:=S.box b D
  obtain⟨_,d3,_⟩:=ax.box c H
  have hk:i.k=Y.k:=wa ae i.k Y.k c.1 F.lt T3.lt (by rw[Wj Q,d1,e1]) (by rw[Wj aG,d3])
  have:i=Y:=au i hi Y I hk
  subst this
  exact⟨L,ZA (D.symm.trans H)⟩
 have aH:∀c,eat=Td c->qq c.1 cs=Ta:=by
  intro c A
  obtain⟨Y,I,H,L⟩:=V c A
  obtain⟨K3,T3,_⟩:=G Y I
  obtain⟨o3,e3,aT,aG,_,ax,_⟩:=T3.ex
  exact(ax.box c H).1
 have a6:∀x∈fK (Qb listed t),∃i∈t,i.nb=Td x:=by
  intro x r
  obtain⟨i',hi,z⟩:=su.1 r
  obtain⟨i,B,ab,rfl⟩:=Wi hi
  rcases(oI listed i).2.2.2.2.2 with E|E
  ·exact⟨i,B,by rw[<-E];exact z⟩
  ·rw[E]at z;cases z
 have al:∀c,eat=Td c->c∈fK (Qb listed t)++cs/\∀x∈fK (Qb listed t)++cs,x.1=c.1->x.2=c.2:=by
  intro c A
  refine⟨YM _ ?_,λx r e=>?_⟩
  ·obtain⟨Y,I,H,L⟩:=V c A
   obtain⟨K3,T3,_⟩:=G Y I
   have hw:=(T3.use _ L).2
   have hl:=Z5 hr hw
   refine su.2 ⟨strip listed Y,tM I hl,?_⟩
   unfold strip
   rw[L]
   simp only
   rw[getD_both ay]
   exact H
  ·rcases YK.1 r with r|r
   ·obtain⟨i,hi,w⟩:=a6 x r
    rw[(aE c A i hi x w e).2]
   ·exact absurd (by rw[e]) (Q8 (aH c A) x r).1
 refine⟨o,e,eat,ho,af,aj,aF,sp,aJ,aI,al,aQ,?_⟩
 ·intro av u γ' h' be hy hn I' g L' hp
  refine⟨?_,?_⟩
  ·refine⟨by rw[xp];exact M.sat.defers,by rw[size_put];exact M.sat.size,λx r=>?_⟩
   have old:∀x:Nat×qf×AV,x∈iH (Qb listed t)++e0->(∀s,it.dst=Td s->x.1≠s/\mentions x.2.1 s=Tc)->lr lF (it.nb.map (·.1)) x.2.2=Tc->mA γ' (qh (a.put it.dst u)) x:=by
    intro x r hs Z
    have hf:=M.sat.all x r
    cases hd:it.dst with
    |none=>
     exact⟨λhv=>(hf.1 hv).gx g Z,hf.2⟩
    |some s=>
     obtain⟨h1,J⟩:=hs s hd
     have hv:=Zo (σ:=qh (a.put (Td s) u)) (τ:=qh a) J (λj hj=>ql hj)
     refine⟨λA=>?_,λA=>?_⟩
     ·rw[ql h1];exact(hf.1 (hv.1 A)).gx g Z
     ·exact(ql h1).trans (hf.2 λan=>A (hv.2 an))
   have aB:∀s,it.dst=Td s->s∈yh ops m:=λs hs=>yE T.lt (by rw[T.dst];exact hs)
   have ai:∀az,(Yu az (yh ops m)=Ta)->lr lF (it.nb.map (·.1)) az=Tc:=by
    intro az h1
    cases w:it.nb with
    |none=>rfl
    |some b=>
     obtain⟨_,J,_⟩:=sp.box b w
     exact G9 h1 b.1 (aB _ (by rw[<-af];exact J))
   rcases YK.1 r with r|r
   ·obtain⟨i,hi,H,L,q3⟩:=Xz.1 r
    rcases YB.1 (hp.subset hi)with rfl|N
    ·-- the new fact
     simp only at H L q3
     have aA:x.1<a.tmps.size:=by
      rw[M.sat.size]
      have:=T.ok
      rw[H]at this
      simp only[jr]at this
      cases Z:mentions it.ch x.1 with
      |true=>rw[Z]at this;cases this
      |false=>rw[Z]at this;simpa[zbo]using this
     have aD:mentions it.ch x.1=Tc:=by
      have:=T.ok
      rw[H]at this
      simp only[jr]at this
      cases Z:mentions it.ch x.1 with
      |true=>rw[Z]at this;cases this
      |false=>rfl
     rw[H]
     have hv:=Zo (σ:=qh (a.put (Td x.1) u)) (τ:=qh a) aD (λj hj=>ql hj)
     refine⟨λA=>?_,λA=>?_⟩
     ·rw[xa aA,<-q3];rw[<-L]at A;exact hy (hv.1 A)
     ·rw[xa aA];rw[<-L]at A;exact hn λan=>A (hv.2 an)
    ·obtain⟨i1,aM,rfl⟩:=ZI.1 N
     obtain⟨c1,c2,c3,c4,_⟩:=tW it.k i1
     rw[c2]at H
     rw[c3]at L
     rw[c4]at q3
     have N:=aM
     obtain⟨i,B,ab,rfl⟩:=Wi N
     obtain⟨f1,f2,f3,f4,_⟩:=oI listed i
     have aY:=Xz.2 ⟨strip listed i,N,H,L,q3⟩
     rw[f2]at H
     rw[f3]at L
     rw[f4]at q3
     have aa:i.k≠it.k:=by rw[<-f1];exact ah _ N
     obtain⟨Ki,F,ar⟩:=G i B
     obtain⟨oi,ei,aL,Q,_,S,_,_⟩:=F.ex
     refine old x (YM _ aY) (λs hs=>⟨λe=>aa ?_,?_⟩) ?_
     ·exact wa ae i.k it.k s F.lt T.lt (by rw[F.dst,H,e]) (by rw[T.dst];exact hs)
     ·cases Z:mentions x.2.1 s with
      |false=>rfl
      |true=>
       exfalso
       rw[<-L]at Z
       have:∃y∈i.ch,y.1=s:=by
        have key:∀c:qf,mentions c s=Ta->∃y∈c,y.1=s:=by
         intro c
         induction c with
         |nil=>intro h;cases h
         |cons y c C=>
          intro h
          obtain⟨g,p⟩:=y
          simp only[mentions]at h
          cases D:Nat.beq s g with
          |true=>exact⟨(g,p),YJ,(YC D).symm⟩
          |false=>
           rw[D]at h
           obtain⟨y,hy,e⟩:=C h
           exact⟨y,XZ _ hy,e⟩
        exact key _ Z
       obtain⟨y,a8,aZ⟩:=this
       have a7:=F.chw y a8 it.k T.lt (by rw[T.dst,hs,aZ])
       obtain⟨oj,aU,e',aP,aV,aO⟩:=Region.waitsFor_spec a7
       have:=ba.closed i.k oj aU ab e' aP aV
       rw[aO,getD_both ay]at this
       cases this
     ·rw[<-q3]
      cases hnbi:i.nb with
      |none=>exact ai _ (F.men _ ar hnbi)
      |some bi=>
       obtain⟨_,h4,O⟩:=S.box bi hnbi
       have U:i.av=.g (.a (.box bi.1 0))\/i.av=.g (.a (.own bi.1)):=by
        have:=ar
        rcases O with⟨_,O⟩|⟨_,O⟩
        ·rw[O]at this;exact .inl this
        ·rw[O]at this;exact .inr this
       cases w:it.nb with
       |none=>rfl
       |some b=>
        obtain⟨_,J,_⟩:=sp.box b w
        have:Nat.beq bi.1 b.1=Tc->lr lF (Option.map (λx=>x.fst) (Td b)) i.av=Tc:=λhq=>by
         rcases U with U|U
         ·rw[U];exact hq
         ·rw[U];exact hq
        apply this
        cases D:Nat.beq bi.1 b.1 with
        |false=>rfl
        |true=>
         exfalso
         have:=YC D
         exact aa (wa ae i.k it.k b.1 F.lt T.lt (by rw[Wj Q,h4,this]) (by rw[T.dst,<-af];exact J))
   ·obtain⟨b1,b2,b3⟩:=aN x r
    exact old x (ZD _ r) (λs hs=>⟨λe=>b2 (e ▸ aB s hs),by rw[b1];rfl⟩) (ai _ b3)
  ·have e1:fK ({ it with av:=av }::(Qb listed t).map (iw it.k))=it.nb.toList++fK ((Qb listed t).map (iw it.k)):=by
    simp only[fK]
    cases it.nb <;> rfl
   have am:∀{l l':List It},l.Perm l'->(fK l).Perm (fK l'):=by
    intro l l' hp
    induction hp with
    |nil=>exact .nil
    |cons x p C=>simp only[fK];split;exact C.cons _;exact C
    |swap x y l=>
     simp only[fK]
     split <;> split <;> first|exact .swap _ _ _|exact .refl _
    |trans _ _ i1 i2=>exact i1.trans i2
   have sub:(fK ((Qb listed t).map (iw it.k))++cs).Sublist (nL eat (fK (Qb listed t)++cs)):=by
    have s0:∀l:List It,(fK (l.map (iw it.k))).Sublist (fK l):=by
     intro l
     induction l with
     |nil=>exact .slnil
     |cons x l C=>
      simp only[ZE,fK]
      rcases(tW it.k x).2.2.2.2.2 with f|f
      ·rw[f]
       split
       ·exact C.cons_cons _
       ·exact C
      ·rw[f]
       simp only
       split
       ·exact C.cons _
       ·exact C
    cases he:eat with
    |none=>exact(s0 _).append_right cs
    |some c=>
     show(_:CS).Sublist (J7 c.1 (fK (Qb listed t)++cs))
     have hd:J7 c.1 (fK (Qb listed t)++cs)=J7 c.1 (fK (Qb listed t))++cs:=by
      have ha:∀l m:CS,J7 c.1 (l++m)=J7 c.1 l++J7 c.1 m:=by
       intro l m
       induction l with
       |nil=>rfl
       |cons x l C=>
        simp only[ZU,J7]
        cases Nat.beq x.1 c.1 with
        |true=>exact C
        |false=>simp only[zJ,C,ZU]
      have D:∀l:CS,(∀x∈l,x.1≠c.1)->J7 c.1 l=l:=by
       intro l
       induction l with
       |nil=>intro _;rfl
       |cons x l C=>
        intro r
        simp only[J7]
        cases hq:Nat.beq x.1 c.1 with
        |true=>exact absurd (YC hq) (r x YJ)
        |false=>rw[zJ,C λy hy=>r y (XZ _ hy)]
      rw[ha,D cs λx r e=>(Q8 (aH c he) x r).1 (by rw[e])]
     rw[hd]
     refine List.Sublist.append_right ?_ cs
     have s1:∀l:List It,(∀i∈l,∀b,i.nb=Td b->b.1=c.1->i.us=Td it.k)->(fK (l.map (iw it.k))).Sublist (J7 c.1 (fK l)):=by
      intro l
      induction l with
      |nil=>intro _;exact .slnil
      |cons x l C=>
       intro hl
       have ac:=C λi hi=>hl i (XZ _ hi)
       simp only[ZE,fK]
       cases w:x.nb with
       |none=>
        have:(iw it.k x).nb=Te:=by
         rcases(tW it.k x).2.2.2.2.2 with f|f
         ·rw[f,w]
         ·exact f
        rw[this]
        exact ac
       |some b=>
        simp only[J7]
        cases hq:Nat.beq b.1 c.1 with
        |true=>
         have hu:=hl x YJ b w (YC hq)
         have:(iw it.k x).nb=Te:=by
          unfold iw
          rw[hu]
          simp
         rw[this,zI]
         exact ac
        |false=>
         rw[zJ]
         rcases(tW it.k x).2.2.2.2.2 with f|f
         ·rw[f,w];exact ac.cons_cons _
         ·rw[f];exact ac.cons _
     refine s1 _ λx r b D e=>?_
     obtain⟨i,B,ab,rfl⟩:=Wi r
     obtain⟨_,_,_,_,f5,E⟩:=oI listed i
     rw[f5]
     rcases E with E|E
     ·exact(aE c he i B b (by rw[<-E];exact D) e).1
     ·rw[E]at D;cases D
   have I2:Inv h0 W M0 (it.nb.toList++(fK ((Qb listed t).map (iw it.k))++cs)) γ' h':=I'.sub (sub.append_left _)
   rw[<-YS,<-e1]at I2
   exact I2.perm ((am hp.symm).append_right cs)
theorem Cy{pu:List Nat}{w:qo}{Q:Exit->Act->World->Prop}(H:Yq ops m=Ta)(E:∀x∈w,x.2.1=[]/\x.1∉yh ops m/\Yu x.2.2 (yh ops m)=Ta) {c:List It} (F:∀i∈c,∃Kan,ItOK h0 W M0 P n ops m pu w cs c i Kan/\Kan i.av) (l:∀i∈c,∀j∈c,i.k=j.k->i=j) (L:HeadInv .any ops m listed) (M:Mid h0 W M0 P n ops m w cs listed c γ a h) {it:It} {Kan:AV->Prop} (T:ItOK h0 W M0 P n ops m pu w cs c it Kan) (Z:it.k∈Region.ready .any ops listed) {O:Act->World->Prop} (B:World) (d:Nat) (S:∀av u γ' h' G,Kan av->(∀L':List It,L'.Perm ({ it with av:=av }::(Qb listed c).map (iw it.k))->SatA n (iH L'++w) γ' (a.put it.dst u)/\Inv h0 W M0 (fK L'++cs) γ' h')->Gx (it.nb.map (·.1)) γ γ'->O (a.put it.dst u) (mk B G h')):
  wpOp P ops Q it.k O a (mk B d h):=by
 obtain⟨o,e,eat,Y,D,b,N,sp,V,y,r,I,fin⟩:=II H E F l L M T Z;have U:=x9 b N;unfold wpOp;rw[Y];simp only;by_cases t:valid (qh a) it.ch;rw[zb (U.2 t)];left;have J:=sp.yes n γ h a (fK (Qb listed c)) b M.inv y r I t;refine(ExA.upon J B d ?_);rintro v G h' ⟨av,γ',g1,g2,g3,A⟩;rw[D];exact S av v γ' h' G g1 (fin av v γ' h' g1 (λ_=>g2) (λp=>absurd t p) g3 A) A;rw[za λJ=>t (U.1 J)];obtain⟨C,z,av,f⟩:=sp.no n γ a b t;rw[D];have A:Gx (it.nb.map (·.1)) γ γ:=by rw[C];exact Gx.refl _ _
 exact S av undef γ h d f (fin av undef γ h f (λp=>absurd p t) (λ_=>rfl) (by rw[C,z];exact M.inv) A) A
theorem Ky{pu:List Nat}{D:qo}{Q:Exit->Act->World->Prop}(af:Yq ops m=Ta)(S:∀x∈D,x.2.1=[]/\x.1∉yh ops m/\Yu x.2.2 (yh ops m)=Ta) {r:List It} (ac:∀i∈r,∃Kan,ItOK h0 W M0 P n ops m pu D cs r i Kan/\Kan i.av) (t:∀i∈r,∀j∈r,i.k=j.k->i=j) (al:HeadInv .any ops m listed) (M:Mid h0 W M0 P n ops m D cs listed r γ a h) {it:It} {Kan:AV->Prop} (T:ItOK h0 W M0 P n ops m pu D cs r it Kan) (y:Kan it.av) (L:it.k∈Region.ready .any ops listed) (ai:memN pu it.k=Ta) (l:Region.noSelect ops=Ta) (hQ:∀c a w,¬Q (.panic c) a w) (B:World) (d:Nat) {f:Nat} (hK:∀u,(∀L':List It,L'.Perm (it::(Qb listed r).map (iw it.k))->SatA n (iH L'++D) γ (a.put it.dst u)/\Inv h0 W M0 (fK L'++cs) γ h)->Gx (it.nb.map (·.1)) γ γ->wpAny P .any ops Q f (listed.setIfInBounds it.k Ta) (a.put it.dst u) (mk B d h)):
  wpAny P .any ops Q (f+1) listed a (mk B d h):=by
 obtain⟨o,e,eat,ho,I,p,am,sp,F,an,Z,ar,fin⟩:=II af S ac t al M T L;obtain⟨H,aj,z,_⟩:=F ai;have b:Inv h0 W M0 (it.nb.toList++nL eat (fK (Qb listed r)++cs)) γ h:=by
  rw[H];refine M.inv.sub ?_;cases eat with
  |none=>exact List.Sublist.refl _
  |some c=>exact xc c.1 _
 have hw:=x9 p am;have J:Gx (it.nb.map (·.1)) γ γ:=by rw[H];exact Gx.refl _ _
 have E:∀j C,ops[j]?=Td C->j≠it.k->listed.getD j Ta=Tc->(∀e∈C.after,Region.binds .any e=Ta->e.on≠it.k)->o.apart ops C=Ta:=by
  intro j C hj Y ah N;have O:j<ops.size:=(YE.1 hj).1;refine CE z j C O hj Y ?_ ?_;cases hb:Region.waitsFor .any ops j it.k with
  |false=>rfl
  |true=>obtain⟨ab,ae,e',aa,ak,U⟩:=Region.waitsFor_spec hb;have:ab=C:=ZA (ae.symm.trans hj);subst this;exact absurd U (N e' aa ak)
  cases hb:Region.waitsFor .any ops it.k j with
  |false=>rfl
  |true=>have:=Z5 L hb;rw[getD_both ah]at this;cases this
 by_cases G:valid (qh a) it.ch;obtain⟨v,hd,hx⟩:=aj it.av y n γ a p G;refine wpAny_first ho (Region.noSelect_spec l) (λc a w V=>absurd V (hQ c _ w)) f listed a (mk B d h) E L (.inl ⟨hw.2 G,hx⟩) ?_;rw[I];exact hK v (fin it.av v γ h y (λ_=>hd) (λA=>absurd G A) b J) J;refine wpAny_first ho (Region.noSelect_spec l) (λc a w V=>absurd V (hQ c _ w)) f listed a (mk B d h) E L (.inr ⟨by simpa using λhx=>G (hw.1 hx),rfl⟩) ?_;rw[I];exact hK undef (fin it.av undef γ h y (λA=>absurd A G) (λ_=>rfl) b J) J
structure GInv (h0:zc) (W:Nat->Prop) (M0:Fr) (P:Program) (n:Nat) (ops:Array Oper) (m:Nat) (pu:List Nat) (e0:qo) (cs:CS) (listed pl:Array Bool) (IL:List It):Prop where
 size:pl.size=ops.size
 mem:∀k,pl.getD k Tc=Ta↔∃i∈IL,i.k=k
 dist:IL.Pairwise λi j=>i.k≠j.k
 items:∀i∈IL,∃Kan,ItOK h0 W M0 P n ops m pu e0 cs IL i Kan/\Kan i.av/\(listed.getD i.k Tc=Tc->Kan=(· = i.av))
 sub:∀k,listed.getD k Tc=Ta->pl.getD k Tc=Ta
def sK(ops:Array Oper):List Nat->Bool
 |[]=>Ta
 |k::_=>match ops[k]? with
  |some o=>yq o
  |none=>Tc
theorem getD_lt{k:Nat}(h:k<pl.size):pl.getD k Ta=pl.getD k Tc:=by simp[h]
theorem xC(T:Fr.le gl M0){pu:List Nat}{l:qo}{Kt:List It->Prop}{k:Nat}{h:List It}(H:dW P gl tr n ops m pu l cs Kt (k::ord) pl h):
  ∃o ch b us Kan,ops[k]?=Td o/\nC ops m o k pl=Ta/\(∀av,ItOK h0 W M0 P n ops m pu l cs h ⟨k,o.dst,ch,av,b,us⟩ Kan)/\(∀av,Kan av->dW P gl tr n ops m pu l cs Kt ord (pl.setIfInBounds k Ta) (⟨k,o.dst,ch,av,b,us⟩::h))/\(yq o=Tc->∃av,Kan=(· = av)):=by
 unfold dW at H
 split at H
 ·exact H.elim
 ·rename_i o S
  cases hst:nC ops m o k pl with
  |false=>rw[hst]at H;exact H.elim
  |true=>
   rw[hst]at H
   simp only[zI]at H
   split at H
   ·rename_i ch U
    cases hco:AK ops o ch with
    |false=>rw[hco]at H;exact H.elim
    |true=>
     rw[hco]at H
     cases hok:jr n ch o.dst with
     |false=>rw[hok]at H;exact H.elim
     |true=>
      rw[hok]at H
      simp only[zI]at H
      cases hpo:yR P ops pu o k (Xb (Zr ops o) (iH h++l)) ch with
      |false=>rw[hpo]at H;exact H.elim
      |true=>
      rw[hpo]at H
      simp only[zI]at H
      have u:∃b us eat Kan,Spec h0 W M0 P o (Xb (Zr ops o) (iH h++l)) ch cs b Kan eat/\(∀av,Kan av->(bif pN (yh ops m) av b then dW P gl tr n ops m pu l cs Kt ord (pl.setIfInBounds k Ta) (⟨k,o.dst,ch,av,b,us⟩::h)else False))/\(yq o=Tc->∃av,Kan=(· = av)) /\
        (memN pu k=Ta->b=Te/\rI P o (Xb (Zr ops o) (iH h++l)) ch Kan/\nX ops k o ops.size=Ta/\yq o=Tc) /\
        (∀c,eat=Td c->∃i∈h,i.nb=Td c/\i.us=Td k)/\(∀j,us=Td j->j<m/\Region.waitsFor .any ops j k=Ta):=by
       unfold yR at hpo
       unfold uC at H
       cases hmp:memN pu k with
       |false=>
        rw[hmp,zJ]at H
        split at H
        ·obtain⟨b,Kan,h1,r,C⟩:=W3 (h0:=h0) (W:=W) (M0:=M0) T H
         exact⟨b,Te,Te,Kan,h1,r,C,λt=>(by cases t),λc t=>(by cases t),λj E=>by cases E⟩
        ·rename_i us Y
         cases huo:wD ops m k us with
         |false=>rw[huo]at H;exact H.elim
         |true=>
          rw[huo,zI]at H
          split at H
          ·obtain⟨b,eat,av,h1,r,C⟩:=Ue (h0:=h0) (W:=W) (M0:=M0) H
           refine⟨b,us,eat,(· = av),h1,λw e=>e ▸ r,λ_=>⟨av,rfl⟩,λt=>(by cases t),λc t=>AL (C c t),λj E=>?_⟩
           subst E
           simp only[wD]at huo
           cases hq:Nat.blt j m with
           |false=>rw[hq]at huo;cases huo
           |true=>rw[hq]at huo;exact⟨by simpa[zbo]using hq,huo⟩
          ·exact H.elim
       |true=>
        rw[hmp]at hpo
        simp only[zI]at hpo
        rw[hmp,zI]at H
        simp only at H
        cases hpb:kj P (Xb (Zr ops o) (iH h++l)) ch o with
        |false=>rw[hpb]at hpo;cases hpo
        |true=>
         rw[hpb]at hpo
         obtain⟨av,h1,r,C⟩:=Lq (h0:=h0) (W:=W) (M0:=M0) H hpb
         exact⟨Te,Te,Te,(· = av),h1,λw e=>e ▸ r,λ_=>⟨av,rfl⟩,λ_=>⟨rfl,C,hpo,Pd hpb⟩,λc t=>(by cases t),λj E=>by cases E⟩
      obtain⟨b,us,eat,Kan,sp,V,z,D,B,y⟩:=u
      have F:Qy ops k (Zr ops o) m=Ta:=by
       unfold nC at hst
       cases h1:Nat.blt k m with
       |false=>rw[h1]at hst;cases hst
       |true=>
        rw[h1]at hst
        cases r:Qy ops k (Zr ops o) m with
        |false=>rw[r]at hst;cases hst
        |true=>rfl
      have M:k<m:=by
       unfold nC at hst
       cases h1:Nat.blt k m with
       |false=>rw[h1]at hst;cases hst
       |true=>simpa[zbo]using h1
      have A:∀av,Kan av->pN (yh ops m) av b=Ta/\dW P gl tr n ops m pu l cs Kt ord (pl.setIfInBounds k Ta) (⟨k,o.dst,ch,av,b,us⟩::h):=by
       intro av f
       have:=V av f
       cases hio:pN (yh ops m) av b with
       |false=>rw[hio]at this;exact this.elim
       |true=>rw[hio]at this;exact⟨rfl,this⟩
      refine⟨o,ch,b,us,Kan,S,hst,λav=>⟨M,Wj S,hok,?_,⟨o,_,eat,S,U,sp,λx I=>?_,D,B⟩,y,λw f G=>?_⟩,λav f=>(A av f).2,z⟩
      ·-- the chain's slots
       intro x I p Q J
       refine Yp F p x.1 Q J ?_
       unfold AK at hco
       split at hco
       ·cases I
       ·rename_i g q
        have N:x=(g,q):=by simpa using I
        subst N
        split at hco
        ·rename_i j Z L
         split at hco
         ·rename_i g' O
          have e:=YC hco
          unfold Zr
          rw[L]
          simp only[O]
          rw[e]
          exact YM _ YJ
         ·cases hco
        ·cases hco
       ·cases hco
      ·obtain⟨h1,r⟩:=Jm I
       rcases YK.1 h1 with h1|h1
       ·exact .inr ⟨h1,λp Q J=>Yp F p x.1 Q J r⟩
       ·exact .inl h1
      ·have:=(A w f).1
       simp only at G
       subst G
       exact this
   ·exact H.elim
theorem yO{k:Nat}(h:nC ops m o k pl=Ta):k∈Region.ready .any ops pl/\(yq o=Ta->Region.ready .any ops pl=[k]):=by
 unfold nC at h;cases h1:Nat.blt k m with
 |false=>rw[h1]at h;cases h
 |true=>
  rw[h1]at h;cases h2:Qy ops k (Zr ops o) m with
  |false=>rw[h2]at h;cases h
  |true=>
   rw[h2]at h;simp only[zI]at h;cases ha:yq o with
   |false=>rw[ha]at h;exact⟨C8 h,λb=>by cases b⟩
   |true=>
    rw[ha]at h;simp only[zI]at h;have:Region.ready .any ops pl=[k]:=by unfold Ce at h;split at h;rename_i x _ c;rw[c,YC h];cases h
    exact⟨by rw[this];exact YJ,λ_=>this⟩
theorem xR{P:Program}{gl:Fr}(w:Fr.le gl M0){tr:TypeId}{n:Nat}{ops:Array Oper}{m:Nat}{pu:List Nat}{t:qo}{cs:CS}{Kt:List It->Prop}{listed:Array Bool}:∀{ord:List Nat} {pl:Array Bool} {p:List It},dW P gl tr n ops m pu t cs Kt ord pl p->GInv h0 W M0 P n ops m pu t cs listed pl p ->
  ∃b l new,dW P gl tr n ops m pu t cs Kt b l (new++p)/\GInv h0 W M0 P n ops m pu t cs listed l (new++p)/\sK ops b=Ta/\∀i∈new,listed.getD i.k Tc=Tc
 |[],pl,p,H,G=>⟨[],pl,[],H,G,rfl,λi hi=>by cases hi⟩
 |k::ord,pl,p,H,G=>by
  obtain⟨o,ch,I,us,Kan,O,B,C,N,u⟩:=xC (h0:=h0) (W:=W) (M0:=M0) w H;cases ha:yq o with
  |true=>exact⟨k::ord,pl,[],H,G,by simp[sK,O,ha],λi hi=>by cases hi⟩
  |false=>
   obtain⟨av,rfl⟩:=u ha;have F:=(yO B).1;have x:pl.getD k Ta=Tc:=(mem_ready.1 F).1;have r:k<pl.size:=by rcases ZX k pl.size with h|h;exact h;simp[Array.getElem?_eq_none h]at x
   have c:pl.getD k Tc=Tc:=by rw[<-getD_lt r];exact x
   have A:listed.getD k Tc=Tc:=by
    cases hb:listed.getD k Tc with
    |false=>rfl
    |true=>rw[G.sub k hb]at c;cases c
   have y:∀i∈p,i.k≠k:=λi hi e=>by have:=(G.mem k).2 ⟨i,hi,e⟩;rw[this]at c;cases c
   have L:GInv h0 W M0 P n ops m pu t cs listed (pl.setIfInBounds k Ta) (⟨k,o.dst,ch,av,I,us⟩::p):=by refine⟨by simp[G.size],λj=>?_,zam.2 ⟨λj E=>(y j E).symm,G.dist⟩,λi hi=>?_,λj E=>?_⟩;by_cases f:k=j;subst f;simp only[YB,exists_eq_or_imp,true_or,iff_true];simp[r];rw[getD_set_ne Tc f,G.mem j];simp only[YB,exists_eq_or_imp,f,false_or];rcases YB.1 hi with rfl|hi;exact⟨(· = av),(C av).mono λi hi=>XZ _ hi,rfl,λ_=>rfl⟩;obtain⟨J,h1,z,D⟩:=G.items i hi;exact⟨J,h1.mono λi hi=>XZ _ hi,z,D⟩;by_cases f:k=j;subst f;simp[r];rw[getD_set_ne Tc f];exact G.sub j E
   obtain⟨b,l,new,h1,z,D,M⟩:=xR w (N av rfl) L;refine⟨b,l,new++[⟨k,o.dst,ch,av,I,us⟩],by simpa using h1,by simpa using z,D,λi hi=>?_⟩;rcases YK.1 hi with hi|hi;exact M i hi;simp only[YY]at hi;subst hi;exact A
theorem JF{k:Nat}(f:k<listed.size)(c:listed.getD k Tc=Tc)(i:It):strip (listed.setIfInBounds k Ta) i=iw k (strip listed i):=by
 unfold strip iw;cases hu:i.us with
 |none=>simp[hu]
 |some j=>
  simp only;by_cases b:j=k;subst b;have h:(listed.setIfInBounds j Ta).getD j Tc=Ta:=by simp[f]
  rw[h,c];simp[hu];rw[getD_set_ne Tc (Ne.symm b)];have e:Nat.beq j k=Tc:=by
   cases hq:Nat.beq j k with
   |false=>rfl
   |true=>exact absurd (YC hq) b
  cases listed.getD j Tc with
  |true=>simp[e]
  |false=>simp[hu,e]
theorem zV{listed:Array Bool}{k:Nat}(c:k<listed.size)(b:listed.getD k Tc=Tc):∀{l:List It},(∀j∈l,k≠j.k)->Qb (listed.setIfInBounds k Ta) l=(Qb listed l).map (iw k)
 |[],_=>rfl
 |j::l,hj=>by
  simp only[Qb];rw[getD_set_ne Tc (hj j YJ),zV c b λx e=>hj x (XZ _ e)];cases listed.getD j.k Tc with
  |true=>simp only[zI,ZE];rw[JF c b]
  |false=>rfl
theorem HH{it:It}(c:∀j,it.us=Td j->listed.getD j Tc=Tc):strip listed it=it:=by unfold strip;split;rename_i j b;rw[c j b];rfl;rfl
theorem F8{listed:Array Bool}{it:It}(c:it.k<listed.size)(b:listed.getD it.k Tc=Tc)(n:∀j,it.us=Td j->(listed.setIfInBounds it.k Ta).getD j Tc=Tc):∀{e:List It},e.Pairwise (λi j=>i.k≠j.k)->it∈e->(Qb (listed.setIfInBounds it.k Ta) e).Perm (it::(Qb listed e).map (iw it.k))
 |[],_,h=>by cases h
 |i::l,hd,h=>by
  rw[zam]at hd;simp only[Qb];rcases YB.1 h with rfl|h;have o:(listed.setIfInBounds it.k Ta).getD it.k Tc=Ta:=by simp[c]
  rw[o,b,zV c b hd.1,HH n];exact .refl _;have f:i.k≠it.k:=hd.1 it h;rw[getD_set_ne Tc (Ne.symm f)];have m:=F8 c b n hd.2 h;cases listed.getD i.k Tc with
  |true=>simp only[zI,ZE];rw[JF c b];exact(m.cons _).trans (.swap _ _ _)
  |false=>exact m
theorem Ax{listed:Array Bool}{b:List It}:∀{new:List It},(∀i∈new,listed.getD i.k Tc=Tc)->Qb listed (new++b)=Qb listed b
 |[],_=>rfl
 |i::l,h=>by simp only[ZU,Qb];rw[h i YJ];exact Ax λx c=>h x (XZ _ c)
theorem Ew{listed:Array Bool}:∀{l:List It},(∀i∈l,listed.getD i.k Tc=Ta/\∀j,i.us=Td j->listed.getD j Tc=Ta)->Qb listed l=nj l
 |[],_=>rfl
 |i::l,h=>by simp only[Qb,nj];obtain⟨h1,c⟩:=h i YJ;rw[h1,Ew λx e=>h x (XZ _ e),zI];congr 1;unfold strip;split;rename_i j b;rw[c j b];rfl;rfl
theorem GInv.ready_pl{pu:List Nat}{j:qo}{p:List It}(G:GInv h0 W M0 P n ops m pu j cs listed pl p)(hi:i∈Region.ready .any ops listed)(h:pl.getD i Tc=Tc):i∈Region.ready .any ops pl:=by obtain⟨_,o,f,b⟩:=mem_ready.1 hi;have c:i<ops.size:=(YE.1 f).1;exact mem_ready.2 ⟨by rw[getD_lt (by rw[G.size];exact c)];exact h,o,f,λe k l=>G.sub _ (b e k l)⟩
theorem Kn(o:m<=ops.size)(b:js ops ops.size=Ta)(n:listed.size=ops.size)(c:∃k,k<m/\listed.getD k Tc=Tc):∃k,k<m/\k∈Region.ready .any ops listed:=by
 obtain⟨k,⟨h1,i⟩,j⟩:=exists_least c;refine⟨k,h1,mem_ready.2 ⟨by rw[getD_lt (by omega)];exact i,ops[k],zae (by omega),λe h l=>?_⟩⟩;have f:=y0 b k ops[k] (by omega) (zae (by omega)) e h l;cases hb':listed.getD e.on Tc with
 |true=>rfl
 |false=>have:=j e.on ⟨by omega,hb'⟩;omega
def Wk(N m:Nat):Array Bool:=((ZN N).map λk=>Nat.blt k m).toArray
theorem UC(j:m<=ops.size)(inv:HeadInv .any ops m listed)(b:∀k,k<m->listed.getD k Tc=Ta):listed=Wk ops.size m:=by
 refine Array.ext (by simp[Wk,inv.size]) λi h1 f=>?_;have hi:i<ops.size:=by rw[<-inv.size];exact h1
 have e:(Wk ops.size m)[i]=Nat.blt i m:=by simp[Wk]
 rw[e];rcases ZX i m with h|h;have:=b i h;simp only[Array.getD,h1,dite_true]at this;rw[show Nat.blt i m=Ta by simpa[zbo]using h];exact this;have:=inv.tail i h hi;simp only[Array.getD,h1,dite_true]at this;have c:Nat.blt i m=Tc:=by
  cases hb:Nat.blt i m with
  |false=>rfl
  |true=>have:=zbo.mp hb;omega
 rw[c];exact this
def pR(ops:Array Oper)(pu:List Nat)(m i:Nat):Nat->Bool
 |0=>Tc
 |j+1=>bif (bif Region.waitsFor .any ops j i then(bif Nat.beq j m then Ta else !(memN pu j))else Tc)then Nat.blt i j else pR ops pu m i j
theorem Ip{ops:Array Oper}{pu:List Nat}{m i:Nat}:∀{n:Nat},pR ops pu m i n=Ta->∃j,j<n/\i<j/\Region.waitsFor .any ops j i=Ta/\(j=m\/memN pu j=Tc)
 |0,h=>by cases h
 |n+1,h=>by
  simp only[pR]at h;cases hb:(bif Region.waitsFor .any ops n i then(bif Nat.beq n m then Ta else !(memN pu n))else Tc)with
  |false=>rw[hb]at h;obtain⟨j,h1,b⟩:=Ip h;exact⟨j,by omega,b⟩
  |true=>
   rw[hb]at h;refine⟨n,by omega,by simpa[zbo]using h,?_⟩;cases hw:Region.waitsFor .any ops n i with
   |false=>rw[hw]at hb;cases hb
   |true=>
    rw[hw]at hb;refine⟨rfl,?_⟩;cases hm:Nat.beq n m with
    |true=>exact .inl (YC hm)
    |false=>rw[hm]at hb;exact .inr (by simpa using hb)
def pg(ops:Array Oper)(pu:List Nat)(m:Nat):Nat->Bool
 |0=>Ta
 |i+1=>bif (bif memN pu i then Ta else pR ops pu m i (m+1))then pg ops pu m i else Tc
theorem CF{ops:Array Oper}{pu:List Nat}{m:Nat}:∀{n:Nat},pg ops pu m n=Ta->∀i,i<n->memN pu i=Tc->∃j,j<=m/\i<j/\Region.waitsFor .any ops j i=Ta/\(j=m\/memN pu j=Tc)
 |0,_,i,hi,_=>by omega
 |n+1,h,i,hi,hp=>by
  simp only[pg]at h;cases hb:(bif memN pu n then Ta else pR ops pu m n (m+1))with
  |false=>rw[hb]at h;cases h
  |true=>
   rw[hb]at h;rcases ZX i n with h1|h1;exact CF h i h1 hp;have:i=n:=by omega
   subst this;rw[hp]at hb;obtain⟨j,a1,a2⟩:=Ip hb;exact⟨j,by omega,a2⟩
def o8(ops:Array Oper)(pu:List Nat)(m:Nat):Bool:=bif Nat.beq m ops.size then Ta else bif pg ops pu m m then Region.chainB .any ops m else Tc
theorem LC{pu:List Nat}(H:m<ops.size)(y:pg ops pu m m=Ta)(C:Region.chainB .any ops m=Ta)(inv:HeadInv .any ops m listed):
  ∀(d i:Nat),m-i=d->i<m->listed.getD i Tc=Tc->memN pu i=Tc->∀t,m<=t->t∉Region.ready .any ops listed:=by
 intro d;induction d using Nat.strongRecOn with
 |_ d A=>
  intro i E hi b l t G h;obtain⟨_,I,p,w⟩:=mem_ready.1 h;have f:t<ops.size:=(YE.1 p).1;by_cases r:t=m;subst r;obtain⟨j,h1,F,u,B⟩:=CF y i hi l;by_cases c:j=t;subst c;rw[Z5 h u]at b;cases b;have k:memN pu j=Tc:=B.resolve_left c;cases hl:listed.getD j Tc with
  |true=>obtain⟨D,o,e,z,x,n⟩:=Region.waitsFor_spec u;have:=inv.closed j D o hl e z x;rw[n,b]at this;cases this
  |false=>exact A (t-j) (by omega) j rfl (by omega) hl k t (XV _) h
  have h1:=ZH.1 C t (ZR.2 f);simp only[zbt,zv]at h1;rcases h1 with h1|h1;omega;have:=Z5 h h1;rw[getD_both (inv.tail (t-1) (by omega) (by omega))]at this;cases this
theorem MB{pu:List Nat}(n:m<=ops.size)(b:o8 ops pu m=Ta)(inv:HeadInv .any ops m listed)(c:∃k,k<m/\k∈Region.ready .any ops listed/\memN pu k=Tc):∀i∈Region.ready .any ops listed,i<m:=by
 intro i hi;obtain⟨_,o,f,_⟩:=mem_ready.1 hi;have e:i<ops.size:=(YE.1 f).1;rcases ZX i m with h|h;exact h;exfalso;unfold o8 at b;cases hb:Nat.beq m ops.size with
 |true=>have:=YC hb;omega
 |false=>
  rw[hb]at b;simp only[zJ]at b;cases hs:pg ops pu m m with
  |false=>rw[hs]at b;cases b
  |true=>rw[hs]at b;obtain⟨k,h1,j,l⟩:=c;exact LC (by omega) hs b inv _ k rfl h1 (getD_both (mem_ready.1 j).1) l i h hi
theorem Ov(hgl:Fr.le gl M0){pu:List Nat}{e0:qo}{Kt:List It->Prop}{Q:Exit->Act->World->Prop}(hm:m<=ops.size)(hnd:Yq ops m=Ta)(hback:js ops ops.size=Ta)(hends:o8 ops pu m=Ta)(hsel:Region.noSelect ops=Ta)(hQp:∀c a w,¬Q (.panic c) a w) (he0:∀x∈e0,x.2.1=[]/\x.1∉yh ops m/\Yu x.2.2 (yh ops m)=Ta) (B:World) {g:Nat} {a0:Act} {γ0:Gh} (hQ:∀IL γ a d h,SatA n (iH IL++e0) γ a->Inv h0 W M0 (fK IL++cs) γ h->Same (yh ops m) a0 a->GxS (yh ops m) γ0 γ->Kt IL->wpAny P .any ops Q g (Wk ops.size m) a (mk B d h)):
    ∀(N:Nat) (U:List Nat) (listed:Array Bool) (ord:List Nat) (pl:Array Bool) (IL:List It) (γ:Gh) (a:Act) (d:Nat) (h:zc),U.length=N->U.Nodup->(∀k,k∈U↔k<m/\listed.getD k Tc=Tc)->HeadInv .any ops m listed -> dW P gl tr n ops m pu e0 cs Kt ord pl IL->sK ops ord=Ta->GInv h0 W M0 P n ops m pu e0 cs listed pl IL->Mid h0 W M0 P n ops m e0 cs listed IL γ a h->Same (yh ops m) a0 a->GxS (yh ops m) γ0 γ -> wpAny P .any ops Q (N+g) listed a (mk B d h):=by
  intro N;induction N with
  |zero=>
    intro U listed ord pl IL γ a d h hU _ hmem inv H hanch G M hsame hgx;have hUn:U=[]:=zba.1 hU;subst hUn;have hall:∀k,k<m->listed.getD k Tc=Ta:=λk hk=>by
      cases hb:listed.getD k Tc with
      |true=>rfl
      |false=>exact absurd ((hmem k).2 ⟨hk,hb⟩) (by simp)
    have hKt:Kt (nj IL):=by
      cases ord with
      |nil=>
        unfold dW at H;cases hb:oA pl m with
        |true=>rw[hb]at H;exact H
        |false=>rw[hb]at H;exact H.elim
      |cons k ord=>exfalso;obtain⟨o,ch,nb,us,Kan,ho,hst,hit,_,_⟩:=xC (h0:=h0) (W:=W) (M0:=M0) hgl H;have hk:k<m:=(hit (.g (.a (.v undef)))).lt;have h1:=(mem_ready.1 (yO hst).1).1;rw[getD_lt (by rw[G.size];omega),G.sub k (hall k hk)]at h1;cases h1
    have hact:Qb listed IL=nj IL:=Ew λi hi=>by obtain⟨Ki,Ti,_⟩:=G.items i hi;exact⟨hall _ Ti.lt,λj hj=>hall j (Ti.use j hj).1⟩
    have h1:=M.sat;have h2:=M.inv;rw[hact]at h1 h2;rw[YP,UC hm inv hall];exact hQ (nj IL) γ a d h h1 h2 hsame hgx hKt
  |succ N ih=>
    intro U listed ord pl IL γ a d h hU hdup hmem inv H hanch G M hsame hgx;have hex:∃k,k<m/\listed.getD k Tc=Tc:=by
      cases U with
      |nil=>cases hU
      |cons k U=>exact⟨k,(hmem k).1 YJ⟩
    obtain⟨k0,hk0m,hk0⟩:=Kn hm hback inv.size hex;rw[show N+1+g=(N+g)+1 by omega];have gen:∀i,i∈Region.ready .any ops listed->i<m->(memN pu i=Ta->wpAny P .any ops Q (N+g+1) listed a (mk B d h))/\wpOp P ops Q i (wpAny P .any ops Q (N+g) (listed.setIfInBounds i Ta)) a (mk B d h):=by
      intro i hi him;have hun:listed.getD i Tc=Tc:=getD_both (mem_ready.1 hi).1;have hils:i<listed.size:=by rw[inv.size];omega
      have hU':(U.erase i).length=N:=by rw[List.length_erase_of_mem ((hmem i).2 ⟨him,hun⟩),hU];rfl
      have hdup':(U.erase i).Nodup:=hdup.erase i;have hmem':∀k,k∈U.erase i↔k<m/\(listed.setIfInBounds i Ta).getD k Tc=Tc:=λk=>by rw[hdup.mem_erase_iff,hmem k];by_cases hk:i=k;subst hk;simp[hils];rw[getD_set_ne Tc hk];exact⟨λhx=>hx.2,λhx=>⟨λe=>hk e.symm,hx⟩⟩
      have inv':=inv.set hi him;have toS:∀{it:It} {Kan:AV->Prop},ItOK h0 W M0 P n ops m pu e0 cs IL it Kan->∀{γ':Gh},Gx (it.nb.map (·.1)) γ γ'->GxS (yh ops m) γ γ':=by
        intro it Kan T γ' gx;refine⟨gx.1,λj hj=>?_⟩;refine gx.2 j λhc=>hj ?_;obtain⟨o,e,eat,ho,_,sp,_,_⟩:=T.ex;cases hnb:it.nb with
        |none=>rw[hnb]at hc;cases hc
        |some b=>
          rw[hnb]at hc;have:b.1=j:=by simpa using hc
          subst this;obtain⟨_,h2,_⟩:=sp.box b hnb;exact yE T.lt (by rw[Wj ho];exact h2)
      have toSame:∀{it:It} {Kan:AV->Prop},ItOK h0 W M0 P n ops m pu e0 cs IL it Kan->∀u,Same (yh ops m) a (a.put it.dst u):=λ {it} {Kan} T u=>
        Same.put a it.dst u λj hj=>yE T.lt (by rw[T.dst];exact hj)
      have hILk:∀x∈IL,∃Kan,ItOK h0 W M0 P n ops m pu e0 cs IL x Kan/\Kan x.av:=λx hx=>by obtain⟨Kx,h1,h2,_⟩:=G.items x hx;exact⟨Kx,h1,h2⟩
      have hdist:∀x∈IL,∀y∈IL,x.k=y.k->x=y:=by
        have key:∀l:List It,l.Pairwise (λi j=>i.k≠j.k)->∀x∈l,∀y∈l,x.k=y.k->x=y:=by
          intro l;induction l with
          |nil=>intro _ x hx;cases hx
          |cons z l ihl=>intro hp x hx y hy e;rw[zam]at hp;rcases YB.1 hx with hx1|hx1;rcases YB.1 hy with hy1|hy1;rw[hx1,hy1];rw[hx1]at e;exact absurd e (hp.1 y hy1);rcases YB.1 hy with hy1|hy1;rw[hy1]at e;exact absurd e.symm (hp.1 x hx1);exact ihl hp.2 x hx1 y hy1 e
        exact key IL G.dist
      cases hpl:pl.getD i Tc with
      |true=>
        obtain⟨it,hit,hik⟩:=(G.mem i).1 hpl;subst hik;obtain⟨Kan,T,_,hdet⟩:=G.items it hit;have fwd:∀u γ' h' d',(∀L':List It,L'.Perm (it::(Qb listed IL).map (iw it.k))->SatA n (iH L'++e0) γ' (a.put it.dst u)/\Inv h0 W M0 (fK L'++cs) γ' h')->Gx (it.nb.map (·.1)) γ γ'->wpAny P .any ops Q (N+g) (listed.setIfInBounds it.k Ta) (a.put it.dst u) (mk B d' h'):=by
         intro u γ' h' d' hst hgx';have huse:∀j,it.us=Td j->(listed.setIfInBounds it.k Ta).getD j Tc=Tc:=by
           intro j hj;have hw:=(T.use j hj).2;obtain⟨oj,hoj,e,he,hb,hon⟩:=Region.waitsFor_spec hw;have hjk:it.k≠j:=λe'=>by have:=y0 hback j oj (YE.1 hoj).1 hoj e he hb;omega
           rw[getD_set_ne Tc hjk];cases hl:listed.getD j Tc with
           |false=>rfl
           |true=>have:=inv.closed j oj hoj hl e he hb;rw[hon,hun]at this;cases this
         obtain⟨s1,s2⟩:=hst _ (F8 hils hun huse G.dist hit);refine ih _ _ ord pl IL γ' _ d' h' hU' hdup' hmem' inv' H hanch ⟨G.size,G.mem,G.dist,λx hx=>?_,λk hk=>?_⟩ ⟨s1,s2⟩ (hsame.trans (toSame T u)) (hgx.trans (toS T hgx'));obtain⟨Kx,h1,h2,h3⟩:=G.items x hx;refine⟨Kx,h1,h2,λhf=>h3 ?_⟩;by_cases hk:it.k=x.k;rw[<-hk];exact hun;rw[getD_set_ne Tc hk]at hf;exact hf;by_cases hk':it.k=k;subst hk';exact hpl;rw[getD_set_ne Tc hk']at hk;exact G.sub k hk
        have hK0:Kan it.av:=by rw[hdet hun]
        refine⟨λhp=>Ky hnd he0 hILk hdist inv M T hK0 hi hp hsel hQp B d λu hst hgx'=>fwd u γ h d hst hgx',Cy hnd he0 hILk hdist inv M T hi B d λav u γ' h' d' hav hst hgx'=>?_⟩;have hav':av=it.av:=by rw[hdet hun]at hav;exact hav
        subst hav';exact fwd u γ' h' d' hst hgx'
      |false=>
        have hrp:=G.ready_pl hi hpl;cases ord with
        |nil=>
          exfalso;unfold dW at H;cases hb:oA pl m with
          |true=>rw[Ft hb i him]at hpl;cases hpl
          |false=>rw[hb]at H;exact H
        |cons k ord=>
          obtain⟨o,ch,nb,us,Kan,ho,hst,hit,hK,_⟩:=xC (h0:=h0) (W:=W) (M0:=M0) hgl H;have hanc:yq o=Ta:=by simpa[sK,ho]using hanch
          have hrk:=(yO hst).2 hanc;rw[hrk]at hrp;have hik:i=k:=by simpa using hrp
          subst hik;refine⟨λhp=>?_,Cy hnd he0 hILk hdist inv M (hit (.g (.a (.v undef)))) hi B d λav u γ' h' d' hav hst' hgx'=>?_⟩;obtain⟨o',_,_,ho',_,_,_,hpp,_⟩:=(hit (.g (.a (.v undef)))).ex;have:=(hpp hp).2.2.2;have e':o'=o:=ZA (ho'.symm.trans ho);rw[e',hanc]at this;cases this;have hne:∀j∈IL,i≠j.k:=λj hj e=>by have:=(G.mem i).2 ⟨j,hj,e.symm⟩;rw[hpl]at this;cases this
          have hips:i<pl.size:=by rw[G.size,<-inv.size];exact hils
          have G':GInv h0 W M0 P n ops m pu e0 cs (listed.setIfInBounds i Ta) (pl.setIfInBounds i Ta) (⟨i,o.dst,ch,av,nb,us⟩::IL):=by refine⟨by simp[G.size],λj=>?_,zam.2 ⟨λj hj=>hne j hj,G.dist⟩,λx hx=>?_,λj hj=>?_⟩;by_cases hjk:i=j;subst hjk;simp only[YB,exists_eq_or_imp,true_or,iff_true];simp[hips];rw[getD_set_ne Tc hjk,G.mem j];simp only[YB,exists_eq_or_imp,hjk,false_or];rcases YB.1 hx with rfl|hx;exact⟨Kan,(hit av).mono λx hx=>XZ _ hx,hav,λhf=>by simp[hils]at hf⟩;obtain⟨Kx,h1,h2,h3⟩:=G.items x hx;refine⟨Kx,h1.mono λx hx=>XZ _ hx,h2,λhf=>h3 ?_⟩;rw[getD_set_ne Tc (hne x hx)]at hf;exact hf;by_cases hjk:i=j;subst hjk;simp[hips];rw[getD_set_ne Tc hjk]at hj ⊢;exact G.sub j hj
          obtain⟨ord',pl',new,h1,h2,h3,h4⟩:=xR hgl (hK av hav) G';have hact:Qb (listed.setIfInBounds i Ta) (new++⟨i,o.dst,ch,av,nb,us⟩::IL)=⟨i,o.dst,ch,av,nb,us⟩::(Qb listed IL).map (iw i):=by
            rw[Ax h4];simp only[Qb];rw[show(listed.setIfInBounds i Ta).getD i Tc=Ta by simp[hils],zV hils hun hne,zI,HH ?_];intro j hj;have hw:=((hit av).use j hj).2;obtain⟨oj,hoj,e,he,hb,hon⟩:=Region.waitsFor_spec hw;have hon:e.on=i:=hon;have hjk:i≠j:=λe'=>by have:=y0 hback j oj (YE.1 hoj).1 hoj e he hb;omega
            rw[getD_set_ne Tc hjk];cases hl:listed.getD j Tc with
            |false=>rfl
            |true=>have:=inv.closed j oj hoj hl e he hb;rw[hon,hun]at this;cases this
          obtain⟨s1,s2⟩:=hst' (⟨i,o.dst,ch,av,nb,us⟩::(Qb listed IL).map (iw i)) (.refl _);exact ih _ _ ord' pl' _ γ' _ d' h' hU' hdup' hmem' inv' h1 h3 h2 ⟨by rw[hact];exact s1,by rw[hact];exact s2⟩ (hsame.trans (toSame (hit av) u)) (hgx.trans (toS (hit av) hgx'))
    by_cases hpe:∃i,i∈Region.ready .any ops listed/\i<m/\memN pu i=Ta;obtain⟨i,hi,him,hp⟩:=hpe;exact(gen i hi him).1 hp;refine⟨λhc=>(by rw[hc]at hk0;cases hk0),λi hi=>(gen i hi (MB hm hends inv ⟨k0,hk0m,hk0,?_⟩ i hi)).2⟩;cases hb:memN pu k0 with
    |false=>rfl
    |true=>exact absurd ⟨k0,hk0,hk0m,hb⟩ hpe
def yQ(ops:Array Oper)(m:Nat)(pu:List Nat):Bool:=
 bif Nat.ble m ops.size then(bif Yq ops m then(bif js ops ops.size then(bif o8 ops pu m then(bif Region.noSelect ops then Region.seqB .any ops (ops.size-m) m (Wk ops.size m)else Tc)else Tc)else Tc)else Tc)else Tc
def zR(P:Program)(gl:Fr)(tr:TypeId)(n:Nat)(ops:Array Oper)(m:Nat)(ord pu:List Nat)(R:CS)(K:qo->CS->Prop)(e:qo)(C:CS):Prop:=
 bif yQ ops m pu then dW P gl tr n ops m pu (kK (yh ops m) e) (C++R) (λb=>mP P gl tr n ops R K (ops.toList.drop m) (iH b++kK (yh ops m) e) (fK b++C)) ord (za0 ops.size Tc) []else False
theorem LZ(hm:P.follows .mixedOrders=Ta)(r:Fr.le gl M0){ord pu:List Nat}{K:qo->CS->Prop}{e:qo} (H:zR P gl tr n ops m ord pu R K e C) (B:World) (d:Nat) (hs:SatA n e γ a) (I:Inv h0 W M0 (C++R) γ h) {Q:Exit->Act->World->Prop}
  (hQ:∀e' C' γ' y T h',SatA n e' γ' y->Inv h0 W M0 (C'++R) γ' h'->Same (wl ops.toList) a y->GxS (wl ops.toList) γ γ'->K e' C'->Q .normal y (mk B T h')):(zdq id ops Ta).wp P Q a (mk B d h):=by
 unfold zR at H;cases hB:yQ ops m pu with
 |false=>rw[hB]at H;exact H.elim
 |true=>
  rw[hB]at H;simp only[zI]at H;have ac:m<=ops.size/\Yq ops m=Ta/\js ops ops.size=Ta/\o8 ops pu m=Ta/\Region.noSelect ops=Ta/\Region.seqB .any ops (ops.size-m) m (Wk ops.size m)=Ta:=by
   unfold yQ at hB;cases h1:Nat.ble m ops.size with
   |false=>rw[h1]at hB;cases hB
   |true=>
    rw[h1]at hB;cases G:Yq ops m with
    |false=>rw[G]at hB;cases hB
    |true=>
     rw[G]at hB;cases L:js ops ops.size with
     |false=>rw[L]at hB;cases hB
     |true=>
      rw[L]at hB;cases J:o8 ops pu m with
      |false=>rw[J]at hB;cases hB
      |true=>
       rw[J]at hB;cases h5:Region.noSelect ops with
       |false=>rw[h5]at hB;cases hB
       |true=>rw[h5]at hB;exact⟨za3 h1,rfl,rfl,rfl,rfl,hB⟩
  obtain⟨Z,ab,p,u,F,A⟩:=ac;have b:wl ops.toList=wl (ops.toList.take m)++wl (ops.toList.drop m):=by rw[<-Qz,zan]
  have M:∀x∈kK (yh ops m) e,x.2.1=[]/\x.1∉yh ops m/\Yu x.2.2 (yh ops m)=Ta:=λx f=>(wv f).2;have D:HeadInv .any ops m (za0 ops.size Tc):= ⟨by simp,λj oj _ hl=>(by rw[getD_replicate_false]at hl;cases hl),λt _ ht=>getD_in (by simpa using ht) (getD_replicate_false _ _)⟩;have G0:GInv h0 W M0 P n ops m pu (kK (yh ops m) e) (C++R) (za0 ops.size Tc) (za0 ops.size Tc) []:= ⟨by simp,λk=>by rw[getD_replicate_false];simp,zdw,λi hi=>(by cases hi),λk hk=>hk⟩;obtain⟨E,U,new,h1,G,L,J⟩:=xR r H G0;have o:Qb (za0 ops.size Tc) (new++[])=[]:=by rw[Ax J];rfl
  have z:SatA n (kK (yh ops m) e) γ a:=hs.sub λx f=>(wv f).1;let Qn:Exit->Act->World->Prop:=λx a w=>x=.normal/\Q .normal a w;refine wp_mono (Q':=Q) (Q:=Qn) ?_ (λx a w hq=>by obtain⟨rfl,h⟩:=hq;exact h);refine wp_region_any hm ?_;have S:ops.size=m+(ops.size-m):=by omega
  have key:=Ov (n:=n) (Q:=Qn) (pu:=pu) r Z ab p u F (λc a w hq=>by cases hq.1) M B (g:=ops.size-m) (a0:=a) (γ0:=γ) (Kt:=λIL=>mP P gl tr n ops R K (ops.toList.drop m) (iH IL++kK (yh ops m) e) (fK IL++C)) (λIL γ' y T h' s1 s2 s3 s4 s5=>?_) m (ZN m) (za0 ops.size Tc) E U (new++[]) γ a (d+1) h List.length_range zc9 (λk=>by rw[ZR,getD_replicate_false];simp) D h1 L G ⟨by rw[o];exact z,by rw[o];exact I⟩ (Same.refl _ _) (GxS.refl _ _);rw[<-S]at key;exact key;have l:(ops.toList.drop m).length=ops.size-m:=by simp
  rw[<-l];refine wpAny_of_seq (md:=.any) (ops.toList.drop m) m _ y _ (λj=>by simp[zaa]) (by rw[l];exact A) ?_;refine uG r B _ _ _ _ _ _ T s5 s1 (by rw[YS];exact s2) λN O V Y aa h'' q4 q5 q6 q7 q8=>⟨rfl,hQ N O V Y aa h'' q4 q5 ?_ ?_ q8⟩;rw[b];exact(s3.mono λx f=>YM _ f).trans (q6.mono λx f=>ZD _ f);rw[b];exact(s4.mono λx f=>YM _ f).trans (q7.mono λx f=>ZD _ f)
abbrev vE:=List (Nat×Nat×List Nat×List Nat×List Nat)
def Hw:vE->Nat->Option (Nat×List Nat×List Nat×List Nat)
 |[],_=>Te
 |(j,x)::l,i=>bif Nat.beq i j then Td x else Hw l i
def BI(P:Program)(gl:Fr)(tr:TypeId)(n:Nat)(c:qV)(f:vE)(id:Nat)(ops:Array Oper)(b:Bool)(R:CS)(K:qo->CS->Prop)(e:qo)(C:CS):Prop:=
 match Hw f id with
 |none=>xI P gl tr n c id ops b R K e C
 |some (m,fz,ord,pu)=>bif b then zR P gl tr n ops m ord pu R K e (frzL fz C)else False
theorem TR(r:P.follows .mixedOrders=Ta)(c:Fr.le gl M0){t:qV}{w:vE}{b:Bool}{K:qo->CS->Prop}{e:qo} (H:BI P gl tr n t w id ops b R K e C) (B:World) (d:Nat) (o:SatA n e γ a) (I:Inv h0 W M0 (C++R) γ h) {Q:Exit->Act->World->Prop}
  (p:∀k j γ' f l h',SatA n k γ' f->Inv h0 W M0 (j++R) γ' h'->Same (wl ops.toList) a f->GxS (wl ops.toList) γ γ'->K k j->Q .normal f (mk B l h')):(zdq id ops b).wp P Q a (mk B d h):=by
 unfold BI at H;split at H;exact TQ r c H B d o I p;rename_i m fz ord pu _;cases b with
 |false=>exact H.elim
 |true=>obtain⟨E,x,g1⟩:=Inv.frzL (C:=C) (γ:=γ) fz I;refine LZ r c H B d (o.gx g1) x λk j γ' f l h' y A z u D=>p k j γ' f l h' y A z (GxS.trans ⟨g1.1,λi _=>g1.2 i (by simp)⟩ u) D
end
section
variable {S:List Nat} {γ γ':Gh} {u:Value} {C R:CS} {h:zc} {n:Nat} {a:Act} {P:Program} {f:FuncId}
variable {h0 : zc} {W : Nat -> Prop} {M0 : Fr}
structure PlanA where
 tails:qV
 draws:vE
 loops:List (Nat×AnnA)
 joins:List (Nat×AnnA)
def pO:List (Nat×AnnA)->Option Nat->Option AnnA
 |[],_=>Te
 |(j,m)::l,some i=>bif Nat.beq i j then Td m else pO l (Td i)
 |_,none=>Te
def oo:AA->List Nat
 |.box j _=>[j]
 |.own j=>[j]
 |.oelt j _ _ _=>[j]
 |_=>[]
def pU(S:List Nat):List AA->Bool
 |[]=>Ta
 |x::l=>bif (match oo x with
  |[]=>Ta
  |j::_=>!(memN S j))then pU S l else Tc
def sU(S:List Nat):AG->Bool
 |.a x=>pU S [x]
 |.agg l=>pU S l
def tX(S:List Nat):List AG->Bool
 |[]=>Ta
 |x::l=>bif sU S x then tX S l else Tc
def xF(S:List Nat):AV->Bool
 |.g x=>sU S x
 |.tup l=>tX S l
 |.nx _ _ _=>Ta
theorem DenA.gxS(g:GxS S γ γ'){x:AA}(c:(match oo x with
  |[]=>Ta
  |j::_=>!(memN S j))=Ta)(h:DenA γ x u):DenA γ' x u:=by
 have key:∀j,memN S j=Tc->γ'.β j=γ.β j/\γ'.σ j=γ.σ j:=λj n=>g.2 j (Qq n);cases x with
 |v y=>exact h
 |d t y=>exact Rd.mono g.1 h
 |box j o=>rw[show u=_ from h];simp only[DenA,(key j (by simpa[oo]using c)).1]
 |own j=>rw[show u=_ from h];simp only[DenA,(key j (by simpa[oo]using c)).2]
 |oelt j z i o=>obtain⟨b,k,l⟩:=h;exact⟨b,by rw[(key j (by simpa[oo]using c)).2];exact k,l⟩
 |elt t y o=>obtain⟨b,f,cs,e,h1,m⟩:=h;exact⟨b,f,cs,e,g.1 _ _ h1,Rd.mono g.1 m⟩
 |dc t xs=>obtain⟨s,k,l,h⟩:=h;exact⟨s,k,l,Rd.mono g.1 h⟩
theorem DenL.gxS{S:List Nat}{γ γ':Gh}(g:GxS S γ γ'):∀{l:List AA} {us:List Value},pU S l=Ta->All2 (DenA γ) l us->All2 (DenA γ') l us
 |[],[],_,_=>trivial
 |[],_::_,_,h=>h.elim
 |_::_,[],_,h=>h.elim
 |x::l,u::us,hm,h=>by
  simp only[pU]at hm;cases hx:(match oo x with
   |[]=>Ta
   |j::_=>!(memN S j))with
  |false=>rw[hx]at hm;cases hm
  |true=>rw[hx]at hm;exact⟨DenA.gxS g hx h.1,DenL.gxS g hm h.2⟩
theorem DenG.gxS(g:GxS S γ γ'){x:AG}(b:sU S x=Ta)(h:DenG γ x u):DenG γ' x u:=by
 cases x with
 |a x=>have:All2 (DenA γ') [x] [u]:=DenL.gxS g b (show All2 (DenA γ) [x] [u]from⟨h,trivial⟩);exact this.1
 |agg l=>obtain⟨us,e,h⟩:=h;exact⟨us,e,DenL.gxS g b h⟩
theorem DenV.gxS(g:GxS S γ γ'){x:AV}(f:xF S x=Ta)(h:DenV γ x u):DenV γ' x u:=by
 cases x with
 |g x=>exact DenG.gxS g f h
 |tup l=>
  obtain⟨us,e,h⟩:=h;refine⟨us,e,?_⟩;have:∀{l:List AG} {us:List Value},tX S l=Ta->All2 (DenG γ) l us->All2 (DenG γ') l us:=by
   intro l;induction l with
   |nil=>intro us _ h;cases us with
    |nil=>trivial
    |cons _ _=>exact h.elim
   |cons x l i=>
    intro us f h;cases us with
    |nil=>exact h.elim
    |cons u us=>
     simp only[tX]at f;cases hx:sU S x with
     |false=>rw[hx]at f;cases f
     |true=>rw[hx]at f;exact⟨DenG.gxS g hx h.1,i f h.2⟩
  exact this f h
 |nx b p c=>exact h
def kT(ms S:List Nat):qo->qo
 |[]=>[]
 |(i,[],v)::e=>bif memN ms i then kT ms S e else(bif xF S v then(i,[],v)::kT ms S e else kT ms S e)
 |(_,_::_,_)::e=>kT ms S e
theorem Wl{ms S:List Nat}{γ k:Gh}{a a1:Act}(g:GxS S γ k)(c:Same ms a a1):∀{e:qo},(∀x∈e,mA γ (qh a) x)->∀x∈kT ms S e,mA k (qh a1) x
 |[],_,x,b=>by cases b
 |(i,[],v)::e,h,x,b=>by
  have j:=Wl g c (e:=e) λx b=>h x (XZ _ b);simp only[kT]at b;cases hm:memN ms i with
  |true=>rw[hm]at b;exact j x b
  |false=>
   rw[hm]at b;simp only[zJ]at b;cases hn:xF S v with
   |false=>rw[hn]at b;exact j x b
   |true=>rw[hn]at b;rcases YB.1 b with rfl|b;refine⟨λ_=>?_,λf=>absurd trivial f⟩;have:=(h _ YJ).1 trivial;simp only at this ⊢;rw[c _ (Qq hm)];exact this.gxS g hn;exact j x b
 |(_,_::_,_)::e,h,x,b=>Wl g c (e:=e) (λx b=>h x (XZ _ b)) x b
def jC(ro:List Nat):CS->CS
 |[]=>[]
 |(c,k)::l=>bif memN ro c then(c,k)::jC ro l else jC ro l
def nY(ro:List Nat):CS->CS
 |[]=>[]
 |(c,k)::l=>bif memN ro c then nY ro l else(c,k)::nY ro l
theorem DC(ro:List Nat):∀C:CS,(nY ro C++jC ro C).Perm C
 |[]=>.nil
 |(c,k)::l=>by
  have b:=DC ro l;simp only[jC,nY];cases memN ro c with
  |true=>exact List.perm_middle.trans (b.cons _)
  |false=>exact b.cons _
theorem Inv.part(I:Inv h0 W M0 (C++R) γ h)(ro:List Nat):Inv h0 W M0 (nY ro C++(jC ro C++R)) γ h:=by rw[<-YS];exact I.perm ((DC ro C).symm.append_right R)
abbrev lW:=Exit->qo->CS->Prop
def TT(K:qo->CS->Prop)(Q:lW):lW
 |.normal,e,C=>K e C
 |x,e,C=>Q x e C
def Ee(id:Nat)(Q:lW):lW
 |.exit i,e,C=>bif Nat.beq i id then Q .normal e C else Q (.exit i) e C
 |x,e,C=>Q x e C
def Cx(m:CS)(K:qo->CS->Prop)(Q:lW):lW
 |.normal,e,C=>K e C
 |x,e,C=>Q x e (C++m)
def ir(pl:PlanA):Code->List Nat
 |.region _ ops _=>wl ops.toList
 |.seq a b=>ir pl a++(ir pl b++(match pO pl.joins (y9 b)with
  |some J=>J.ids
  |none=>[]))
 |.cond _ a b=>ir pl a++ir pl b
 |.block _ b=>ir pl b
 |.loop b=>ir pl b++(match pO pl.loops (y9 b)with
  |some J=>J.ids
  |none=>[])
 |_=>[]
def rJ{X:Type}(J:AnnA)(R:CS)(F:kn (jG J) X)(e:qo)(C:CS)(k:X->Prop):Prop:=
 match sR J R e C with
 |some b=>match kP (jG J) b F with
  |some q=>k q
  |none=>False
 |none=>False
theorem BD{X:Type}{J:AnnA}{F:kn (jG J) X}{e:qo}{k:X->Prop}(h:rJ J R F e C k):∃b q,sR J R e C=Td b/\kP (jG J) b F=Td q/\k q:=by unfold rJ at h;split at h;rename_i b c;split at h;rename_i q f;exact⟨b,q,c,f,h⟩;exact h.elim;exact h.elim
def WA(P:Program)(gl:Fr)(tr:TypeId)(n:Nat)(pl:PlanA):Code->CS->lW->qo->CS->Prop
 |.skip,_,Q,e,C=>Q .normal e C
 |.ret,_,Q,e,C=>Q .ret e C
 |.exit id,_,Q,e,C=>Q (.exit id) e C
 |.label _,_,Q,e,C=>Q .normal e C
 |.goto l,_,Q,e,C=>Q (.goto l) e C
 |.region id ops draw,R,Q,e,C=>BI P gl tr n pl.tails pl.draws id ops draw R (λe C=>Q .normal e C) e C
 |.seq x y,R,Q,e,C=>match pO pl.joins (y9 y)with
  |none=>WA P gl tr n pl x R (TT (λe C=>WA P gl tr n pl y R Q e C) Q) e C
  |some J=>∀K:kn (jG J) Prop,qC (jG J) K (λf q=>WA P gl tr n pl y R Q (m0 J f++kT (xf x) (J.ids++ir pl x) e) (mK J f++jC J.ro C)->q) ->
    WA P gl tr n pl x (jC J.ro C++R) (Cx (jC J.ro C) (λh i=>rJ J (jC J.ro C++R) K h i λq=>q) Q) e (nY J.ro C)
 |.cond c x y,R,Q,e,C=>match iD e [] c with
  |some v=>match oZ v with
   |some b=>(b=Ta->WA P gl tr n pl x R Q e C)/\(b=Tc->WA P gl tr n pl y R Q e C)
   |none=>False
  |none=>False
 |.block id x,R,Q,e,C=>WA P gl tr n pl x R (Ee id Q) e C
 |.loop x,R,Q,e,C=>match pO pl.loops (y9 x)with
  |some J=>∃(I:kn (jG J) Prop) (μ:kn (jG J) Nat),rJ J (jC J.ro C++R) (pM (jG J) I μ) e (nY J.ro C) (λp=>p.1) /\
    qC (jG J) (pM (jG J) I μ) λf p=>p.1->WA P gl tr n pl x (jC J.ro C++R) (Cx (jC J.ro C) (λh i=>rJ J (jC J.ro C++R) (pM (jG J) I μ) h i λq=>q.1/\q.2<p.2) Q)
     (m0 J f++kT (xf x) (J.ids++ir pl x) e) (mK J f)
  |none=>False
 |_,_,_,_,_=>False
def OW(h0:zc)(W:Nat->Prop)(M0:Fr)(n:Nat)(B:World)(ms S:List Nat)(a0:Act)(b:Gh)(R:CS)(Q:lW):Exit->Act->World->Prop:=
 λx a w=>∃e C γ d h,w=mk B d h/\SatA n e γ a/\Inv h0 W M0 (C++R) γ h/\Same ms a0 a/\GxS S b γ/\Q x e C
theorem Oy{e:qo}{h γ f:Gh}{a a1:Act}(l:SatA n e h a){ms S ids:List Nat}(j:a1.defers=[])(hz:a1.tmps.size=n)(c:Same ms a a1)(g:GxS S h γ)(g1:GxS ids γ f){J:AnnA}{i:List Dy}
  (k:∀x∈m0 J i,mA f (qh a1) x):SatA n (m0 J i++kT ms (ids++S) e) f a1:=by
 refine⟨j,hz,λx b=>?_⟩;rcases YK.1 b with b|b;exact k x b;exact Wl ((g.mono λx b=>ZD _ b).trans (g1.mono λx b=>YM _ b)) c l.all x b
theorem Oi(hm:P.follows .mixedOrders=Ta){gl:Fr}(ak:Fr.le gl M0){tr:TypeId}{pl:PlanA}:∀(c:Code) (R:CS) (Q:lW) (e:qo) (C:CS),WA P gl tr n pl c R Q e C ->
  ∀(γ:Gh) (h:zc) (B:World) (d:Nat) (a:Act),SatA n e γ a->Inv h0 W M0 (C++R) γ h->c.wp P (OW h0 W M0 n B (xf c) (ir pl c) a γ R Q) a (mk B d h):=by
 intro c;induction c with
 |skip=>exact λR Q e C H γ h B d a f I=>wp_skip ⟨e,C,γ,d,h,rfl,f,I,Same.refl _ _,GxS.refl _ _,H⟩
 |ret=>exact λR Q e C H γ h B d a f I=>wp_ret ⟨e,C,γ,d,h,rfl,f,I,Same.refl _ _,GxS.refl _ _,H⟩
 |exit id=>exact λR Q e C H γ h B d a f I=>wp_exit ⟨e,C,γ,d,h,rfl,f,I,Same.refl _ _,GxS.refl _ _,H⟩
 |label l=>exact λR Q e C H γ h B d a f I=>wp_label ⟨e,C,γ,d,h,rfl,f,I,Same.refl _ _,GxS.refl _ _,H⟩
 |goto l=>exact λR Q e C H γ h B d a f I=>wp_goto ⟨e,C,γ,d,h,rfl,f,I,Same.refl _ _,GxS.refl _ _,H⟩
 |region id ops aB=>exact λR Q e C H γ h B d a f I=>TR hm ak H B d f I λe' C' γ' a' d' h' o r q3 q4 q5=>⟨e',C',γ',d',h',rfl,o,r,q3,q4,q5⟩
 |seq x y G M=>
  intro R Q e C H γ h B d a f I;simp only[WA]at H;have U:∀i∈xf x,i∈xf (x.seq y):=λi hi=>YM _ hi;have hr:∀i∈xf y,i∈xf (x.seq y):=λi hi=>ZD _ hi;have V:∀i∈ir pl x,i∈ir pl (x.seq y):=λi hi=>YM _ hi;have kr:∀i∈ir pl y,i∈ir pl (x.seq y):=λi hi=>ZD _ (YM _ hi);split at H;refine wp_seq (wp_mono (G _ _ _ _ H γ h B d a f I) ?_);rintro ex a1 w1 ⟨O,T,j,d1,h1,rfl,s1,t,w,g1,o⟩;cases ex with
  |normal=>refine wp_mono (M _ _ _ _ o j h1 B d1 a1 s1 t) ?_;rintro ex a2 w2 ⟨F,L,E,d2,u,rfl,s2,D,z,g2,r⟩;exact⟨F,L,E,d2,u,rfl,s2,D,(w.mono U).trans (z.mono hr),(g1.mono V).trans (g2.mono kr),r⟩
  |_=>exact⟨O,T,j,d1,h1,rfl,s1,t,w.mono U,g1.mono V,o⟩
  rename_i J hJ;have kJ:∀i∈J.ids,i∈ir pl (x.seq y):=λi hi=>by simp only[ir,hJ];exact ZD _ (ZD _ hi)
  have H':=H (qE (jG J) λA=>WA P gl tr n pl y R Q (m0 J A++kT (xf x) (J.ids++ir pl x) e) (mK J A++jC J.ro C)) (Gv λA hq=>hq);refine wp_seq (wp_mono (G _ _ _ _ H' γ h B d a f (I.part J.ro)) ?_);rintro ex a1 w1 ⟨O,T,j,d1,h1,rfl,s1,t,w,g1,o⟩;cases ex with
  |normal=>obtain⟨A,q,hv,hq,hk⟩:=BD o;have ai:=Ih hq;subst ai;obtain⟨aj,Y,Z,f1⟩:=A8 hv s1 t;have aa:=Oy f s1.defers s1.size w g1 Z f1;rw[<-YS]at Y;refine wp_mono (M _ _ _ _ hk aj h1 B d1 a1 aa Y) ?_;rintro ex a2 w2 ⟨F,L,E,d2,u,rfl,s2,D,z,g2,r⟩;exact⟨F,L,E,d2,u,rfl,s2,D,(w.mono U).trans (z.mono hr),((g1.mono V).trans (Z.mono kJ)).trans (g2.mono kr),r⟩
  |_=>exact⟨O,T++jC J.ro C,j,d1,h1,rfl,s1,by rw[YS];exact t,w.mono U,g1.mono V,o⟩
 |cond c x y G M=>intro R Q e C H γ h B d a f I;simp only[WA]at H;have U:∀i∈xf x,i∈xf (zdn c x y):=λi hi=>YM _ hi;have hr:∀i∈xf y,i∈xf (zdn c x y):=λi hi=>ZD _ hi;have V:∀i∈ir pl x,i∈ir pl (zdn c x y):=λi hi=>YM _ hi;have kr:∀i∈ir pl y,i∈ir pl (zdn c x y):=λi hi=>ZD _ hi;split at H;rename_i v hv;split at H;rename_i b N;refine wp_cond_split (y4 N (zx f (c:=[]) trivial hv)) (λac=>?_) (λam=>?_);refine wp_mono (G _ _ _ _ (H.1 ac) γ h B d a f I) ?_;rintro ex a2 w2 ⟨F,L,E,d2,u,rfl,s2,D,z,g2,r⟩;exact⟨F,L,E,d2,u,rfl,s2,D,z.mono U,g2.mono V,r⟩;refine wp_mono (M _ _ _ _ (H.2 am) γ h B d a f I) ?_;rintro ex a2 w2 ⟨F,L,E,d2,u,rfl,s2,D,z,g2,r⟩;exact⟨F,L,E,d2,u,rfl,s2,D,z.mono hr,g2.mono kr,r⟩;exact H.elim;exact H.elim
 |block id x ih=>
  intro R Q e C H γ h B d a f I;refine wp_block (wp_mono (ih _ _ _ _ H γ h B d a f I) ?_);rintro ex a1 w1 ⟨O,T,j,d1,h1,rfl,s1,t,w,g1,o⟩;cases ex with
  |exit i=>simp only[Ee]at o;simp only[Exit.inBlock];by_cases N:Nat.beq i id=Ta;rw[zb (YC N)];simp only[N,zI]at o;exact⟨O,T,j,d1,h1,rfl,s1,t,w,g1,o⟩;rw[za (λhe=>N (by rw[he];simp))];simp only[N,zJ]at o;exact⟨O,T,j,d1,h1,rfl,s1,t,w,g1,o⟩
  |_=>exact⟨O,T,j,d1,h1,rfl,s1,t,w,g1,o⟩
 |loop x ih=>
  intro R Q e C H γ h B d a f I;simp only[WA]at H;split at H;rename_i J hJ;have kx:∀i∈ir pl x,i∈ir pl (Code.loop x):=λi hi=>YM _ hi;have kJ:∀i∈J.ids,i∈ir pl (Code.loop x):=λi hi=>by simp only[ir,hJ];exact ZD _ hi
  have kS:∀i∈J.ids++ir pl x,i∈ir pl (Code.loop x):=λi hi=>by rcases YK.1 hi with hi|hi;exact kJ i hi;exact kx i hi
  obtain⟨Iv,μ,al,S⟩:=H;obtain⟨ab,p0,ay,az,ax⟩:=BD al;obtain⟨γ0,I0,g0,f0⟩:=A8 ay f (I.part J.ro);refine wp_loop_ghost (λm a1 w1=>∃d1 h1 j A p,w1=mk B d1 h1/\a1.defers=[]/\a1.tmps.size=n/\Same (xf x) a a1/\GxS (J.ids++ir pl x) γ j/\Inv h0 W M0 (mK J A++(jC J.ro C++R)) j h1/\(∀y∈m0 J A,mA j (qh a1) y) /\ kP (jG J) A (pM (jG J) Iv μ)=Td p/\p.1/\p.2=m) p0.2 ⟨d,h,γ0,ab,p0,rfl,f.defers,f.size,Same.refl _ _,g0.mono λi hi=>YM _ hi,I0,f0,az,ax,rfl⟩ ?_;rintro m a1 w1 ⟨d1,h1,j,A,p,rfl,af,au,k,g1,t,f1,hp,aA,rfl⟩;have s1:SatA n (m0 J A++kT (xf x) (J.ids++ir pl x) e) j a1:=⟨af,au,λy hy=>by rcases YK.1 hy with hy|hy;exact f1 y hy;exact Wl g1 k f.all y hy⟩;have N:=EL hp S aA;refine wp_mono (ih _ _ _ _ N j h1 B d1 a1 s1 t) ?_;rintro ex a2 w2 ⟨F,L,E,d2,u,rfl,s2,D,z,g2,r⟩;cases ex with
  |normal=>obtain⟨ae,q,ar,hq,ah,an⟩:=BD r;obtain⟨γ3,I3,g3,f3⟩:=A8 ar s2 D;exact⟨q.2,an,d2,u,γ3,ae,q,rfl,s2.defers,s2.size,k.trans z,(g1.trans (g2.mono λi hi=>ZD _ hi)).trans (g3.mono λi hi=>YM _ hi),I3,f3,hq,ah,rfl⟩
  |_=>exact⟨F,L++jC J.ro C,E,d2,u,rfl,s2,by rw[YS];exact D,k.trans z,(g1.mono kS).trans (g2.mono kx),r⟩
  exact H.elim
 |_=>exact λR Q e C H=>H.elim
def nk:Nat->List Arg->qo
 |_,[]=>[]
 |i,a::l=>(i,[],.g (sh a.t a.x))::nk (i+1) l
def ut(e:qo)(i:Nat):Option AV:=match mD e i with
 |some ([],v)=>Td v
 |_=>Te
def my(P:Program)(cs:CS)(e:qo):List ResultVar->(List AV->Prop)->Prop
 |[],K=>K []
 |.tmp t::l,K=>match ut e t with
  |some v=>my P cs e l λvs=>K (v::vs)
  |none=>False
 |.cell a t::l,K=>match ut e a with
  |some (.g (.a aa))=>po P cs t aa Te λv=>my P cs e l λvs=>K (v::vs)
  |_=>False
def je(cs:CS):(l:List Ty)->List AV->Option (ie l)
 |[],[]=>Td ()
 |[t],[v]=>pF cs t v
 |t::t'::l,v::vs=>match pF cs t v,je cs (t'::l) vs with
  |some x,some y=>Td (x,y)
  |_,_=>Te
 |_,_=>Te
theorem GH{γ:Gh}{cs:CS}(b:lQ γ cs):∀{l:List Ty} {vs:List AV} {r:ie l} {us:List Value},je cs l vs=Td r->All2 (DenV γ) vs us->vC γ.M l r us
 |[],[],r,[],_,_=>rfl
 |[],[],_,_::_,_,h=>h.elim
 |[t],[v],r,[u],h,hd=>⟨u,rfl,Af b (by simpa[je]using h) hd.1⟩
 |[t],[v],_,[],_,h=>h.elim
 |[t],[v],_,_::_::_,_,h=>h.2.elim
 |t::t'::l,v::vs,r,[],_,h=>h.elim
 |t::t'::l,v::vs,r,u::us,h,hd=>by simp only[je]at h;split at h;rename_i x y h1 c;simp only[XU]at h;subst h;exact⟨u,us,rfl,Af b h1 hd.1,GH b c hd.2⟩;cases h
 |[],_::_,_,_,h,_=>by simp[je]at h
 |[t],[],_,_,h,_=>by simp[je]at h
 |[t],_::_::_,_,_,h,_=>by simp[je]at h
 |t::t'::l,[],_,_,h,_=>by simp[je]at h
def Ah(P:Program)(rs:List ResultVar)(b:List Ty)(R:ie b->Prop):lW:=λx e C=>match x with
 |.normal=>my P C e rs λvs=>match je (frzL (Xa vs) C) b vs with
  |some r=>R r
  |none=>False
 |.ret=>my P C e rs λvs=>match je (frzL (Xa vs) C) b vs with
  |some r=>R r
  |none=>False
 |_=>False
theorem A7{P:Program}{n:Nat}{C:CS}{e:qo}{γ:Gh}{a:Act}{h:zc}(F:SatA n e γ a)(I:Inv h0 W M0 C γ h):∀{l:List ResultVar} {K:List AV->Prop},my P C e l K->∃vs us,K vs/\All2 (DenV γ) vs us/\us.length=l.length/\QExec P (l.mapM (nv a.tmps)) h us
 |[],K,H=>⟨[],[],H,trivial,rfl,λ_ _=>by simp⟩
 |.tmp t::l,K,H=>by
  simp only[my]at H;split at H;rename_i v B;obtain⟨vs,us,h1,J,M,L⟩:=A7 F I H;have j:DenV γ v (qh a t):=by unfold ut at B;split at B;rename_i u m;simp only[XU]at B;subst B;exact(F.all _ (Z2 m)).1 trivial;cases B
  refine⟨v::vs,qh a t::us,h1,⟨j,J⟩,by simp[M],?_⟩;rw[zdh];exact QExec.bind (x:=qh a t) (QExec.pure _) (L.bind (QExec.pure _));exact H.elim
 |.cell x t::l,K,H=>by
  simp only[my]at H;split at H;rename_i r A;obtain⟨v,Q,O⟩:=GR (h0:=h0) (W:=W) (M0:=M0) H;obtain⟨vs,us,h1,J,M,L⟩:=A7 F I Q;have j:DenA γ r (qh a x):=by unfold ut at A;split at A;rename_i u m;simp only[XU]at A;subst A;exact(F.all _ (Z2 m)).1 trivial;cases A
  obtain⟨u,S,D⟩:=O trivial γ h _ I j;refine⟨v::vs,u::us,h1,⟨S,J⟩,by simp[M],?_⟩;rw[zdh];refine QExec.bind (x:=u) ?_ (L.bind (QExec.pure _));have N:∃p,qh a x=.pointer (Td p):=by
   have E:∀r,(∀k,vo C k r=Te)->(∀c z i o,r≠.oelt c z i o)->DenA γ r (qh a x)->po P C t r Te (λv=>my P C e l λvs=>K (v::vs))->False:=by intro r T G _ m;unfold po at m;split at m;split at m;exact G _ _ _ _ rfl;rw[T]at m;exact m;exact m
   cases r with
   |box c o=>exact⟨_,j⟩
   |oelt c z i o=>obtain⟨g,_,e⟩:=j;exact⟨_,e⟩
   |elt t y o=>obtain⟨b,f,cs,e,_⟩:=j;exact⟨_,e⟩
   |v y=>exact(E _ (λ_=>rfl) (by simp) j H).elim
   |d t y=>exact(E _ (λ_=>rfl) (by simp) j H).elim
   |own c=>exact(E _ (λ_=>rfl) (by simp) j H).elim
   |dc t y=>exact(E _ (λ_=>rfl) (by simp) j H).elim
  obtain⟨p,w⟩:=N;rw[w]at D;have U:a.tmps.getD x undef=.pointer (Td p):=w;simp only[nv,U];exact D;exact H.elim
theorem O4{fn:Func}{rs:List ResultVar}(f:fn.results.toList=rs){us:List Value}(e:us.length=rs.length)(c:QExec P (rs.mapM (nv a.tmps)) h us):QExec P (results fn a.tmps) h (lz us):=by
 intro B d;have b:results fn a.tmps=(fn.results.mapM (nv a.tmps) >>= λvs=>zcj (if h:vs.size=1 then vs[0]else .tuple vs)):=by unfold results;congr 1
 rw[b,Array.mapM_eq_mapM_toList,f,Sem.run_bind,Sem.run_map,c B d];simp only[Result.andThen_ok,Sem.run_pure]
 match us,e with
 |[],_=>rfl
 |[v],_=>rfl
 |v::u::vs,_=>simp[lz]
theorem BV{γ:Gh}{σ:Nat->Value}:∀{l:List Arg} {i:Nat} {us:List Value},Xw γ.M l us->(∀j v,us[j]?=Td v->σ (i+j)=v)->∀x∈nk i l,mA γ σ x
 |[],_,_,_,_,x,b=>by cases b
 |a::l,i,[],h,_,x,b=>h.elim
 |a::l,i,u::us,h,hσ,x,b=>by simp only[nk,YB]at b;rcases b with rfl|b;refine⟨λ_=>?_,λe=>absurd trivial e⟩;have:=hσ 0 u rfl;simp only at this ⊢;rw[show σ i=u from this];exact Al h.1;exact BV h.2 (λj v c=>by have:=hσ (j+1) v (by simpa using c);rwa[show i+(j+1)=i+1+j by omega]at this) x b
theorem QW(hm:P.follows .mixedOrders=Ta)(gl:Fr)(tr:TypeId)(pl:PlanA)(args:List Arg){fn:Func}{rs:List ResultVar}{p:List Ty}(Z:P.funcs[f]?=Td fn)(A:Q3 fn=Ta)(hr:fn.results.toList=rs)(hn:fn.ntmps=n)
  (hz:Nat.ble args.length n=Ta) {R:ie p->Prop} (H:WA P gl tr n pl (codeOf fn) [] (Ah P rs p R) (nk 0 args) []):PC P gl f args p R:=by
 intro h M vs N z l B d;subst hn;have L:fn.body=Td (codeOf fn):=by unfold Q3 at A;unfold codeOf;split at A;rename_i c O;rw[O];cases A
 refine calls_of_wp Z L ?_;have y:vs.length=args.length:=(All2.length l).symm;have aa:vs.length<=fn.ntmps:=by rw[y];exact za3 hz
 let γ:Gh:=⟨M,λ_=>0,λ_=>⟨Te,0,0⟩⟩;have I:Inv h (λ_=>False) M ([]++[]) γ h:={ ag:=z,frame:=λ_ _ _=>rfl,size:=XV _,old:=λ_ _=>rfl,le:=Fr.le.refl _,den:=λx J=>(by cases J),sep:=λx J=>(by cases J),apart:=zdw };have hs:SatA fn.ntmps (nk 0 args) γ { tmps:=vs.toArray++za0 (fn.ntmps-vs.toArray.size) undef,defers:=[] }:=by refine⟨rfl,by simp;omega,BV l λj v U=>?_⟩;have G:j<vs.length:=(ZV.1 U).1;simp only[YP,qh,zas];rw[zb0 (by simpa using G)];simp[U]
 have fin:∀(e:qo) (C:CS) (γ':Gh) (h':zc) (a:Act),SatA fn.ntmps e γ' a->Inv h (λ_=>False) M (C++[]) γ' h'->(my P C e rs λvs=>match je (frzL (Xa vs) C) p vs with|some r=>R r|none=>False) ->
   ∃v,QExec P (results fn a.tmps) h' v/\Keep h.size h h'/\∃M' r,Fr.le M M'/\(∀b,b<h.size->M' b=M b)/\AgM M' h'/\ig M' p r v/\R r:=by
  intro e C γ' h' a s1 o q;rw[ZO]at o;obtain⟨F,us,E,V,hl,t⟩:=A7 s1 o q;split at E;rename_i r O;obtain⟨Y,m,g2⟩:=Inv.frzL (C:=C) (R:=[]) (γ:=γ') (Xa F) (by simpa using o);rw[ZO]at m;refine⟨lz us,O4 hr hl t,⟨m.size,λi hi=>m.frame i hi (λh=>h)⟩,Y.M,r,m.le,m.old,m.ag,⟨us,GH m.fz O (V.imp λv _ u hu=>hu.gx g2 rfl),rfl⟩,E⟩;exact E.elim
 refine wp_mono (Oi hm N _ _ _ _ _ H γ h B d _ hs I) ?_;rintro ex a w ⟨T,S,Q,d1,h1,rfl,s1,o,m1,g1,D⟩;cases ex with
 |normal=>obtain⟨v,t,k,rest⟩:=fin T S Q h1 a s1 o D;exact⟨s1.defers,v,t B d1,v,d1,h1,rfl,rfl,k,rest⟩
 |ret=>obtain⟨v,t,k,rest⟩:=fin T S Q h1 a s1 o D;exact⟨s1.defers,v,t B d1,v,d1,h1,rfl,rfl,k,rest⟩
 |_=>exact D.elim
theorem Rh(c:P.follows .mixedOrders=Ta)(gl:Fr)(tr:TypeId)(pl:PlanA)(args:List Arg){fn:Func}{rs:List ResultVar}{b:List Ty}(h:P.funcs[f]?=Td fn)(j:Q3 fn=Ta)(i:fn.results.toList=rs)(k:fn.ntmps=n)
  (hz:Nat.ble args.length n=Ta) {R:ie b->Prop} {F:Prop} (H:F) (e:F=WA P gl tr n pl (codeOf fn) [] (Ah P rs b R) (nk 0 args) []):PC P gl f args b R:=
 QW c gl tr pl args h j i k hz (e ▸ H)
end
end Go.X
end
section
namespace Go.X
open Go Go.RowKit
section
variable {P:Program} {f:FuncId} {h:zc} {M gl:Fr} {v:Value} {us:List Value}
theorem XC.of_calls{args:Array Value}{R:Value->zc->Prop}
  (H:∀B d,Calls P f args (mk B d h) λe w'=>∃v,e=.returned v/\w'.os=B.os/\w'.tape=B.tape/\w'.output=B.output/\R v w'.heap):XC P f args h R:=by
 intro B d;refine(H B d).mono ?_;rintro e w' ⟨v,rfl,h1,b,i,c⟩;refine⟨v,w'.drawn,w'.heap,rfl,?_,c⟩;cases w';simp only[mk]at *;subst h1;subst b;subst i;rfl
theorem AgM.keep{h h':zc}(ag:AgM M h)(k:Keep h.size h h'):AgM M h':=λb c e=>by obtain⟨T,m,f⟩:=ag b c e;exact⟨T,m,by rw[k.get b (ag.lt e)];exact f⟩
def oX:Arg->Option Value
 |⟨.int k,x⟩=>Td (.int k x)
 |⟨.bool,x⟩=>Td (.bool x)
 |⟨.str,x⟩=>Td (.string x)
 |_=>Te
def nN:List Arg->Option (List Value)
 |[]=>Td []
 |a::l=>match oX a,nN l with
  |some v,some vs=>Td (v::vs)
  |_,_=>Te
theorem QK{a:Arg}{v u:Value}(h:oX a=Td v)(b:RdV M a.t a.x u):u=v:=by
 obtain⟨t,x⟩:=a;cases t with
 |int k=>simp only[oX,XU]at h;subst h;simpa[RdV,Rd,iu]using b
 |bool=>simp only[oX,XU]at h;subst h;simpa[RdV,Rd,iu]using b
 |str=>simp only[oX,XU]at h;subst h;simpa[RdV,Rd,iu]using b
 |_=>simp[oX]at h
theorem zW{M:Fr}:∀{l:List Arg} {vs us:List Value},nN l=Td vs->Xw M l us->us=vs
 |[],vs,us,h,hd=>by
  simp only[nN,XU]at h;subst h;cases us with
  |nil=>rfl
  |cons _ _=>exact hd.elim
 |a::l,vs,us,h,hd=>by
  simp only[nN]at h;split at h;rename_i v c h1 b;simp only[XU]at h;subst h;cases us with
  |nil=>exact hd.elim
  |cons u us=>rw[QK h1 hd.1,zW b hd.2]
  cases h
theorem PC.of_scal{args:List Arg}{l:List Ty}{R:ie l->Prop}(j:nN args=Td us){r:ie l}(o:∀M,ig M l r v)(p:R r)
  (H:∀w:World,AgM gl w.heap->Calls P f us.toArray w λe w'=>e=.returned v/\Below w.heap.size w w'):PC P gl f args l R:=by
 intro h M vs m ag n;rw[zW j n];refine XC.of_calls λB d=>(H (mk B d h) λb c e=>ag b c (m b c e)).mono ?_;rintro e w' ⟨rfl,i⟩;have k:Keep h.size h w'.heap:=⟨i.size,i.block⟩;exact⟨v,rfl,i.os,i.tape,i.output,k,M,r,Fr.le.refl _,λ_ _=>rfl,ag.keep k,o M,p⟩
theorem PC.of_same{args:List Arg}{c:List Ty}{R:ie c->Prop}(b:nN args=Td us){r:ie c}(i:∀M,ig M c r v)(k:R r)
  (H:∀w:World,AgM gl w.heap->Calls P f us.toArray w λe w'=>e=.returned v/\w'=w):PC P gl f args c R:=
 PC.of_scal b i k λw h=>(H w h).mono λe w' ⟨h1,j⟩=>⟨h1,j ▸ Below.refl _ _⟩
theorem Uf(k:IntKind)(i:Int):ig M [.int k] i (.int k i):=⟨[_],⟨_,rfl,rfl⟩,rfl⟩
theorem Od(b:Bool):ig M [.bool] b (.bool b):=⟨[_],⟨_,rfl,rfl⟩,rfl⟩
theorem oN(s:Bt):ig M [.str] s (.string s):=⟨[_],⟨_,rfl,rfl⟩,rfl⟩
theorem AgM.glob{w:World}(ag:AgM gl w.heap){b o:Nat}{cs:Array Value}(f:gl b=Td cs)(c:cs[o]?=Td v):w.cell? ⟨b,o,Option.none⟩=Td v:=by obtain⟨T,m,e⟩:=ag b cs f;simp[World.cell?,e,c]
theorem VJ{xs:List Bt}{cells:List Value}(H:RowC M .str xs cells):cells=xs.map ZC:=by
 obtain⟨h1,b⟩:=H;simp only[sz,zac]at h1 b;refine List.ext_getElem (by simp[h1]) λi hi f=>?_;have c:i<xs.length:=by omega
 have:=b i c;have e:(cells.drop i).take 1=[cells[i]]:=by rw[zaf hi];rfl
 rw[e]at this;have:=show[cells[i]]=[ZC xs[i]]from this;simpa using this
theorem PC.of_ex{args:List Arg}{l:List Ty}{R:ie l->Prop}(j:nN args=Td us)
  (H:∀w:World,AgM gl w.heap->Calls P f us.toArray w λe w'=>∃v r,e=.returned v/\(∀M,ig M l r v)/\R r/\Below w.heap.size w w'):PC P gl f args l R:=by
 intro h M vs m ag n;rw[zW j n];refine XC.of_calls λB d=>(H (mk B d h) λb c e=>ag b c (m b c e)).mono ?_;rintro e w' ⟨v,r,rfl,o,p,i⟩;have k:Keep h.size h w'.heap:=⟨i.size,i.block⟩;exact⟨v,rfl,i.os,i.tape,i.output,k,M,r,Fr.le.refl _,λ_ _=>rfl,ag.keep k,o M,p⟩
end
end Go.X
end
