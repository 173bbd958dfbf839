/- A part of the proof: nothing is stated here for its own sake. -/
import Derived.Test.YtlpdhcjkhfkfmaaGreatDoorPmC
import Derived.Lib.AppendZerosOnto
import Derived.RangeFuncCalls
import Derived.Sort.OwnSorted
open _root_.Go.Addr renaming add->NG
open _root_.Array renaming getD_eq_getD_getElem?->OL,getElem?_append_left->Pu,getElem?_eq_some_iff->NK,getElem?_push->OZ,getElem?_setIfInBounds_ne->NW,getElem?_setIfInBounds_self_of_lt->Pk,getElem?_toList->OF,push->PD,replicate->OV,size->Pf,size_push->NN,size_setIfInBounds->O3
open _root_.Bool renaming and_eq_true->NP,eq_iff_iff->Om,or_eq_true->Pi
open _root_.Go.Builtin renaming append_->NX
open _root_.Go.Code renaming cond->Rh,region->Rn
open _root_.Go.Deferred renaming ofValue->QR
open _root_.Go.Extern.AbiNoEscape renaming same->Ry
open _root_.False renaming elim->QL
open _root_.Go.Instr renaming entry->Rm,lookup->QJ,makeSlice->Pt,mapUpdate->O8,next->QE,range->Rk,storeAt->NR
open _root_.Int renaming toNat_natCast->NE,toNat_of_nonneg->QF
open _root_.Go.IntKind renaming wrap->NB
open _root_.List renaming all_eq_true->N3,append_assoc->Od,append_nil->Oe,cons_append->Ox,drop->Rr,drop_drop->QO,drop_eq_getElem_cons->Po,drop_eq_nil_of_le->Pd,drop_zero->Pv,eq_nil_of_length_eq_zero->N5,ext_getElem?->OG,filter_cons->O0,getD_eq_getElem?_getD->Oo,getElem?_append_left->Pb,getElem?_append_right->O9,getElem?_eq_getElem->NL,getElem?_eq_none->Ow,getElem?_eq_some_iff->Ou,getElem?_map->OM,getElem?_take->N4,getElem_cons_zero->PS,getElem_map->QT,getElem_mem->Ot,length->OA,length_append->NH,length_cons->NU,length_drop->ON,length_eq_zero_iff->Ov,length_map->NM,length_nil->OE,length_pos_iff->PQ,length_range->P7,length_replicate->PG,length_take->N8,map_append->Oq,map_congr_left->Pq,map_cons->N2,map_map->Ol,map_nil->QV,mem_append->N0,mem_append_left->NT,mem_append_right->N1,mem_cons->NI,mem_cons_of_mem->NF,mem_cons_self->NQ,mem_filter->Pm,mem_iff_getElem->PM,mem_map->N9,mem_range->Og,mem_singleton->OO,nil_append->OU,nodup_append->QC,nodup_cons->OP,nodup_nil->Rf,not_mem_nil->QW,pairwise_iff_getElem->PY,pairwise_map->Py,range->OB,replicate->Ph,size_toArray->P8,take->Ri,take_append_drop->OX,take_left->QN,take_length->N7,take_of_length_le->Pe,take_succ_eq_append_getElem->Oc
open _root_.Nat renaming add_zero->Pw,blt_eq->Pp,eq_of_beq_eq_true->NJ,le_of_ble_eq_true->OW,le_of_lt->QU,le_refl->ND,le_trans->OD,lt_of_lt_of_le->PU,lt_or_ge->Ob,min_eq_left->P5,mul_le_mul->Pz,mul_le_mul_right->Oa,mul_one->OI,not_lt_zero->Ra,succ_mul->QB,zero_add->NZ,zero_le->NV,zero_mul->QS
open _root_.Go.Next renaming value->QD
open _root_.Option renaming bind_some->PH,map_eq_some_iff->Pn
open _root_.Option.some renaming inj->NY
open _root_.Go.Region renaming wanted->OY
open _root_.Go.Proofs.Tryz renaming prog->NS
open _root_.UInt8 renaming ofNat->PL
open _root_.Go.Utf8 renaming decode->Rw
open _root_.Go.Value renaming int->OH,string->OK
open _root_.Go.Value.slice renaming injEq->N6
open _root_.Go.World renaming cell?->Ro
set_option linter.unusedVariables false
set_option maxRecDepth 100000
namespace Go.X
end Go.X
namespace Go.Proofs
end Go.Proofs
open Go Go.X Go.Proofs
open _root_.Bool renaming true->Ta,false->Tc
open _root_.Option renaming some->Td,none->Te
section
namespace Go.X
section
variable {i k:Nat} {e:Int}
abbrev dt:=List Bt×List Int
abbrev bK:=Int×Int
def dy(p:Nat×Nat):bK:=((p.1:Int),(p.2:Int))
def qf(m:List bK)(i:Nat):bK:=m.getD i (0,0)
theorem yp{m:List bK}(h:i<m.length):m[i]=qf m i:=by unfold qf;rw[Oo,NL h];rfl
def eV(t:dt)(i k:Int):Bool:=decide (cR t.2 k.toNat<=i)&&decide (i<k)
def eT(s t:dt)(p:bK):Bool:=decide (0<=p.1)&&decide (p.1<s.1.length)&&(decide (0<=p.2)&&decide (p.2<t.1.length))
def gu(s t:dt)(q p:bK):Bool:=decide (q.1<p.1)&&decide (q.2<p.2)&&(eV s q.1 p.1==eV t q.2 p.2)
def eI(s t:dt)(m:List bK)(x:Nat):Bool:=eT s t (qf m x)&&(OB x).all λy=>gu s t (qf m y) (qf m x)
def zo(s t:dt)(m:List bK):Bool:=zd s&&zd t&&(OB m.length).all (eI s t m)
def Zl(n:Nat)(xs:List Int):List Int:=((OB n).filter λi:Nat=>!xs.contains (i:Int)).map λi:Nat=>(i:Int)
def eq(s:dt)(i:Int):Bt:=d5 s.1 i.toNat
def eR(s t:dt)(m:List bK):List bK:=m.filter λp=>!decide (eq s p.1=eq t p.2)
def qb(e:Int)(s t:dt)(m:List bK):List Int×List Int×List bK×Int:=
 if zo s t m=Ta then(Zl s.1.length (m.map (·.1)),Zl t.1.length (m.map (·.2)),eR s t m,0)else([],[],[],e)
def yh(e:Int)(s t:dt)(m:List bK):Int×Int:=(((qb e s t m).1.length+(qb e s t m).2.1.length+(qb e s t m).2.2.1.length:Nat),(qb e s t m).2.2.2)
def dz(p q:bK):Bool:=decide (p.1<q.1)||(decide (p.1=q.1)&&decide (p.2<=q.2))
def Qf(m:List bK):List bK:=m.mergeSort dz
def xh(m:List bK):List bK:=Qf (m.map λp=>(p.2,p.1))
def Jp(m n:List bK):List bK:=m.flatMap λp=>(n.filter λq=>decide (q.1=p.2)).map λq=>(p.1,q.2)
def Xc(e:Int)(s t:dt):List bK×Int:=if(zd s&&zd t)=Ta then(Qf ((lN s t).map dy),0)else([],e)
def fO(e:Int)(s t:dt):Int×Int:=if(zd s&&zd t)=Ta then((gN (aR s) (aR t) (bR s t) (gC s t) 0 0 s.2.length t.2.length:Nat),0)else(0,e)
theorem qg{t:dt}(h:zd t=Ta):t.1.length=t.2.length/\eA t.2 t.2.length=Ta:=by unfold zd at h;simp only[NP,zC]at h;exact⟨h.1.1,h.2⟩
theorem Z7{t:dt}(h:zd t=Ta)(hi:i<t.2.length):cR t.2 i=((aR t i:Nat):Int):=by have:=(xn.1 (Jn.1 (qg h).2 i hi)).1;unfold aR;omega
theorem xZ{t:dt}(h:zd t=Ta)(b:k<t.2.length):eV t (i:Int) (k:Int)=(decide (aR t k<=i)&&decide (i<k)):=by unfold eV;rw[NE,Z7 h b];congr 1 <;> exact decide_eq_decide.2 (by omega)
theorem vS{s t:dt}{m:List bK}:(OB k).all (eI s t m)=Ta↔∀x,x<k->eT s t (qf m x)=Ta/\∀y,y<x->gu s t (qf m y) (qf m x)=Ta:=by rw[N3];constructor;intro h x e;have:=h x (Og.2 e);unfold eI at this;rw[NP,N3]at this;exact⟨this.1,λy c=>this.2 y (Og.2 c)⟩;intro h x e;obtain⟨a,b⟩:=h x (Og.1 e);unfold eI;rw[NP,N3];exact⟨a,λy c=>b y (Og.1 c)⟩
theorem Z8{s t:dt}{m:List bK}:zo s t m=Ta↔zd s=Ta/\zd t=Ta/\∃M:List (Nat×Nat),m=M.map dy/\ii 0 s.2.length 0 t.2.length M/\ej (aR s) (aR t) M:=by
 unfold zo;rw[NP,NP,vS];constructor;rintro⟨⟨e,c⟩,h⟩;refine⟨e,c,m.map λp=>(p.1.toNat,p.2.toNat),?_,λp n=>?_,?_⟩;rw[Ol];refine(List.map_id m).symm.trans (Pq λp n=>?_);obtain⟨i,hi,rfl⟩:=PM.1 n;have:=(h i hi).1;rw[<-yp hi]at this;unfold eT at this;simp only[NP,zC]at this;show m[i]=(((m[i].1.toNat:Nat):Int),((m[i].2.toNat:Nat):Int));rw[QF this.1.1,QF this.2.1];obtain⟨C,q,rfl⟩:=N9.1 n;obtain⟨i,hi,rfl⟩:=PM.1 q;have:=(h i hi).1;rw[<-yp hi]at this;unfold eT at this;simp only[NP,zC]at this;have u:=(qg e).1;have w:=(qg c).1;exact⟨NV _,by show m[i].1.toNat<_;omega,NV _,by show m[i].2.toNat<_;omega⟩;refine Py.2 (PY.2 λy x j f k=>?_);obtain⟨a,b⟩:=h x f;have l:=(h y j).1;have b:=b y k;rw[<-yp f]at a b;rw[<-yp j]at l b;unfold eT at a l;unfold gu eV at b;simp only[NP,zC,beq_iff_eq]at a l b;obtain⟨⟨b1,b2⟩,b3⟩:=b;have u:=(qg e).1;have w:=(qg c).1;refine⟨by show m[y].1.toNat<m[x].1.toNat;omega,by show m[y].2.toNat<m[x].2.toNat;omega,?_⟩;show aR s m[x].1.toNat<=m[y].1.toNat↔aR t m[x].2.toNat<=m[y].2.toNat;rw[Z7 e (i:=m[x].1.toNat) (by omega),Z7 c (i:=m[x].2.toNat) (by omega),zG b1,zG b2,Bool.and_true,Bool.and_true,decide_eq_decide]at b3;omega;rintro⟨e,c,M,rfl,r,z⟩;refine⟨⟨e,c⟩,λx f=>?_⟩;rw[NM]at f;have u:=(qg e).1;have w:=(qg c).1;have o:∀y,(j:y<M.length)->qf (M.map dy) y=dy M[y]:=λy j=>by rw[<-yp (by rw[NM];exact j),QT]
 have A:=r M[x] (Ot f);refine⟨?_,λy j=>?_⟩;rw[o x f];unfold eT dy;simp only[NP,zC];omega;have B:=r M[y] (Ot (by omega));obtain⟨b1,b2,b3⟩:=PY.1 z y x (by omega) f j;rw[o x f,o y (by omega)];unfold gu;rw[show(dy M[y]).1=((M[y].1:Nat):Int)from rfl,show(dy M[x]).1=((M[x].1:Nat):Int)from rfl,show(dy M[y]).2=((M[y].2:Nat):Int)from rfl,show(dy M[x]).2=((M[x].2:Nat):Int)from rfl,xZ e (by omega),xZ c (by omega),zG b1,zG b2];simp only[NP,zC,Bool.and_true,beq_iff_eq,decide_eq_decide];exact⟨⟨by omega,by omega⟩,b3⟩
theorem Ao{n:Nat}{S:List Nat}(b:S.Pairwise (· < ·))(c:∀x∈S,x<n):(Zl n (S.map λi:Nat=>(i:Int))).length+S.length=n:=by
 unfold Zl;rw[NM];have k:=congrArg OA (sQ b c);have e:(OB n).filter (λi:Nat=>!(S.map λi:Nat=>(i:Int)).contains (i:Int))=(OB n).filter λi=>!decide (i∈S):=by refine List.filter_congr λi _=>?_;congr 1;rw[Om,List.contains_iff_mem,zC,N9];exact⟨λ⟨a,h,e⟩=>by rw[<-Int.ofNat_inj.1 e];exact h,λh=>⟨i,h,rfl⟩⟩
 rw[e];have f:∀l:List Nat,(l.filter λi=>!decide (i∈S)).length+(l.filter λx=>decide (x∈S)).length=l.length:=λl=>by
  induction l with
  |nil=>rfl
  |cons a l j=>simp only[O0,NU];cases decide (a∈S) <;> simp <;> omega
 have:=f (OB n);rw[P7]at this;omega
theorem uR(s t:dt):∀M:List (Nat×Nat),(eR s t (M.map dy)).length=dv (bR s t) M
 |[]=>rfl
 |p::M=>by
  have:=uR s t M;have e:dv (bR s t) (p::M)=bR s t p.1 p.2+dv (bR s t) M:=by unfold dv;rw[N2,List.sum_cons]
  rw[e];unfold eR at this ⊢;rw[N2,O0];have f:bR s t p.1 p.2=if d5 s.1 p.1=d5 t.1 p.2 then 0 else 1:=rfl;rw[f];have c:eq s (dy p).1=d5 s.1 p.1:=by unfold eq dy;rw[NE]
  have b:eq t (dy p).2=d5 t.1 p.2:=by unfold eq dy;rw[NE]
  rw[c,b];by_cases h:d5 s.1 p.1=d5 t.1 p.2;rw[zG h,zz h,Bool.not_true,zv (by simp)];omega;rw[zH h,zv h,Bool.not_false,zz rfl,NU];omega
theorem GM{la lb:Nat->Nat}{M:List (Nat×Nat)}(h:ej la lb M):(M.map (·.1)).Pairwise (· < ·):=Py.2 (h.imp λh=>h.1)
theorem xJ{la lb:Nat->Nat}{M:List (Nat×Nat)}(h:ej la lb M):(M.map (·.2)).Pairwise (· < ·):=Py.2 (h.imp λh=>h.2.1)
theorem uN{s t:dt}{M:List (Nat×Nat)}(j:zd s=Ta)(i:zd t=Ta)(f:ii 0 s.2.length 0 t.2.length M)(b:ej (aR s) (aR t) M):
  (qb e s t (M.map dy)).2.2.2=0/\(qb e s t (M.map dy)).1.length+M.length=s.1.length/\(qb e s t (M.map dy)).2.1.length+M.length=t.1.length/\(qb e s t (M.map dy)).2.2.1.length=dv (bR s t) M:=by
 unfold qb;rw[zz (Z8.2 ⟨j,i,M,rfl,f,b⟩)];have k:=(qg j).1;have l:=(qg i).1;refine⟨rfl,?_,?_,uR s t M⟩;have:=Ao (n:=s.1.length) (GM b) λx h=>by obtain⟨p,c,rfl⟩:=N9.1 h;have:=f p c;omega
 rw[Ol,NM]at this;rw[Ol];exact this;have:=Ao (n:=t.1.length) (xJ b) λx h=>by obtain⟨p,c,rfl⟩:=N9.1 h;have:=f p c;omega
 rw[Ol,NM]at this;show(Zl t.1.length ((M.map dy).map (·.2))).length+M.length=t.1.length;rw[Ol];exact this
theorem Jq{s t:dt}{M:List (Nat×Nat)}(c:zd s=Ta)(b:zd t=Ta)(h:ii 0 s.2.length 0 t.2.length M)(f:ej (aR s) (aR t) M):
  (yh e s t (M.map dy)).1+2*M.length=s.2.length+t.2.length+dv (bR s t) M/\(yh e s t (M.map dy)).2=0:=by
 obtain⟨i,k,n,j⟩:=uN (e:=e) c b h f;have l:=(qg c).1;have m:=(qg b).1;unfold yh;exact⟨by simp only[];omega,i⟩
theorem wF(a b:bK):(dz a b||dz b a)=Ta:=by unfold dz;simp only[Pi,NP,zC];omega
theorem CE(a b c:bK)(f:dz a b=Ta)(e:dz b c=Ta):dz a c=Ta:=by unfold dz at *;simp only[Pi,NP,zC]at *;omega
theorem Lq{a b:bK}(c:dz a b=Ta)(e:dz b a=Ta):a=b:=by unfold dz at *;simp only[Pi,NP,zC]at *;exact Prod.ext (by omega) (by omega)
theorem po{a b:List bK}(e:a.Perm b)(c:a.Pairwise λx y=>dz x y=Ta):Qf b=a:= List.Perm.eq_of_pairwise (le:=λx y=>dz x y=Ta) (λx y _ _ h f=>Lq h f) (List.pairwise_mergeSort CE wF b) c ((List.mergeSort_perm b _).trans e.symm)
theorem wY{la lb:Nat->Nat}{M:List (Nat×Nat)}(h:ej la lb M):(M.map dy).Pairwise λx y=>dz x y=Ta:= Py.2 (h.imp λ {a b} h=>by unfold dz dy;simp only[Pi,NP,zC];omega)
theorem sd{s t:dt}(b:zd s=Ta)(c:zd t=Ta):Xc e s t=((jD s t).map dy,0):=by unfold Xc;rw[b,c,Bool.and_self,zz rfl];congr 1;refine po ?_ (wY (Cw (qg b).2 (qg c).2).2.1);unfold jD;exact(List.reverse_perm _).map _
theorem pE{s t:dt}(c:zd s=Ta)(b:zd t=Ta):
  zo s t (Xc e s t).1=Ta/\yh e s t (Xc e s t).1=fO e s t/\∀m,zo s t m=Ta->(fO e s t).1<=(yh e s t m).1:=by
 obtain⟨k,h,p,n⟩:=Cw (qg c).2 (qg b).2;rw[sd c b];have f:=Jq (e:=e) c b k h;have l:fO e s t=(((gN (aR s) (aR t) (bR s t) (gC s t) 0 0 s.2.length t.2.length:Nat):Int),(0:Int)):=by unfold fO;rw[c,b,Bool.and_self,zz rfl]
 refine⟨Z8.2 ⟨c,b,_,rfl,k,h⟩,?_,λm o=>?_⟩;rw[l];exact Prod.ext (by have:=f.1;simp only[];omega) f.2;obtain⟨_,_,M,rfl,i,j⟩:=Z8.1 o;have:=(Jq (e:=e) c b i j).1;have:=n M j i;rw[l];simp only[];omega
theorem IA(M N:List (Nat×Nat)):Jp (M.map dy) (N.map dy)=(Zj M N).map dy:=by unfold Jp Zj;rw[List.flatMap_map,List.map_flatMap];refine congrArg (List.flatMap · M) (funext λp=>?_);rw[List.filter_map,Ol,Ol];refine congrArg (List.map _ ·) (List.filter_congr λq _=>?_);show decide (((q.1:Nat):Int)=((p.2:Nat):Int))=decide (q.1=p.2);exact decide_eq_decide.2 (by omega)
theorem JZ{a b c:dt}{m n:List bK}(A:zo a b m=Ta)(y:zo b c n=Ta):(yh e a c (Jp m n)).2=0/\(yh e a c (Jp m n)).1<=(yh e a b m).1+(yh e b c n).1:=by
 obtain⟨s,t,M,rfl,k,i⟩:=Z8.1 A;obtain⟨_,u,N,rfl,l,f⟩:=Z8.1 y;rw[IA];have w:=Ci f i;have z:ii 0 a.2.length 0 c.2.length (Zj M N):=λr x=>by obtain⟨p,j,q,o,e,rfl⟩:=uB.1 x;have:=k p j;have:=l q o;exact⟨NV _,by show p.1<_;omega,NV _,by show q.2<_;omega⟩
 obtain⟨G,B⟩:=Jq (e:=e) s u z w;have C:=(Jq (e:=e) s t k i).1;have D:=(Jq (e:=e) t u l f).1;have F:=Cm (Le a b c) M N ((xJ i).imp λh=>by omega) λc=>s8 f;have E:=Fp (n:=b.2.length) i f (λp j=>by have:=k p j;omega) λq o=>by have:=l q o;omega
 exact⟨B,by omega⟩
theorem qS{la lb:Nat->Nat}{M:List (Nat×Nat)}(h:ej la lb M):ej lb la (M.map λp=>(p.2,p.1)):=Py.2 (h.imp λh=>⟨h.2.1,h.1,h.2.2.symm⟩)
theorem BJ{la lb:Nat->Nat}{M:List (Nat×Nat)}(h:ej la lb M):xh (M.map dy)=(M.map λp=>(p.2,p.1)).map dy:=by unfold xh;refine po ?_ (wY (qS h));rw[Ol,Ol];exact List.Perm.refl _
theorem JB(s t:dt)(M:List (Nat×Nat)):dv (bR t s) (M.map λp=>(p.2,p.1))=dv (bR s t) M:=by unfold dv;rw[Ol];congr 1;refine Pq λp _=>?_;show(if d5 t.1 p.2=d5 s.1 p.1 then 0 else 1)=if d5 s.1 p.1=d5 t.1 p.2 then 0 else 1;by_cases h:d5 s.1 p.1=d5 t.1 p.2;rw[zz h,zz h.symm];rw[zv h,zv λe=>h e.symm]
theorem ML{s t:dt}{m:List bK}(h:zo s t m=Ta):yh e t s (xh m)=yh e s t m/\xh (xh m)=m:=by obtain⟨f,c,M,rfl,i,b⟩:=Z8.1 h;rw[BJ b];refine⟨?_,?_⟩;obtain⟨n,o⟩:=Jq (e:=e) c f (M:=M.map λp=>(p.2,p.1)) (λr k=>by obtain⟨p,l,rfl⟩:=N9.1 k;have:=i p l;exact⟨NV _,by show p.2<_;omega,NV _,by show p.1<_;omega⟩) (qS b);obtain⟨q,j⟩:=Jq (e:=e) f c i b;rw[NM,JB]at n;exact Prod.ext (by omega) (by rw[o,j]);rw[BJ (qS b)];refine congrArg (List.map dy) ?_;rw[Ol];exact List.map_id' M
theorem Yo{s t:dt}{m:List bK}(h:zo s t m=Tc):qb e s t m=([],[],[],e):=by unfold qb;rw[h];rfl
theorem x5{s t:dt}{m:List bK}(h:zo s t m=Ta):(qb e s t m).2.2.2=0/\(qb e s t m).1.length+m.length=s.1.length/\(qb e s t m).2.1.length+m.length=t.1.length/\(qb e s t m).2.2.1.length<=m.length:=by obtain⟨f,b,M,rfl,i,l⟩:=Z8.1 h;obtain⟨k,j,c,_⟩:=uN (e:=e) f b i l;refine⟨k,by rw[NM];exact j,by rw[NM];exact c,?_⟩;unfold qb;rw[zz h];exact List.length_filter_le _ _
end
end Go.X
end
section
namespace Go.Proofs.YtlpdhcjkhfkfmaaGreatDoor
open Go Go.X Go.ChangeShapes Go.WideShapes Go.ChangeAt Go.RowKit Go.Lib
set_option linter.unusedVariables false
section
variable {H:Type} {held:Bool} {fuel:Nat} {cs:List Value}
theorem Mf{enc:TypeId×Value->H}{W:World}{sp:Nat->Bool}{x:DataW H×List MemPlace}(h:DataW.trod enc NS W 0 sp held fuel 41 cs=some x):∃o:bK,Rd (Fz W) (.pair (.int .i64) (.int .i64)) o cs:=by
 obtain⟨xs,n,rfl,m,k,f,b⟩:=DataW.trod_struct Tryz.underlying41 h;have e:cs.length=2:=k.trans (by kernel_rfl);have i:xs.length=2:=f;have c:DataW.trod enc NS W 0 sp held n 3 ((cs.drop 0).take (NS.cellsOf 3))=xs[0]?:=b 0 _ rfl;have g1:DataW.trod enc NS W 0 sp held n 3 ((cs.drop 1).take (NS.cellsOf 3))=xs[1]?:=b 1 _ rfl;rw[NL (by omega)]at c g1;have c1:NS.cellsOf 3=1:=by kernel_rfl
 rw[c1]at c g1;obtain⟨p,j⟩:=sV Tryz.underlying3 c;obtain⟨q,l⟩:=sV Tryz.underlying3 g1;exact⟨(p,q),_,_,uA e,j,l⟩
theorem ma{enc:TypeId×Value->H}{W:World}{sp:Nat->Bool}{x:DataW H×List MemPlace}(h:DataW.trod enc NS W 0 sp held fuel 26 cs=some x)(c:gQ NS 26 x.1):∃xs:List bK,Rd (Fz W) (.row (.pair (.int .i64) (.int .i64))) xs cs:= sJ (T:=.pair (.int .i64) (.int .i64)) Tryz.underlying26 (by kernel_rfl) (by decide) (by decide +kernel) (λ_ _ cs y b e=>Mf b) h c
end
end Go.Proofs.YtlpdhcjkhfkfmaaGreatDoor
end
section
namespace Go.X
section
def tB(P:Program)(t:TypeId)(n:Nat)(u:Value)(h:za)(K:Value->za->Prop):Prop:=
 ie P (do let x <-Instr.buildSlice t n #[(0,u)];pure (QD x)) h λb h'=>match b with
  |.value v=>K v h'
  |.skip=>K undef h'
  |_=>False
end
section
theorem LR(b:Int)(c:Bt)(d:Sl)(e:Sl)(h:za)(R:Value->za->Prop) (H:let f:=h.push (.cells #[iV b,.string c,aK d,aK e] 48);let g:=f.push (.cells #[.slice Te 0 0,.slice Te 0 0] 25);∃i j k l,ze g ⟨h.size,0,Te⟩ 0 (tL i j k l)/\XC Tp 42 #[tA i j k l] g (λm n=>∃o,m=.bool o/\((!o)=Ta->XRunU Tp (NR 25 (.pointer (Td ⟨f.size,0,Te⟩)) (.agg #[.slice Te 0 0,.slice Te 0 0])) n (λp=>∃q r,ze p ⟨f.size,0,Te⟩ 0 [aK q,aK r]/\R (.tuple #[.agg #[aK q,aK r],iV 1]) p))/\((!o)=Tc->let s:=n.push (.cells #[.slice Te 0 0,.slice Te 0 0] 80);∃t u v w,ze s ⟨h.size,0,Te⟩ 0 (tL t u v w)/\XC Tp 44 #[tA t u v w] s (λx y=>∃z A B C,x=tA z A B C/\XC Tp 43 #[.pointer (Td ⟨n.size,0,Te⟩),tA z A B C] y (λD E=>D=.tuple #[]/\∃F,zb E (NG (NG ⟨n.size,0,Te⟩ 0) 0)=Td (aK F)/\(decide ((F.len:Int)>512)=Ta->XRunU Tp (NR 25 (.pointer (Td ⟨f.size,0,Te⟩)) (.agg #[.slice Te 0 0,.slice Te 0 0])) E (λG=>∃I J,ze G ⟨f.size,0,Te⟩ 0 [aK I,aK J]/\R (.tuple #[.agg #[aK I,aK J],iV 6]) G))/\(decide ((F.len:Int)>512)=Tc->∃L M,ze E (NG ⟨n.size,0,Te⟩ 0) 0 [aK L,aK M]/\XRunU Tp (NR 25 (.pointer (Td ⟨f.size,0,Te⟩)) (.agg #[aK L,aK M])) E (λN=>∃O P,ze N ⟨f.size,0,Te⟩ 0 [aK O,aK P]/\R (.tuple #[.agg #[aK O,aK P],iV 0]) N))))))):
  XC Tp 26 #[.agg #[.int .i64 b,.string c,.slice d.a d.len d.cap,.slice e.a e.len e.cap]] h R:=
 XF ⟨[],[],[]⟩ [.cell 2 25,.tmp 3] 20 Tryz.func26 H
theorem FQ(b:Sl)(c:Sl)(h:za)(R:Value->za->Prop) (H:let d:=h.push (.cells #[aK b,aK c] 25);∃e f,ze d ⟨h.size,0,Te⟩ 0 [aK e,aK f]/\XC Tp 18 #[.agg #[aK e,aK f]] d (λg i=>∃j,g=.bool j/\((!j)=Ta->R (.slice Te 0 0) i)/\((!j)=Tc->let k:=i.push (.map #[] 0);∃l,zb k (NG ⟨h.size,0,Te⟩ 1)=Td (aK l)/\∃(m:Int->za->Prop) (n:Int->za->Nat),m 0 k/\∀o:Int,∀p:za,m o p->((decide (o<l.len)=Ta->∃q,(l.a=Td q/\0<=o/\o<l.len)/\∃r,zb p (q.add (o.toNat*1))=Td (iV r)/\XRunU Tp (O8 118 (.map (Td i.size)) (iV r) (iV o)) p (λs=>(m (NB .i64 (o+1)) s/\n (NB .i64 (o+1)) s<n o p)))/\(decide (o<l.len)=Tc->jh Tp (Rk 118 (.map (Td i.size))) p (λt u=>∃v:Option Addr,t=.pointer v/\∃(w:Sl->za->Prop) (x:Sl->za->Nat),w (⟨Te,0,0⟩:Sl) u/\∀y:Sl,∀z:za,w y z->(jh Tp (QE (.pointer v) Tc 0) z (λA B=>(A=.tuple #[.bool Tc]/\(Tc=Ta->jh Tp (Rm (.pointer v)) B (λC D=>∃E F:Value,C=.tuple #[E,F]/\tB Tp 23 1 F D (λG I=>jh Tp (NX #[23,23] 23 #[aK y,G]) I (λJ L=>∃M,J=aK M/\(w M L/\x M L<x y z)))))/\(Tc=Tc->XC Tp 81 #[aK y] B (λN O=>N=.tuple #[]/\R (aK y) O)))\/∃P Q:Value,A=.tuple #[.bool Ta,P,Q]/\(Ta=Ta->jh Tp (Rm (.pointer v)) B (λS T=>∃U V:Value,S=.tuple #[U,V]/\tB Tp 23 1 V T (λW X=>jh Tp (NX #[23,23] 23 #[aK y,W]) X (λY Z=>∃aa,Y=aK aa/\(w aa Z/\x aa Z<x y z)))))/\(Ta=Tc->XC Tp 81 #[aK y] B (λab ac=>ab=.tuple #[]/\R (aK y) ac)))))))))):
  XC Tp 50 #[.agg #[.slice b.a b.len b.cap,.slice c.a c.len c.cap]] h R:=
 XF ⟨[],[(5,[(16,.one (.int .i64))]),(11,[(6,.one (.sl))])],[]⟩ [.tmp 2] 38 Tryz.func50 H
theorem Xd(b0:Option Addr)(b:Int)(c:Bt)(d:Sl)(e:Sl)(h:za)(R:Value->za->Prop) (H:let f:=h.push (.cells #[.pointer b0] 100);let g:=f.push (.cells #[iV b,.string c,aK d,aK e] 48);∃i,zb g (NG ⟨f.size,0,Te⟩ 0)=Td (iV i)/\((i==5)=Ta->∃j:Option Addr,zb g ⟨h.size,0,Te⟩=Td (.pointer j)/\XC Tp 60 #[.pointer j,.string (⟨#[91]⟩:Bt),.func (.func 61) #[] #[.pointer (Td ⟨f.size,0,Te⟩),.pointer (Td ⟨h.size,0,Te⟩)]] g (λk l=>k=.tuple #[]/\R (.tuple #[]) l))/\((i==5)=Tc->((i==6)=Ta->∃m:Option Addr,zb g ⟨h.size,0,Te⟩=Td (.pointer m)/\XC Tp 60 #[.pointer m,.string (⟨#[123]⟩:Bt),.func (.func 62) #[] #[.pointer (Td ⟨f.size,0,Te⟩),.pointer (Td ⟨h.size,0,Te⟩)]] g (λn o=>n=.tuple #[]/\R (.tuple #[]) o))/\((i==6)=Tc->∃p:Option Addr,zb g ⟨h.size,0,Te⟩=Td (.pointer p)/\∃q r s t,ze g ⟨f.size,0,Te⟩ 0 (tL q r s t)/\XC Tp 63 #[tA q r s t] g (λu v=>∃w,u=.string w/\(v)[(⟨h.size,0,Te⟩:Addr).block]?=(g)[(⟨h.size,0,Te⟩:Addr).block]?/\XC Tp 60 #[.pointer p,.string w,.func (.func 66) #[] #[]] v (λx y=>x=.tuple #[]/\R (.tuple #[]) y))))):
  XC Tp 43 #[.pointer b0,.agg #[.int .i64 b,.string c,.slice d.a d.len d.cap,.slice e.a e.len e.cap]] h R:=
 XF ⟨[(2,8000)],[],[]⟩ [] 20 Tryz.func43 H
theorem G1(b:Sl)(c:Sl)(h:za)(R:Value->za->Prop) (H:let d:=h.push (.cells #[aK b,aK c] 25);∃e,zb d (NG ⟨h.size,0,Te⟩ 0)=Td (aK e)/\∃f,zb d (NG ⟨h.size,0,Te⟩ 1)=Td (aK f)/\∃g,((!((e.len:Int) != (f.len:Int)))=Ta->zb d (NG ⟨h.size,0,Te⟩ 0)=Td (aK g))/\((bif ((e.len:Int) != (f.len:Int))then Ta else(decide ((g.len:Int)>512)))=Ta->R (.tuple #[.slice Te 0 0,.bool Tc]) d)/\((bif ((e.len:Int) != (f.len:Int))then Ta else(decide ((g.len:Int)>512)))=Tc->∃i,zb d (NG ⟨h.size,0,Te⟩ 1)=Td (aK i)/\jh Tp (Pt 23 (iV (i.len:Int)) (iV (i.len:Int))) d (λj k=>∃l,j=aK l/\∃m,zb k (NG ⟨h.size,0,Te⟩ 1)=Td (aK m)/\∃(n:Sl->Int->za->Prop) (o:Sl->Int->za->Nat),n (⟨Te,0,0⟩:Sl) 0 k/\∀p:Sl,∀q:Int,∀r:za,n p q r->((decide (q<m.len)=Ta->∃s,(m.a=Td s/\0<=q/\q<m.len)/\∃t,zb r (s.add (q.toNat*1))=Td (iV t)/\((bif (decide (t<0))then Ta else(decide (t>q)))=Ta->R (.tuple #[.slice Te 0 0,.bool Tc]) r)/\((bif (decide (t<0))then Ta else(decide (t>q)))=Tc->∃(u:Sl->za->Prop) (w:Sl->za->Nat),u p r/\∀x:Sl,∀y:za,u x y->(∃z,(decide ((x.len:Int)>0)=Ta->(x.a=Td z/\0<=(NB .i64 ((x.len:Int)-1))/\(NB .i64 ((x.len:Int)-1))<(x.len:Int)))/\∃A,(decide ((x.len:Int)>0)=Ta->zb y (z.add ((NB .i64 ((x.len:Int)-1)).toNat*1))=Td (iV A))/\((bif (decide ((x.len:Int)>0))then(decide (A>=t))else Tc)=Ta->∃B,(x.a=Td B/\0<=(NB .i64 ((x.len:Int)-1))/\(NB .i64 ((x.len:Int)-1))<(x.len:Int))/\∃C,zb y (B.add ((NB .i64 ((x.len:Int)-1)).toNat*1))=Td (iV C)/\∃D,zb y (NG ⟨h.size,0,Te⟩ 1)=Td (aK D)/\∃E,(D.a=Td E/\0<=C/\C<D.len)/\∃F,zb y (E.add (C.toNat*1))=Td (iV F)/\(decide (F<t)=Ta->R (.tuple #[.slice Te 0 0,.bool Tc]) y)/\(decide (F<t)=Tc->∃G,(l.a=Td G/\0<=C/\C<l.len)/\let I:za->Prop:=λ(J:za)=>((u (⟨dP x.a 1 ((0:Int).toNat) ((x.cap:Int).toNat),(NB .i64 ((x.len:Int)-1)).toNat-(0:Int).toNat,(x.cap:Int).toNat-(0:Int).toNat⟩:Sl) J/\w (⟨dP x.a 1 ((0:Int).toNat) ((x.cap:Int).toNat),(NB .i64 ((x.len:Int)-1)).toNat-(0:Int).toNat,(x.cap:Int).toNat-(0:Int).toNat⟩:Sl) J<w x y));(((Te:Option Value)=Te\/∃v,(Td (iV (NB .i64 ((x.len:Int)-1))):Option Value)=Td v)/\(0<=(0:Int)/\(0:Int)<=(NB .i64 ((x.len:Int)-1))/\(NB .i64 ((x.len:Int)-1))<=(x.cap:Int)/\(x.cap:Int)<=(x.cap:Int))/\XRunU Tp (NR 3 (.pointer (Td (G.add (C.toNat*1)))) (iV q)) y (λL=>I L))/\(XRunU Tp (NR 3 (.pointer (Td (G.add (C.toNat*1)))) (iV q)) y (λM=>((Te:Option Value)=Te\/∃v,(Td (iV (NB .i64 ((x.len:Int)-1))):Option Value)=Td v)/\(0<=(0:Int)/\(0:Int)<=(NB .i64 ((x.len:Int)-1))/\(NB .i64 ((x.len:Int)-1))<=(x.cap:Int)/\(x.cap:Int)<=(x.cap:Int))/\I M))))/\((bif (decide ((x.len:Int)>0))then(decide (A>=t))else Tc)=Tc->∃N,(l.a=Td N/\0<=q/\q<l.len)/\XRunU Tp (NR 3 (.pointer (Td (N.add (q.toNat*1)))) (iV (-1))) y (λO=>let P:=O.push (.cells #[iV q] 3);jh Tp (NX #[23,23] 23 #[aK x,.slice (Td ⟨O.size,0,Te⟩) 1 1]) P (λQ S=>∃T,Q=aK T/\(n T (NB .i64 (q+1)) S/\o T (NB .i64 (q+1)) S<o p q r)))))))/\(decide (q<m.len)=Tc->R (.tuple #[aK l,.bool Ta]) r))))):
  XC Tp 32 #[.agg #[.slice b.a b.len b.cap,.slice c.a c.len c.cap]] h R:=
 XF ⟨[(14,8000)],[(6,[(5,.one (.sl)),(29,.one (.int .i64))]),(10,[(5,.one (.sl))])],[]⟩ [.tmp 2,.tmp 3] 85 Tryz.func32 H
theorem DW(b0:Option Addr)(P:Bt)(O:FuncId)(Q:Array Value)(S:Array Value)(h:za)(R:Value->za->Prop) (H:∃b,b0=Td b/\∃c,zb h (NG (NG b 0) 0)=Td (aK c)/\zr Tp O=Ta/\XC Tp O (Q++#[]++S) h (λd e=>d=.tuple #[]/\∃f,b0=Td f/\∃g,zb e (NG (NG f 0) 0)=Td (aK g)/\(decide ((g.len:Int)<=512)=Ta->∃i,b0=Td i/\∃j,zb e (NG (NG i 0) 0)=Td (aK j)/\∃k,b0=Td k/\∃l,zb e (NG (NG k 0) 1)=Td (aK l)/\let m:Sl->Sl->za->Prop:=λ(n:Sl) (o:Sl) (p:za)=>(jh Tp (NX #[23,23] 23 #[aK l,aK n]) p (λq r=>∃s,q=aK s/\∃t,b0=Td t/\XRunU Tp (NR 22 (.pointer (Td (NG (NG t 0) 0))) (aK o)) r (λu=>∃v,b0=Td v/\XRunU Tp (NR 23 (.pointer (Td (NG (NG v 0) 1))) (aK s)) u (λw=>R (.tuple #[]) w))));let x:Sl->Sl->za->Prop:=λ(y:Sl) (z:Sl) (A:za)=>(jh Tp (NX #[22,22] 22 #[aK j,aK z]) A (λB C=>∃D,B=aK D/\(C)[((NG (NG k 0) 1):Addr).block]?=(e)[((NG (NG k 0) 1):Addr).block]?/\m y D C));(let E:=e.push (.cells #[.string P] 9);(E)[((NG (NG k 0) 1):Addr).block]?=(e)[((NG (NG k 0) 1):Addr).block]?/\(E)[((NG (NG i 0) 0):Addr).block]?=(e)[((NG (NG i 0) 0):Addr).block]?/\(jh Tp (NX #[22,22] 22 #[aK j,.slice (Td ⟨e.size,0,Te⟩) 1 1]) E (λF G=>∃I,F=aK I/\(G)[((NG (NG k 0) 1):Addr).block]?=(e)[((NG (NG k 0) 1):Addr).block]?/\let J:=G.push (.cells #[iV (c.len:Int)] 3);(J)[((NG (NG k 0) 1):Addr).block]?=(e)[((NG (NG k 0) 1):Addr).block]?/\m (⟨Td ⟨G.size,0,Te⟩,1,1⟩:Sl) I J))/\(let L:=E.push (.cells #[iV (c.len:Int)] 3);(L)[((NG (NG k 0) 1):Addr).block]?=(e)[((NG (NG k 0) 1):Addr).block]?/\(L)[((NG (NG i 0) 0):Addr).block]?=(e)[((NG (NG i 0) 0):Addr).block]?/\x (⟨Td ⟨E.size,0,Te⟩,1,1⟩:Sl) (⟨Td ⟨e.size,0,Te⟩,1,1⟩:Sl) L))/\(let M:=e.push (.cells #[iV (c.len:Int)] 3);(M)[((NG (NG k 0) 1):Addr).block]?=(e)[((NG (NG k 0) 1):Addr).block]?/\(M)[((NG (NG i 0) 0):Addr).block]?=(e)[((NG (NG i 0) 0):Addr).block]?/\let N:=M.push (.cells #[.string P] 9);(N)[((NG (NG k 0) 1):Addr).block]?=(e)[((NG (NG k 0) 1):Addr).block]?/\(N)[((NG (NG i 0) 0):Addr).block]?=(e)[((NG (NG i 0) 0):Addr).block]?/\x (⟨Td ⟨e.size,0,Te⟩,1,1⟩:Sl) (⟨Td ⟨M.size,0,Te⟩,1,1⟩:Sl) N))/\(decide ((g.len:Int)<=512)=Tc->R (.tuple #[]) e))):
  XC Tp 60 #[.pointer b0,.string P,.func (.func O) Q S] h R:=
 XF ⟨[(3,8000)],[],[]⟩ [] 46 Tryz.func60 H
theorem Jr(w:Addr)(c1:Addr)(h:za)(R:Value->za->Prop) (H:∃b,zb h (NG w 3)=Td (aK b)/\∃(c:Int->za->Prop) (d:Int->za->Nat),c 0 h/\∀e:Int,∀f:za,c e f->((decide (e<b.len)=Ta->∃g,(b.a=Td g/\0<=e/\e<b.len)/\∃i j k l,ze f (g.add (e.toNat*4)) 0 (tL i j k l)/\let m:=f.push (.cells tC 48);XRunU Tp (NR 48 (.pointer (Td ⟨f.size,0,Te⟩)) (tA i j k l)) m (λn=>∃o:Option Addr,zb n c1=Td (.pointer o)/\∃p q r s,ze n ⟨f.size,0,Te⟩ 0 (tL p q r s)/\XC Tp 43 #[.pointer o,tA p q r s] n (λt u=>t=.tuple #[]/\(c (NB .i64 (e+1)) u/\d (NB .i64 (e+1)) u<d e f))))/\(decide (e<b.len)=Tc->R (.tuple #[]) f))):
  XC Tp 61 #[.pointer (Td w),.pointer (Td c1)] h R:=
 XF ⟨[],[(1,[(7,.one (.int .i64))])],[]⟩ [] 15 Tryz.func61 H
theorem Js(Y:Addr)(c1:Addr)(h:za)(R:Value->za->Prop) (H:∃b,zb h (NG Y 3)=Td (aK b)/\∃(c:Int->za->Prop) (d:Int->za->Nat),c 0 h/\∀e:Int,∀f:za,c e f->((decide (e<b.len)=Ta->∃g,(b.a=Td g/\0<=e/\e<b.len)/\∃i j k l,ze f (g.add (e.toNat*4)) 0 (tL i j k l)/\let m:=f.push (.cells tC 48);XRunU Tp (NR 48 (.pointer (Td ⟨f.size,0,Te⟩)) (tA i j k l)) m (λn=>∃o:Option Addr,zb n c1=Td (.pointer o)/\∃p,zb n (NG Y 2)=Td (aK p)/\∃q,(p.a=Td q/\0<=e/\e<p.len)/\∃r,zb n (q.add (e.toNat*1))=Td (.string r)/\let s:Bt->za->Prop:=λt (u:za)=>(XC Tp 60 #[.pointer o,.string t,.func (.func 65) #[] #[.pointer (Td c1),.pointer (Td ⟨f.size,0,Te⟩)]] u (λv w=>v=.tuple #[]/\(c (NB .i64 (e+1)) w/\d (NB .i64 (e+1)) w<d e f)));let x:Int->Bt->Sl->Sl->za->Prop:=λy z (A:Sl) (B:Sl) (C:za)=>(XC Tp 63 #[tA y z A B] C (λD E=>∃F,D=.string F/\ji (((⟨#[107]⟩:Bt)).size+F.size)/\(E)[(c1:Addr).block]?=(n)[(c1:Addr).block]?/\s ((⟨#[107]⟩:Bt)++F) E));(XC Tp 64 #[.string r] n (λG I=>∃J L M N,G=tA J L M N/\(I)[(c1:Addr).block]?=(n)[(c1:Addr).block]?/\(XC Tp 63 #[tA J L M N] I (λO P=>∃Q,O=.string Q/\ji (((⟨#[107]⟩:Bt)).size+Q.size)/\(P)[(c1:Addr).block]?=(n)[(c1:Addr).block]?/\(P)[(c1:Addr).block]?=(n)[(c1:Addr).block]?/\s ((⟨#[107]⟩:Bt)++Q) P))/\((I)[(c1:Addr).block]?=(n)[(c1:Addr).block]?/\x J L M N I)))/\((n)[((q.add (e.toNat*1)):Addr).block]?=(n)[((q.add (e.toNat*1)):Addr).block]?/\(n)[((NG Y 2):Addr).block]?=(n)[((NG Y 2):Addr).block]?/\(n)[(c1:Addr).block]?=(n)[(c1:Addr).block]?/\XC Tp 64 #[.string r] n (λS T=>∃U V W X,S=tA U V W X/\(T)[(c1:Addr).block]?=(n)[(c1:Addr).block]?/\x U V W X T))))/\(decide (e<b.len)=Tc->R (.tuple #[]) f))):
  XC Tp 62 #[.pointer (Td Y),.pointer (Td c1)] h R:=
 XF ⟨[(3,8000)],[(1,[(7,.one (.int .i64))])],[]⟩ [] 24 Tryz.func62 H
theorem Qx(j:Addr)(c1:Addr)(h:za)(R:Value->za->Prop) (H:∃b:Option Addr,zb h j=Td (.pointer b)/\∃c d e f,ze h c1 0 (tL c d e f)/\XC Tp 43 #[.pointer b,tA c d e f] h (λg i=>g=.tuple #[]/\R (.tuple #[]) i)):
  XC Tp 65 #[.pointer (Td j),.pointer (Td c1)] h R:=
 XF ⟨[],[],[]⟩ [] 5 Tryz.func65 H
theorem Jt(h:za)(R:Value->za->Prop) (H:R (.tuple #[]) h):
  XC Tp 66 #[] h R:=
 XF ⟨[],[],[]⟩ [] 0 Tryz.func66 H
end
end Go.X
end
section
namespace Go.X
open Go Go.RowKit
section
variable {cs:Array Value} {o n b:Nat} {h:za}
theorem kz(h:o+n<=cs.size):(cut cs o n).length=n:=by unfold cut;simp;omega
theorem v7(H:Blk h b cs):Arr h.size h (Td ⟨b,o,Te⟩) (cut cs o n):=by refine .inr ⟨b,o,rfl,H.lt,λi v c=>H.cell ?_⟩;rw[qn]at c;split at c;rw[<-OF];exact c;cases c
theorem Fy{P:Program}(H:Blk h b cs){vs:List Value}(i:o+vs.length<=cs.size)(k:∀u∈vs,u.oneCell'=Ta)(B:World)(d:Nat):
  ∃h',(storeCells ⟨b,o,Te⟩ vs 0).run P (mk B d h)=.ok () (mk B d h')/\Blk h' b (gG cs o vs)/\h'.size=h.size/\∀j,j≠b->h'[j]?=h[j]?:=by
 obtain⟨T,e⟩:=H;obtain⟨h',l,c,m,f⟩:=vR (P:=P) e i k B d;exact⟨h',l,⟨T,c⟩,m,f⟩
end
section
variable {cs:Array Value} {vs:List Value}
structure RowO (h:za) (s:Sl) (b:Nat) (cs:Array Value) (sz:Nat):Prop where
 le:s.len<=s.cap
 at_:(s.len=0/\s.cap=0)\/(s.a=Td ⟨b,0,Te⟩/\Blk h b cs/\s.cap*sz<=cs.size)
structure RowN (h h':za) (s':Sl) (b b':Nat) (cs':Array Value) (sz n:Nat) (cells:List Value):Prop where
 a:s'.a=Td ⟨b',0,Te⟩
 len:s'.len=n
 cap:n<=s'.cap
 blk:Blk h' b' cs'
 size:s'.cap*sz<=cs'.size
 cut:cut cs' 0 (n*sz)=cells
 new:b'=b\/h.size<=b'
 grow:h.size<=h'.size
 old:∀j,j<h.size->j≠b'->h'[j]?=h[j]?
theorem Kz{n m:Nat}(h:n+vs.length<=cs.size)(f:m=n+vs.length):cut (gG cs n vs) 0 m=cut cs 0 n++vs:=by subst f;have b:(cut cs 0 n).length=n:=kz (by omega);apply OG;intro q;rw[qn];split;rename_i e;rw[NZ,F1 h];split;rename_i c;rw[Pb (by rw[b];exact c),qn,zz c,NZ];rename_i c;rw[O9 (by rw[b];omega),b];rename_i e;rw[Ow];rw[NH,b];omega
theorem AR{P:Program}{t e:TypeId}{z:Value}{sz bytes:Nat}(T:ElemT P t e z sz bytes){ty:TypeId}{h:za}{s:Sl}{b:Nat}(H:RowO h s b cs sz){bv y:Nat}(L:Blk h bv vs.toArray)(i:vs.length=sz)(A:∀u∈vs,u.oneCell'=Ta)(O:(s.len+1)*bytes<=140737488355328)(hm:s.len+1<=140737488355328){K:Value->za->Prop} (G:∀(w:Sl) (h':za) (V:Nat) (cs':Array Value),RowN h h' w b V cs' sz (s.len+1) (cut cs 0 (s.len*sz)++vs)->K (.slice w.a w.len w.cap) h'):
  jh P (NX #[t,t] ty #[.slice s.a s.len s.cap,.slice (Td ⟨bv,0,Te⟩) 1 y]) h K:=by
 intro B d;have l:Arr h.size h (Td ⟨bv,0,Te⟩) vs:=by have:=v7 L (o:=0) (n:=vs.length);rw[show cut vs.toArray 0 vs.length=vs by unfold cut;simp]at this;exact this
 have F:∀B d,Src P sz t (.slice (Td ⟨bv,0,Te⟩) 1 y) 1 vs (mk B d h):=λB d=>Co (P:=P) (s:=⟨Td ⟨bv,0,Te⟩,1,y⟩) l (by simp[i]) T.pos A T.slice B d;have Z:(s.len+1)*sz=s.len*sz+sz:=QB _ _;by_cases x:s.len+1<=s.cap;rcases H.at_ with⟨_,h0⟩|⟨q,k,C⟩;omega;have S:(s.len+1)*sz<=s.cap*sz:=Oa _ x;obtain⟨h',N,J,r3,r4⟩:=Fy (P:=P) k (o:=s.len*sz) (vs:=vs) (by rw[i];omega) A B d;have r:=Z1 (P:=P) (ty:=ty) T (s:=s) (h':=h') (F B d) x (λp D=>by rw[q]at D;cases D;rw[zj,NZ];exact N) (λE=>by rw[q]at E;cases E);refine⟨_,d,h',r,G ⟨s.a,s.len+1,s.cap⟩ h' b _ ⟨q,rfl,x,J,by rw[FI (by rw[i];omega)];exact C,Kz (by rw[i];omega) (by rw[i];exact Z),.inl rfl,by omega,λj U m=>r4 j m⟩⟩;have f:Arr h.size h s.a (cut cs 0 (s.len*sz))/\(cut cs 0 (s.len*sz)).length=s.len*sz:=by rcases H.at_ with⟨h0,_⟩|⟨q,k,C⟩;rw[h0,QS];exact⟨.inl (by unfold cut;simp),by unfold cut;simp⟩;have S:s.len*sz<=s.cap*sz:=Oa _ H.le;rw[q];exact⟨v7 k,kz (by omega)⟩
 obtain⟨c,blk,I,Q,q3,Y,M⟩:=Y8 (P:=P) (ty:=ty) (base:=0) T f.2 (λB d=>Z0 f.1 f.2 T.pos B d) F O hm (NV _) (by omega) B d;refine⟨_,d+1,_,I,G ⟨Td ⟨h.size,0,Te⟩,s.len+1,c⟩ _ h.size blk ⟨rfl,rfl,Q,Blk.new _ _ _,by rw[Y];exact ND _,by unfold cut;rw[Pv];exact M,.inr (ND _),by simp,λj U m=>by rw[OZ,zv (by omega)]⟩⟩
end
end Go.X
end
section
namespace Go.X
section
variable {lo:Nat} {h h':za} {M M':Fr} {s:Sl} {bs:List Nat}
def ORow(lo:Nat)(h:za)(M:Fr)(T:Ty)(xs:List (El T))(s:Sl)(bs:List Nat):Prop:=
 (xs=[]/\s.len=0/\s.cap=0/\bs=[])\/∃(b:Nat) (cs:Array Value),bs=[b]/\s.a=Td ⟨b,0,Te⟩/\s.len=xs.length/\s.len<=s.cap/\Blk h b cs/\s.cap*sz T<=cs.size/\lo<=b/\M b=Te/\∀i (hi:i<xs.length),Rd M T xs[i] (cut cs (i*sz T) (sz T))
theorem ORow.nil{T:Ty}:ORow lo h M T [] ⟨Te,0,0⟩ []:=.inl ⟨rfl,rfl,rfl,rfl⟩
theorem ORow.len{T:Ty}{xs:List (El T)}(H:ORow lo h M T xs s bs):s.len=xs.length:=by rcases H with⟨rfl,c,_⟩|⟨b,cs,_,_,c,_⟩;exact c;exact c
theorem ORow.own{T:Ty}{xs:List (El T)}(H:ORow lo h M T xs s bs):∀c∈bs,lo<=c/\c<h.size/\M c=Te:=by rcases H with⟨_,_,_,rfl⟩|⟨b,cs,rfl,_,_,_,e,_,j,i,_⟩;intro c f;cases f;intro c f;rw[OO.1 f];exact⟨j,e.lt,i⟩
theorem ORow.frame{T:Ty}{xs:List (El T)}(H:ORow lo h M T xs s bs)(f:∀c∈bs,h'[c]?=h[c]?)(le:Fr.le M M')(j:∀c∈bs,M' c=Te):ORow lo h' M' T xs s bs:=by rcases H with H|⟨b,cs,rfl,p,o,l,e,m,n,q,k⟩;exact .inl H;refine .inr ⟨b,cs,rfl,p,o,l,?_,m,n,j b (by simp),λi hi=>Rd.mono le (k i hi)⟩;unfold Blk at e ⊢;rw[f b (by simp)];exact e
theorem ORow.call{T:Ty}{xs:List (El T)}(H:ORow lo h M T xs s bs)(L:Later h M h' M'):ORow lo h' M' T xs s bs:=by refine H.frame (λc b=>L.keep.get c (H.own c b).2.1) L.le λc b=>?_;rw[L.old c (H.own c b).2.1];exact(H.own c b).2.2
theorem ORow.rd{T:Ty}{xs:List (El T)}{bs all:List Nat}(H:ORow lo h M T xs s bs)(ag:AgM M h)(k:∀c∈bs,c∈all)(n:xs.length<=1000000):Rd (MxL M h all) (.row T) xs [aK s]:=by rcases H with⟨rfl,e,f,rfl⟩|⟨b,cs,rfl,e,f,o,j,p,q,r,l⟩;refine⟨_,rfl,s.a,s.cap,?_,⟨by simp,by simp⟩,.inl rfl⟩;show aK s=_;unfold aK;rw[e];rfl;refine⟨_,rfl,s.a,s.cap,?_,⟨by omega,by omega⟩,?_⟩;unfold aK;rw[f];by_cases m:xs=[];exact .inl m;refine .inr ⟨b,0,cs,e,MxL.at (k b (by simp)) j,λi hi=>?_⟩;rw[NZ];exact Rd.mono (mr ag all) (l i hi)
theorem ORow.app{t e:TypeId}{z:Value}{bytes:Nat}{T:Ty}(E:ElemT Tp t e z (sz T) bytes)(I:bytes<=1000){ty:TypeId}{xs:List (El T)}(ag:AgM M h)(H:ORow lo h M T xs s bs)(ae:lo<=h.size){bv cv:Nat}{vs:List Value}{x:El T}(Y:Blk h bv vs.toArray)(J:Rd M T x vs)(S:xs.length<=1000000){K:Value->za->Prop} (hK:∀(o:Sl) (h':za) (bs':List Nat),ORow lo h' M T (xs++[x]) o bs'->h.size<=h'.size->(∀c∈bs',c∈bs\/h.size<=c)->(∀j,j<h.size->j∉bs->h'[j]?=h[j]?)->K (.slice o.a o.len o.cap) h'):
  jh Tp (NX #[t,t] ty #[.slice s.a s.len s.cap,.slice (Td ⟨bv,0,Te⟩) 1 cv]) h K:=by
 have L:vs.length=sz T:=Rd.len J;have h1:∀u∈vs,u.oneCell'=Ta:=Rd.one J;have m:=H.len;have D:∀c,h.size<=c->M c=Te:=by
  intro c Q;cases e:M c with
  |none=>rfl
  |some cs=>have:=ag.lt e;omega
 obtain⟨b,cs,f,hb,F⟩:∃b cs,RowO h s b cs (sz T)/\((bs=[b]/\lo<=b/\M b=Te)\/(b=h.size/\bs=[]))/\∀i (hi:i<xs.length),i*sz T+sz T<=cs.size/\Rd M T xs[i] (cut cs (i*sz T) (sz T)):=by rcases H with⟨rfl,C,U,rfl⟩|⟨b,cs,rfl,C,U,e3,e4,e5,e6,V,e8⟩;exact⟨h.size,#[],⟨by omega,.inl ⟨C,U⟩⟩,.inr ⟨rfl,rfl⟩,λi hi=>by simp at hi⟩;refine⟨b,cs,⟨e3,.inr ⟨C,e4,e5⟩⟩,.inl ⟨rfl,e6,V⟩,λi hi=>⟨?_,e8 i hi⟩⟩;have:(i+1)*sz T<=s.cap*sz T:=Oa _ (by omega);rw[QB]at this;omega
 have y:(s.len+1)*bytes<=140737488355328:=by have:(s.len+1)*bytes<=1000001*1000:=Pz (by omega) I;omega
 refine AR E f Y L h1 y (by omega) λo h' n cs' N=>?_;have k:(n∈bs/\lo<=n/\M n=Te)\/h.size<=n:=by rcases N.new with e|e;rcases hb with⟨p,A,O⟩|⟨p,_⟩;subst e;exact .inl ⟨by rw[p];simp,A,O⟩;exact .inr (by omega);exact .inr e
 refine hK o h' [n] (.inr ⟨n,cs',rfl,N.a,by rw[N.len,NH,m];rfl,by rw[N.len];exact N.cap,N.blk,N.size,?_,?_,λi hi=>?_⟩) N.grow (λc Q=>?_) λj hj S=>N.old j hj λe=>?_;rcases k with q|q;exact q.2.1;omega;rcases k with q|q;exact q.2.2;exact D n q;have r:=N.cut;have ab:i<xs.length+1:=by simpa using hi
 have hm:(i+1)*sz T<=(s.len+1)*sz T:=Oa _ (by omega);have aa:(i+1)*sz T=i*sz T+sz T:=QB _ _;have Z:(s.len+1)*sz T=s.len*sz T+sz T:=QB _ _;have key:∀q,q<sz T->(cut cs' (i*sz T) (sz T))[q]?=(cut cs 0 (s.len*sz T)++vs)[i*sz T+q]?:=by intro q l;rw[qn,zz l,<-r,qn,zz (by omega),NZ]
 by_cases w:i<xs.length;rw[List.getElem_append_left w];obtain⟨g1,g2⟩:=F i w;have ac:(i+1)*sz T<=s.len*sz T:=Oa _ (by omega);have e:cut cs' (i*sz T) (sz T)=cut cs (i*sz T) (sz T):=by
  apply OG;intro q;by_cases l:q<sz T;rw[key q l,Pb ?_,qn,qn,zz l,zz (by omega),NZ];have B:s.len*sz T<=cs.size:=by rcases f.at_ with⟨p,A⟩|⟨_,_,O⟩;omega;have:s.len*sz T<=s.cap*sz T:=Oa _ f.le;omega
  rw[kz (by omega)];omega;rw[qn,qn,zv l,zv l]
 rw[e];exact g2;have G:i=xs.length:=by omega
 subst G;rw[List.getElem_append_right (ND _)];have P:(cut cs 0 (s.len*sz T)).length=xs.length*sz T:=by
  rcases f.at_ with⟨p,A⟩|⟨_,_,O⟩;have:xs.length=0:=by omega
  rw[p,this];unfold cut;simp;have:s.len*sz T<=s.cap*sz T:=Oa _ f.le;rw[kz (by omega),m]
 have e:cut cs' (xs.length*sz T) (sz T)=vs:=by apply OG;intro q;by_cases l:q<sz T;rw[key q l,O9 (by omega),P];congr 1;omega;rw[qn,zv l,Ow (by omega)]
 rw[e];simpa using J;rw[OO.1 Q];rcases k with q|q;exact .inl q.1;exact .inr q;rcases k with q|q;exact S (by rw[e];exact q.1);omega
end
end Go.X
end
section
namespace Go.X
open Go Go.X Go.Proofs Go.RowKit
section
variable {cs:Array Value} {o n z b:Nat} {l:List Value} {g:za}
structure CR (g:za) (z:Nat) (els:List (List Value)) (sl:Sl) (b:Nat) (cs:Array Value):Prop where
 ro:RowO g sl b cs z
 ln:sl.len=els.length
 el:∀(i:Nat) (e:List Value),els[i]?=Td e->(i+1)*z<=cs.size/\cut cs (i*z) z=e
theorem Xe(c:l.length=n)(h:∀q,q<n->cs.toList[o+q]?=l[q]?):cut cs o n=l:=by apply OG;intro q;rw[qn];split;rename_i b;exact h q b;rename_i b;rw[Ow (by omega)]
theorem ox(h:cut cs o n=l){q:Nat}(b:q<n):cs.toList[o+q]?=l[q]?:=by rw[<-h,qn,zz b]
theorem CR.blk{els:List (List Value)}{sl:Sl}(H:CR g z els sl b cs)(f:els≠[]):sl.a=Td ⟨b,0,Te⟩/\Blk g b cs:=by rcases H.ro.at_ with⟨c,_⟩|⟨c,e,_⟩;have:=H.ln;rw[c]at this;exact absurd (Ov.1 this.symm) f;exact⟨c,e⟩
theorem CR.frame{g g':za}{els:List (List Value)}{sl:Sl}(H:CR g z els sl b cs)(f:els≠[]\/sl.cap≠0->g'[b]?=g[b]?):CR g' z els sl b cs:=by refine⟨⟨H.ro.le,?_⟩,H.ln,H.el⟩;rcases H.ro.at_ with c|⟨c,h,i⟩;exact .inl c;by_cases e:sl.cap=0;exact .inl ⟨by have:=H.ro.le;omega,e⟩;exact .inr ⟨c,h.keep (f (.inr e)),i⟩
theorem CR.app{t e:TypeId}{F:Value}{bytes z:Nat}(E:ElemT Tp t e F z bytes)(x:bytes<=1000){ty:TypeId}{els:List (List Value)}{sl:Sl}(H:CR g z els sl b cs){bv I:Nat}{vs:List Value}(C:Blk g bv vs.toArray)(p:vs.length=z)(M:∀u∈vs,u.oneCell'=Ta)(V:els.length<=1000000){K:Value->za->Prop} (Q:∀(h:Sl) (g':za) (k:Nat) (cs':Array Value),CR g' z (els++[vs]) h k cs'->g.size<=g'.size->((k=b/\¬(sl.len=0/\sl.cap=0))\/g.size<=k)->k<g'.size->(∀j,j<g.size->j≠k->g'[j]?=g[j]?)->K (.slice h.a h.len h.cap) g'):
  jh Tp (NX #[t,t] ty #[.slice sl.a sl.len sl.cap,.slice (Td ⟨bv,0,Te⟩) 1 I]) g K:=by
 have c:=H.ln;have o:(sl.len+1)*bytes<=140737488355328:=by have:(sl.len+1)*bytes<=1000001*1000:=Pz (by omega) x;omega
 obtain⟨b0,f,A,w,n⟩:∃b0 f,RowO g sl b0 f z/\((b0=b/\¬(sl.len=0/\sl.cap=0))\/g.size<=b0)/\(∀(i:Nat) (e:List Value),els[i]?=Td e->(i+1)*z<=f.size/\cut f (i*z) z=e):=by by_cases h0:sl.len=0/\sl.cap=0;have P:els=[]:=Ov.1 (by omega);exact⟨g.size,#[],⟨H.ro.le,.inl h0⟩,.inr (ND _),λi e hi=>by rw[P]at hi;cases hi⟩;exact⟨b,cs,H.ro,.inl ⟨rfl,h0⟩,H.el⟩
 refine AR E A C p M o (by omega) λh g' k cs' N=>Q h g' k cs' ⟨⟨by rw[N.len];exact N.cap,.inr ⟨N.a,N.blk,N.size⟩⟩,by rw[N.len,NH,c];rfl,λi e hi=>?_⟩ N.grow ?_ N.blk.lt N.old;have O:i<els.length+1:=by have:=(Ou.1 hi).1;rw[NH]at this;exact this
 have Y:(i+1)*z<=(sl.len+1)*z:=Oa _ (by omega);have L:(sl.len+1)*z<=h.cap*z:=Oa _ N.cap;have G:(i+1)*z=i*z+z:=QB _ _;have D:(sl.len+1)*z=sl.len*z+z:=QB _ _;have:=N.size;refine⟨by omega,?_⟩;have m:=N.cut;have key:∀q,i*z+q<(sl.len+1)*z->cs'.toList[i*z+q]?=(cut f 0 (sl.len*z)++vs)[i*z+q]?:=λq r=>by rw[<-m,qn,zz r,NZ]
 have l:(cut f 0 (sl.len*z)).length=sl.len*z:=by
  by_cases h0:els=[];have:sl.len=0:=by rw[c,h0];rfl
  rw[this,QS];unfold cut;simp;have S:els.length-1<els.length:=by have:=PQ.2 h0;omega
  have:=(n (els.length-1) _ (NL S)).1;rw[show els.length-1+1=els.length by omega,<-c]at this;exact kz (by omega)
 by_cases s:i<els.length;rw[Pb s]at hi;obtain⟨T,B⟩:=n i e hi;have J:(i+1)*z<=sl.len*z:=Oa _ (by omega);refine Xe (by rw[<-B];exact kz (by omega)) λq r=>?_;rw[key q (by omega),Pb (by rw[l];omega),qn,zz (by omega),NZ];exact ox B r;have y:i=els.length:=by omega
 subst y;rw[O9 (ND _),Nat.sub_self]at hi;cases hi;refine Xe p λq r=>?_;have U:els.length*z=sl.len*z:=by rw[c]
 rw[key q (by omega),O9 (by rw[l];omega),l];congr 1;omega;rcases N.new with e|e;rcases w with q|q;exact .inl ⟨e.trans q.1,q.2⟩;exact .inr (by omega);exact .inr e
end
end Go.X
end
section
namespace Go.X
section
section
variable {lo hi : Nat} {g : za} {b0 : Nat} {v : Tr} {sk si : Sl}
theorem An:qy Tp 22=Ta:=by kernel_rfl
theorem wS:qj Tp 22=1:=by kernel_rfl
theorem IH:qy Tp 46=Ta:=by kernel_rfl
theorem LH:qj Tp 46=1:=by kernel_rfl
end
end
end Go.X
end
section
namespace Go.X
open Go Go.Code
section
variable {ro:Option Nat} {n:Nat} {P:Program} {f:FuncId} {args:Array Value} {w:World} {o:Oper} {a:Act} {e:cK} {h:za}
abbrev rf(ro:Option Nat):Fence:={ Fence.wide with round:=ro }
def fR(K:Act->World->Prop):Exit->Act->World->Prop
 |.normal,a,w=>K a w
 |_,_,_=>False
theorem Z9{K:Act->World->Prop}:¬LetsOut (fR K):=λ⟨_,_,h⟩=>h
theorem KR{R:Ending->World->Prop}(h:Calls P f args w R):CallsIn (rf ro) n P f args w R:=by have b:CallsIn Fence.wide n P f args w R:=callsIn_wide.2 h;exact b
theorem MH{row:String}{R:Value->World->Prop}(h:Rows P row args w R):RowsIn (rf ro) n P row args w R:=by have b:RowsIn Fence.wide n P row args w R:=λc cs _=>let ⟨v,w',r,s⟩:=h c cs;⟨v,w',r,stepsIn_wide.2 s⟩;exact b
def wo(o:Oper):Bool:=match o.op with
 |.defer _=>Tc
 |_=>Ta
theorem FD(h:wo o=Ta):∀c,o.op≠.defer c:=by intro c e;unfold wo at h;rw[e]at h;cases h
theorem xH(c:wo o=Ta){K:Act->World->Prop}{Q:Exit->Act->World->Prop}(h:o.wp P a w K Q):o.wpIn (rf ro) n P a w K Q:=by
 refine⟨λ_ _=>trivial,?_⟩;rw[Oper.semAt_eq _ _ _ (FD c)];unfold Oper.wp at h;generalize (execOp a.eval o).run P w=r at *;cases r with
 |ok x w'=>
  cases x with
  |enter f args=>exact⟨λb=>(by cases b),KR h⟩
  |row row args=>exact⟨λb=>(by cases b),MH h⟩
  |value v=>exact h
  |skip=>exact h
  |defer d=>exact h
  |_=>exact h.elim
 |halt x w'=>cases x <;> first|exact h|exact h.elim
theorem mb{ro:Option Nat}{n:Nat}{P:Program}{ops:Array Oper}{K:Act->World->Prop}{Q:Exit->Act->World->Prop}: ∀(l i:List Oper) (a:Act) (w:World),l.all wo=Ta->wpList P ops (fR K) l a w->(∀a w,K a w->wpListIn (rf ro) n P ops Q i a w)->wpListIn (rf ro) n P ops Q (l++i) a w
 |[],i,a,w,_,h,hK=>hK a w h
 |o::l,i,a,w,hd,h,hK=>by
  rw[List.all_cons,NP]at hd;rw[Ox];unfold wpListIn;unfold wpList at h;by_cases k:OY o (yielded ops a.tmps)=Ta;rw[zz k]at h ⊢;rcases h with h|⟨_,h⟩;have q:=xH (ro:=ro) (n:=n) hd.1 h;have m:=Oper.wpIn_mono (λa w p=>mb l i a w hd.2 p hK) q;refine⟨m.1,?_⟩;have b:=m.2;revert b;generalize (o.semAt (rf ro).round a.eval).run P w=r;cases r with
  |ok x w'=>
   cases x with
   |enter f args=>exact λb=>⟨b.1,CallsIn.mono b.2 λe j c=>by cases e <;> first|exact c|exact c.elim|exact(Z9 c).elim⟩
   |round l f tmps assign body=>exact λb=>⟨b.1,RoundIn.mono b.2 λe j c=>by cases e <;> first|exact c|exact c.elim|exact(Z9 c).elim⟩
   |_=>exact λb=>b
  |halt x w'=>cases x <;> first|exact λb=>b|exact λb=>b.elim
  exact(Z9 h).elim;rw[zv k]at h ⊢;exact⟨λ_ _=>trivial,mb l i _ _ hd.2 h hK⟩
theorem na{ro:Option Nat}{n:Nat}{P:Program}{md:Region.Mode}{ops:Array Oper}{K:Act->World->Prop}(e:∀(i:Nat) (o:Oper),ops[i]?=Td o->wo o=Ta):∀(fuel:Nat) (listed:Array Bool) (a:Act) (w:World),wpAny P md ops (fR K) fuel listed a w->wpAnyIn (rf ro) n P md ops (fR K) fuel listed a w
 |0,_,_,_,h=>h
 |fuel+1,listed,a,w,h=>by refine⟨h.1,λi hi=>?_⟩;have b:=h.2 i hi;unfold wpOp at b;unfold wpOpIn;split at b;rename_i c;rw[c];exact na e fuel _ _ _ b;rename_i o c;rw[c];simp only;by_cases f:OY o (yielded ops a.tmps)=Ta;rw[zz f]at b ⊢;rcases b with b|⟨_,b⟩;exact Oper.wpIn_mono (λa w j=>na e fuel _ a w j) (xH (e i o c) b);exact(Z9 b).elim;rw[zv f]at b ⊢;exact⟨λ_ _=>trivial,na e fuel _ _ _ b⟩
def J3(D:List Deferred)(a:Act):Act:={ a with defers:=a.defers++D }
theorem xL{D:List Deferred}{K:Act->World->Prop}{R:Act->World->Prop}(h:o.wp P a w K (fR R)):o.wp P (J3 D a) w (λa1 w1=>∃a0,a1=J3 D a0/\K a0 w1) (fR λa1 w1=>∃a0,a1=J3 D a0/\R a0 w1):=by
 unfold Oper.wp at h ⊢;have b:(J3 D a).eval=a.eval:=rfl;rw[b];have c:∀d v,(J3 D a).put d v=J3 D (a.put d v):=λd v=>by cases d <;> rfl
 generalize (execOp a.eval o).run P w=r at *;cases r with
 |ok x w'=>
  cases x with
  |enter f args=>exact Calls.mono h λe i b=>by cases e with
    |returned v=>exact⟨_,c _ _,b⟩
    |panicked ch=>exact b
    |outgrown=>exact(Z9 b).elim
  |row row args=>exact Rows.mono h λv i b=>⟨_,c _ _,b⟩
  |value v=>exact⟨_,c _ _,h⟩
  |skip=>exact⟨_,c _ _,h⟩
  |defer d=>exact⟨(Act.put { a with defers:=d::a.defers } o.dst undef),(by cases o.dst <;> rfl),(show K (Act.put { a with defers:=d::a.defers } o.dst undef) w' from h)⟩
  |_=>exact h.elim
 |halt x w'=>cases x <;> first|exact h|exact h.elim
theorem m4{P:Program}{md:Region.Mode}{ops:Array Oper}{D:List Deferred}{K:Act->World->Prop}:∀(fuel:Nat) (listed:Array Bool) (a:Act) (w:World),wpAny P md ops (fR K) fuel listed a w->wpAny P md ops (fR λa1 w1=>∃a0,a1=J3 D a0/\K a0 w1) fuel listed (J3 D a) w
 |0,_,a,_,h=>⟨h.1,a,rfl,h.2⟩
 |fuel+1,listed,a,w,h=>by
  refine⟨λj=>⟨a,rfl,h.1 j⟩,λi hi=>?_⟩;have b:=h.2 i hi;unfold wpOp at b ⊢;have k:yielded ops (J3 D a).tmps=yielded ops a.tmps:=rfl;split at b;exact m4 fuel _ _ _ b;rename_i o m;rw[k];by_cases c:OY o (yielded ops a.tmps)=Ta;rw[zz c]at b ⊢;rcases b with b|⟨_,b⟩;exact .inl (Oper.wp_mono (λa1 w1 ⟨a0,e,l⟩=>by rw[e];exact m4 fuel _ a0 w1 l) (xL b));exact(Z9 b).elim;rw[zv c]at b ⊢;have f:(J3 D a).put o.dst undef=J3 D (a.put o.dst undef):=by cases o.dst <;> rfl
  rw[f];exact m4 fuel _ _ _ b
def YX(P:Program)(l:Nat)(args:Array Value)(h:za)(K:Value->za->Prop):Prop:=
 ∀(m:Nat) (B:World) (d:Nat),∃fn tmps assign body,(Instr.yield l args).run P (mk B d h)=.ok (.round l fn tmps assign body) (mk B d h) /\
  RoundIn (rf Te) m P l fn tmps assign body (mk B d h) λe w'=>∃v b h',e=.returned v/\w'=mk B b h'/\K v h'
def vi(o:Oper):Bool:=match o.op with
 |.call c=>match c.callee with
  |.value x=>!(kY x)
  |_=>Tc
 |_=>Tc
def lC:List Oper->Option (List Oper×Oper×List Oper)
 |[]=>Te
 |o::l=>bif vi o then Td ([],o,l)else match lC l with
  |some (pre,o',post)=>Td (o::pre,o',post)
  |none=>Te
theorem If{l:List Oper}:∀{pre b:List Oper} {o:Oper},lC l=Td (pre,o,b)->l=pre++o::b:=by
 induction l with
 |nil=>intro pre b o h;cases h
 |cons x l k=>
  intro pre b o h;rw[lC]at h;cases hd:vi x with
  |true=>rw[hd,zI]at h;have h:=NY h;have e:=congrArg Prod.fst h;have c:=congrArg (λq=>q.2.1) h;have f:=congrArg (λq=>q.2.2) h;simp only at e c f;rw[<-e,<-c,<-f];rfl
  |false=>
   rw[hd,zJ]at h;cases hs:lC l with
   |none=>rw[hs]at h;cases h
   |some q=>obtain⟨j,m,i⟩:=q;rw[hs]at h;have h:=NY h;have e:=congrArg Prod.fst h;have c:=congrArg (λq=>q.2.1) h;have f:=congrArg (λq=>q.2.2) h;simp only at e c f;rw[k hs,<-e,<-c,<-f];rfl
def pe(P:Program)(o:Oper)(e:cK)(h:za)(K:Value->za->Prop):Prop:=match o.op with
 |.call c=>match c.callee with
  |.value x=>match Wl e [] x with
   |some (.func (.yield l) A C)=>bif (bif (Nat.beq A.size 0)then(Nat.beq C.size 0)else Tc)then(bif known e [] c.args.toList then YX P l (c.args.map (eS e [])) h λv h'=>typed P o.type v λb=>K b h' else False)else False
   |_=>False
  |_=>False
 |_=>False
theorem Mj{n m:Nat}{K:Value->za->Prop}(H:pe P o e h K)(k:Sat n e a)(B:World)(d:Nat){next:Act->World->Prop}{Q:Exit->Act->World->Prop}
  (z:∀v p h',K v h'->next (a.put o.dst v) (mk B p h')):o.wpIn (rf Te) m P a (mk B d h) next Q:=by
 unfold pe at H;split at H;rename_i c w;split at H;rename_i x j;split at H;rename_i l A C E;obtain⟨hA,u,H⟩:A=#[]/\C=#[]/\(bif known e [] c.args.toList then YX P l (c.args.map (eS e [])) h λv h'=>typed P o.type v λt=>K t h' else False):=by
  cases f:Nat.beq A.size 0 with
  |false=>rw[f]at H;exact QL H
  |true=>
   cases i:Nat.beq C.size 0 with
   |false=>rw[f,i]at H;exact QL H
   |true=>rw[f,i]at H;exact⟨Array.eq_empty_of_size_eq_zero (NJ f),Array.eq_empty_of_size_eq_zero (NJ i),H⟩
 subst hA;subst u;cases hk:known e [] c.args.toList with
 |false=>rw[hk]at H;exact QL H
 |true=>
  rw[hk]at H;simp only[zI]at H;obtain⟨fn,tmps,assign,body,f,i⟩:=H (m-1) B d;have q:a.eval x=.func (.yield l) #[] #[]:=qh k (c:=[]) trivial E;have b:c.args.map a.eval=c.args.map (eS e []):=by apply Array.map_congr_left;intro y s;exact Yu k (c:=[]) trivial hk y (by simpa using s)
  have r:(o.semAt (rf Te).round a.eval).run P (mk B d h)=.ok (.round l fn tmps assign body) (mk B d h):=by show(execOp a.eval o).run P (mk B d h)=_;simp only[execOp,w,resolve,j,q,QR,Sem.run_bind,Sem.run_pure,Result.andThen_ok,invoke];rw[b];simpa using f
  refine⟨λ_ _=>trivial,?_⟩;rw[r];refine⟨λj=>(by cases j),i.mono ?_⟩;rintro e' w' ⟨v,p,h',rfl,rfl,D⟩;exact z _ _ _ (j7 D)
 exact QL H;exact QL H;exact QL H
def tI(P:Program)(n:Nat)(f:List (Nat×Nat))(id:Nat)(ops:Array Oper)(b:Bool)(K:cK->za->Prop)(e:cK)(h:za):Prop:=
 match lC ops.toList with
 |none=>regionF P n f id ops b K e h
 |some (pre,o,post)=>bif b then False else bif (pre.all wo&&post.all wo)then(match o.guard with
  |none=>bif yr n [] o.dst then wR P n ops (λc j=>pe P o c j λv i=>wR P n ops K post (putO c o.dst [] v) i) pre e h else False
  |some _=>False)else False
theorem CJ(T:P.follows .mixedOrders=Ta){L:List (Nat×Nat)}{id:Nat}{ops:Array Oper}{c:Bool}{K:cK->za->Prop} (H:tI P n L id ops c K e h) (m:Nat) (B:World) (d:Nat) (E:Sat n e a) {Q:Exit->Act->World->Prop}
  (F:∀j f l h',Sat n j f->Same (js ops.toList) a f->K j h'->Q .normal f (mk B l h')):(Rn id ops c).wpIn (rf Te) m P Q a (mk B d h):=by
 unfold tI at H;split at H;exact wpIn_wide.2 (xU T H B d E F);rename_i pre o b A;have p:=If A;cases c with
 |true=>exact QL H
 |false=>
  simp only[zJ]at H;cases hnd:(pre.all wo&&b.all wo)with
  |false=>rw[hnd]at H;exact QL H
  |true=>
   rw[hnd]at H;simp only[zI]at H;rw[NP]at hnd;split at H;rename_i N;cases hd:yr n [] o.dst with
   |false=>rw[hd]at H;exact QL H
   |true=>
    rw[hd]at H;simp only[zI]at H;refine wpIn_region_list ?_;have s:∀x∈js pre,x∈js ops.toList:=λx q=>by rw[p,Zu];exact NT _ q
    have C:∀i,o.dst=Td i->i∈js ops.toList:=λi hi=>by rw[p,Zu];exact N1 _ (by simp[js,hi])
    have u:∀x∈js b,x∈js ops.toList:=λx q=>by rw[p,Zu];refine N1 _ ?_;unfold js;split;exact NF _ q;exact q
    rw[p];refine mb (K:=λa1 w1=>∃k y z,w1=mk B y z/\Sat n k a1/\Same (js ops.toList) a a1/\pe P o k z λv G=>wR P n ops K b (putO k o.dst [] v) G) pre (o::b) a _ hnd.1 (mB B pre e h a d H E λj f l h' r t S=>⟨j,l,h',rfl,r,t.mono s,S⟩) ?_;rintro a1 w1 ⟨k,y,z,rfl,s1,O,r⟩;unfold wpListIn;have D:OY o (yielded ops a1.tmps)=Ta:=by simp[OY,N]
    rw[zz D];refine Mj r s1 B y λv V G t=>?_;have s2:Sat n (putO k o.dst [] v) (a1.put o.dst v):=s1.putO hd (λ_=>rfl) (λJ=>absurd trivial J);rw[<-Oe b];refine mb (K:=λf w'=>Q .normal f w') b [] _ _ hnd.2 (mB B b _ _ _ _ t s2 λj f l h' M I U=>?_) λa w h=>h;exact F j f l h' M ((O.trans (Same.put a1 o.dst v C)).trans (I.mono u)) U
   exact QL H
def WI(P:Program)(n:Nat)(pl:Plan):Code->Ws->cK->za->Prop
 |.skip,Q,e,h=>Q .normal e h
 |.ret,Q,e,h=>Q .ret e h
 |.exit id,Q,e,h=>Q (.exit id) e h
 |.label _,Q,e,h=>Q .normal e h
 |.goto l,Q,e,h=>Q (.goto l) e h
 |.region id ops draw,Q,e,h=>tI P n pl.tails id ops draw (λe h=>Q .normal e h) e h
 |.seq x y,Q,e,h=>match nc pl.joins (ym y)with
  |none=>WI P n pl x (jp (λe h=>WI P n pl y Q e h) Q) e h
  |some J=>Ab J (λe h=>WI P n pl y Q e h) (λK=>WI P n pl x (jp K Q) e h) (Wr (x9 x) e)
 |.cond c x y,Q,e,h=>match Wl e [] c with
  |some (.bool b)=>(b=Ta->WI P n pl x Q e h)/\(b=Tc->WI P n pl y Q e h)
  |_=>False
 |.block id x,Q,e,h=>WI P n pl x (jt id Q) e h
 |.loop x,Q,e,h=>match nc pl.loops (ym x)with
  |some J=>Cu J (λf e h=>WI P n pl x (jp f Q) e h) (Wr (x9 x) e) e h
  |none=>False
 |_,_,_,_=>False
theorem Fq(hm:P.follows .mixedOrders=Ta){pl:Plan}:∀(c:Code) (Q:Ws) (e:cK) (h:za),WI P n pl c Q e h ->
  ∀(m:Nat) (B:World) (d:Nat) (a:Act),Sat n e a->c.wpIn (rf Te) m P (yE n B (x9 c) a Q) a (mk B d h):=by
 intro c;induction c with
 |skip=>exact λQ e h H m B d a f=>wpIn_skip ⟨e,d,h,rfl,f,Same.refl _ _,H⟩
 |ret=>exact λQ e h H m B d a f=>wpIn_ret ⟨e,d,h,rfl,f,Same.refl _ _,H⟩
 |exit id=>exact λQ e h H m B d a f=>wpIn_exit ⟨e,d,h,rfl,f,Same.refl _ _,H⟩
 |label l=>exact λQ e h H m B d a f=>wpIn_label ⟨e,d,h,rfl,f,Same.refl _ _,H⟩
 |goto l=>exact λQ e h H m B d a f=>wpIn_goto ⟨e,d,h,rfl,f,Same.refl _ _,H⟩
 |region id ops am=>exact λQ e h H m B d a f=>CJ hm H m B d f λe' a' d' h' k r q3=>⟨e',d',h',rfl,k,r,q3⟩
 |seq x y E C=>
  intro Q e h H m B d a f;simp only[WI]at H;have N:∀i∈x9 x,i∈x9 (x.seq y):=λi hi=>NT _ hi;have T:∀i∈x9 y,i∈x9 (x.seq y):=λi hi=>N1 _ hi;split at H;refine wpIn_seq (wpIn_mono (E _ _ _ H m B d a f) ?_);rintro ex a1 w1 ⟨D,o,s,rfl,s1,w,k⟩;cases ex with
  |normal=>refine wpIn_mono (C _ _ _ k m B o a1 s1) ?_;rintro ex a2 w2 ⟨t,u,A,rfl,s2,z,r⟩;exact⟨t,u,A,rfl,s2,(w.mono N).trans (z.mono T),r⟩
  |_=>exact⟨D,o,s,rfl,s1,w.mono N,k⟩
  rename_i J hJ;have H':=H (iQ (jf J) λvs=>λh=>WI P n pl y Q (Qo J vs++Wr (x9 x) e) h) (pr λvs h M=>M);refine wpIn_seq (wpIn_mono (E _ _ _ H' m B d a f) ?_);rintro ex a1 w1 ⟨D,o,s,rfl,s1,w,k⟩;cases ex with
  |normal=>obtain⟨vs,q,S,M,hk⟩:=kM k;have Z:=rE M;subst Z;have ae:Sat n (Qo J vs++Wr (x9 x) e) a1:=oP f s1.defers s1.size w (yy s1 S);refine wpIn_mono (C _ _ _ hk m B o a1 ae) ?_;rintro ex a2 w2 ⟨t,u,A,rfl,s2,z,r⟩;exact⟨t,u,A,rfl,s2,(w.mono N).trans (z.mono T),r⟩
  |_=>exact⟨D,o,s,rfl,s1,w.mono N,k⟩
 |cond c x y E C=>intro Q e h H m B d a f;simp only[WI]at H;have N:∀i∈x9 x,i∈x9 (Rh c x y):=λi hi=>NT _ hi;have T:∀i∈x9 y,i∈x9 (Rh c x y):=λi hi=>N1 _ hi;split at H;rename_i b G;refine wpIn_cond_split (qh f (c:=[]) trivial G) (λai=>?_) (λaa=>?_);refine wpIn_mono (E _ _ _ (H.1 ai) m B d a f) ?_;rintro ex a2 w2 ⟨t,u,A,rfl,s2,z,r⟩;exact⟨t,u,A,rfl,s2,z.mono N,r⟩;refine wpIn_mono (C _ _ _ (H.2 aa) m B d a f) ?_;rintro ex a2 w2 ⟨t,u,A,rfl,s2,z,r⟩;exact⟨t,u,A,rfl,s2,z.mono T,r⟩;exact H.elim
 |block id x U=>
  intro Q e h H m B d a f;refine wpIn_block (wpIn_mono (U _ _ _ H m B d a f) ?_);rintro ex a1 w1 ⟨D,o,s,rfl,s1,w,k⟩;cases ex with
  |exit i=>simp only[jt]at k;simp only[Exit.inBlock];by_cases G:Nat.beq i id=Ta;rw[zz (NJ G)];simp only[G,zI]at k;exact⟨D,o,s,rfl,s1,w,k⟩;rw[zv (λhe=>G (by rw[he];simp))];simp only[G,zJ]at k;exact⟨D,o,s,rfl,s1,w,k⟩
  |_=>exact⟨D,o,s,rfl,s1,w,k⟩
 |loop x U=>
  intro Q e h H m B d a f;simp only[WI]at H;split at H;rename_i J hJ;obtain⟨I,μ,h0,L⟩:=H;obtain⟨ah,p0,ak,Y,aj⟩:=kM h0;let F:=jV (jf J) I μ;let at_:Act->Option ((za->Prop)×(za->Nat)):=λa1=>(eM (λi=>Td (zt a1 i)) J).bind λvs=>eJ (jf J) vs F;refine wpIn_loop (λa1 w1=>∃o s vs p,w1=mk B o s/\a1.defers=[]/\a1.tmps.size=n/\Same (x9 x) a a1/\eM (λi=>Td (zt a1 i)) J=Td vs/\eJ (jf J) vs F=Td p/\p.1 s) (λa1 w1=>match at_ a1 with|some p=>p.2 w1.heap|none=>0) ⟨d,h,ah,p0,rfl,f.defers,f.size,Same.refl _ _,yy f ak,Y,aj⟩ ?_;rintro a1 w1 ⟨o,s,vs,p,rfl,ab,V,j,S,hp,hI⟩;have s1:Sat n (Qo J vs++Wr (x9 x) e) a1:=oP f ab V j S;have G:=qU hp L s hI;refine wpIn_mono (U _ _ _ G m B o a1 s1) ?_;rintro ex a2 w2 ⟨t,u,A,rfl,s2,z,r⟩;cases ex with
  |normal=>
   obtain⟨al,q,O,M,af,ac⟩:=kM r;refine⟨⟨u,A,al,q,rfl,s2.defers,s2.size,j.trans z,yy s2 O,M,af⟩,?_⟩;have D:at_ a1=Td p:=by simp only[at_,S,PH];exact hp
   have t:at_ a2=Td q:=by simp only[at_,yy s2 O,PH];exact M
   rw[D,t];exact ac
  |_=>exact⟨t,u,A,rfl,s2,j.trans z,r⟩
  exact H.elim
 |_=>exact λQ e h H=>H.elim
def kU(P:Program)(f:FuncId)(args:Array Value)(h:za)(R:Value->za->Prop):Prop:=
 ∀(m:Nat) (B:World) (d:Nat),CallsIn (rf Te) m P f args (mk B d h) λe w'=>∃v b h',e=.returned v/\w'=mk B b h'/\R v h'
theorem IE(A:P.follows .mixedOrders=Ta)(pl:Plan)(vs:List Value){fn:Func}{rs:List ResultVar}(x:P.funcs[f]?=Td fn)(o:Zw fn=Ta)(r:fn.results.toList=rs)(y:fn.ntmps=n)
  (z:Nat.ble vs.length n=Ta) {R:Value->za->Prop} (H:WI P n pl (codeOf fn) (nZ P rs R) (gb 0 vs) h):kU P f vs.toArray h R:=by
 have l:fn.body=Td (codeOf fn):=by unfold Zw at o;unfold codeOf;split at o;rename_i c C;rw[C];cases o
 intro m B d;subst y;refine callsIn_of_wp x l trivial ?_ rfl;have t:vs.length<=fn.ntmps:=OW z;have u:Sat fn.ntmps (gb 0 vs) { tmps:=vs.toArray++OV (fn.ntmps-vs.toArray.size) undef,defers:=[] }:=by
  refine⟨rfl,by simp;omega,?_⟩;refine X4 vs.toArray _ vs 0 λj v q=>?_;have k:j<vs.length:=by rcases Ob j vs.length with h|h;exact h;rw[Ow h]at q;cases q
  simp only[NZ,OL];rw[Pu (by simpa using k)];simp[q]
 refine wpIn_mono (Fq A (codeOf fn) _ _ _ H m B d _ u) ?_;rintro ex a w ⟨E,b,s,rfl,s1,D,e⟩;cases ex with
 |normal=>obtain⟨v,i,p⟩:=Zv s1 r e;exact⟨s1.defers,v,p B b,v,b,s,rfl,rfl,i⟩
 |ret=>obtain⟨v,i,p⟩:=Zv s1 r e;exact⟨s1.defers,v,p B b,v,b,s,rfl,rfl,i⟩
 |_=>exact e.elim
end
end Go.X
end
section
namespace Go.X
section
variable {P:Program} {n m id:Nat} {ro:Option Nat} {e:cK} {h:za} {a:Act}
theorem sh{P:Program}{ops:Array Oper}{D:List Deferred}{K:Act->World->Prop}:∀(l:List Oper) (a:Act) (w:World),wpList P ops (fR K) l a w->wpList P ops (fR λa1 w1=>∃a0,a1=J3 D a0/\K a0 w1) l (J3 D a) w
 |[],a,w,h=>⟨a,rfl,h⟩
 |o::l,a,w,h=>by
  unfold wpList at h ⊢;have c:yielded ops (J3 D a).tmps=yielded ops a.tmps:=rfl;rw[c];by_cases b:OY o (yielded ops a.tmps)=Ta;rw[zz b]at h ⊢;rcases h with h|⟨_,h⟩;exact .inl (Oper.wp_mono (λa1 w1 ⟨a0,e,i⟩=>by rw[e];exact sh l a0 w1 i) (xL h));exact(Z9 h).elim;rw[zv b]at h ⊢;have f:(J3 D a).put o.dst undef=J3 D (a.put o.dst undef):=by cases o.dst <;> rfl
  rw[f];exact sh l _ w h
def nP(P:Program)(n:Nat)(ops:Array Oper)(b:Bool)(K:cK->za->Prop)(e:cK)(h:za):Prop:=
 bif ops.toList.all wo then(bif b then(bif iE ops then wI P n h Ta ops (λc=>ge P n ops h K Ta (eH ops).length [] (eH ops) c h) (Q7 [] (Q6 ops [] ops.size) ops.size) e else False)else wR P n ops K ops.toList e h)else False
theorem wX(w:P.follows .mixedOrders=Ta){D:List Deferred}{ops:Array Oper}{f:Bool}{K:cK->za->Prop}(H:nP P n ops f K e h)(B:World)(d:Nat)(q:Sat n e a){Q:Exit->Act->World->Prop}
  (u:∀b k c h',Sat n b k->K b h'->Q .normal (J3 D k) (mk B c h')):(Rn id ops f).wpIn (rf ro) m P Q (J3 D a) (mk B d h):=by
 unfold nP at H;cases hd:ops.toList.all wo with
 |false=>rw[hd]at H;exact H.elim
 |true=>
  rw[hd,zI]at H;have fin:∀a1 w1,(∃a0,a1=J3 D a0/\∃b c h',w1=mk B c h'/\Sat n b a0/\K b h')->Q .normal a1 w1:=by rintro a1 w1 ⟨a0,rfl,b,c,h',rfl,j,l⟩;exact u b a0 c h' j l
  cases f with
  |false=>refine wpIn_region_list ?_;rw[<-Oe ops.toList];exact mb _ [] _ _ hd (sh (K:=λa0 w1=>∃b c h',w1=mk B c h'/\Sat n b a0/\K b h') _ _ _ (mB B _ _ _ _ _ H q λb k c h' j l p=>⟨b,c,h',rfl,j,p⟩)) fin
  |true=>
   rw[zI]at H;cases hB:iE ops with
   |false=>rw[hB]at H;exact H.elim
   |true=>
    rw[hB]at H;have h0:wpAny P .any ops (fR λa0 w1=>∃b c h',w1=mk B c h'/\Sat n b a0/\K b h') ops.size (OV ops.size Tc) a (mk B (d+1) h):= BY B hB H q (λb k c h' j l p=>⟨b,c,h',rfl,j,p⟩) (d+1);refine wpIn_mono (wpIn_region_any (Q:=fR λa1 w1=>∃a0,a1=J3 D a0/\∃b c h',w1=mk B c h'/\Sat n b a0/\K b h') w (na (λi o t=>?_) _ _ _ _ (m4 _ _ _ _ h0))) λx k w' r=>?_;rw[N3]at hd;obtain⟨s,e⟩:=NK.1 t;exact hd o (by rw[<-e];simp);cases x with
    |normal=>exact fin _ _ r
    |_=>exact r.elim
def WG(P:Program)(n:Nat):Code->Ws->cK->za->Prop
 |.skip,Q,e,h=>Q .normal e h
 |.ret,Q,e,h=>Q .ret e h
 |.exit id,Q,e,h=>Q (.exit id) e h
 |.region _ ops draw,Q,e,h=>nP P n ops draw (λe h=>Q .normal e h) e h
 |.seq x y,Q,e,h=>WG P n x (jp (λe h=>WG P n y Q e h) Q) e h
 |.cond c x y,Q,e,h=>match Wl e [] c with
  |some (.bool b)=>(b=Ta->WG P n x Q e h)/\(b=Tc->WG P n y Q e h)
  |_=>False
 |.block id x,Q,e,h=>WG P n x (jt id Q) e h
 |_,_,_,_=>False
def pK(n:Nat)(B:World)(D:List Deferred)(Q:Ws):Exit->Act->World->Prop:=
 λx a w=>∃e d h a0,a=J3 D a0/\w=mk B d h/\Sat n e a0/\Q x e h
theorem HJ{B:World}{D:List Deferred}{Q:Ws}:∀ex a w,pK n B D (jt id Q) ex a w->Exit.inBlock id (pK n B D Q) ex a w:=by
 rintro ex a1 w1 ⟨e,f,h,a0,rfl,rfl,s1,b⟩;cases ex with
 |exit i=>simp only[jt]at b;simp only[Exit.inBlock];by_cases c:Nat.beq i id=Ta;rw[zz (NJ c)];simp only[c,zI]at b;exact⟨e,f,h,a0,rfl,rfl,s1,b⟩;rw[zv (λj=>c (by rw[j];simp))];simp only[c,zJ]at b;exact⟨e,f,h,a0,rfl,rfl,s1,b⟩
 |_=>exact⟨e,f,h,a0,rfl,rfl,s1,b⟩
theorem ux(F:P.follows .mixedOrders=Ta){D:List Deferred}:∀(c:Code) (Q:Ws) (e:cK) (h:za),WG P n c Q e h ->
  ∀(B:World) (d:Nat) (a:Act),Sat n e a->c.wpIn (rf ro) m P (pK n B D Q) (J3 D a) (mk B d h):=by
 intro c;induction c with
 |skip=>exact λQ e h H B d a f=>wpIn_skip ⟨e,d,h,a,rfl,rfl,f,H⟩
 |ret=>exact λQ e h H B d a f=>wpIn_ret ⟨e,d,h,a,rfl,rfl,f,H⟩
 |exit id=>exact λQ e h H B d a f=>wpIn_exit ⟨e,d,h,a,rfl,rfl,f,H⟩
 |region id ops q=>exact λQ e h H B d a f=>wX F H B d f λt s E h' k w=>⟨t,E,h',s,rfl,rfl,k,w⟩
 |seq x y j i=>
  intro Q e h H B d a f;refine wpIn_seq (wpIn_mono (j _ _ _ H B d a f) ?_);rintro ex a1 w1 ⟨z,p,A,a0,rfl,rfl,s1,k⟩;cases ex with
  |normal=>exact i _ _ _ k B p a0 s1
  |_=>exact⟨z,p,A,a0,rfl,rfl,s1,k⟩
 |cond c x y j i=>intro Q e h H B d a f;simp only[WG]at H;split at H;rename_i b u;have C:(J3 D a).eval c=.bool b:=qh f (c:=[]) trivial u;exact wpIn_cond_split C (λl=>j _ _ _ (H.1 l) B d a f) (λo=>i _ _ _ (H.2 o) B d a f);exact H.elim
 |block id x r=>intro Q e h H B d a f;exact wpIn_block (wpIn_mono (r _ _ _ H B d a f) HJ)
 |_=>exact λQ e h H=>H.elim
abbrev fq:=LoopState->Option Code->Loop
def Nk(rec:fq)(l:Nat)(K:Value->za->Prop):Ws
 |.normal,_,h=>h[l]?=Td (.loop (rec .busy Te))/\K (.bool Ta) (h.setIfInBounds l (.loop (rec .ready Te)))
 |.ret,_,h=>h[l]?=Td (.loop (rec .busy Te))/\K (.bool Tc) (h.setIfInBounds l (.loop (rec .done (Td .ret))))
 |_,_,_=>False
def kO(P:Program)(n:Nat)(b f:Code)(rec:fq)(l:Nat)(K:Value->za->Prop)(e:cK)(h:za):Prop:=
 WG P n b (λx i c=>match x with
  |.normal=>c[l]?=Td (.loop (rec .ready Te))/\WG P n f (Nk rec l K) i (c.setIfInBounds l (.loop (rec .busy Te)))
  |_=>False) e h
theorem uo(a:Act):J3 [] a=a:=by unfold J3;rw[Oe]
def sA:cK->List Nat->List Value->cK
 |e,p::ps,v::vs=>sA (putO e (Td p) [] v) ps vs
 |e,_,_=>e
def km:Array Value->List Nat->List Value->Array Value
 |t,p::ps,v::vs=>km (t.setIfInBounds p v) ps vs
 |t,_,_=>t
theorem yA:∀(ps:List Nat) (vs:List Value) (t:Array Value),(ps.zip vs).foldl (λ(t:Array Value) (x:Tmp×Value)=>t.setIfInBounds x.1 x.2) t=km t ps vs
 |[],_,_=>rfl
 |_::_,[],_=>rfl
 |p::ps,v::vs,t=>yA ps vs (t.setIfInBounds p v)
theorem Bh{n:Nat}:∀(ps:List Nat) (vs:List Value) (e:cK) (a:Act),(∀p∈ps,yr n [] (Td p)=Ta)->Sat n e a->Sat n (sA e ps vs) { tmps:=km a.tmps ps vs,defers:=[] }
 |[],vs,e,a,_,hs=>by have:=hs.defers;cases a;simp only at this;subst this;exact hs
 |p::ps,[],e,a,_,hs=>by have:=hs.defers;cases a;simp only at this;subst this;exact hs
 |p::ps,v::vs,e,a,h,hs=>Bh ps vs _ (a.put (Td p) v) (λq c=>h q (NF _ c)) (hs.putO (h p NQ) (λ_=>rfl) (λb=>absurd trivial b))
theorem Bz(G:P.follows .mixedOrders=Ta){n l:Nat}{ps:List Nat}{f q:Code}{fn:FuncId}{D:Nat}(s:∀p∈ps,yr n [] (Td p)=Ta) {rec:fq} (b:rec=λst O=>{ state:=st,pending:=O,fn:=fn,tmps:=a.tmps,params:=ps.toArray,assign:=f,body:=q,defers:=D }) {vs:List Value} (Q:ps.length=vs.length) (S:Sat n e a) (Z:h[l]?=Td (.loop (rec .ready Te))) {K:Value->za->Prop}
  (H:kO P n f q rec l K (sA e ps vs) h):YX P l vs.toArray h K:=by
 intro m B d;have y:(mk B d h).heap[l]?=Td (.loop (rec .ready Te)):=Z;have I:=run_yield (P:=P) (w:=mk B d h) (args:=vs.toArray) y (by rw[b];show vs.toArray.size=ps.toArray.size;simp[Q]);refine⟨_,_,_,_,I,?_⟩;rw[b]at I ⊢;have s2:=Bh ps vs e a s S;have key:RoundIn (rf Te) m P l fn (km a.tmps ps vs) f q (mk B d h) (λe w'=>∃v V h',e=.returned v/\w'=mk B V h'/\K v h'):=by
  refine roundIn_of_wpIn (F:=rf Te) trivial ?_;have L:(rf Te).inRound l=rf (Td l):=rfl;rw[L,<-uo { tmps:=km a.tmps ps vs,defers:=[] }];refine wpIn_mono (ux G f _ _ _ H B d _ s2) ?_;rintro ex a1 w1 ⟨e1,J,U,a0,rfl,rfl,s1,E⟩;cases ex with
  |normal=>
   obtain⟨N,Y⟩:=E;have z:(mk B J U).heap[l]?=Td (.loop (rec .ready Te)):=N;have T:=run_beginRound (P:=P) z (by rw[b]);refine⟨_,T,?_⟩;have k:({ rec .ready Te with state:=.busy }:Loop)=rec .busy Te:=by rw[b]
   rw[k];refine wpIn_mono (ux G q _ _ _ Y B J a0 s1) ?_;rintro ex a2 w2 ⟨e2,o,r,a3,rfl,rfl,s3,u⟩;cases ex with
   |normal=>
    obtain⟨A,C⟩:=u;have i:(mk B o r).heap[l]?=Td (.loop (rec .busy Te)):=A;have c:=run_endRound (P:=P) Te i;refine⟨_,_,c,.bool Ta,o,r.setIfInBounds l (.loop (rec .ready Te)),rfl,?_,C⟩;have j:({ rec .busy Te with state:=if(Te:Option Code).isNone then .ready else .done,pending:=Te }:Loop)=rec .ready Te:=by rw[b];rfl
    rw[j];rfl
   |ret=>
    obtain⟨A,C⟩:=u;have i:(mk B o r).heap[l]?=Td (.loop (rec .busy Te)):=A;have c:=run_endRound (P:=P) (Td .ret) i;refine⟨_,_,c,.bool Tc,o,r.setIfInBounds l (.loop (rec .done (Td .ret))),rfl,?_,C⟩;have j:({ rec .busy Te with state:=if(Td Code.ret:Option Code).isNone then .ready else .done,pending:=Td .ret }:Loop)=rec .done (Td .ret):=by rw[b];rfl
    rw[j];rfl
   |_=>exact u.elim
  |_=>exact E.elim
 show RoundIn (rf Te) m P l fn (Array.foldl (λ(t:Array Value) (x:Tmp×Value)=>t.setIfInBounds x.1 x.2) a.tmps (ps.toArray.zip vs.toArray)) _ _ _ _;have M:Array.foldl (λ(t:Array Value) (x:Tmp×Value)=>t.setIfInBounds x.1 x.2) a.tmps (ps.toArray.zip vs.toArray)=km a.tmps ps vs:=by rw[<-yA];simp
 rw[M];exact key
def kD:Code->Code
 |.rangeFunc _ _ x _=>x
 |.seq x y=>match kD x with
  |.skip=>kD y
  |c=>c
 |.block _ x=>kD x
 |_=>.skip
def jX:Code->Code
 |.rangeFunc _ _ _ y=>y
 |.seq x y=>match jX x with
  |.skip=>jX y
  |c=>c
 |.block _ x=>jX x
 |_=>.skip
def marks(c:List Nat):List Deferred:=c.map λb=>{ target:=.collected b,args:=#[] }
abbrev ga:=Exit->List Nat->cK->za->Prop
def ER(K:List Nat->cK->za->Prop)(Q:ga):ga
 |.normal,ds,e,h=>K ds e h
 |x,ds,e,h=>Q x ds e h
def yI(id:Nat)(Q:ga):ga
 |.exit i,ds,e,h=>bif Nat.beq i id then Q .normal ds e h else Q (.exit i) ds e h
 |x,ds,e,h=>Q x ds e h
def ob(rec:fq)(l:Nat)(N R:za->Prop)(h:za):Prop:=
 (h[l]?=Td (.loop (rec .ready Te))/\N (h.setIfInBounds l (.loop (rec .exhausted Te))))\/(h[l]?=Td (.loop (rec .done (Td .ret)))/\R (h.setIfInBounds l (.loop (rec .exhausted (Td .ret)))))
def un(P:Program)(n:Nat)(l m:Nat)(b p:Code)(v:Value)(Q:ga)(k:List Nat)(e:cK)(h:za):Prop:=
 bif yr n [] (Td l)&&yr n [] (Td m)then(∃g lb,v=.func (.func g) #[] lb/\zr P g=Ta/\∀rec:fq,
  (∀{i j:Value} {f:za} {K:Value->za->Prop},f[h.size+1]?=Td (.loop (rec .ready Te))->kO P n b p rec (h.size+1) K (putO (putO e (Td l) [] i) (Td m) [] j) f->YX P (h.size+1) #[i,j] f K) ->
  kU P g (#[.func (.yield (h.size+1)) #[] #[]]++lb) ((h.push (.deferred (Td []))).push (.loop (rec .ready Te))) λ_ o=>ob rec (h.size+1) (λc=>Q .normal (h.size::k) e c) (λc=>Q .ret (h.size::k) e c) o)else False
def vE(P:Program)(n:Nat)(k:Nat)(b m:Code)(v:Value)(Q:ga)(j:List Nat)(e:cK)(h:za):Prop:=
 bif yr n [] (Td k)then(∃g lb,v=.func (.func g) #[] lb/\zr P g=Ta/\∀rec:fq,
  (∀{i:Value} {f:za} {K:Value->za->Prop},f[h.size+1]?=Td (.loop (rec .ready Te))->kO P n b m rec (h.size+1) K (putO e (Td k) [] i) f->YX P (h.size+1) #[i] f K) ->
  kU P g (#[.func (.yield (h.size+1)) #[] #[]]++lb) ((h.push (.deferred (Td []))).push (.loop (rec .ready Te))) λ_ l=>ob rec (h.size+1) (λc=>Q .normal (h.size::j) e c) (λc=>Q .ret (h.size::j) e c) l)else False
def WD(P:Program)(n:Nat):Code->ga->List Nat->cK->za->Prop
 |.skip,Q,f,e,h=>Q .normal f e h
 |.ret,Q,f,e,h=>Q .ret f e h
 |.exit id,Q,f,e,h=>Q (.exit id) f e h
 |.region _ ops draw,Q,f,e,h=>nP P n ops draw (λe h=>Q .normal f e h) e h
 |.seq x y,Q,f,e,h=>WD P n x (ER (λf e h=>WD P n y Q f e h) Q) f e h
 |.cond c x y,Q,f,e,h=>match Wl e [] c with
  |some (.bool b)=>(b=Ta->WD P n x Q f e h)/\(b=Tc->WD P n y Q f e h)
  |_=>False
 |.block id x,Q,f,e,h=>WD P n x (yI id Q) f e h
 |.rangeFunc g ps asg bd,Q,f,e,h=>match Wl e [] g,ps.toList with
  |some v,[p1,p2]=>un P n p1 p2 asg bd v Q f e h
  |some v,[p1]=>vE P n p1 asg bd v Q f e h
  |_,_=>False
 |_,_,_,_,_=>False
def Cy(n:Nat)(B:World)(Q:ga):Exit->Act->World->Prop:=
 λx a w=>∃b e d h a0,a=J3 (marks b) a0/\w=mk B d h/\Sat n e a0/\Q x b e h
theorem AY(x:1<=m){ps:Array Nat}{j u:Code}{l:FuncId}{lb:Array Value}(E:zr P l=Ta){g:Operand}{Q:ga}{i:List Nat}(t:Sat n e a)(G:(J3 (marks i) a).eval g=.func (.func l) #[] lb) (F:∀fn (rec:fq),rec=(λst y=>{ state:=st,pending:=y,fn:=fn,tmps:=a.tmps,params:=ps,assign:=j,body:=u,defers:=h.size }) -> kU P l (#[.func (.yield (h.size+1)) #[] #[]]++lb) ((h.push (.deferred (Td []))).push (.loop (rec .ready Te))) λ_ r=>ob rec (h.size+1) (λz=>Q .normal (h.size::i) e z) (λz=>Q .ret (h.size::i) e z) r)
  (B:World) (d:Nat):(Code.rangeFunc g ps j u).wpIn (rf Te) m P (Cy n B Q) (J3 (marks i) a) (mk B d h):=by
 refine wpIn_rangeFunc λo _=>?_;obtain⟨rec,b⟩:∃rec:fq,rec=λst y=>{ state:=st,pending:=y,fn:=o,tmps:=a.tmps,params:=ps,assign:=j,body:=u,defers:=h.size }:=⟨_,rfl⟩;have s:=F o rec b;refine⟨h.size+1,[{ target:=.collected h.size,args:=#[] }],mk B d ((h.push (.deferred (Td []))).push (.loop (rec .ready Te))),{ target:=.fn (.func l) lb,args:=#[.func (.yield (h.size+1)) #[] #[]] },mk B d ((h.push (.deferred (Td []))).push (.loop (rec .ready Te))),l,#[.func (.yield (h.size+1)) #[] #[]]++lb,mk B d ((h.push (.deferred (Td []))).push (.loop (rec .ready Te))),?_,?_,λ_ _=>trivial,?_,λ_=>x,?_⟩;rw[b];exact run_enterLoop_outer _ _ _ _ _;simp only[resolve,G];simp[go_sem,QR];simp only[invoke];exact Wp E _ _;have H:({ J3 (marks i) a with defers:=[{ target:=.collected h.size,args:=#[] }]++(J3 (marks i) a).defers }:Act)=J3 (marks (h.size::i)) a:=by unfold J3 marks;simp only[t.defers];rfl
 rw[H];refine CallsIn.mono (s (m-1) B d) ?_;rintro e' w' ⟨v,q,r,rfl,rfl,k⟩;rcases k with⟨f,D⟩|⟨f,I⟩;have c:(mk B q r).heap[h.size+1]?=Td (.loop (rec .ready Te)):=f;have p:=run_endLoop (P:=P) c (by rw[b];intro C;cases C);have w:({ rec .ready Te with state:=.exhausted }:Loop)=rec .exhausted Te:=by rw[b]
 have A:(rec .ready Te).pending=Te:=by rw[b]
 rw[w,A]at p;exact⟨Te,_,p,_,e,q,_,a,rfl,rfl,t,D⟩;have c:(mk B q r).heap[h.size+1]?=Td (.loop (rec .done (Td .ret))):=f;have p:=run_endLoop (P:=P) c (by rw[b];intro C;cases C);have w:({ rec .done (Td .ret)with state:=.exhausted }:Loop)=rec .exhausted (Td .ret):=by rw[b]
 have A:(rec .done (Td .ret)).pending=Td .ret:=by rw[b]
 rw[w,A]at p;exact⟨Td .ret,_,p,wpIn_ret ⟨_,e,q,_,a,rfl,rfl,t,I⟩⟩
theorem Df(T:P.follows .mixedOrders=Ta)(E:1<=m):∀(c:Code) (Q:ga) (k:List Nat) (e:cK) (h:za),WD P n c Q k e h ->
  ∀(B:World) (d:Nat) (a:Act),Sat n e a->c.wpIn (rf Te) m P (Cy n B Q) (J3 (marks k) a) (mk B d h):=by
 intro c;induction c with
 |skip=>exact λQ k e h H B d a f=>wpIn_skip ⟨k,e,d,h,a,rfl,rfl,f,H⟩
 |ret=>exact λQ k e h H B d a f=>wpIn_ret ⟨k,e,d,h,a,rfl,rfl,f,H⟩
 |exit id=>exact λQ k e h H B d a f=>wpIn_exit ⟨k,e,d,h,a,rfl,rfl,f,H⟩
 |region id ops V=>exact λQ k e h H B d a f=>wX T H B d f λe' Z d' h' l q2=>⟨k,e',d',h',Z,rfl,rfl,l,q2⟩
 |seq x y u s=>
  intro Q k e h H B d a f;refine wpIn_seq (wpIn_mono (u _ _ _ _ H B d a f) ?_);rintro ex a1 w1 ⟨q,D,C,F,a0,rfl,rfl,s1,l⟩;cases ex with
  |normal=>exact s _ _ _ _ l B C a0 s1
  |_=>exact⟨q,D,C,F,a0,rfl,rfl,s1,l⟩
 |cond c x y u s=>intro Q k e h H B d a f;simp only[WD]at H;split at H;rename_i b A;have hc:(J3 (marks k) a).eval c=.bool b:=qh f (c:=[]) trivial A;exact wpIn_cond_split hc (λL=>u _ _ _ _ (H.1 L) B d a f) (λN=>s _ _ _ _ (H.2 N) B d a f);exact H.elim
 |block id x Y=>
  intro Q k e h H B d a f;refine wpIn_block (wpIn_mono (Y _ _ _ _ H B d a f) ?_);rintro ex a1 w1 ⟨q,D,C,F,a0,rfl,rfl,s1,l⟩;cases ex with
  |exit i=>simp only[yI]at l;simp only[Exit.inBlock];by_cases A:Nat.beq i id=Ta;rw[zz (NJ A)];simp only[A,zI]at l;exact⟨q,D,C,F,a0,rfl,rfl,s1,l⟩;rw[zv (λhe=>A (by rw[he];simp))];simp only[A,zJ]at l;exact⟨q,D,C,F,a0,rfl,rfl,s1,l⟩
  |_=>exact⟨q,D,C,F,a0,rfl,rfl,s1,l⟩
 |rangeFunc g ps ac bd ab aa=>
  intro Q k e h H B d a f;simp only[WD]at H;split at H;rename_i v z O I t;have o:ps=#[z,O]:=by rw[<-Array.toList_inj];exact t
  subst o;unfold un at H;cases j:(yr n [] (Td z)&&yr n [] (Td O))with
  |false=>rw[j]at H;exact H.elim
  |true=>rw[j]at H;rw[NP]at j;obtain⟨gf,lb,rfl,J,M⟩:=H;exact AY E J f (qh f (c:=[]) trivial I) (λfn rec r=>M rec (λ {S v2 h2 K} U w=>Bz T (ps:=[z,O]) (vs:=[S,v2]) (by intro p G;simp only[NI,QW,or_false]at G;rcases G with rfl|rfl;exact j.1;exact j.2) r rfl f U w)) B d
  rename_i v z I t;have o:ps=#[z]:=by rw[<-Array.toList_inj];exact t
  subst o;unfold vE at H;cases j:yr n [] (Td z)with
  |false=>rw[j]at H;exact H.elim
  |true=>rw[j]at H;obtain⟨gf,lb,rfl,J,M⟩:=H;exact AY E J f (qh f (c:=[]) trivial I) (λfn rec r=>M rec (λ {S h2 K} U w=>Bz T (ps:=[z]) (vs:=[S]) (by intro p G;simp only[NI,QW,or_false]at G;subst G;exact j) r rfl f U w)) B d
  exact H.elim
 |_=>exact λQ k e h H=>H.elim
def takeD:List Nat->(za->Prop)->za->Prop
 |[],K,h=>K h
 |b::ds,K,h=>h[b]?=Td (.deferred (Td []))/\takeD ds K (h.setIfInBounds b (.deferred Te))
def MC(P:Program)(rs:List ResultVar)(R:Value->za->Prop):ga
 |.normal,ds,e,h=>takeD ds (λh'=>fW P h' e rs λvs=>R (fU vs) h') h
 |.ret,ds,e,h=>takeD ds (λh'=>fW P h' e rs λvs=>R (fU vs) h') h
 |_,_,_,_=>False
theorem py{P:Program}{fn:Func}{n:Nat}{rs:List ResultVar}(j:fn.results.toList=rs){e:cK}{a:Act}(i:Sat n e a){B:World}{R:Value->za->Prop}{D:Nat}:∀(c:List Nat) (d:Nat) (h:za),takeD c (λh'=>fW P h' e rs λvs=>R (fU vs) h') h ->
  LeavesInM Fence.wide D P fn a.tmps (λe w'=>∃v k h',e=.returned v/\w'=mk B k h'/\R v h') (marks c) .returning (mk B d h)
 |[],d,h,H=>by obtain⟨v,l,m⟩:=Zv i j H;exact⟨v,m B d,v,d,h,rfl,rfl,l⟩
 |b::c,d,h,⟨h1,H⟩=>by have f:(mk B d h).heap[b]?=Td (.deferred (Td [])):=h1;exact⟨by simp,.inl ⟨_,_,rfl,run_takeDeferred (P:=P) f,py j i c d _ H⟩⟩
theorem Gq(E:P.follows .mixedOrders=Ta)(vs:List Value){f:FuncId}{fn:Func}{rs:List ResultVar}(x:P.funcs[f]?=Td fn)(k:Zw fn=Ta)(q:fn.results.toList=rs)(D:fn.ntmps=n)(z:Nat.ble vs.length n=Ta){R:Value->za->Prop}{F:Prop}(H:F)(A:F=WD P n (codeOf fn) (MC P rs R) [] (gb 0 vs) h):XC P f vs.toArray h R:=by
 have i:fn.body=Td (codeOf fn):=by unfold Zw at k;unfold codeOf;split at k;rename_i c C;rw[C];cases k
 intro B d;refine callsIn_wide.1 (callsIn_of_wp_marks (F:=Fence.wide) (n:=1) x i trivial ?_ rfl);subst D;have u:vs.length<=fn.ntmps:=OW z;have y:Sat fn.ntmps (gb 0 vs) { tmps:=vs.toArray++OV (fn.ntmps-vs.toArray.size) undef,defers:=[] }:=by
  refine⟨rfl,by simp;omega,?_⟩;refine X4 vs.toArray _ vs 0 λj v l=>?_;have o:j<vs.length:=by rcases Ob j vs.length with h|h;exact h;rw[Ow h]at l;cases l
  simp only[NZ,OL];rw[Pu (by simpa using o)];simp[l]
 have:=Df E (m:=1) (by omega) (codeOf fn) _ [] _ _ (A ▸ H) B d _ y;rw[show marks []=[]from rfl,uo]at this;refine wpIn_mono this ?_;rintro ex a w ⟨b,G,s,t,a0,rfl,rfl,s1,e⟩;have r:(J3 (marks b) a0).defers=marks b:=by unfold J3;rw[s1.defers];rfl
 have p:(J3 (marks b) a0).tmps=a0.tmps:=rfl;cases ex with
 |normal=>show LeavesInM _ _ _ _ _ _ _ _ _;rw[r,p];exact py q s1 b s t e
 |ret=>show LeavesInM _ _ _ _ _ _ _ _ _;rw[r,p];exact py q s1 b s t e
 |_=>exact e.elim
end
end Go.X
end
section
namespace Go.X
open Go Go.X Go.Proofs Go.RowKit
section
variable {g:za} {i:Nat}
theorem qo{i j:Nat}{o:Obj}(h:j≠i):(g.setIfInBounds i o)[j]?=g[j]?:=NW (Ne.symm h)
theorem set_self{o:Obj}(h:i<g.size):(g.setIfInBounds i o)[i]?=Td o:=Pk h
section
variable {h : za} {M : Fr} {b2 b3 b4 b5 bc D l : Nat} {rec : fq} {s : Bs} {sl : Sl} {bs : List Nat} {g : za}
end
end
section
section
variable {lo : Nat} {g : za} {M : Fr} {bp : Nat} {s : Bs} {a e : Int} {O : Nat -> Prop} {K : Value -> za -> Prop}
theorem pv:qy Tp 3=Ta:=by kernel_rfl
end
end
section
variable {g:za}
theorem oy{M:Fr}(ag:AgM M g){xs:List Int}{s:Sl}(H:Rd M (.row (.int .i64)) xs [aK s]){k:Nat}(c:k<xs.length):∃b o,s.a=Td ⟨b,o,Te⟩/\zb g ⟨b,o+k*1,Te⟩=Td (.int .i64 xs[k]):=by obtain⟨b,o,cs,h,f,e⟩:=Go.X.rowAt H c;exact⟨b,o,h,pR ag f e⟩
theorem CI:qy Tp 48=Ta:=by kernel_rfl
theorem Lo:qj Tp 48=4:=by kernel_rfl
theorem kn{b:Nat}{x y z w:Value}(B:Blk g b #[x,y,z,w]){k:Int}{s:Bt}{sk si:Sl}{K:za->Prop}(h:∀g',(∀j,j≠b->g'[j]?=g[j]?)->g'.size=g.size->Blk g' b #[.int .i64 k,.string s,aK sk,aK si]->K g'):
  XRunU Tp (NR 48 (.pointer (Td ⟨b,0,Te⟩)) (.agg #[.int .i64 k,.string s,aK sk,aK si])) g K:=by
 refine sH (vs:=[.int .i64 k,.string s,aK sk,aK si]) CI B rfl Lo (ND _) (λu c=>?_) λg' e f i=>h g' i f e;simp at c;rcases c with rfl|rfl|rfl|rfl <;> rfl
section
variable {t : Bs} {lvs : List Nat} {gl : Fr}
end
end
section
variable {b:Nat} {h h':za} {s:Sl} {ln:Bool} {nd:Int} {l:Bs} {K:Value -> za -> Prop}
def nU(o:Obj):Bool:=match o with
 |.cells _ T _=>!(Nat.beq T 5) && !(Nat.beq T 166)
 |_=>Ta
def Otk(h h':za):Prop:=∀(i:Nat) (o:Obj),h[i]?=Td o->nU o=Ta->h'[i]?=Td o
theorem Otk.trans{a b c:za}(x:Otk a b)(y:Otk b c):Otk a c:=λi o e n=>y i o (x i o e n) n
theorem Otk.keep(k:Keep h.size h h'):Otk h h':=λi o e _=>by have hi:i<h.size:=(NK.1 e).1;rw[k.get i hi];exact e
theorem Otk.ne{cs:Array Value}{m:Nat×Nat}(e:h[b]?=Td (.cells cs 166 m))(f:∀i,i≠b->h'[i]?=h[i]?):Otk h h':=λi o c n=>by by_cases hi:i=b;subst hi;rw[e]at c;cases c;cases n;rw[f i hi];exact c
theorem Otk.own{base:Nat}{sz:Nat}{xs:List Value}(H:Owns h base 5 sz s xs)(f:∀i,i<h.size->(∀p,s.a=Td p->i≠p.block)->h'[i]?=h[i]?):Otk h h':=λi o c n=>by have hi:i<h.size:=(NK.1 c).1;rw[f i hi λq l k=>?_];exact c;rcases H.2 with⟨b,_⟩|⟨g,cap,e,b,_,j,_⟩;rw[l]at b;cases b;have j:h[g]?=Td (.cells e 5 (0,0)):=j;rw[l]at b;injection b with e1 _ _;injection e1 with e1;rw[k,e1]at c;rw[j]at c;cases c;cases n
theorem GB:liesAt Tp NS.depth 166 (4 / NS.cellsOf 166) 0 164 1=Ta:=by kernel_rfl
def Prn(h:za)(b:Nat)(ln:Bool)(nd:Int)(l:Bs):Prop:=∃(p:Option Addr) (s:Sl),h[b]?=Td (.cells #[.pointer p,aK s,.bool ln,.int .i64 nd] 166 (0,0))/\(p=Te\/p=Td ⟨b,0,Te⟩)/\Owns h (b+1) 5 1 s (Lib.byteCells l)
theorem Prn.lt(H:Prn h b ln nd l):b<h.size:=by obtain⟨p,s,e,_⟩:=H;rcases Ob b h.size with q|q;exact q;rw[Array.getElem?_eq_none q]at e;cases e
theorem Prn.keep(H:Prn h b ln nd l)(k:Keep h.size h h'):Prn h' b ln nd l:=by have c:=H.lt;obtain⟨p,s,e,f,i⟩:=H;exact⟨p,s,by rw[k.get b c];exact e,f,i.keepN k⟩
theorem Prn.new(h:za)(ln:Bool)(nd:Int):Prn (h.push (.cells #[.pointer Te,.slice Te 0 0,.bool ln,.int .i64 nd] 166)) h.size ln nd []:= ⟨Te,⟨Te,0,0⟩,qq _ _,.inl rfl,Owns.nil _ _ _ _⟩
set_option maxHeartbeats 1000000 in
set_option maxRecDepth 100000 in
theorem HE(b:Nat)(w:World)(h0:w.cell? ⟨b,0,Te⟩=Td (.pointer Te))(c:w.shape? b=Td (166,4))(i:w.frozen? ⟨b,0,Te⟩=Tc):
  Calls Tp 175 #[.pointer (Td ⟨b,0,Te⟩)] w λe w'=>e=.returned (.tuple #[])/\w'=w.setCell ⟨b,0,Te⟩ (.pointer (Td ⟨b,0,Te⟩)):=by
 obtain⟨j,h,f⟩:=Pn.1 tV;have mixed:=Tryz.mixed
 go_enter Tryz.func175,Tryz.ntmps175
 go_wp2
 rw[Lib.run_to_unsafe w ⟨b,0,Te⟩ lA oB h (by rw[f];decide) c (Nat.zero_lt_succ 3)];simp only[Result.andThen];rw[Oper.upon_value]
 go_wp2
 rw[run_callFunc_extern Tryz.func203 (by kernel_rfl) (by kernel_rfl) (by kernel_rfl) (e:=Ry) (by kernel_rfl)];rw[Lib.run_noEscape];simp only[Result.andThen];rw[Oper.upon_value]
 go_wp2
 rw[Lib.run_from_unsafe w ⟨b,0,Te⟩ oB lA h c GB];simp only[Result.andThen];rw[Oper.upon_value]
 go_wp2
 go_end0
 exact⟨rfl,rfl⟩
theorem AS(H:Prn h b ln nd l)(k:∀h',Prn h' b ln nd l->Keep b h h'->h'.size=h.size->Otk h h'->K (.tuple #[]) h'):XC Tp 175 #[.pointer (Td ⟨b,0,Te⟩)] h K:=by
 have f:=H.lt;obtain⟨p,s,e,m,j⟩:=H;have c:∀B d,(mk B d h).cell? ⟨b,0,Te⟩=Td (.pointer p):=λB d=>by have:(mk B d h).heap[b]?=Td (.cells #[.pointer p,aK s,.bool ln,.int .i64 nd] 166 (0,0)):=e;simp[Ro,this]
 rcases m with rfl|rfl;refine XC.of_calls λB d=>(HE b (mk B d h) (c B d) ?_ ?_).mono ?_
 have:(mk B d h).heap[b]?=Td (.cells #[.pointer Te,aK s,.bool ln,.int .i64 nd] 166 (0,0)):=e;simp[World.shape?,this];exact qJ ⟨_,e⟩ B d;rintro e' w' ⟨rfl,rfl⟩;rw[Ar e];refine⟨_,rfl,rfl,rfl,rfl,?_⟩;show K _ (h.setIfInBounds b _);refine k _ ⟨_,s,?_,.inr rfl,?_⟩ ?_ (by simp) (Otk.ne e λi hi=>NW (Ne.symm hi));rw[Pk f];rfl;refine j.keep λq n=>?_;have:=j.base_le q n;rw[NW (by omega)];exact Keep.setBlk _ (ND _);refine XC.of_calls λB d=>(xN b (mk B d h) (c B d)).mono ?_;rintro e' w' ⟨rfl,rfl⟩;exact⟨_,rfl,rfl,rfl,rfl,k _ ⟨_,s,e,.inr rfl,j⟩ (Keep.refl _ _) rfl (Otk.keep (Keep.refl _ _))⟩
theorem wE{p:Option Addr}{s k:Sl}(e:h[b]?=Td (.cells #[.pointer p,aK k,.bool ln,.int .i64 nd] 166 (0,0)))(n:p=Te\/p=Td ⟨b,0,Te⟩)(f:Owns h (b+1) 5 1 s (Lib.byteCells l)){K:za->Prop}
  (m:∀h',Prn h' b ln nd l->Keep b h h'->h'.size=h.size->Otk h h'->K h'):XRunU Tp (NR 162 (.pointer (Td ⟨b,1,Te⟩)) (.slice s.a s.len s.cap)) h K:=by
 intro B d;obtain⟨h',t,j,i,c⟩:=Zz (P:=Tp) BR xT e (o:=1) (v:=aK s) rfl (by simp) (by simp[aK,Value.cells,Value.oneCell']) B d;refine⟨d,h',t,m h' ⟨p,s,?_,n,?_⟩ (Keep.ne i c) i (Otk.ne e c)⟩;rw[j];rfl;refine f.keep λq r=>?_;have:=f.base_le q r;exact c _ (by omega)
theorem Zs(H:Prn h b ln nd l)(Z:l.length<140737488355328)(c:UInt8)(P:∀h',Prn h' b ln nd (l++[c])->Keep b h h'->Otk h h'->K .nilIface h'):
  XC Tp 177 #[.pointer (Td ⟨b,0,Te⟩),.int .u8 (c.toNat:Int)] h K:=by
 apply ja;refine AS H λj B k2 T F=>⟨rfl,_,rfl,?_⟩;have w:=B.lt;obtain⟨p,s,e,M,r⟩:=B;have m:=r.1;rw[Lib.byteCells_length,OI]at m;refine⟨s,Blk.cellAdd (o:=0) (k:=1) (cs:=#[.pointer p,aK s,.bool ln,.int .i64 nd]) ⟨_,e⟩ rfl,?_⟩;intro f;have t:Keep j.size j f:=Keep.push _ _ (ND _);have s5:f.size=j.size+1:=NN _;have b5:Blk f j.size #[.int .u8 (c.toNat:Int)]:=Blk.new _ _ _;have J:f[b]?=Td (.cells #[.pointer p,aK s,.bool ln,.int .i64 nd] 166 (0,0)):=by rw[t.get b w];exact e
 have C:=r.keepN t;clear_value f;refine j3 pc C (src:=⟨Td ⟨j.size,0,Te⟩,1,1⟩) (news:=[.int .u8 (c.toNat:Int)]) (n:=f.size) ?_ rfl (by simp[Value.oneCell']) (by simp only;omega) (by simp only;omega) (by omega) λA z S E y V U=>⟨A,rfl,_,rfl,?_⟩;refine .inr ⟨j.size,0,rfl,by omega,λi v x=>?_⟩
 match i,x with
 |0,x=>cases x;exact b5.cell rfl
 have O:z[b]?=Td (.cells #[.pointer p,aK s,.bool ln,.int .i64 nd] 166 (0,0)):=by rw[y b (by omega) λq u=>by have:=r.base_le q u;omega];exact J
 have D:Owns z (b+1) 5 1 A (Lib.byteCells (l++[c])):=by
  have:Lib.byteCells (l++[c])=Lib.byteCells l++[.int .u8 (c.toNat:Int)]:=by unfold Lib.byteCells;rw[Oq];rfl
  rw[this];exact E
 have G:Keep b h z:=k2.trans ⟨by omega,λi hi=>by rw[y i (by omega) λq u=>by have:=r.base_le q u;omega];exact t.get i (by omega)⟩ (ND _);refine wE O M D λI L Q Y N=>P I L (G.trans Q (ND _)) (F.trans ((Otk.keep t).trans ((Otk.own C y).trans N)))
theorem Qt(H:Prn h b ln nd l)(t:Bs)(hl:l.length+t.length<=140737488355328)(O:∀h',Prn h' b ln nd (l++t)->Keep b h h'->Otk h h'->K (.tuple #[.int .i64 (t.length:Int),.nilIface]) h'):
  XC Tp 149 #[.pointer (Td ⟨b,0,Te⟩),.string (bl t)] h K:=by
 apply yk;refine AS H λQ y k2 U E=>⟨rfl,_,rfl,?_⟩;have J:=y.lt;obtain⟨p,s,e,L,f⟩:=y;have j:=f.1;rw[Lib.byteCells_length,OI]at j;refine⟨s,Blk.cellAdd (o:=0) (k:=1) (cs:=#[.pointer p,aK s,.bool ln,.int .i64 nd]) ⟨_,e⟩ rfl,?_⟩;have c:=zx t;refine X9 pc f (x:=.string (bl t)) (m:=(bl t).size) (news:=Lib.byteCells t) (λB d=>?_) (by rw[c];omega) (by rw[c];omega) (by omega) λz u T C r Y V=>⟨z,rfl,_,rfl,?_⟩;have:=Src.ofString (P:=Tp) (w:=mk B d Q) zX (bl t);have S:byteCells (bl t)=Lib.byteCells t:=by unfold byteCells Lib.byteCells;have:(bl t).data.toList=t:=Zc t;rw[this]
 rw[S]at this;exact this;have N:u[b]?=Td (.cells #[.pointer p,aK s,.bool ln,.int .i64 nd] 166 (0,0)):=by rw[r b (by omega) λq n=>by have:=f.base_le q n;omega];exact e
 have A:Owns u (b+1) 5 1 z (Lib.byteCells (l++t)):=by
  have:Lib.byteCells (l++t)=Lib.byteCells l++Lib.byteCells t:=by unfold Lib.byteCells;rw[Oq]
  rw[this];exact C
 have F:Keep b h u:=k2.trans ⟨by omega,λi hi=>r i (by omega) λq n=>by have:=f.base_le q n;omega⟩ (ND _);refine wE N L A λG I D Z M=>?_;rw[c];exact O G I (F.trans D (ND _)) (E.trans ((Otk.own f r).trans M))
theorem JK(b:Nat)(p:Value)(ln:Bool)(nd:Int)(v:Value)(l:Bs)(w:World)(i:w.heap[b]?=Td (.cells #[p,v,.bool ln,.int .i64 nd] 166 (0,0)))(f:w.ownsRow (b+1) 5 1 v l.length (Lib.byteCells l))(h0:l≠[]):
  Calls Tp 121 #[.pointer (Td ⟨b,0,Te⟩)] w λe w'=>e=.returned (.string ⟨l.toArray⟩)/\Below (b+1) w w':=by
 have h:l.length≠0:=by simpa using h0
 obtain⟨g,cap,c,rfl,n,s,B,q,z,k⟩:∃g cap c,v=.slice (Td ⟨g,0,Te⟩) l.length cap/\b+1<=g/\w.heap[g]?=Td (.cells c 5 (0,0))/\_:=by rcases f.2 with⟨_,t⟩|⟨g,cap,c,o,r⟩;exact absurd t h;exact⟨g,cap,c,o,r⟩
 have c1:w.drew.cell? ⟨b,1,Te⟩=Td (.slice (Td ⟨g,0,Te⟩) l.length cap):=by have:w.drew.heap[b]?=Td (.cells #[p,.slice (Td ⟨g,0,Te⟩) l.length cap,.bool ln,.int .i64 nd] 166 (0,0)):=i;rw[Lib.cell_of_heap this];rfl
 have A:(Builtin.unsafeSliceData_ #[162] 199 #[.slice (Td ⟨g,0,Te⟩) l.length cap]).run Tp w.drew=.ok (.pointer (Td ⟨g,0,Te⟩)) w.drew:= Lib.run_unsafeSliceData_row _ _ _ _ _ _ (by omega);have u:(Builtin.unsafeString_ #[199,3] 9 #[.pointer (Td ⟨g,0,Te⟩),.int .i64 l.length]).run Tp w.drew=.ok (.string ⟨l.toArray⟩) (w.drew.freeze ⟨g,0,Te⟩ l.length):=by refine Lib.run_unsafeString_row w.drew 199 3 9 5 Tryz.underlying199 (by kernel_rfl) g c.size (by have m:w.drew.heap[g]?=Td (.cells c 5 (0,0)):=s;simp[World.shape?,m]) l h0 (by omega) (by have:maxLen=9223372036854775807:=rfl;omega) ?_;intro j x y;have:=f.cells (g:=g) rfl j (.int .u8 x.toNat) (by simp[Lib.byteCells,y]);exact this
 have mixed:=Tryz.mixed
 go_enter Tryz.func121,Tryz.ntmps121
 go_wp2
 go_region_o
 all_goals (go_wp2;go_ret;exact⟨rfl,Lib.below_freeze (Below.drew (Below.refl (b+1) w)) (p:=⟨g,0,Te⟩) n _⟩)
theorem Mk(H:Prn h b ln nd l)(h0:l≠[])(k:∀h',Keep b h h'->K (.string (bl l)) h'):XC Tp 121 #[.pointer (Td ⟨b,0,Te⟩)] h K:=by obtain⟨p,s,e,m,j⟩:=H;have f:=j.1;rw[Lib.byteCells_length,OI]at f;refine XC.of_calls λB d=>(JK b (.pointer p) ln nd (aK s) l (mk B d h) e (by rw[f];exact j) h0).mono ?_;rintro e' w' ⟨rfl,c⟩;exact⟨_,rfl,c.os,c.tape,c.output,k _ ⟨c.size,λi hi=>c.block i (by omega)⟩⟩
end
end Go.X
end
section
namespace Go.X
section
theorem IX(b:Int)(c:Bt)(d:Sl)(e:Sl)(h:za)(R:Value->za->Prop) (H:let f:=h.push (.cells #[iV b,.string c,aK d,aK e] 48);∃g i j k,ze f ⟨h.size,0,Te⟩ 0 (tL g i j k)/\XC Tp 42 #[tA g i j k] f (λl m=>∃n,l=.bool n/\((!n)=Ta->R (.tuple #[.string (⟨#[]⟩:Bt),iV 1]) m)/\((!n)=Tc->let o:=m.push (.cells #[.pointer Te,.slice Te 0 0,.bool Tc,iV 0] 166);∃p q r s,ze o ⟨h.size,0,Te⟩ 0 (tL p q r s)/\XC Tp 120 #[.pointer (Td ⟨m.size,0,Te⟩),tA p q r s,iV 0] o (λt u=>t=.tuple #[]/\XC Tp 121 #[.pointer (Td (NG ⟨m.size,0,Te⟩ 0))] u (λv w=>∃x,v=.string x/\R (.tuple #[.string x,iV 0]) w))))):
  XC Tp 95 #[.agg #[.int .i64 b,.string c,.slice d.a d.len d.cap,.slice e.a e.len e.cap]] h R:=
 XF ⟨[],[],[]⟩ [.tmp 2,.tmp 3] 12 Tryz.func95 H
theorem J4(L:Option Addr)(b:Int)(c:Bt)(d:Sl)(e:Sl)(J:Int)(h:za)(R:Value->za->Prop) (H:let f:=h.push (.cells #[iV b,.string c,aK d,aK e] 48);∃g,zb f (NG ⟨h.size,0,Te⟩ 0)=Td (iV g)/\((g==1)=Ta->∃i,L=Td i/\XC Tp 149 #[.pointer (Td (NG i 0)),.string (⟨#[110,117,108,108]⟩:Bt)] f (λj k=>∃l,∃m:Value,j=.tuple #[iV l,m]/\R (.tuple #[]) k))/\((g==1)=Tc->((g==4)=Ta->∃n,zb f (NG ⟨h.size,0,Te⟩ 1)=Td (.string n)/\XC Tp 150 #[.pointer L,.string n] f (λo p=>o=.tuple #[]/\R (.tuple #[]) p))/\((g==4)=Tc->((g==5)=Ta->∃q r s t,ze f ⟨h.size,0,Te⟩ 0 (tL q r s t)/\XC Tp 151 #[.pointer L,tA q r s t,iV J,.string (⟨#[91,93]⟩:Bt),.func (.func 152) #[.pointer L] #[]] f (λu v=>u=.tuple #[]/\R (.tuple #[]) v))/\((g==5)=Tc->((g==6)=Ta->∃w x y z,ze f ⟨h.size,0,Te⟩ 0 (tL w x y z)/\XC Tp 151 #[.pointer L,tA w x y z,iV J,.string (⟨#[123,125]⟩:Bt),.func (.func 153) #[.pointer L] #[]] f (λA B=>A=.tuple #[]/\R (.tuple #[]) B))/\((g==6)=Tc->∃C,L=Td C/\∃D,zb f (NG ⟨h.size,0,Te⟩ 1)=Td (.string D)/\XC Tp 149 #[.pointer (Td (NG C 0)),.string D] f (λE F=>∃G,∃I:Value,E=.tuple #[iV G,I]/\R (.tuple #[]) F)))))):
  XC Tp 120 #[.pointer L,.agg #[.int .i64 b,.string c,.slice d.a d.len d.cap,.slice e.a e.len e.cap],.int .i64 J] h R:=
 XF ⟨[(2,8000)],[],[]⟩ [] 42 Tryz.func120 H
theorem Ju(k:Option Addr)(s1:Bt)(h:za)(R:Value->za->Prop) (H:XC Tp 176 #[.string s1] h (λa b=>∃c d,a=.tuple #[.string c,iV d]/\∃e,k=Td e/\XC Tp 149 #[.pointer (Td (NG e 0)),.string c] b (λf g=>∃i,∃j:Value,f=.tuple #[iV i,j]/\R (.tuple #[]) g))):
  XC Tp 150 #[.pointer k,.string s1] h R:=
 XF ⟨[],[],[]⟩ [] 16 Tryz.func150 H
theorem J5(V:Option Addr)(b:Int)(c:Bt)(d:Sl)(e:Sl)(P:Int)(Q:Bt)(S:FuncId)(T:Array Value)(U:Array Value)(h:za)(R:Value->za->Prop) (H:let f:=h.push (.cells #[iV b,.string c,aK d,aK e] 48);∃g,V=Td g/\(0<=(0:Int)/\(0:Int)<(Q.size:Int))/\XC Tp 177 #[.pointer (Td (NG g 0)),.int .u8 (y0 Q (0:Int).toNat)] f (λi j=>∃k:Value,i=k/\∃l,zb j (NG ⟨h.size,0,Te⟩ 3)=Td (aK l)/\∃(m:Int->za->Prop) (n:Int->za->Nat),m 0 j/\∀o:Int,∀p:za,m o p->((decide (o<l.len)=Ta->∀q:za->Prop,(∀r:za,(XC Tp 178 #[.pointer V,iV (NB .i64 (P+1))] r (λs t=>s=.tuple #[]/\∃u v w x,ze t ⟨h.size,0,Te⟩ 0 (tL u v w x)/\zr Tp S=Ta/\XC Tp S (T++#[tA u v w x,iV o,iV (NB .i64 (P+1))]++U) t (λy z=>y=.tuple #[]/\(m (NB .i64 (o+1)) z/\n (NB .i64 (o+1)) z<n o p))))->q r)->(decide (o>0)=Ta->∃A,V=Td A/\XC Tp 177 #[.pointer (Td (NG A 0)),.int .u8 44] p (λB C=>∃D:Value,B=D/\q C))/\(decide (o>0)=Tc->q p))/\(decide (o<l.len)=Tc->∀E:za->Prop,(∀F:za,(∃G,V=Td G/\(0<=(1:Int)/\(1:Int)<(Q.size:Int))/\XC Tp 177 #[.pointer (Td (NG G 0)),.int .u8 (y0 Q (1:Int).toNat)] F (λI J=>∃L:Value,I=L/\R (.tuple #[]) J))->E F)->∃M,zb p (NG ⟨h.size,0,Te⟩ 3)=Td (aK M)/\(decide ((M.len:Int)>0)=Ta->XC Tp 178 #[.pointer V,iV P] p (λN O=>N=.tuple #[]/\E O))/\(decide ((M.len:Int)>0)=Tc->E p))))):
  XC Tp 151 #[.pointer V,.agg #[.int .i64 b,.string c,.slice d.a d.len d.cap,.slice e.a e.len e.cap],.int .i64 P,.string Q,.func (.func S) T U] h R:=
 XF ⟨[(1,8000),(12,8000)],[(3,[(20,.one (.int .i64))])],[(7,[]),(12,[])]⟩ [] 53 Tryz.func151 H
theorem Xf(r:Option Addr)(b:Int)(c:Bt)(d:Sl)(e:Sl)(q:Int)(p:Int)(h:za)(R:Value->za->Prop) (H:let f:=h.push (.cells #[iV b,.string c,aK d,aK e] 48);∃g,zb f (NG ⟨h.size,0,Te⟩ 3)=Td (aK g)/\∃i,(g.a=Td i/\0<=q/\q<g.len)/\∃j k l m,ze f (i.add (q.toNat*4)) 0 (tL j k l m)/\XC Tp 120 #[.pointer r,tA j k l m,iV p] f (λn o=>n=.tuple #[]/\R (.tuple #[]) o)):
  XC Tp 152 #[.pointer r,.agg #[.int .i64 b,.string c,.slice d.a d.len d.cap,.slice e.a e.len e.cap],.int .i64 q,.int .i64 p] h R:=
 XF ⟨[],[],[]⟩ [] 16 Tryz.func152 H
theorem Jv(J:Option Addr)(b:Int)(c:Bt)(d:Sl)(e:Sl)(I:Int)(G:Int)(h:za)(R:Value->za->Prop) (H:let f:=h.push (.cells #[iV b,.string c,aK d,aK e] 48);∃g,zb f (NG ⟨h.size,0,Te⟩ 2)=Td (aK g)/\∃i,(g.a=Td i/\0<=I/\I<g.len)/\∃j,zb f (i.add (I.toNat*1))=Td (.string j)/\XC Tp 150 #[.pointer J,.string j] f (λk l=>k=.tuple #[]/\∃m,J=Td m/\XC Tp 177 #[.pointer (Td (NG m 0)),.int .u8 58] l (λn o=>∃p:Value,n=p/\∀q:za->Prop,(∀r:za,(∃s,zb r (NG ⟨h.size,0,Te⟩ 3)=Td (aK s)/\∃t,(s.a=Td t/\0<=I/\I<s.len)/\∃u v w x,ze r (t.add (I.toNat*4)) 0 (tL u v w x)/\XC Tp 120 #[.pointer J,tA u v w x,iV G] r (λy z=>y=.tuple #[]/\R (.tuple #[]) z))->q r)->∃A,J=Td A/\∃B,zb o (NG A 2)=Td (.bool B)/\(B=Ta->∃C,J=Td C/\XC Tp 177 #[.pointer (Td (NG C 0)),.int .u8 32] o (λD E=>∃F:Value,D=F/\q E))/\(B=Tc->q o)))):
  XC Tp 153 #[.pointer J,.agg #[.int .i64 b,.string c,.slice d.a d.len d.cap,.slice e.a e.len e.cap],.int .i64 I,.int .i64 G] h R:=
 XF ⟨[],[],[(5,[])]⟩ [] 35 Tryz.func153 H
theorem Xg(s:Option Addr)(r:Int)(h:za)(R:Value->za->Prop) (H:∃a,s=Td a/\∃b,zb h (NG a 2)=Td (.bool b)/\(b=Ta->∃c,s=Td c/\XC Tp 177 #[.pointer (Td (NG c 0)),.int .u8 10] h (λd e=>∃f:Value,d=f/\∃g,s=Td g/\∃i,s=Td i/\∃j,zb e (NG i 3)=Td (iV j)/\XC Tp 147 #[.string (⟨#[32]⟩:Bt),iV (NB .i64 (j*r))] e (λk l=>∃m,k=.string m/\XC Tp 149 #[.pointer (Td (NG g 0)),.string m] l (λn o=>∃p,∃q:Value,n=.tuple #[iV p,q]/\R (.tuple #[]) o))))/\(b=Tc->R (.tuple #[]) h)):
  XC Tp 178 #[.pointer s,.int .i64 r] h R:=
 XF ⟨[(2,8000)],[],[]⟩ [] 23 Tryz.func178 H
theorem EB(b:Int)(c:Bt)(d:Sl)(e:Sl)(h:za)(R:Value->za->Prop) (H:let f:=h.push (.cells #[iV b,.string c,aK d,aK e] 48);let g:=f.push (.cells tC 48);∃i j k l,ze g ⟨h.size,0,Te⟩ 0 (tL i j k l)/\XC Tp 67 #[tA i j k l] g (λm n=>∃o,m=.bool o/\((!o)=Ta->XRunU Tp (NR 48 (.pointer (Td ⟨f.size,0,Te⟩)) (tZ)) n (λp=>∃q r s t,ze p ⟨f.size,0,Te⟩ 0 (tL q r s t)/\R (tA q r s t) p))/\((!o)=Tc->∃u v w x,ze n ⟨h.size,0,Te⟩ 0 (tL u v w x)/\XC Tp 68 #[tA u v w x] n (λy z=>∃A B C D,y=tA A B C D/\XRunU Tp (NR 48 (.pointer (Td ⟨f.size,0,Te⟩)) (tA A B C D)) z (λE=>∃F G I J,ze E ⟨f.size,0,Te⟩ 0 (tL F G I J)/\R (tA F G I J) E))))):
  XC Tp 44 #[.agg #[.int .i64 b,.string c,.slice d.a d.len d.cap,.slice e.a e.len e.cap]] h R:=
 XF ⟨[],[],[]⟩ [.cell 2 48] 9 Tryz.func44 H
theorem F9(b:Int)(c:Bt)(d:Sl)(e:Sl)(h:za)(R:Value->za->Prop) (H:let f:=h.push (.cells #[iV b,.string c,aK d,aK e] 48);let g:=f.push (.cells tC 48);∃i,zb g (NG ⟨h.size,0,Te⟩ 0)=Td (iV i)/\∃j,zb g (NG ⟨h.size,0,Te⟩ 1)=Td (.string j)/\let k:=g.push (.cells tC 48);XRunU Tp (NR 48 (.pointer (Td ⟨g.size,0,Te⟩)) (.agg #[iV i,.string j,.slice Te 0 0,.slice Te 0 0])) k (λl=>∃m,zb l (NG ⟨h.size,0,Te⟩ 0)=Td (iV m)/\((m != 6)=Ta->∃n,zb l (NG ⟨h.size,0,Te⟩ 3)=Td (aK n)/\∃(o:Int->za->Prop) (p:Int->za->Nat),o 0 l/\∀q:Int,∀r:za,o q r->((decide (q<n.len)=Ta->∃s,(n.a=Td s/\0<=q/\q<n.len)/\∃t u v w,ze r (s.add (q.toNat*4)) 0 (tL t u v w)/\let x:=r.push (.cells tC 48);XRunU Tp (NR 48 (.pointer (Td ⟨r.size,0,Te⟩)) (tA t u v w)) x (λy=>∃z,zb y (NG ⟨g.size,0,Te⟩ 3)=Td (aK z)/\∃A B C D,ze y ⟨r.size,0,Te⟩ 0 (tL A B C D)/\XC Tp 68 #[tA A B C D] y (λE F=>∃G I J L,E=tA G I J L/\(F)[((NG ⟨g.size,0,Te⟩ 3):Addr).block]?=(y)[((NG ⟨g.size,0,Te⟩ 3):Addr).block]?/\let M:=F.push (.cells #[iV G,.string I,aK J,aK L] 48);(M)[((NG ⟨g.size,0,Te⟩ 3):Addr).block]?=(y)[((NG ⟨g.size,0,Te⟩ 3):Addr).block]?/\jh Tp (NX #[46,46] 46 #[aK z,.slice (Td ⟨F.size,0,Te⟩) 1 1]) M (λN O=>∃P,N=aK P/\XRunU Tp (NR 46 (.pointer (Td (NG ⟨g.size,0,Te⟩ 3))) (aK P)) O (λQ=>(o (NB .i64 (q+1)) Q/\p (NB .i64 (q+1)) Q<p q r))))))/\(decide (q<n.len)=Tc->∃S T U V,ze r ⟨g.size,0,Te⟩ 0 (tL S T U V)/\XRunU Tp (NR 48 (.pointer (Td ⟨f.size,0,Te⟩)) (tA S T U V)) r (λW=>∃X Y Z aa,ze W ⟨f.size,0,Te⟩ 0 (tL X Y Z aa)/\R (tA X Y Z aa) W))))/\((m != 6)=Tc->∃ab ac ad ae,ze l ⟨h.size,0,Te⟩ 0 (tL ab ac ad ae)/\XC Tp 96 #[tA ab ac ad ae] l (λaf ag=>∃ah:Option Nat,af=.map ah/\XC Tp 98 #[.map ah] ag (λai aj=>∃ak:Value,ai=ak/\XC Tp 97 #[ak] aj (λal am=>∃an,al=aK an/\XRunU Tp (NR 22 (.pointer (Td (NG ⟨g.size,0,Te⟩ 2))) (aK an)) am (λao=>∃ap,zb ao (NG ⟨g.size,0,Te⟩ 2)=Td (aK ap)/\∃(aq:Int->za->Prop) (ar:Int->za->Nat),aq 0 ao/\∀au:Int,∀av:za,aq au av->((decide (au<ap.len)=Ta->∃aw,(ap.a=Td aw/\0<=au/\au<ap.len)/\∃ax,zb av (aw.add (au.toNat*1))=Td (.string ax)/\∃ay,zb av (NG ⟨g.size,0,Te⟩ 3)=Td (aK ay)/\∃az aA aB aC,QExec Tp (QJ 133 (.map ah) (.string ax) Tc) av (tA az aA aB aC)/\(av)[((NG ⟨g.size,0,Te⟩ 3):Addr).block]?=(av)[((NG ⟨g.size,0,Te⟩ 3):Addr).block]?/\XC Tp 68 #[tA az aA aB aC] av (λaD aE=>∃aF aG aH aI,aD=tA aF aG aH aI/\(aE)[((NG ⟨g.size,0,Te⟩ 3):Addr).block]?=(av)[((NG ⟨g.size,0,Te⟩ 3):Addr).block]?/\let aJ:=aE.push (.cells #[iV aF,.string aG,aK aH,aK aI] 48);(aJ)[((NG ⟨g.size,0,Te⟩ 3):Addr).block]?=(av)[((NG ⟨g.size,0,Te⟩ 3):Addr).block]?/\jh Tp (NX #[46,46] 46 #[aK ay,.slice (Td ⟨aE.size,0,Te⟩) 1 1]) aJ (λaL aM=>∃aN,aL=aK aN/\XRunU Tp (NR 46 (.pointer (Td (NG ⟨g.size,0,Te⟩ 3))) (aK aN)) aM (λaO=>(aq (NB .i64 (au+1)) aO/\ar (NB .i64 (au+1)) aO<ar au av)))))/\(decide (au<ap.len)=Tc->∃aP aQ aS aT,ze av ⟨g.size,0,Te⟩ 0 (tL aP aQ aS aT)/\XRunU Tp (NR 48 (.pointer (Td ⟨f.size,0,Te⟩)) (tA aP aQ aS aT)) av (λaU=>∃aV aW aX aY,ze aU ⟨f.size,0,Te⟩ 0 (tL aV aW aX aY)/\R (tA aV aW aX aY) aU)))))))))):
  XC Tp 68 #[.agg #[.int .i64 b,.string c,.slice d.a d.len d.cap,.slice e.a e.len e.cap]] h R:=
 XF ⟨[(6,8000),(14,8000)],[(4,[(20,.one (.int .i64))]),(12,[(42,.one (.int .i64))])],[]⟩ [.cell 2 48] 57 Tryz.func68 H
theorem FR(b:Int)(c:Bt)(d:Sl)(e:Sl)(h:za)(R:Value->za->Prop) (H:let f:=h.push (.cells #[iV b,.string c,aK d,aK e] 48);∃g,zb f (NG ⟨h.size,0,Te⟩ 2)=Td (aK g)/\let i:=f.push (.map #[] 0);∃j,zb i (NG ⟨h.size,0,Te⟩ 2)=Td (aK j)/\∃(k:Int->za->Prop) (l:Int->za->Nat),k 0 i/\∀m:Int,∀n:za,k m n->((decide (m<j.len)=Ta->∃o,(j.a=Td o/\0<=m/\m<j.len)/\∃p,zb n (o.add (m.toNat*1))=Td (.string p)/\∃q,zb n (NG ⟨h.size,0,Te⟩ 3)=Td (aK q)/\∃r,(q.a=Td r/\0<=m/\m<q.len)/\∃s t u v,ze n (r.add (m.toNat*4)) 0 (tL s t u v)/\XRunU Tp (O8 133 (.map (Td f.size)) (.string p) (tA s t u v)) n (λw=>(k (NB .i64 (m+1)) w/\l (NB .i64 (m+1)) w<l m n)))/\(decide (m<j.len)=Tc->R (.map (Td f.size)) n))):
  XC Tp 96 #[.agg #[.int .i64 b,.string c,.slice d.a d.len d.cap,.slice e.a e.len e.cap]] h R:=
 XF ⟨[],[(3,[(13,.one (.int .i64))])],[]⟩ [.tmp 2] 27 Tryz.func96 H
theorem JE(b:Int)(c:Bt)(d:Sl)(e:Sl)(h:za)(R:Value->za->Prop) (H:let f:=h.push (.cells #[iV b,.string c,aK d,aK e] 48);∃g i j k,ze f ⟨h.size,0,Te⟩ 0 (tL g i j k)/\XC Tp 56 #[tA g i j k] f (λl m=>∃n,l=.bool n/\∃o p q r,(n=Ta->ze m ⟨h.size,0,Te⟩ 0 (tL o p q r))/\∃s:Value->za->Prop,(n=Ta->XC Tp 57 #[tA o p q r,.func (.func 58) #[] #[]] m (λt u=>∃v,t=.bool v/\s (.bool v) u))/\(n=Tc->∃w,s (.bool w) m)/\(n=Ta->∀x y,s x y->∃z,x=.bool z)/\∀A:Bool,∀B,s (.bool A) B->R (.bool (bif n then A else Tc)) B)):
  XC Tp 42 #[.agg #[.int .i64 b,.string c,.slice d.a d.len d.cap,.slice e.a e.len e.cap]] h R:=
 XF ⟨[],[],[]⟩ [.tmp 2] 9 Tryz.func42 H
end
end Go.X
end
section
namespace Go.X
open Go Go.X Go.Proofs Go.RowKit
section
variable {h:za} {it:Nat} {s:Bt} {K:Value -> za -> Prop}
theorem IS{P:Program}{p:Nat}(e:h[it]?=Td (.stringIter s p)){T:TypeId}(l:p<s.size->K (.tuple #[.bool Ta,.int .i64 (p:Int),.int .i32 (fp s p)]) (h.setIfInBounds it (.stringIter s (ek s p))))
  (h0:s.size<=p->K (.tuple #[.bool Tc]) h):jh P (QE (.pointer (Td ⟨it,0,Te⟩)) Ta T) h K:=by
 have f:∀(w:World),w.heap[it]?=Td (.stringIter s p)->(getObj it).run P w=.ok (.stringIter s p) w:=λw e=>by simp[getObj,Sem.run,e]
 have i:∀(w:World) (c:Obj),w.heap[it]?=Td (.stringIter s p)->(setObj it c).run P w=.ok () { w with heap:=w.heap.setIfInBounds it c }:=λw c e=>by simp[setObj,Sem.run,e]
 intro B d;by_cases b:p<s.size;have k:ew s p=Ta:=by simpa[ew,Pp]using b
 have j:ek s p=p+(Rw s p).2:=by unfold ek;rw[show Nat.blt p s.size=Ta from k];rfl
 refine⟨_,d,_,?_,l b⟩;unfold QE;simp only;rw[Sem.run_bind,f (mk B d h) e];simp only[Result.andThen_ok,b,if_true];rw[Sem.run_bind,i (mk B d h) _ e,j];rfl;refine⟨_,d,h,?_,h0 (by omega)⟩;unfold QE;simp only;rw[Sem.run_bind,f (mk B d h) e];simp only[Result.andThen_ok,b,if_false];rfl
theorem Bld.other{h h':za}{b:Nat}{l:Bs}(H:Bld h b l){p:Nat}(e:h[it]?=Td (.stringIter s p))(f:∀i,i≠it->h'[i]?=h[i]?):Bld h' b l:=by obtain⟨q,r,n,u,t⟩:=H;refine⟨q,r,?_,u,t.keep λa o=>?_⟩;rw[f b (λc=>by rw[c,e]at n;cases n)];exact n;refine f _ λc=>?_;rcases t.2 with⟨j,_⟩|⟨g,cap,m,j,_,k,_⟩;rw[o]at j;cases j;have k:h[g]?=Td (.cells m 5 (0,0)):=k;rw[o]at j;injection j with e1 _ _;injection e1 with e1;rw[e1]at c;have c:g=it:=c;rw[c,e]at k;cases k
theorem Bld.zero(h:za):Bld (h.push (.cells #[.pointer Te,.slice Te 0 0] 164)) h.size []:= ⟨Te,⟨Te,0,0⟩,qq _ _,.inl rfl,Owns.nil _ _ _ _⟩
theorem DO{r:Nat}(w:r<=1114111)(c:K (.int .u8 (fc r:Int)) h):XC Tp 204 #[.int .i32 (r:Int)] h K:=by
 apply Da;intro t p;have i:∀n:Nat,((r:Int)==(n:Int))=decide (r=n):=λn=>by rw[Om];simp only[beq_iff_eq,zC];omega
 have m:((r:Int)==34)=decide (r=34):=i 34;have l:((r:Int)==92)=decide (r=92):=i 92;have s:((r:Int)==8)=decide (r=8):=i 8;have o:((r:Int)==12)=decide (r=12):=i 12;have j:((r:Int)==10)=decide (r=10):=i 10;have q:((r:Int)==13)=decide (r=13):=i 13;have u:((r:Int)==9)=decide (r=9):=i 9;unfold fc at c;have fin:∀b:Bool,(b=Ta↔r=34\/r=92)->t b h:=λb k=>by
  refine p _ _ ⟨λf=>?_,λf=>?_⟩;rw[zz (k.1 f)]at c;have e:NB .u8 (r:Int)=(r:Int):=by rcases k.1 f with rfl|rfl <;> rfl
  rw[e];exact c;rw[zv (λh=>by rw[k.2 h]at f;cases f)]at c;rw[s,o,j,q,u];refine⟨λh=>?_,λh=>?_⟩;rw[zz (zD h)]at c;exact c;rw[zv (zE h)]at c;refine⟨λh=>?_,λh=>?_⟩;rw[zz (zD h)]at c;exact c;rw[zv (zE h)]at c;refine⟨λh=>?_,λh=>?_⟩;rw[zz (zD h)]at c;exact c;rw[zv (zE h)]at c;refine⟨λh=>?_,λh=>?_⟩;rw[zz (zD h)]at c;exact c;rw[zv (zE h)]at c;refine⟨λh=>?_,λh=>?_⟩;rw[zz (zD h)]at c;exact c;rw[zv (zE h)]at c;exact c
 rw[m,l];refine⟨λf=>fin _ ?_,λf=>fin _ ?_⟩;rw[f];exact⟨λ_=>.inl (zD f),λ_=>rfl⟩;rw[zC];exact⟨.inr,λh=>h.resolve_left (zE f)⟩
theorem De{c:Nat}(b:c<32):[92,117]++Lib.repeatL [48] (4-(dB c).length)++dB c=[92,117,48,48,PL (48+c / 16),r7 (c % 16)]/\((dB c).length=1\/(dB c).length=2):=by
 have:(OB 32).all (λc=>decide ([92,117]++Lib.repeatL [48] (4-(dB c).length)++dB c=[92,117,48,48,PL (48+c / 16),r7 (c % 16)]/\((dB c).length=1\/(dB c).length=2)))=Ta:=by kernel_rfl
 exact zD (N3.1 this c (Og.2 b))
set_option maxRecDepth 100000 in
set_option maxHeartbeats 4000000 in
theorem Mn{gl:Fr}(hg:GL gl){t:Bs}(ht:t.length<=1048576){M:Fr}(hM:Fr.le gl M)(hb:Brn M)(ag:AgM M h)(Z:∀h',Keep h.size h h'->K (.tuple #[.string (bl (eG t).1),.int .i64 (eG t).2]) h'):
  XC Tp 176 #[.string (bl t)] h K:=by
 apply Nt
 refine(vy hg.tabs (l:=t) (by omega) (R:=λr=>r.2=dF t) λk=>rfl).go hM ag (zw (a:=Arg.mk .str _) (rdStr _) yc) λv f M2 r L2 Q hr=>?_
 obtain⟨n,is⟩:=r
 have hr:is=dF t:=hr
 subst hr
 obtain⟨_,⟨u1,_,rfl,aF,u2,rfl,B⟩,rfl⟩:=Q
 obtain rfl:=lD aF
 have B:u2=.bool (dF t):=by rw[Qs rfl]at B;simpa[Rd]using B
 subst B
 refine⟨_,_,rfl,?_⟩
 unfold eG at Z
 refine⟨λu=>?_,λu=>?_⟩
 ·have:dF t=Tc:=by simpa using u
  rw[this]at Z
  exact Z f L2.keep
 have hu:dF t=Ta:=by simpa using u
 rw[zz hu]at Z
 intro h5
 have k5:Keep f.size f h5:=Keep.push _ _ (ND _)
 have z5:h5.size=f.size+1:=NN _
 have B5:Bld h5 f.size []:=Bld.zero f
 clear_value h5
 have z2:=L2.keep.size
 refine Jl B5 (by simp) 34 λq B7 k7 i7=>⟨_,rfl,?_⟩
 have z7:f.size<q.size:=B7.lt
 intro D
 have k9:Keep q.size q D:=Keep.push _ _ (ND _)
 have z9:D.size=q.size+1:=NN _
 have B9:Bld D f.size [34]:=B7.keep k9
 have e9:D[q.size]?=Td (.stringIter (bl t) 0):=qq _ _
 clear_value D
 have H:Keep h.size h D:=⟨by omega,λj J=>by rw[k9.get j (by omega),k7.get j (by omega),k5.get j (by omega),L2.keep.get j J]⟩
 refine⟨λg=>∃p,p<=t.length/\Bld g f.size (34::eh (t.take p))/\g[q.size]?=Td (.stringIter (bl t) p)/\dF (t.drop p)=Ta/\Keep f.size D g,λg=>match g[q.size]? with
  |some (.stringIter _ p)=>t.length-p
  |_=>0,⟨0,by omega,B9,e9,hu,Keep.refl _ _⟩,?_⟩
 rintro g ⟨p,hp,Bg,eg,w,kg⟩
 have aD:(eh (t.take p)).length<=6*t.length:=by
  have:=tY (t.take p)
  rw[N8]at this;omega
 refine IS eg (λO=>.inr ⟨_,_,rfl,λ_=>?_,λu=>(by cases u)⟩) (λz=>.inl ⟨rfl,λu=>(by cases u),λ_=>?_⟩)
 ·-- a rune more
  rw[zx]at O
  have hd:t.drop p≠[]:=by intro e;rw[List.drop_eq_nil_iff]at e;omega
  have G:ft (dec (t.drop p))=Tc:=by
   rw[W2 hd]at w
   cases hbd:ft (dec (t.drop p))with
   |true=>rw[hbd]at w;cases w
   |false=>rfl
  have N:dF (t.drop (p+(dec (t.drop p)).2))=Ta:=by
   rw[W2 hd,G]at w
   rw[<-QO];simpa using w
  have hq:=HZ hd G
  have hw:=Yf (t.drop p)
  have V:=pY hd
  rw[ON]at V
  have F:=CH (t.drop p)
  have o:eh (t.take (p+(dec (t.drop p)).2))=eh (t.take p)++kG (dec (t.drop p)).1:=by
   rw[<-hq,<-E2,List.take_add]
  rw[nh,mF t p O]
  generalize hr:(dec (t.drop p)).1=r at F o ⊢
  generalize hn:(dec (t.drop p)).2=n at hw V N o ⊢
  have aA:q.size<g.size:=(NK.1 eg).1
  generalize A:g.setIfInBounds q.size (.stringIter (bl t) (p+n))=h14
  have Y:∀i,i≠q.size->h14[i]?=g[i]?:=λi hi=>by rw[<-A,NW (Ne.symm hi)]
  have au:h14[q.size]?=Td (.stringIter (bl t) (p+n)):=by rw[<-A,Pk aA]
  have aQ:h14.size=g.size:=by rw[<-A];simp
  have C:=Bg.other eg Y
  have I:Keep f.size D h14:=⟨by have:=kg.size;omega,λj J=>by rw[Y j (by omega)];exact kg.get j J⟩
  have fin:∀g':za,Bld g' f.size (34::eh (t.take p)++kG r)->Keep f.size h14 g'->Itk h14 g'->(∃p,p<=t.length/\Bld g' f.size (34::eh (t.take p))/\g'[q.size]?=Td (.stringIter (bl t) p)/\dF (t.drop p)=Ta/\Keep f.size D g') /\
    (match g'[q.size]? with|some (.stringIter _ p)=>t.length-p|_=>0)<(match g[q.size]? with|some (.stringIter _ p)=>t.length-p|_=>0):=λg' B' k' i'=>by
   have e':=i' _ _ _ au
   refine⟨⟨p+n,by omega,by rw[o];exact B',e',N,I.trans k' (ND _)⟩,?_⟩
   rw[e',eg]
   show t.length-(p+n)<t.length-p
   omega
  have aY:(34::eh (t.take p)).length=(eh (t.take p)).length+1:=rfl
  unfold kG at fin
  refine DO F ⟨_,rfl,λu=>?_,λu=>?_⟩
  ·have h0:fc r≠0:=by intro e;rw[e]at u;simp at u
   rw[zz h0]at fin
   have aa:fc r<256:=by
    unfold fc
    repeat' split
    all_goals omega
   have e8:((PL (fc r)).toNat:Int)=(fc r:Int):=by rw[UInt8.toNat_ofNat'];omega
   refine Jl C (by omega) 92 λaN aE aC ah=>⟨_,rfl,?_⟩
   rw[<-e8]
   refine Jl aE (by simp;omega) (PL (fc r)) λal T ay am=>⟨_,rfl,?_⟩
   refine fin al ?_ (aC.trans ay (ND _)) (ah.trans am)
   rw[Od]at T;exact T
  ·have h0:fc r=0:=by
    have:((fc r:Int) != 0)=Tc:=u
    simpa using this
   rw[zv (by rw[h0];exact λh=>h rfl)]at fin
   refine⟨λz=>?_,λb=>?_⟩
   ·have z:32<=r:=by have:=zD z;omega
    rw[zz z]at fin
    refine Gi C (by omega) (by omega) (by omega) λaG m ax aB ab=>⟨_,_,rfl,?_⟩
    exact fin aG ax aB ab
   ·have b:r<32:=by have:=zE b;omega
    rw[zv (by omega)]at fin
    obtain⟨az,aS⟩:=De b
    rw[em (by omega)]
    have P:Keep h.size h h14:=⟨by have:=I.size;have:=H.size;omega,λj J=>by rw[I.get j (by omega),H.get j J]⟩
    have E:AgM M h14:=ag.keep P
    refine Mp b hb E λaO y=>⟨_,rfl,?_⟩
    have aJ:(dB r).length<=4:=by omega
    rw[zx,em (by omega),show(4:Int)-((dB r).length:Int)=((4-(dB r).length:Nat):Int)from by omega]
    refine(tM (gl:=gl) (s:=bl [48]) (c:=4-(dB r).length) (by omega) (by rw[zx];simp;omega) (R:=λx=>x=bl (Lib.repeatL [48] (4-(dB r).length))) (by rw[Zc])).go hM (E.keep y) (zw (a:=Arg.mk .str _) (rdStr _) (zw (a:=Arg.mk (.int .i64) _) (fQ _ _) yc)) λv ac aZ x L Q u=>?_
    subst u
    have Q:=ua (dJ.1 Q)
    have af:=Lib.repeatL_length [48] (4-(dB r).length)
    have hz:(Lib.repeatL [48] (4-(dB r).length)).length<=4:=by rw[af];simp
    refine⟨_,Q,?_,?_,?_⟩
    ·show ji ((bl [92,117]).size+(bl (Lib.repeatL [48] (4-(dB r).length))).size)
     unfold ji
     rw[zx,zx];simp only[NU,OE];omega
    ·show ji ((bl [92,117]++bl (Lib.repeatL [48] (4-(dB r).length))).size+(bl (dB r)).size)
     unfold ji
     rw[jm,zx,zx,NH];simp only[NU,OE];omega
    ·have e:((⟨#[92,117]⟩:Bt)++bl (Lib.repeatL [48] (4-(dB r).length)))++bl (dB r)=bl ([92,117]++Lib.repeatL [48] (4-(dB r).length)++dB r):=by
      show(bl [92,117]++bl (Lib.repeatL [48] (4-(dB r).length)))++bl (dB r)=_
      rw[jm,jm]
     rw[e,az]
     have aP:=y.size
     have aI:=(C.keep y).keep L.keep
     have an:Itk h14 ac:=(Itk.keep y).trans (Itk.keep L.keep)
     have aL:=C.lt
     refine GQ aI _ (by simp only[NU,OE];omega) λai aH aj ak=>⟨_,_,rfl,?_⟩
     exact fin ai aH (((y.mono (m:=f.size) (by omega)).trans (L.keep.mono (m:=f.size) (by omega)) (ND _)).trans aj (ND _)) (an.trans ak)
 ·rw[zx]at z
  have ae:p=t.length:=by omega
  subst ae
  rw[N7]at Bg
  refine Jl Bg (by rw[N7]at aD;simp;omega) 34 λaU ap U aV=>⟨_,rfl,?_⟩
  refine I6 ap λar S=>⟨_,rfl,?_⟩
  refine Z ar ⟨?_,λj J=>?_⟩
  ·have:=kg.size;have:=U.size;have:=S.size;omega
  ·rw[S.get j (by omega),U.get j (by omega),kg.get j (by omega),H.get j J]
end
section
variable {b:Nat} {g g':za} {K:Value -> za -> Prop}
structure FrP (b:Nat) (g g':za):Prop where
 keep:Keep b g g'
 oth:Otk g g'
theorem FrP.refl(b:Nat)(g:za):FrP b g g:=⟨Keep.refl _ _,λi o e _=>e⟩
theorem FrP.trans{g g' c:za}(h:FrP b g g')(k:FrP b g' c):FrP b g c:=⟨h.keep.trans k.keep (ND _),h.oth.trans k.oth⟩
theorem FrP.ofKeep(k:Keep g.size g g')(c:b<=g.size):FrP b g g':=⟨k.mono c,Otk.keep k⟩
theorem FrP.blk(h:FrP b g g'){c:Nat}{cs:Array Value}(e:g[c]?=Td (.cells cs 48 (0,0))):g'[c]?=Td (.cells cs 48 (0,0)):=h.oth c _ e rfl
structure Low (gl M:Fr) (b:Nat) (g:za):Prop where
 hM:Fr.le gl M
 ag:AgM M g
 low:∀c cs,M c=Td cs->c<b
theorem Low.frp{gl M:Fr}(L:Low gl M b g)(f:FrP b g g'):Low gl M b g':=⟨L.hM,λc cs e=>by rw[f.keep.get c (L.low c cs e)];exact L.ag c cs e,L.low⟩
theorem add0(b:Nat):NG ⟨b,0,Te⟩ 0=⟨b,0,Te⟩:=rfl
section
variable {gl M : Fr} {b N : Nat} {ln : Bool} {l : Bs} {g : za}
theorem H6(o:GL gl)(e:Brn gl)(H:Prn g b ln (N:Int) l)(L:Low gl M b g){t:Bs}(h:t.length<=1048576)(n:l.length+(eG t).1.length<=140737488355328)(i:∀g',Prn g' b ln (N:Int) (l++(eG t).1)->FrP b g g'->K (.tuple #[]) g'):
  XC Tp 150 #[.pointer (Td ⟨b,0,Te⟩),.string (bl t)] g K:=by
 apply Ju;refine Mn o h L.hM (e.mono L.hM) L.ag λh' k=>⟨_,_,rfl,_,rfl,?_⟩;rw[add0];have f:=FrP.ofKeep k (QU H.lt);refine Qt (H.keep k) _ n λp c m j=>⟨_,_,rfl,i p c (f.trans ⟨m,j⟩)⟩
theorem vt(i:GL gl)(c:Brn gl)(H:Prn g b ln (N:Int) l)(L:Low gl M b g){s:Bt}(e:(lb s).length<=1048576)(h:l.length+(eG (lb s)).1.length<=140737488355328)(f:∀g',Prn g' b ln (N:Int) (l++(eG (lb s)).1)->FrP b g g'->K (.tuple #[]) g'):
  XC Tp 150 #[.pointer (Td ⟨b,0,Te⟩),.string s] g K:=by
 have:=H6 i c H L (t:=lb s) e h f;rw[gI]at this;exact this
theorem BK(H:Prn g b ln (N:Int) l)(L:Low gl M b g){lv:Nat}(E:N<=8)(m:lv<=100)(C:l.length+(xf ln N lv).length<=140737488355328)(j:∀g',Prn g' b ln (N:Int) (l++xf ln N lv)->FrP b g g'->K (.tuple #[]) g'):
  XC Tp 178 #[.pointer (Td ⟨b,0,Te⟩),.int .i64 (lv:Int)] g K:=by
 apply Xg;obtain⟨p,s,e,A,B⟩:=H;refine⟨_,rfl,ln,Blk.cellAdd (o:=0) (k:=2) (cs:=#[.pointer p,aK s,.bool ln,.int .i64 (N:Int)]) ⟨_,e⟩ rfl,λf=>?_,λf=>?_⟩;subst f;unfold xf at C j;simp only[if_true,NU,PG]at C j;refine⟨_,rfl,?_⟩;rw[add0];refine Zs (b:=b) (nd:=(N:Int)) ⟨p,s,e,A,B⟩ (by omega) 10 λJ r T Q=>⟨_,rfl,_,rfl,_,rfl,?_⟩;have w:=r;obtain⟨O,U,P,V,F⟩:=w;have D:FrP b g J:=⟨T,Q⟩;have y:=L.frp D;have z:N*lv<=800:=OD (Pz E m) (by omega);refine⟨(N:Int),Blk.cellAdd (o:=0) (k:=3) (cs:=#[.pointer O,aK U,.bool Ta,.int .i64 (N:Int)]) ⟨_,P⟩ rfl,?_⟩;rw[show((N:Int)*(lv:Int))=((N*lv:Nat):Int)from by rw[Int.natCast_mul],em (by omega)];refine(tM (gl:=gl) (s:=bl [32]) (c:=N*lv) (by omega) (by rw[zx];simp;omega) (R:=λx=>x=bl (Ph (N*lv) 32)) (by rw[Zc,wA])).go y.hM y.ag (zw (a:=Arg.mk .str _) (rdStr _) (zw (a:=Arg.mk (.int .i64) _) (fQ _ _) yc)) λv I G x i m S=>?_;subst S;refine⟨_,ua (dJ.1 m),?_⟩;have q:=FrP.ofKeep i.keep (QU r.lt);rw[add0];refine Qt (r.keep i.keep) _ (by simp only[NH,NU,OE,PG];omega) λu h n t=>⟨_,_,rfl,?_⟩;refine j u ?_ ((D.trans q).trans ⟨n,t⟩);rw[Od]at h;exact h;subst f;refine j g ?_ (FrP.refl _ _);have:l++xf Tc N lv=l:=by unfold xf;simp
 rw[this];exact⟨p,s,e,A,B⟩
end
end
section
theorem iw:ElemT Tp 23 3 (.int .i64 0) (sz (.int .i64)) 8:=⟨by kernel_rfl,⟨Tryz.t3,by kernel_rfl,by kernel_rfl,by kernel_rfl,by kernel_rfl⟩,rfl,by decide⟩
section
variable {lo : Nat} {g : za} {M : Fr} {bp : Nat} {s : Bs} {a e : Int} {O J D : Nat -> Prop} {K : Value -> za -> Prop} {HI : List Bs -> za -> Prop} {F : FuncId} {A C : Array Value}
end
end
section
theorem CF:ElemT Tp 22 9 (.string ⟨#[]⟩) (sz .str) 16:=⟨by kernel_rfl,⟨Tryz.t9,by kernel_rfl,by kernel_rfl,by kernel_rfl,by kernel_rfl⟩,rfl,by decide⟩
section
variable {lo : Nat} {g : za} {M gl : Fr} {bp : Nat} {s : Bs} {a e : Int} {O : Nat -> Prop} {K : Value -> za -> Prop}
end
end
section
theorem fD{M:Fr}{T:Ty}:Rd M (.row T) [] [aK ⟨Te,0,0⟩]:=⟨_,rfl,Te,0,rfl,⟨by simp,by simp⟩,.inl rfl⟩
end
end Go.X
end
section
namespace Go.X.U
section
def iN(o:Oper):Option Bool:=match o.op with
 |.fieldAddr _ _ _=>Td Ta
 |.indexAddr _ _ _=>Td Ta
 |.move _=>Td Ta
 |.assign _=>Td Ta
 |.load _ _=>Td Tc
 |.binOp _ _ _ _ _=>Td Ta
 |.call c=>match c.callee with
  |.builtin .len=>Td Ta
  |_=>Te
 |_=>Te
def lY(o:Oper):Bool:=match iN o with
 |some _=>Ta
 |none=>Tc
def yf(o:Oper):Bool:=match iN o with
 |some b=>!b
 |none=>Tc
theorem add_blk(q:Addr)(i:Nat):(q.add i).block=q.block:=by unfold NG;split <;> rfl
end
end Go.X.U
end
section
namespace Go.X
section
theorem DR(gl:Fr)(b:Bt)(R:Tr->Prop) (H:R (Tr.mk 4 b [] [])):
  PC Tp gl 64 [Arg.mk .str b] [.tree] R:=
 PF ⟨[],[],[],[]⟩ [.cell 2 48] 5 Tryz.func64 H
end
end Go.X
end
section
namespace Go.X
open Go Go.X Go.Proofs Go.RowKit
section
variable {h:za} {g:Bool} {M:Fr}
def fT(k:Int)(s:Bt)(a b:Sl):Value:=.agg #[.int .i64 k,.string s,aK a,aK b]
theorem lW{f:FuncId}{args:Array Value}(c:g=Ta){Kt:Bool->za->Prop}(E:XC Tp f args h λv h'=>∃r,v=.bool r/\Kt r h'):
  ∃J:Value->za->Prop,(g=Ta->XC Tp f args h λv h'=>∃r:Bool,v=.bool r/\J (.bool r) h')/\(g=Tc->∃r:Bool,J (.bool r) h)/\(g=Ta->∀v h',J v h'->∃r:Bool,v=.bool r)/\∀r:Bool,∀h',J (.bool r) h'->Kt r h':=by
 refine⟨λv h'=>∃r,v=.bool r/\Kt r h',λ_=>XC.mono E λv h' ⟨r,e,H⟩=>⟨r,e,r,rfl,H⟩,λb=>(by rw[c]at b;cases b),λ_ v h' ⟨r,e,_⟩=>⟨r,e⟩,λr h' ⟨i,e,H⟩=>?_⟩;injection e with e;subst e;exact H
theorem re{h c:za}{s:Sl}(i:g=Ta){Kt:Sl->za->Prop}(E:Kt s c):
  ∃J:Value->za->Prop,(g=Ta->J (aK s) c)/\(g=Tc->∃x:Sl,J (aK x) h)/\(g=Ta->∀v h',J v h'->∃x:Sl,v=aK x)/\∀x:Sl,∀h',J (aK x) h'->Kt x h':=by
 refine⟨λv h'=>∃x,v=aK x/\Kt x h',λ_=>⟨s,rfl,E⟩,λb=>(by rw[i]at b;cases b),λ_ v h' ⟨x,e,_⟩=>⟨x,e⟩,λx h' ⟨f,e,H⟩=>?_⟩;have:x=f:=by unfold aK at e;injection e with e1 e2 e3;cases x;cases f;simp_all
 subst this;exact H
theorem E9{b:Nat}(l:M b=Te){h f:Tr}{w1 w2:List Value}(n:Rd M .tree h w1)(m:Rd M .tree f w2)(j:w1.length=4)(o:w2.length=4):Rd (Mx M b (w1++w2).toArray) (.row .tree) [h,f] [aK ⟨Td ⟨b,0,Te⟩,2,2⟩]:=by
 have le:Fr.le M (Mx M b (w1++w2).toArray):=λc cs e=>by unfold Mx;by_cases k:c=b;subst k;rw[l]at e;cases e;rw[zv k];exact e
 refine⟨_,rfl,_,_,rfl,by simp,.inr ⟨b,0,_,rfl,by unfold Mx;rw[zz rfl],λi hi=>?_⟩⟩;have hi:i<2:=hi;rcases(by omega:i=0\/i=1)with rfl|rfl;have:cut (w1++w2).toArray (0+0*sz .tree) (sz .tree)=w1:=by show Ri 4 (Rr 0 (w1++w2))=w1;rw[Pv,<-j,QN]
 rw[this];exact Rd.mono le n;have:cut (w1++w2).toArray (0+1*sz .tree) (sz .tree)=w2:=by show Ri 4 (Rr 4 (w1++w2))=w2;rw[List.drop_left' j,<-o,N7]
 rw[this];exact Rd.mono le m
theorem vh{T:Tr}{k:Int}{s:Bt}{a b:Sl}(h:RdV M .tree T (fT k s a b)):Rd M .tree T [.int .i64 k,.string s,aK a,aK b]:=by
 unfold RdV at h;simp only[ev,if_true]at h;obtain⟨cs,e,c⟩:=h;unfold fT at e;injection e with e;have:cs=[.int .i64 k,.string s,aK a,aK b]:=by have:=congrArg Array.toList e;simpa using this.symm
 rw[<-this];exact c
section
variable {gl : Fr} {b2 b29 : Nat} {k2 k29 : Int} {s2 : Bt} {a2 c2 a29 c29 : Sl} {h : za} {M : Fr}
end
end
section
variable {v:Tr} {sk si:Sl} {lv i:Nat}
section
variable {gl M : Fr} {b N : Nat} {ln : Bool}
def ib(gl M:Fr)(b N:Nat)(ln:Bool)(F:FuncId)(args:Array Value)(p:Bs):Prop:=
 ∀(l:Bs) (g:za) (K:Value->za->Prop),Prn g b ln (N:Int) l->Low gl M b g->l.length+p.length<=140737488355328->(∀g',Prn g' b ln (N:Int) (l++p)->FrP b g g'->K (.tuple #[]) g')->XC Tp F args g K
set_option maxRecDepth 100000 in
set_option maxHeartbeats 4000000 in
theorem AW{F:FuncId}(hF:zr Tp F=Ta)(hi:Rd M (.row .tree) v.items [aK si])(V:N<=8)(hv:lv<=90){o c:UInt8}{ps:List Bs}(E:ps.length=v.items.length)(aa:v.items.length<=1000000) (hE:∀(i:Nat) (h:i<ps.length),ib gl M b N ln F (#[.pointer (Td ⟨b,0,Te⟩)]++#[fT v.kind v.text sk si,.int .i64 (i:Int),.int .i64 ((lv+1:Nat):Int)]++#[]) ps[i]):
  ib gl M b N ln 151 #[.pointer (Td ⟨b,0,Te⟩),fT v.kind v.text sk si,.int .i64 (lv:Int),.string (bl [o,c]),.func (.func F) #[.pointer (Td ⟨b,0,Te⟩)] #[]] (o::fe ln N lv ps++[c]):=by
 intro l g K H L hl hK;have ae:=(rowLen hi).1;have O:=H.lt;have e1:(o::fe ln N lv ps++[c]).length=2+(Zk ln N (lv+1) ps).length+(if ps=[]then []else xf ln N lv:Bs).length:=by unfold fe;simp only[NU,NH,OE];omega
 rw[e1]at hl;apply J5;intro D;have Y:Keep g.size g D:=Keep.push _ _ (ND _);have B1:D[g.size]?=Td (.cells #[.int .i64 v.kind,.string v.text,aK sk,aK si] 48 (0,0)):=qq _ _;clear_value D;have f1:=FrP.ofKeep Y (QU O);have H1:=H.keep Y;refine⟨_,rfl,⟨by decide,by rw[zx];simp⟩,?_⟩;rw[add0];have eo:y0 (bl [o,c]) (0:Int).toNat=(o.toNat:Int):=by rw[Yg];rfl
 have ec:y0 (bl [o,c]) (1:Int).toNat=(c.toNat:Int):=by rw[Yg];rfl
 rw[eo];refine Zs H1 (by omega) o λt H4 Z U=>⟨_,rfl,?_⟩;have I:FrP b g t:=f1.trans ⟨Z,U⟩;have box:∀g',FrP b t g'->Blk g' g.size #[.int .i64 v.kind,.string v.text,aK sk,aK si]:=λg' f=>⟨_,f.blk ((⟨Z,U⟩:FrP b D t).blk B1)⟩;refine⟨si,Blk.cellAdd (o:=0) (k:=3) (box t (FrP.refl _ _)) rfl,?_⟩;refine⟨λi g'=>∃n:Nat,i=(n:Int)/\n<=ps.length/\Prn g' b ln (N:Int) (l++[o]++Zk ln N (lv+1) (ps.take n))/\FrP b t g',λi _=>ps.length-i.toNat,⟨0,rfl,by omega,by simpa[Zk]using H4,FrP.refl _ _⟩,?_⟩;rintro i g' ⟨n,rfl,hn,z,y⟩;have T:=I.trans y;have L':=L.frp T;have ab:=zO ln N (lv+1) hn;have p:(l++[o]++Zk ln N (lv+1) (ps.take n)).length=l.length+1+(Zk ln N (lv+1) (ps.take n)).length:=by rw[NH,NH];rfl
 refine⟨λq=>?_,λx=>?_⟩;have q:n<ps.length:=by have:=zD q;omega
 have s:=zO ln N (lv+1) (ps:=ps) (n:=n+1) q;have A:=vN ln N (lv+1) q;rw[A]at s;simp only[NH]at s;intro J C;have m:∀r,Prn r b ln (N:Int) (l++[o]++Zk ln N (lv+1) (ps.take n)++(if n=0 then []else [44]))->FrP b t r->J r:=λr w u=>C _ (by have L2:=L.frp (I.trans u);rw[em (by omega),show(lv:Int)+1=((lv+1:Nat):Int)from by omega];refine BK w L2 V (by omega) (by rw[NH,p];omega) λQ G P=>⟨rfl,v.kind,v.text,sk,si,(box Q (u.trans P)).ld (cs:=[_,_,aK sk,aK si]),hF,?_⟩;refine hE n q _ _ _ G (L2.frp P) (by rw[NH,NH,p];omega) λg5 H5 f5=>⟨rfl,⟨n+1,by rw[em (by omega)];omega,q,?_,u.trans (P.trans f5)⟩,?_⟩;rw[A];simpa[Od]using H5;show ps.length-(NB .i64 ((n:Int)+1)).toNat<ps.length-(n:Int).toNat;rw[em (by omega)];omega);refine⟨λj=>?_,λj=>?_⟩;have h0:n≠0:=by have:=zD j;omega
 refine⟨_,rfl,?_⟩;rw[add0];refine Zs z (by rw[p];rw[zv h0]at s;simp only[NU,OE]at s;omega) 44 λr w k2 o2=>⟨_,rfl,m r ?_ (y.trans ⟨k2,o2⟩)⟩;rw[zv h0];exact w;have h0:n=0:=by have:=zE j;omega
 refine m g' ?_ y;rw[zz h0,Oe];exact z;have x:n=ps.length:=by have:=zE x;omega
 subst x;rw[N7]at z p;intro S B;have m:∀r,Prn r b ln (N:Int) (l++[o]++Zk ln N (lv+1) ps++(if ps=[]then []else xf ln N lv))->FrP b t r->S r:=λr w u=>B _ (by refine⟨_,rfl,⟨by decide,by rw[zx];simp⟩,?_⟩;rw[add0,ec];refine Zs w (by rw[NH,p];omega) c λQ G k3 o3=>⟨_,rfl,hK Q ?_ (I.trans (u.trans ⟨k3,o3⟩))⟩;unfold fe;simpa[Od]using G);refine⟨si,Blk.cellAdd (o:=0) (k:=3) (box g' y) rfl,λj=>?_,λj=>?_⟩;have h0:ps≠[]:=λe=>by
  have:=zD j;have ac:v.items.length=0:=by rw[<-E,e];rfl
  omega
 rw[zv h0]at hl;refine BK z L' V (by omega) (by rw[p];omega) λr w u=>⟨rfl,m r ?_ (y.trans u)⟩;rw[zv h0];exact w;have h0:ps=[]:=by have:=zE j;apply N5;omega
 refine m g' ?_ y;rw[zz h0,Oe];exact z
theorem Dp:zr Tp 152=Ta:=by kernel_rfl
theorem Gw:zr Tp 153=Ta:=by kernel_rfl
set_option maxRecDepth 100000 in
theorem G8(hi:Rd M (.row .tree) v.items [aK si])(h:i<v.items.length){p:Bs}(w:∀(e c:Sl),Rd M (.row .str) v.items[i].keys [aK e]->Rd M (.row .tree) v.items[i].items [aK c]->ib gl M b N ln 120 #[.pointer (Td ⟨b,0,Te⟩),fT v.items[i].kind v.items[i].text e c,.int .i64 (lv:Int)] p):
  ib gl M b N ln 152 #[.pointer (Td ⟨b,0,Te⟩),fT v.kind v.text sk si,.int .i64 (i:Int),.int .i64 (lv:Int)] p:=by
 intro l g K H L A t;have B:=(rowLen hi).1;apply Xf;intro f;have m:Keep g.size g f:=Keep.push _ _ (ND _);have z:Blk f g.size #[.int .i64 v.kind,.string v.text,aK sk,aK si]:=Blk.new _ _ _;clear_value f;have n:=FrP.ofKeep m (QU H.lt);have j:=L.frp n;obtain⟨a,e,c,y,x,q,r⟩:=iM j.ag hi h;refine⟨si,Blk.cellAdd (o:=0) (k:=3) z rfl,a,⟨y,by omega,by omega⟩,_,_,e,c,by rw[NE];exact x,?_⟩;exact w e c q r l f _ (H.keep m) j A λg' u s=>⟨rfl,t g' u (n.trans s)⟩
set_option maxRecDepth 100000 in
theorem EV(hg:GL gl)(hb:Brn gl)(I:Rd M (.row .str) v.keys [aK sk])(hi:Rd M (.row .tree) v.items [aK si])(h:i<v.items.length)(h2:i<v.keys.length)(C:(lb v.keys[i]).length<=1048576){p:Bs}(hE:∀(e c:Sl),Rd M (.row .str) v.items[i].keys [aK e]->Rd M (.row .tree) v.items[i].items [aK c]->ib gl M b N ln 120 #[.pointer (Td ⟨b,0,Te⟩),fT v.items[i].kind v.items[i].text e c,.int .i64 (lv:Int)] p):
  ib gl M b N ln 153 #[.pointer (Td ⟨b,0,Te⟩),fT v.kind v.text sk si,.int .i64 (i:Int),.int .i64 (lv:Int)] (eU ln v.keys[i] p):=by
 intro l g K H L D O;unfold eU at D O;simp only[NH,NU]at D;have ab:=(rowLen hi).1;have T:=(rowLen I).1;apply Jv;intro q;have J:Keep g.size g q:=Keep.push _ _ (ND _);have S:q[g.size]?=Td (.cells #[.int .i64 v.kind,.string v.text,aK sk,aK si] 48 (0,0)):=qq _ _;clear_value q;have F:=FrP.ofKeep J (QU H.lt);have r:=L.frp F;obtain⟨a,A,x,y,B⟩:=kF r.ag I h2 (i:=(i:Int)) rfl (L:=sk.len) rfl (Q:=λx=>x=v.keys[i]) rfl;subst B;refine⟨sk,Blk.cellAdd (o:=0) (k:=2) ⟨_,S⟩ rfl,a,A,v.keys[i],y,?_⟩;refine vt hg hb (H.keep J) r C (by omega) λh6 U f6=>⟨rfl,_,rfl,?_⟩;rw[add0];refine Zs U (by simp only[NH];omega) 58 λG t k9 Y=>⟨_,rfl,?_⟩;have E:FrP b q G:=f6.trans ⟨k9,Y⟩;intro z n;have f:∀m,Prn m b ln (N:Int) (l++(eG (lb v.keys[i])).1++[58]++(if ln then [32]else []))->FrP b q m->z m:=λm w u=>n _ (by have P:=r.frp u;obtain⟨V,e,c,e1,e2,Z,e4⟩:=iM P.ag hi h;refine⟨si,Blk.cellAdd (o:=0) (k:=3) ⟨_,u.blk S⟩ rfl,V,⟨e1,by omega,by omega⟩,_,_,e,c,by rw[NE];exact e2,?_⟩;refine hE e c Z e4 _ m _ w P (by simp only[NH,NU,OE];omega) λg' H' f'=>⟨rfl,O g' ?_ (F.trans (u.trans f'))⟩;simpa[Od]using H');have s:=t;obtain⟨p9,s9,e9,aa,ac⟩:=s;refine⟨_,rfl,ln,Blk.cellAdd (o:=0) (k:=2) (cs:=#[.pointer p9,aK s9,.bool ln,.int .i64 (N:Int)]) ⟨_,e9⟩ rfl,λj=>?_,λj=>?_⟩;subst j;refine⟨_,rfl,?_⟩;rw[add0];refine Zs t (by simp only[if_true,NU,OE]at D;simp only[NH,NU,OE];omega) 32 λm w k2 o2=>⟨_,rfl,f m w (E.trans ⟨k2,o2⟩)⟩;subst j;refine f G ?_ E;simpa using t
end
end
section
section
variable {gl M : Fr} {b N : Nat} {ln : Bool}
theorem My{g:za}{l:Bs}(H:Prn g b ln (N:Int) l)(s:Bt)(e:l.length+(lb s).length<=140737488355328){K:Value->za->Prop}(c:∀g',Prn g' b ln (N:Int) (l++lb s)->Keep b g g'->Otk g g'->K (.tuple #[.int .i64 ((lb s).length:Int),.nilIface]) g'):
  XC Tp 149 #[.pointer (Td ⟨b,0,Te⟩),.string s] g K:=by
 have:=Qt H (lb s) e c;rw[gI]at this;exact this
set_option maxRecDepth 100000 in
set_option maxHeartbeats 2000000 in
theorem ub(T:GL gl)(U:Brn gl)(S:N<=8):∀(n:Nat) (v:Tr) (lv:Nat) (sk si:Sl),n<=1000000->dx v<=n->dO zy v=Ta->Sm v->lv+er v<=90->Rd M (.row .str) v.keys [aK sk]->Rd M (.row .tree) v.items [aK si] ->
  ib gl M b N ln 120 #[.pointer (Td ⟨b,0,Te⟩),fT v.kind v.text sk si,.int .i64 (lv:Int)] (Wk ln N v lv)
 |0,v,lv,sk,si,_,h,_,_,_,_,_=>by have:=iU v;omega
 |n+1,v,lv,sk,si,hn,hz,hok,hsm,hd,hk,hi=>by
  intro l g K H L s r;have f:=hok;rw[Qw,NP]at f;have q:∀(i:Nat) (h:i<v.items.length) (j m:Sl),Rd M (.row .str) v.items[i].keys [aK j]->Rd M (.row .tree) v.items[i].items [aK m]->ib gl M b N ln 120 #[.pointer (Td ⟨b,0,Te⟩),fT v.items[i].kind v.items[i].text j m,.int .i64 ((lv+1:Nat):Int)] (Wk ln N v.items[i] (lv+1)):=λi h j m A h2=>by
   have J:=Ot h;have hs:=Zf J;have aa:=Cv J;have E:dO zy v.items[i]=Ta:=by rw[wl,N3]at f;exact f.2 _ J
   exact ub T U S n v.items[i] (lv+1) j m (by omega) (by omega) E (hsm.item J) (by omega) A h2
  have C:v.items.length<=1000000:=by have:=ko v.items;rw[Yi]at hz;omega
  rw[i4]at s r;apply J4;intro A;have Y:Keep g.size g A:=Keep.push _ _ (ND _);have F:Blk A g.size #[.int .i64 v.kind,.string v.text,aK sk,aK si]:=Blk.new _ _ _;clear_value A;have B:=FrP.ofKeep Y (QU H.lt);have D:=H.keep Y;have O:=L.frp B;refine⟨v.kind,Blk.cellAdd (o:=0) (k:=0) F rfl,λp=>?_,λp=>⟨λt=>?_,λt=>⟨λw=>?_,λw=>⟨λy=>?_,λy=>?_⟩⟩⟩⟩;have p:v.kind=1:=eq_of_beq p;rw[zz p]at s r;refine⟨_,rfl,?_⟩;rw[add0];exact Qt D [110,117,108,108] s λg' u V P=>⟨_,_,rfl,r g' u (B.trans ⟨V,P⟩)⟩;have z:v.kind≠1:=λe=>by rw[e]at p;cases p
  have t:v.kind=4:=eq_of_beq t;rw[zv z,zz t]at s r;exact⟨v.text,Blk.cellAdd (o:=0) (k:=1) F rfl,vt T U D O hsm.text s λg' u I=>⟨rfl,r g' u (B.trans I)⟩⟩;have z:v.kind≠1:=λe=>by rw[e]at p;cases p
  have G:v.kind≠4:=λe=>by rw[e]at t;cases t
  have w:v.kind=5:=eq_of_beq w;rw[zv z,zv G,zz w]at s r;refine⟨v.kind,v.text,sk,si,F.ld (cs:=[_,_,aK sk,aK si]),?_⟩;refine AW (o:=91) (c:=93) (ps:=v.items.map λx=>Wk ln N x (lv+1)) Dp hi S (by omega) (NM _) C (λi h=>?_) l A _ D O s λg' u I=>⟨rfl,r g' u (B.trans I)⟩;rw[NM]at h;rw[QT];exact G8 hi h λj m a1 a2=>q i h j m a1 a2;have z:v.kind≠1:=λe=>by rw[e]at p;cases p
  have G:v.kind≠4:=λe=>by rw[e]at t;cases t
  have Q:v.kind≠5:=λe=>by rw[e]at w;cases w
  have y:v.kind=6:=eq_of_beq y;rw[zv z,zv G,zv Q,zz y]at s r;have Z:v.keys.length=v.items.length:=by have:=f.1;unfold zy at this;simp[y]at this;exact this.1.2
  refine⟨v.kind,v.text,sk,si,F.ld (cs:=[_,_,aK sk,aK si]),?_⟩;refine AW (o:=123) (c:=125) (ps:=List.zipWith (eU ln) v.keys (v.items.map λx=>Wk ln N x (lv+1))) Gw hi S (by omega) (by rw[List.length_zipWith,NM];omega) C (λi h=>?_) l A _ D O s λg' u I=>⟨rfl,r g' u (B.trans I)⟩;rw[List.length_zipWith,NM]at h;rw[List.getElem_zipWith,QT];exact EV T U hk hi (by omega) (by omega) (hsm.key (Ot _)) λj m a1 a2=>q i (by omega) j m a1 a2;have z:v.kind≠1:=λe=>by rw[e]at p;cases p
  have G:v.kind≠4:=λe=>by rw[e]at t;cases t
  have Q:v.kind≠5:=λe=>by rw[e]at w;cases w
  have n6:v.kind≠6:=λe=>by rw[e]at y;cases y
  rw[zv z,zv G,zv Q,zv n6]at s r;refine⟨_,rfl,v.text,Blk.cellAdd (o:=0) (k:=1) F rfl,?_⟩;rw[add0];exact My D v.text s λg' u V P=>⟨_,_,rfl,r g' u (B.trans ⟨V,P⟩)⟩
end
end
end Go.X
end
section
namespace Go.X
section
theorem Dn(gl:Fr)(c:Tr)(R:Bool->Prop) (H:∃a:Bool->Prop,((c.kind != 7)=Ta->PC Tp gl 59 [Arg.mk .tree (Tr.mk c.kind c.text c.keys c.items)] [.bool] a)/\∀b:Bool,((c.kind != 7)=Ta->a b)->R (bif (c.kind != 7)then b else Tc)):
  PC Tp gl 58 [Arg.mk .tree c] [.bool] R:=
 PF ⟨[],[],[],[]⟩ [.tmp 2] 10 Tryz.func58 H
end
section
variable {gl:Fr} {v:Tr} {R:Bool -> Prop}
theorem FY(i:GL gl)(f:Sm v)(h:R (decide (v.kind≠7)&&zy v)):PC Tp gl 58 [Arg.mk .tree v] [.bool] R:=by
 apply Dn;simp only[mi];refine⟨λb=>b=zy v,λ_=>vW i f rfl,λb c=>?_⟩;cases hk:(v.kind != 7)with
 |false=>
  have e:v.kind=7:=by simpa using hk
  have:(decide (v.kind≠7)&&zy v)=Tc:=by simp[e]
  rw[this]at h;simpa[hk]using h
 |true=>
  have e:v.kind≠7:=by simpa using hk
  have c:=c hk;subst c;have:(decide (v.kind≠7)&&zy v)=zy v:=by simp[e]
  rw[this]at h;simpa[hk]using h
theorem vI(H:GL gl)(C:Sm v)(s:R (qz v)):PC Tp gl 42 [Arg.mk .tree v] [.bool] R:=by
 intro h M vs D ag L
 match vs,L with
 |[u],⟨q,_⟩=>
  have q:RdV M .tree v u:=q;have n:=q;obtain⟨sk,si,rfl,T,V⟩:=jl q;apply PX.of;apply JE v.kind v.text sk si;intro j;have o:Later h M j M:=Later.push ag _;have s1:j.size=h.size+1:=NN _;have f:∀h':za,Keep j.size j h'->ze h' ⟨h.size,0,Te⟩ 0 [.int .i64 v.kind,.string v.text,aK sk,aK si]:=λh' k=>mW (h':=h') (by rw[s1]at k;exact k);clear_value j;refine⟨v.kind,v.text,sk,si,f j (Keep.refl _ _),?_⟩;have B:PC Tp gl 56 [Arg.mk .tree v] [.bool] (λr=>r=Yj v):=Aq C rfl;refine B.go (vs:=[.agg #[.int .i64 v.kind,.string v.text,aK sk,aK si]]) (D.trans o.le) o.ag (zw (RdV.mono o.le n) yc) λw Q E r A m G=>?_;refine⟨r,d4 m,v.kind,v.text,sk,si,λ_=>f Q A.keep,?_⟩;have c:=o.trans A;refine⟨λw z=>∃b,w=.bool b/\(r=Ta->b=dO (λx=>decide (x.kind≠7)&&zy x) v)/\∃y,Later h M z y,λP=>?_,λl=>⟨Ta,Ta,rfl,λe=>(by rw[e]at l;cases l),E,c⟩,λ_ w z ⟨b,e,_⟩=>⟨b,e⟩,?_⟩;refine(xV (F:=58) (by kernel_rfl) (p:=λx=>decide (x.kind≠7)&&zy x) (λx S=>FY H S rfl) v C (D.trans c.le) A.ag (RdV.mono c.le n)).go λw Y J b N i t=>⟨b,d4 i,b,rfl,λ_=>t,J,c.trans N⟩;rintro b z ⟨U,e,I,y,O⟩;cases e;refine⟨y,_,O,dJ.2 (rdBool _),?_⟩;unfold qz at s;rw[<-G]at s;cases r with
  |false=>exact s
  |true=>rw[zI,I rfl];exact s
end
end Go.X
end
section
namespace Go.X
open Go Go.X Go.Proofs Go.RowKit
section
variable {v:Tr} {ln:Bool} {N lv:Nat} {gl M:Fr}
def fj(v:Tr):Bt×Int:=if qz v=Ta then(bl (Wk Tc 0 v 0),0)else(⟨#[]⟩,1)
theorem tf(h:qz v=Ta):dx v<=4096/\er v<=32/\dO ed v=Ta/\dO zy v=Ta:=by unfold qz Yj at h;simp only[NP,zC]at h;refine⟨h.1.1,h.1.2,h.2,?_⟩;exact qM (λx b=>by rw[NP]at b;exact b.2) v h.2
theorem LV(h:qz v=Ta):Wk ln N v lv≠[]:=by have:=(tf h).2.2.1;rw[Qw,NP]at this;exact IF this.1
theorem GC(n:GL gl)(q:Brn gl)(f:Sm v)(h:qz v=Ta)(e:N<=8)(y:lv<=32){g:za}{b:Nat}(o:Fr.le gl M)(ag:AgM M g)(low:∀c cs,M c=Td cs->c<b)(H:Prn g b ln (N:Int) []) {sk si:Sl} (p:Rd M (.row .str) v.keys [aK sk]) (l:Rd M (.row .tree) v.items [aK si]) {K:Value->za->Prop} (t:∀h',Keep b g h'->K (.string (bl (Wk ln N v lv))) h'):
  XC Tp 120 #[.pointer (Td ⟨b,0,Te⟩),fT v.kind v.text sk si,.int .i64 (lv:Int)] g λm u=>m=.tuple #[]/\XC Tp 121 #[.pointer (Td (NG ⟨b,0,Te⟩ 0))] u K:=by
 obtain⟨x,w,z,r⟩:=tf h;have j:=BL (ln:=ln) e (dx v) v lv (ND _) f (by omega);refine ub n q e 1000000 v lv sk si (ND _) (by omega) r f (by omega) p l [] g _ H ⟨o,ag,low⟩ (by simp only[OE];omega) λg' i s=>⟨rfl,?_⟩;rw[add0];rw[OU]at i;exact Mk i (LV h) λh' k=>t h' (s.keep.trans k (ND _))
theorem vY(s:Bt)(e:Int):dX M [.str,.int .i64] (s,e) (.tuple #[.string s,.int .i64 e]):=⟨[_,_],⟨_,_,rfl,rdStr _,_,rfl,fQ _ _⟩,rfl⟩
set_option maxRecDepth 100000 in
theorem HY(A:GL gl)(D:Brn gl)(y:Sm v){R:Bt×Int->Prop}(m:R (fj v)):PC Tp gl 95 [Arg.mk .tree v] [.str,.int .i64] R:=by
 intro h M vs z ag F
 match vs,F with
 |[u],⟨p,_⟩=>
  have p:RdV M .tree v u:=p;have x:=p;obtain⟨sk,si,rfl,C,H⟩:=jl p;apply PX.of;apply IX v.kind v.text sk si;intro l;have f:Later h M l M:=Later.push ag _;have s1:l.size=h.size+1:=NN _;have i:∀h':za,Keep l.size l h'->ze h' ⟨h.size,0,Te⟩ 0 [.int .i64 v.kind,.string v.text,aK sk,aK si]:=λh' k=>mW (h':=h') (by rw[s1]at k;exact k);clear_value l;refine⟨v.kind,v.text,sk,si,i l (Keep.refl _ _),?_⟩;refine(vI A y (R:=λr=>r=qz v) rfl).go (vs:=[.agg #[.int .i64 v.kind,.string v.text,aK sk,aK si]]) (z.trans f.le) f.ag (zw (RdV.mono f.le x) yc) λw q s r b n B=>?_;subst B;refine⟨_,d4 n,λj=>?_,λj=>?_⟩;have j:qz v=Tc:=by simpa using j
  unfold fj at m;rw[zv (by rw[j];simp)]at m;exact⟨s,_,f.trans b,vY _ _,m⟩;have j:qz v=Ta:=by simpa using j
  unfold fj at m;rw[zz j]at m;intro o;have E:Prn o q.size Tc ((0:Nat):Int) []:=Prn.new q Tc 0;have t:Keep q.size q o:=Keep.push _ _ (ND _);clear_value o;have G:Later h M o s:=(f.trans b).trans (Later.same b.ag t);refine⟨v.kind,v.text,sk,si,i o (b.keep.trans t b.keep.size),?_⟩;refine GC A D y j (N:=0) (lv:=0) (by omega) (by omega) (z.trans (f.trans b).le) G.ag (λc cs e=>b.ag.lt e) E (C.mono (f.trans b).le) (H.mono (f.trans b).le) λJ I=>⟨_,rfl,s,_,?_,vY _ _,m⟩;exact(f.trans b).trans (Later.same b.ag (t.trans I (ND _)))
end
end Go.X
end
section
namespace Go.X
section
theorem ql(b:Nat)(c1:Addr)(h:za)(R:Value->za->Prop) (H:∃q:Option Nat,zb h c1=Td (.map q)/\jh Tp (Rk 133 (.map q)) h (λE F=>∃k:Option Addr,E=.pointer k/\∃(m:za->Prop) (l:za->Nat),m F/\∀j:za,m j->(jh Tp (QE (.pointer k) Tc 0) j (λB o=>(B=.tuple #[.bool Tc]/\(Tc=Ta->jh Tp (Rm (.pointer k)) o (λz t=>∃r u:Value,z=.tuple #[r,u]/\YX Tp b #[r] t (λA f=>∃c:Bool,A=.bool c/\((!c)=Ta->R (.tuple #[]) f)/\((!c)=Tc->(m f/\l f<l j)))))/\(Tc=Tc->R (.tuple #[]) o))\/∃y x:Value,B=.tuple #[.bool Ta,y,x]/\(Ta=Ta->jh Tp (Rm (.pointer k)) o (λs D=>∃p C:Value,s=.tuple #[p,C]/\YX Tp b #[p] D (λw i=>∃e:Bool,w=.bool e/\((!e)=Ta->R (.tuple #[]) i)/\((!e)=Tc->(m i/\l i<l j)))))/\(Ta=Tc->R (.tuple #[]) o))))):
  kU Tp 124 #[.func (.yield b) #[] #[],.pointer (Td c1)] h R:=
 IE Tryz.mixed ⟨[],[(1,[])],[]⟩ [.func (.yield b) #[] #[],.pointer (Td c1)] (rs:=[]) (n:=14) Tryz.func124 (by kernel_rfl) (by kernel_rfl) (by kernel_rfl) (by kernel_rfl) (Eq.mp (by kernel_rfl) H)
theorem wq(j:Sl)(f:Value)(h:za)(R:Value->za->Prop) (H:let c:za:=PD h (.cells #[.slice j.a j.len j.cap] 22);∃(l:FuncId) (k:Array Value),f=.func (.func l) #[] k/\zr Tp l=Ta/\∀e:fq,(∀{p:Value} {m:za} {o:Value->za->Prop},m[(Pf c+1)]?=Td (.loop (e .ready Te))->kO Tp 13 (kD (codeOf Tryz.f154)) (jX (codeOf Tryz.f154)) e (Pf c+1) o (putO [(6,[],f),(4,[],.slice Te 0 0),(2,[],.pointer (Td ⟨Pf h,0,Te⟩)),(0,[],.slice j.a j.len j.cap),(1,[],f)] (Td 7) [] p) m->YX Tp (Pf c+1) #[p] m o)->kU Tp l (#[.func (.yield (Pf c+1)) #[] #[]]++k) (PD (PD c (.deferred (Td []))) (.loop (e .ready Te))) λ_ q=>ob e (Pf c+1) (λi=>∃b:Sl,zb i ⟨Pf h,0,Te⟩=Td (.slice b.a b.len b.cap)/\(i)[Pf c]?=Td (.deferred (Td []))/\R (.slice b.a b.len b.cap) (Array.setIfInBounds i (Pf c) (.deferred Te))) (λi=>(i)[Pf c]?=Td (.deferred (Td []))/\R (.slice Te 0 0) (Array.setIfInBounds i (Pf c) (.deferred Te))) q):
  XC Tp 154 #[.slice j.a j.len j.cap,f] h R:=
 Gq Tryz.mixed [.slice j.a j.len j.cap,f] (rs:=[.tmp 4]) (n:=13) Tryz.func154 (by kernel_rfl) (by kernel_rfl) (by kernel_rfl) (by kernel_rfl) H (by kernel_rfl)
theorem wu(q:Value)(p:Value)(m:Addr)(r:Value)(o:Value)(n:Bt)(rec:fq)(l:Nat)(K:Value->za->Prop)(h:za) (H:(h)[l]?=Td (.loop (rec .ready Te))/\let e:za:=Array.setIfInBounds h l (.loop (rec .busy Te));∃c:Sl,zb e m=Td (.slice c.a c.len c.cap)/\let k:za:=PD e (.cells #[.string n] 9);jh Tp (NX #[22,22] 22 #[.slice c.a c.len c.cap,.slice (Td ⟨Pf e,0,Te⟩) 1 1]) k (λi j=>∃b:Sl,i=.slice b.a b.len b.cap/\XRunU Tp (NR 22 (.pointer (Td m)) (.slice b.a b.len b.cap)) j (λf=>(f)[l]?=Td (.loop (rec .busy Te))/\K (.bool Ta) (Array.setIfInBounds f l (.loop (rec .ready Te)))))):
  kO Tp 13 (kD (codeOf Tryz.f154)) (jX (codeOf Tryz.f154)) rec l K [(7,[],.string n),(6,[],q),(4,[],p),(2,[],.pointer (Td m)),(0,[],r),(1,[],o)] h:=
 Eq.mp (by kernel_rfl) H
end
section
theorem Jw(k:FuncId)(j:Array Value)(i:Array Value)(h:za)(R:Value->za->Prop) (H:XC Tp 122 #[.func (.func k) j i] h (λb c=>∃d,b=aK d/\XC Tp 123 #[aK d] c (λe f=>e=.tuple #[]/\R (aK d) f))):
  XC Tp 97 #[.func (.func k) j i] h R:=
 XF ⟨[],[],[]⟩ [.tmp 2] 9 Tryz.func97 H
theorem qw(b:Option Nat)(h:za)(R:Value->za->Prop) (H:let a:=h.push (.cells #[.map b] 133);R (.func (.func 124) #[] #[.pointer (Td ⟨h.size,0,Te⟩)]) a):
  XC Tp 98 #[.map b] h R:=
 XF ⟨[],[],[]⟩ [.tmp 2] 4 Tryz.func98 H
theorem Yp(i:FuncId)(f:Array Value)(e:Array Value)(h:za)(R:Value->za->Prop) (H:XC Tp 154 #[.slice Te 0 0,.func (.func i) f e] h (λb c=>∃d,b=aK d/\R (aK d) c)):
  XC Tp 122 #[.func (.func i) f e] h R:=
 XF ⟨[],[],[]⟩ [.tmp 2] 5 Tryz.func122 H
end
end Go.X
end
section
namespace Go.X
open Go Go.Proofs Go.Shelf Go.RowKit
section
def Gk:Go.Shelf.Ren:=⟨fun|190=>123|125=>46|258=>155|128=>77|129=>78|302=>179|303=>180|304=>181|305=>182|306=>183|307=>184|308=>185|309=>186|310=>187|333=>207|329=>100|330=>101|334=>208|335=>209|336=>210|344=>217|n=>n,fun|31=>22|9=>9|3=>3|46=>85|0=>0|51=>113|53=>115|4=>4|183=>106|182=>105|131=>110|5=>5|218=>139|222=>70|228=>170|229=>171|n=>n,fun|n=>n⟩
theorem zQ:Go.Proofs.Lays.n190 Tp Gk:=by constructor <;> intros <;> kernel_rfl
open Go.Sort Go.RowKit in
theorem Gy(blk off cap:Nat)(ss:List (List UInt8))(w:World)(f:Holds encStr w blk off ss.toArray)(b:blk<w.heap.size)(c:ss.length<4611686018427387904):
  Calls Tp 123 #[.slice (Td ⟨blk,off,Te⟩) ss.length cap] w λe w'=>
   e=.returned (.tuple #[])/\∃n os,w'=grow (putRow encStr (Sort.ahead w n) blk off (ss.mergeSort λx y=>decide (x<=y)).toArray) os:=Any.slices_Sort_string zQ blk off cap ss w f b c
open Go.RowKit Go.Sort in
theorem Qy(p:Option Addr)(cap:Nat)(w:World): Calls Tp 123 #[.slice p 0 cap] w λe w'=>e=.returned (.tuple #[])/\w'=w:=Any.slices_Sort_string_none zQ p cap w
end
end Go.X
end
section
namespace Go.X
open Go Go.X Go.Proofs Go.RowKit Go.Sort Go.Shelf
section
variable {h:za} {s:Sl} {xs:List Bt} {K:Value -> za -> Prop} {c m:Nat}
theorem XC.of_below{P:Program}{f:FuncId}{args:Array Value}{R:Value->za->Prop}(H:∀B d,Calls P f args (mk B d h) λe w'=>∃v,e=.returned v/\w'.os=B.os/\w'.tape=B.tape/\w'.output=B.output/\R v w'.heap):XC P f args h R:=by intro B d;refine(H B d).mono ?_;rintro e w' ⟨v,rfl,i,c,j,b⟩;refine⟨v,w'.drawn,w'.heap,rfl,?_,b⟩;cases w';simp only[mk]at *;subst i;subst c;subst j;rfl
theorem tP{base:Nat}(H:Owns h base 9 1 s (xs.map OK)):s.len=xs.length:=by have:=H.length;simp at this;omega
theorem Dc(xs:List Bt):(xs.map lb).map encStr=xs.map OK:=by rw[Ol];refine Pq λx _=>?_;show OK _=_;exact congrArg OK (gI x)
theorem Lt{base:Nat}(H:Owns h base 9 1 s (xs.map OK))(A:xs.length<=1000000):
  XC Tp 123 #[.slice s.a s.len s.cap] h λv h'=>v=.tuple #[]/\Owns h' base 9 1 s ((jw xs).map OK)/\h.size<=h'.size/\∀i,i<h.size->(∀p,s.a=Td p->i≠p.block)->h'[i]?=h[i]?:=by
 refine XC.of_below λB d=>?_;have k:s.len=xs.length:=tP H;have c:(xs.map lb).length=xs.length:=by simp
 have f:(jw xs).map OK=((xs.map lb).mergeSort λx y=>decide (x<=y)).map encStr:=by unfold jw;rw[Ol];rfl
 rcases H.2 with⟨q,h0⟩|⟨g,cap,r,q,o,I,G,F,E,C⟩;have D:xs=[]:=N5 (by omega);subst D;rw[h0];refine(Qy s.a s.cap (mk B d h)).mono ?_;rintro e w' ⟨rfl,rfl⟩;exact⟨_,rfl,rfl,rfl,rfl,rfl,by rw[show jw []=[]from List.Perm.eq_nil (Yk [])];exact H,ND _,λ_ _ _=>rfl⟩;simp only[N6]at q;obtain⟨t,_,rfl⟩:=q;have j:(mk B d h).heap[g]?=Td (.cells r 9 (0,0)):=I;have m:g<(mk B d h).heap.size:=(NK.1 j).1;have J:Holds encStr (mk B d h) g 0 (xs.map lb).toArray:=holds_of_block j (by rw[c,Dc,<-k];simpa using C);have u:=Gy g 0 s.cap (xs.map lb) (mk B d h) J m (by rw[c];omega);rw[c,<-k]at u;rw[t];refine u.mono ?_;rintro e w' ⟨rfl,n,os,rfl⟩;have b:=grownBy_sorted (w:=mk B d h) (g:=g) (n:=n) (os:=os) ((xs.map lb).mergeSort λx y=>decide (x<=y)).toArray;refine⟨_,rfl,b.os,b.tape,b.output,rfl,?_,b.size,λi hi l=>b.block i hi λe=>l _ rfl (by simpa using e)⟩;have z:=ownsRow_sorted (w:=mk B d h) (base:=base) (n:=n) (os:=os) (ss:=xs.map lb) (ts:=(xs.map lb).mergeSort λx y=>decide (x<=y)) (by simp) o j (by rw[c,<-k];exact G) F (by simpa using E);rw[<-f,c,<-k]at z;show World.ownsRow _ base _ 1 (.slice s.a s.len s.cap) s.len _;rw[t];exact z
theorem EU:NS.underlying 133=Td (.map 9 48):=by kernel_rfl
theorem KJ:zr Tp 124=Ta:=by kernel_rfl
theorem vK:∀{xs ys:List Bt},xs.Nodup->(∀x∈xs,x∈ys)->xs.length<=ys.length
 |[],_,_,_=>NV _
 |x::xs,ys,hn,hs=>by
  rw[OP]at hn;have e:=hs x NQ;obtain⟨a,b,rfl⟩:=List.append_of_mem e;have:=vK (ys:=a++b) hn.2 λy c=>by have:=hs y (NF _ c);rw[N0,NI]at this;rw[N0];rcases this with h|rfl|h;exact .inl h;exact absurd c hn.1;exact .inr h
  simp only[NH,NU]at this ⊢;omega
structure KyS (h:za) (m:Nat) (rec:fq) (ps:List (Bt×Value)) (g:za) (xs:List Bt) (sl:Sl):Prop where
 keep:Keep h.size h g
 d:g[h.size+1]?=Td (.deferred (Td []))
 rc:g[h.size+2]?=Td (.loop (rec .ready Te))
 box:Blk g h.size #[aK sl]
 o:Owns g (h.size+4) 9 1 sl (xs.map OK)
 it:MapIt g (h.size+3) m (ey ps) (xs.reverse.map OK)
 nd:xs.Nodup
 sub:∀x∈xs,x∈ps.map (·.1)
 gz:h.size+4<=g.size
theorem LB(ps:List (Bt×Value)):(ey ps).map (·.1)=(ps.map (·.1)).map OK:=by unfold ey;rw[Ol,Ol];rfl
theorem GO{ks:List Bt}(h:ks.Nodup):(ks.map OK).Nodup:=by
 induction ks with
 |nil=>exact Rf
 |cons k ks c=>rw[OP]at h;rw[N2,OP];refine⟨λb=>?_,c h.2⟩;obtain⟨x,f,e⟩:=N9.1 b;injection e with e;exact h.1 (e ▸ f)
section
variable {h : za} {m : Nat} {rec : fq} {ps : List (Bt × Value)} {g : za} {xs : List Bt} {sl : Sl}
set_option maxRecDepth 100000 in
theorem KyS.round(S:KyS h m rec ps g xs sl)(hm:m<h.size)(t:xs.length<=1000000){g1:za}{k:Bt}(A:MapIt g1 (h.size+3) m (ey ps) ((k::xs.reverse).map OK))(z1:g1.size=g.size)(E:∀j,j≠h.size+3->g1[j]?=g[j]?)(O:k∉xs)(D:k∈ps.map (·.1)) {x6 P V Q:Value} (Z:∀g' z,KyS h m rec ps g' (xs++[k]) z->g'[h.size+3]?=g1[h.size+3]?->g'[m]?=g1[m]?->K (.bool Ta) g'):
  kO Tp 13 (kD (codeOf Tryz.f154)) (jX (codeOf Tryz.f154)) rec (h.size+2) K [(7,[],.string k),(6,[],x6),(4,[],P),(2,[],.pointer (Td ⟨h.size,0,Te⟩)),(0,[],V),(1,[],Q)] g1:=by
 apply wu;have gz:=S.gz;have ky:=S.keep.size;refine⟨by rw[E _ (by omega)];exact S.rc,?_⟩;intro f;have w:∀j,j≠h.size+2->f[j]?=g1[j]?:=λj r=>qo r;have l2:f[h.size+2]?=Td (.loop (rec .busy Te)):=set_self (by omega);have z2:f.size=g1.size:=O3;clear_value f;have l:∀j,j≠h.size+2->j≠h.size+3->f[j]?=g[j]?:=λj a b=>(w j a).trans (E j b);have I:Blk f h.size #[aK sl]:=S.box.keep (l _ (by omega) (by omega));refine⟨sl,I.cell rfl,?_⟩;intro s;have H:Keep f.size f s:=Keep.push _ _ (ND _);have z3:s.size=f.size+1:=NN _;have M:Blk s f.size #[.string k]:=Blk.new _ _ _;clear_value s;have o2:Owns f (h.size+4) 9 1 sl (xs.map OK):=S.o.keep λp q=>by have:=S.o.base_le p q;exact l _ (by omega) (by omega)
 have G:=o2.keepN H;have hl:=tP S.o;refine j3 Fx G (src:=⟨Td ⟨f.size,0,Te⟩,1,1⟩) (news:=[.string k]) (n:=s.size) ?_ rfl (by simp[Value.oneCell']) (by simp only;omega) (by simp only;omega) (by omega) λy T q1 F q3 q4 q5=>⟨y,rfl,?_⟩;refine .inr ⟨f.size,0,rfl,by omega,λi v B=>?_⟩
 match i,B with
 |0,B=>cases B;exact M.cell rfl
 have u:∀j,j<h.size+4->T[j]?=f[j]?:=λj r=>by rw[q3 j (by omega) λp q=>by have:=G.base_le p q;omega];exact H.get j (by omega)
 refine Wu Ec KD (I.keep (u _ (by omega))) (by show 0<1;omega) rfl λC Y u3 J=>?_;have c:∀j,j<h.size+4->j≠h.size->C[j]?=f[j]?:=λj r h0=>(J j h0).trans (u j r);have N:C[h.size+2]?=Td (.loop (rec .busy Te)):=by rw[c _ (by omega) (by omega)];exact l2
 refine⟨N,Z _ y ⟨?_,?_,set_self (by omega),?_,?_,?_,?_,?_,?_⟩ ?_ ?_⟩;refine S.keep.trans ⟨by rw[O3];omega,λj r=>?_⟩ (ND _);rw[qo (by omega),c j (by omega) (by omega),l j (by omega) (by omega)];rw[qo (by omega),c _ (by omega) (by omega),l _ (by omega) (by omega)];exact S.d;exact Blk.keep Y (qo (by omega));have:Owns C (h.size+4) 9 1 y ((xs++[k]).map OK):=by rw[Oq];exact F.keep λp q=>by have:=F.base_le p q;exact J _ (by omega)
 exact this.keep λp q=>by have:=this.base_le p q;exact qo (by omega)
 rw[List.reverse_append];refine A.keep ?_ ?_;rw[qo (by omega),c _ (by omega) (by omega),w _ (by omega)];rw[qo (by omega),c _ (by omega) (by omega),w _ (by omega)];rw[QC];exact⟨S.nd,by simp,λa U b L e=>by rw[OO]at L;subst L;subst e;exact O U⟩;intro x t;rw[N0,OO]at t;rcases t with t|rfl;exact S.sub x t;exact D;rw[O3];omega;rw[qo (by omega),c _ (by omega) (by omega),w _ (by omega)];rw[qo (by omega),c _ (by omega) (by omega),w _ (by omega)]
end
set_option maxRecDepth 100000 in
theorem DJ{ps:List (Bt×Value)}(C:Blk h c #[.map (Td m)])(W:MapW h m (ey ps))(P:(ps.map (·.1)).Nodup)(hl:ps.length<=1000000) (hK:∀(h':za) (sl:Sl) (xs:List Bt),Keep h.size h h'->Owns h' h.size 9 1 sl (xs.map OK)->xs.Perm (ps.map (·.1))->K (.slice sl.a sl.len sl.cap) h'):
  XC Tp 154 #[.slice Te 0 0,.func (.func 124) #[] #[.pointer (Td ⟨c,0,Te⟩)]] h K:=by
 apply wq ⟨Te,0,0⟩;intro b;have k1:Keep h.size h b:=Keep.push _ _ (ND _);have z1:b.size=h.size+1:=NN _;have B1:Blk b h.size #[aK ⟨Te,0,0⟩]:=Blk.new _ _ _;clear_value b;have T:=W.lt;have hc:=C.lt;refine⟨_,_,rfl,KJ,λrec M=>?_⟩;obtain⟨i,f⟩:∃i:za,i=((b.push (.deferred (Td []))).push (.loop (rec .ready Te))):=⟨_,rfl⟩;have Q:Keep b.size b i:=by rw[f];exact(Keep.push _ _ (ND _)).trans (Keep.push _ _ (by rw[NN];omega)) (ND _)
 have z4:i.size=b.size+2:=by rw[f,NN,NN]
 have J:i[b.size]?=Td (.deferred (Td [])):=by rw[f,OZ,zv (by rw[NN];omega)];exact qq _ _
 have O:i[b.size+1]?=Td (.loop (rec .ready Te)):=by rw[f];have:=qq (b.push (.deferred (Td []))) (.loop (rec .ready Te));rw[NN]at this;exact this
 rw[<-f];clear f;have n:Keep h.size h i:=k1.trans Q (by omega);have F:b.size=h.size+1:=z1;rw[F]at J O M ⊢;apply ql;refine⟨Td m,(C.keep (n.get c hc)).cell rfl,?_⟩;have Y:MapW i m (ey ps):=W.keep (n.get m T);refine uk EU Y λh5 z5 w q=>⟨Td ⟨i.size,0,Te⟩,rfl,λg=>∃xs sl,KyS h m rec ps g xs sl,λg=>leftN g (h.size+3) m,⟨[],⟨Te,0,0⟩,?_⟩,?_⟩;have B:i.size=h.size+3:=by omega
 rw[B]at q;exact⟨n.trans w (by omega),(w.get _ (by omega)).trans J,(w.get _ (by omega)).trans O,(B1.ofKeep Q).keep (w.get _ (by omega)),Owns.nil _ _ _ _,q,Rf,λx l=>(by cases l),by omega⟩;have B:i.size=h.size+3:=by omega
 rw[B];rintro g ⟨xs,sl,S⟩;have z:((ey ps).map (·.1)).Nodup:=by rw[LB];exact GO P
 have G:xs.length<=1000000:=by have b:=vK S.nd S.sub;rw[NM]at b;omega
 refine yM S.it z (by omega) (λr=>.inl ⟨rfl,(λl=>by cases l),λ_=>.inl ⟨S.rc,?_⟩⟩) λk v D hk g1 I t A L s=>.inr ⟨k,v,rfl,λ_=>?_,λl=>by cases l⟩;have U:=S.gz;refine⟨sl,?_,?_,hK _ sl xs ?_ ?_ ?_⟩;exact(S.box.keep (qo (by omega))).cell rfl;rw[qo (by omega)];exact S.d;refine S.keep.trans ⟨by rw[O3,O3];exact ND _,λj hj=>?_⟩ (ND _);rw[qo (by omega),qo (by omega)];refine(S.o.keep λp H=>?_).base (by omega);have:=S.o.base_le p H;rw[qo (by omega),qo (by omega)];refine(List.perm_ext_iff_of_nodup S.nd P).2 λa=>⟨S.sub a,λha=>?_⟩;obtain⟨p,H,rfl⟩:=N9.1 ha;have:=r (.string p.1,p.2) (N9.2 ⟨p,H,rfl⟩);obtain⟨x,l,e⟩:=N9.1 this;injection e with e;subst e;exact List.mem_reverse.1 l;obtain⟨⟨N,vv⟩,u,e⟩:=N9.1 D;injection e with F e2;subst F;subst e2;have y:N∉xs:=λl=>hk (N9.2 ⟨N,List.mem_reverse.2 l,rfl⟩);refine BD t ⟨_,_,rfl,M ?_ ?_⟩;rw[L _ (by omega)];exact S.rc;refine S.round T G I A L y (N9.2 ⟨_,u,rfl⟩) λg' E S' V Z=>⟨Ta,rfl,(λl=>by cases l),λ_=>⟨⟨_,E,S'⟩,?_⟩⟩;show leftN g' (h.size+3) m<_;rw[leftN.keep V Z];exact s
theorem ES{ps:List (Bt×Value)}(C:Blk h c #[.map (Td m)])(W:MapW h m (ey ps))(n:(ps.map (·.1)).Nodup)(k:ps.length<=1000000) (q:∀h' sl,Keep h.size h h'->Owns h' h.size 9 1 sl ((jw (ps.map (·.1))).map OK)->K (.slice sl.a sl.len sl.cap) h'):
  XC Tp 97 #[.func (.func 124) #[] #[.pointer (Td ⟨c,0,Te⟩)]] h K:=by
 apply Jw;apply Yp;refine DJ C W n k λs sl xs e j b=>⟨sl,rfl,sl,rfl,?_⟩;have f:xs.length<=1000000:=by rw[b.length_eq,NM];exact k
 refine XC.mono (Lt j f) ?_;rintro v h2 ⟨rfl,r,l,o⟩;refine⟨rfl,q h2 sl ⟨OD e.size l,λi hi=>?_⟩ (by rw[<-Lh b];exact r)⟩;refine(o i (PU hi e.size) λp b=>?_).trans (e.get i hi);have:=(j.base_le p b).1;omega
end
end Go.X
end
section
namespace Go.X
open Go Go.X Go.Proofs Go.Lib
section
theorem Am:MapT Tp 133 9 48 (.agg #[.int .i64 0,.string ⟨#[]⟩,.slice Te 0 0,.slice Te 0 0]):=⟨by kernel_rfl,by kernel_rfl,⟨Tryz.t48,by kernel_rfl,by kernel_rfl⟩⟩
theorem FM{l:List (Bt×Value)}{k:Bt}(h:k∉l.map (·.1)):ep l k=Te:=by
 induction l with
 |nil=>rfl
 |cons p l b=>simp only[N2,NI,not_or]at h;rw[ep,zv (λe=>h.1 e.symm),b h.2]
theorem Mm{α β:Type}{xs:List α}{ys:List β}{k:Nat}(b:k<xs.length){u:β}(c:ys.length=k):(xs.take (k+1)).zip (ys++[u])=(xs.take k).zip ys++[(xs[k],u)]:=by rw[Oc b,List.zip_append (by simp;omega)];rfl
set_option maxHeartbeats 1000000 in
theorem MX{v:Tr}(U:v.keys.Nodup)(hl:v.keys.length=v.items.length)(hi:v.items.length<=1000000000000){h:za}{M:Fr}{u:Value}(ag:AgM M h)(P:RdV M .tree v u){K:Value->za->Prop} (Z:∀(h':za) (m:Nat) (us:List Value),Keep h.size h h'->h.size<=m->us.length=v.items.length->(∀i (b:i<v.items.length) (q:i<us.length),RdV M .tree v.items[i] us[i])->MapW h' m (ey (v.keys.zip us))->K (.map (Td m)) h'):
  XC Tp 96 #[u] h K:=by
 obtain⟨sk,si,rfl,C,H⟩:=jl P;obtain⟨D,_,_⟩:=rowLen C;obtain⟨li,_,_⟩:=rowLen H;apply FR v.kind v.text sk si;intro b;have T:Keep h.size h b:=Keep.push _ _ (ND _);have b1:Blk b h.size (iY v.kind v.text sk si).toArray:=Blk.new _ _ _;have z1:b.size=h.size+1:=NN _;clear_value b;refine⟨sk,b1.cellAdd (by rfl),?_⟩;intro f;have E:Keep b.size b f:=Keep.push _ _ (ND _);have V:MapW f b.size []:=MapW.new _;have z3:f.size=b.size+1:=NN _;clear_value f;have b3:=b1.ofKeep E;have Q:Keep h.size h f:=T.trans E (by omega);refine⟨sk,b3.cellAdd (by rfl),λx g=>∃(k:Nat) (us:List Value),x=(k:Int)/\k<=v.items.length/\us.length=k/\g.size=f.size/\(∀j,j≠b.size->g[j]?=f[j]?)/\(∀i (b:i<v.items.length) (q:i<us.length),RdV M .tree v.items[i] us[i])/\MapW g b.size (ey ((v.keys.take k).zip us)),λx _=>v.items.length-x.toNat,⟨0,[],rfl,NV _,rfl,rfl,λ_ _=>rfl,λi _ q=>by simp at q,by simpa[ey]using V⟩,?_⟩;rintro x g ⟨k,us,rfl,hk,s,zg,z,B,y⟩;have F:Keep h.size h g:=⟨by omega,λj t=>by rw[z j (by omega)];exact Q.get j t⟩;have agg:=ag.keep F;refine⟨λo=>?_,λo=>?_⟩;have c:k<v.keys.length:=by rw[D]at o;simp at o;omega
 have n:k<v.items.length:=by omega
 refine kF agg C c rfl rfl ?_;have N:Blk g h.size (iY v.kind v.text sk si).toArray:=b3.keep (z _ (by omega));obtain⟨a,I,G,S,w,O,L⟩:=iM agg H n;refine⟨si,N.cellAdd (by rfl),a,⟨S,by omega,by omega⟩,v.items[k].kind,v.items[k].text,I,G,?_,?_⟩;rw[NE];exact w;refine DG Am y v.keys[k] _ λg' r Y A=>?_;rw[Qd n (by omega)];refine⟨⟨k+1,us++[.agg #[.int .i64 v.items[k].kind,.string v.items[k].text,aK I,aK G]],rfl,by omega,by simp;omega,by omega,λj t=>(A j t).trans (z j t),λi b q=>?_,?_⟩,by simp only[NE];omega⟩;rw[List.getElem_append];split;rename_i f;exact B i b f;rename_i f;have:i=k:=by simp at q;omega
 subst this;simp only[s,Nat.sub_self,PS];exact yv O L;rw[Mm c s];have l:ep ((v.keys.take k).zip us) v.keys[k]=Te:=FM λJ=>by
  rw[List.map_fst_zip (by simp;omega)]at J;have p:=U;have e:v.keys=v.keys.take k++v.keys[k]::v.keys.drop (k+1):=by rw[<-Po c,OX]
  rw[e,QC]at p;exact p.2.2 _ J _ NQ rfl
 rw[qH l]at r;exact r;have c:k=v.keys.length:=by rw[D]at o;simp at o;omega
 subst c;rw[N7]at y;exact Z g b.size us F (by omega) (by omega) B y
end
end Go.X
end
section
namespace Go.X
open Go Go.X Go.Proofs Go.RowKit
section
variable {ks:List Bt}
theorem Owns.frz{h g:za}{M M':Fr}(L:Later h M g M'){s:Sl}{base:Nat}(o:Owns g base 9 1 s (ks.map OK))(C:h.size<=base)(D:ks.length<=1000000):
  ∃k,Later h M g k/\(∀c,c<base->k c=M' c)/\Rd k (.row .str) ks [aK s]:=by
 have t:=tP o;rcases o.2 with⟨j,h0⟩|⟨b,cap,f,j,w,r,B,z,A,u⟩;have l:ks=[]:=N5 (by omega);subst l;simp only[N6]at j;refine⟨M',L,λ_ _=>rfl,⟨_,rfl,s.a,s.cap,?_,⟨by simp,by simp⟩,.inl rfl⟩⟩;show aK s=_;unfold aK;rw[h0];rfl;simp only[N6]at j;obtain⟨p,_,y⟩:=j;have n:Blk g b f:=⟨_,r⟩;refine⟨MxL M' g [b],⟨L.keep,L.le.trans (mr L.ag _),λx l=>?_,MxL.ag L.ag _⟩,λc y=>?_,⟨_,rfl,s.a,s.cap,?_,⟨by omega,by omega⟩,.inr ⟨b,0,f,p,MxL.at (by simp) n,λi hi=>?_⟩⟩⟩;unfold MxL;rw[zv (by simp;omega)];exact L.old x l;unfold MxL;rw[zv (by simp;omega)];show aK s=_;unfold aK;rw[t];show cut f (0+i*1) 1=[.string ks[i]];apply OG;intro q;rw[qn];by_cases m:q<1;have:q=0:=by omega
 subst this;rw[zz m];have e:(f.toList.take (s.len*1))[i]?=(ks.map OK)[i]?:=by rw[u]
 rw[N4,zz (by omega)]at e;rw[show 0+i*1+0=i from by omega,e];simp[hi];rw[zv m,Ow (by simp;omega)]
structure SrS (h:za) (M:Fr) (r o lo:Nat) (k:Int) (s:Bt) (sk:Sl) (xs:List Tr) (g:za) (M':Fr) (so:Sl) (bs:List Nat):Prop where
 L:Later h M g M'
 res:Blk g r #[.int .i64 0,.string ⟨#[]⟩,.slice Te 0 0,.slice Te 0 0]
 out:Blk g o #[.int .i64 k,.string s,aK sk,aK so]
 row:ORow lo g M' .tree xs so bs
 nO:M' o=Te
 nR:M' r=Te
 hr:h.size<=r
 ro:r<o
 ol:o<lo
 lg:lo<=g.size
section
variable {h : za} {M : Fr} {r o lo : Nat} {k : Int} {s : Bt} {sk : Sl} {xs : List Tr} {g : za} {M' : Fr} {so : Sl} {bs : List Nat}
theorem SrS.add(S:SrS h M r o lo k s sk xs g M' so bs)(hn:xs.length<=1000000){g1:za}{w:Fr}(m:Later g M' g1 w){x:Tr}{y B:Sl}(U:RdV w .tree x (.agg #[.int .i64 x.kind,.string x.text,aK y,aK B])){K:za->Prop}
  (hK:∀g' J bs',SrS h M r o lo k s sk (xs++[x]) g' w J bs'->(∀j,j<lo->j≠o->g'[j]?=g[j]?)->K g'):
  let f:=g1.push (.cells #[.int .i64 x.kind,.string x.text,aK y,aK B] 48)
  jh Tp (NX #[46,46] 46 #[aK so,.slice (Td ⟨g1.size,0,Te⟩) 1 1]) f (λv p=>∃z:Sl,v=aK z/\XRunU Tp (NR 46 (.pointer (Td (NG ⟨o,0,Te⟩ 3))) (aK z)) p K):=by
 intro f;have F:Keep g1.size g1 f:=Keep.push _ _ (ND _);have Z:f.size=g1.size+1:=NN _;have P:Blk f g1.size [.int .i64 x.kind,.string x.text,aK y,aK B].toArray:=Blk.new _ _ _;clear_value f;have z1:=m.keep.size;have N:=S.hr;have H:=S.ro;have D:=S.ol;have Y:=S.lg;have n:Later g M' f w:=m.trans (Later.same m.ag F);have u:=S.row.call n;have rd:Rd w .tree x [.int .i64 x.kind,.string x.text,aK y,aK B]:=by
  unfold RdV at U;simp only[ev,if_true]at U;obtain⟨cs,e,N⟩:=U;injection e with e;have:cs=[.int .i64 x.kind,.string x.text,aK y,aK B]:=by have:=congrArg Array.toList e;simpa using this.symm
  rw[<-this];exact N
 refine ORow.app LY (by omega) n.ag u (by omega) P rd hn λV p bs' l aa ab f33=>⟨V,rfl,?_⟩;have A:∀c∈bs,lo<=c/\c<g.size/\M' c=Te:=S.row.own;have t:∀j,j<lo->p[j]?=g[j]?:=λj G=>by rw[f33 j (by omega) (λI=>by have:=(A j I).1;omega),F.get j (by omega)];exact m.keep.get j (by omega)
 rw[zj];refine Wu IH LH (S.out.keep (t o D)) (by show 3<4;omega) rfl λC u1 u3 O=>?_;have i:∀j,j<lo->j≠o->C[j]?=g[j]?:=λj G h0=>(O j h0).trans (t j G);have q:∀c∈bs',lo<=c/\c<p.size/\w c=Te:=l.own;have hg:=S.L.keep.size;refine hK C V bs' ⟨⟨⟨by omega,λj G=>?_⟩,S.L.le.trans m.le,λb hb=>?_,?_⟩,?_,u1,?_,?_,?_,N,H,D,by omega⟩ i;rw[i j (by omega) (by omega)];exact S.L.keep.get j G;rw[m.old b (by omega)];exact S.L.old b hb;intro c cs e;have E:=n.ag.lt e;have Q:c∉bs:=λI=>by obtain⟨_,h1,h2⟩:=A c I;rw[m.old c h1,h2]at e;cases e
 have T:c≠o:=λh=>by subst h;rw[m.old c (by omega),S.nO]at e;cases e
 rw[O c T,f33 c E Q];exact n.ag c cs e;exact S.res.keep (i r (by omega) (by omega));exact l.frame (λc E=>O c (by have:=(q c E).1;omega)) (Fr.le.refl _) λc E=>(q c E).2.2;rw[m.old o (by omega)];exact S.nO;rw[m.old r (by omega)];exact S.nR
theorem SrS.fin(S:SrS h M r o lo k s sk xs g M' so bs)(P:xs.length<=1000000)(H:Rd M' (.row .str) ks [aK sk]){w:Tr}(G:Tr.mk k s ks xs=w):
  ∃(B:Int) (F:Bt) (D z:Sl),ze g ⟨o,0,Te⟩ 0 [.int .i64 B,.string F,aK D,aK z]/\XRunU Tp (NR 48 (.pointer (Td ⟨r,0,Te⟩)) (.agg #[.int .i64 B,.string F,aK D,aK z])) g λm=>
   ∃(A:Int) (y:Bt) (C x:Sl),ze m ⟨r,0,Te⟩ 0 [.int .i64 A,.string y,aK C,aK x]/\∃u q,Later h M m u/\dX u [.tree] q (.agg #[.int .i64 A,.string y,aK C,aK x])/\q=w:=by
 refine⟨k,s,sk,so,S.out.ld (cs:=[_,_,aK sk,aK so]),?_⟩;refine kn S.res λp t V T=>⟨k,s,sk,so,T.ld (cs:=[_,_,aK sk,aK so]),?_⟩;have Y:=S.hr;have Q:=S.ro;have N:=S.ol;have O:=S.lg;have i:∀c∈bs,lo<=c/\c<g.size/\M' c=Te:=S.row.own;have f:AgM M' p:=λc cs e=>by rw[t c (λh=>by subst h;rw[S.nR]at e;cases e)];exact S.L.ag c cs e
 have l:ORow lo p M' .tree xs so bs:=S.row.frame (λc n=>t c (by have:=(i c n).1;omega)) (Fr.le.refl _) λc n=>(i c n).2.2;have E:Later h M p M':=⟨⟨by have:=S.L.keep.size;omega,λj J=>by rw[t j (by omega)];exact S.L.keep.get j J⟩,S.L.le,S.L.old,f⟩;refine⟨MxL M' p bs,_,⟨E.keep,E.le.trans (mr f bs),λb I=>?_,MxL.ag f bs⟩,dJ.2 (yv (v:=.mk k s ks xs) (H.mono (mr f bs)) (l.rd f (λc n=>n) P)),G⟩;unfold MxL;rw[zv (λU=>by have:=(i b U).1;omega)];exact S.L.old b I
end
set_option maxRecDepth 100000 in
set_option maxHeartbeats 2000000 in
theorem xA:∀(n:Nat) (v:Tr),n<=1000000->dx v<=n->dO zy v=Ta->Sm v->∀(h:za) (M:Fr) (u:Value),AgM M h->RdV M .tree v u->PX Tp 68 #[u] h M [.tree] (λq=>q=zi v)
 |0,v,_,hz,_,_=>by have:=iU v;omega
 |n+1,v,hn,hz,hok,hsm=>by
  intro h M u ag hu;have aF:=hu;obtain⟨sk,si,rfl,rk,ri⟩:=jl hu;have l:=hok;rw[Qw,NP]at l;have aJ:v.items.length<=1000000:=by have:=ko v.items;rw[Yi]at hz;omega
  have ih:∀(i:Nat) (hi:i<v.items.length) (h:za) (M:Fr) (u:Value),AgM M h->RdV M .tree v.items[i] u->PX Tp 68 #[u] h M [.tree] (λq=>q=zi v.items[i]):=λi hi=>by
   have hm:=Ot hi;have hs:=Zf hm;have al:dO zy v.items[i]=Ta:=by rw[wl,N3]at l;exact l.2 _ hm
   exact xA n v.items[i] (by omega) (by omega) al (hsm.item hm)
  obtain⟨li,_,_⟩:=rowLen ri;apply PX.of;apply F9 v.kind v.text sk si;intro A;have k1:Keep h.size h A:=Keep.push _ _ (ND _);have z1:A.size=h.size+1:=NN _;have B1:Blk A h.size #[.int .i64 v.kind,.string v.text,aK sk,aK si]:=Blk.new _ _ _;clear_value A;intro f;have k2:Keep A.size A f:=Keep.push _ _ (ND _);have z2:f.size=A.size+1:=NN _;have R2:Blk f A.size #[.int .i64 0,.string ⟨#[]⟩,.slice Te 0 0,.slice Te 0 0]:=Blk.new _ _ _;clear_value f;have B2:=B1.ofKeep k2;refine⟨v.kind,B2.cellAdd (o:=0) (k:=0) rfl,v.text,B2.cellAdd (o:=0) (k:=1) rfl,?_⟩;intro h5;have k5:Keep f.size f h5:=Keep.push _ _ (ND _);have z5:h5.size=f.size+1:=NN _;have O5:Blk h5 f.size #[.int .i64 0,.string ⟨#[]⟩,.slice Te 0 0,.slice Te 0 0]:=Blk.new _ _ _;clear_value h5;refine kn (sk:=⟨Te,0,0⟩) (si:=⟨Te,0,0⟩) O5 λh6 f6 z6 O6=>?_;have k6:Keep f.size f h6:=⟨by omega,λj G=>by rw[f6 j (by omega)];exact k5.get j G⟩;have Y:Keep h.size h h6:=(k1.trans k2 (by omega)).trans k6 (by omega);have B6:=B2.ofKeep k6;have R6:=R2.ofKeep k6;have aD:=ag.keep Y;refine⟨v.kind,B6.cellAdd (o:=0) (k:=0) rfl,λhx=>?_,λhx=>?_⟩;have h6:v.kind≠6:=by simpa using hx
  have hS:zi v=.mk v.kind v.text [] (v.items.map zi):=by rw[Yl,zv h6]
  refine⟨si,B6.cellAdd (o:=0) (k:=3) rfl,λi g=>∃(m:Nat) (M':Fr) (so:Sl) (bs:List Nat),i=(m:Int)/\m<=v.items.length/\SrS h M A.size f.size (f.size+1) v.kind v.text ⟨Te,0,0⟩ ((v.items.take m).map zi) g M' so bs,λi _=>v.items.length-i.toNat,⟨0,M,⟨Te,0,0⟩,[],rfl,NV _,⟨Later.same ag Y,R6,O6,ORow.nil,ag.none (by omega),ag.none (by omega),by omega,by omega,by omega,by omega⟩⟩,?_⟩;rintro i g ⟨m,M',so,bs,rfl,hm,S⟩;have z:=S.L.ag;refine⟨λP=>?_,λP=>?_⟩;have b:m<v.items.length:=by have:=zD P;omega
  obtain⟨a,ck,ci,ea,aH,t1,t2⟩:=iM z (ri.mono S.L.le) b;refine⟨a,⟨ea,by omega,by omega⟩,v.items[m].kind,v.items[m].text,ck,ci,by rw[NE];exact aH,?_⟩;intro E;have aL:Keep g.size g E:=Keep.push _ _ (ND _);have a8:E.size=g.size+1:=NN _;have aE:Blk E g.size #[.int .i64 0,.string ⟨#[]⟩,.slice Te 0 0,.slice Te 0 0]:=Blk.new _ _ _;clear_value E;refine kn aE λT aS aZ aQ=>?_;have ak:Keep g.size g T:=⟨by omega,λj G=>by rw[aS j (by omega)];exact aL.get j G⟩;have bi:=S.out.lt;refine⟨so,(S.out.ofKeep ak).cellAdd (o:=0) (k:=3) rfl,v.items[m].kind,v.items[m].text,ck,ci,aQ.ld (cs:=[_,_,aK ck,aK ci]),?_⟩;have ar:Later g M' T M':=Later.same z ak;refine(ih m b _ _ _ ar.ag (yv t1 t2)).go λw ab I q F s hq=>?_;subst hq;obtain⟨xk,xi,rfl,y1,y2⟩:=jl (dJ.1 s);have bd:=F.keep.size;have ho:ab[f.size]?=T[f.size]?:=F.keep.get _ (by omega);refine⟨_,_,xk,xi,rfl,by rw[zj];exact ho,?_⟩;intro a7;refine⟨by rw[zj];exact((Keep.push ab _ (ND _)).get f.size (by omega)).trans ho,S.add (by rw[NM,N8];omega) (ar.trans F) (yv y1 y2) λg' N bs' S' _=>⟨⟨m+1,I,N,bs',by rw[Qd b (by omega)],b,?_⟩,?_⟩⟩;rw[Oc b,Oq];exact S';show v.items.length-(NB .i64 ((m:Int)+1)).toNat<v.items.length-(m:Int).toNat;rw[Qd b (by omega)];omega;have b:m=v.items.length:=by have:=zE P;omega
  subst b;rw[N7]at S;exact S.fin (by rw[NM];exact aJ) fD hS.symm;have aa:v.kind=6:=by simpa using hx
  have hS:zi v=.mk v.kind v.text (jw v.keys) ((jw v.keys).map λq=>eZ (v.keys.zip (v.items.map zi)) q):=by rw[Yl,zz aa]
  have r:=l.1;have aj:v.keys.Nodup:=by unfold zy wz at r;simp[aa]at r;exact r.1.1.2
  have ah:v.keys.length=v.items.length:=by unfold zy at r;simp[aa]at r;exact r.1.2
  refine⟨v.kind,v.text,sk,si,B6.ld (cs:=[_,_,aK sk,aK si]),?_⟩;refine MX aj ah (by omega) aD aF λC m us az aY bf aV ap=>⟨Td m,rfl,?_⟩;have be:=az.size;apply qw;intro y;have au:Keep C.size C y:=Keep.push _ _ (ND _);have bj:y.size=C.size+1:=NN _;have aN:Blk y C.size #[.map (Td m)]:=Blk.new _ _ _;clear_value y;have V:MapW y m (ey (v.keys.zip us)):=ap.keep (au.get m ap.lt);have an:(v.keys.zip us).map (·.1)=v.keys:=List.map_fst_zip (by omega);refine⟨_,rfl,ES aN V (by rw[an];exact aj) (by simp;omega) λJ sl U ai=>⟨sl,rfl,?_⟩⟩;rw[an]at ai;have bb:=U.size;have bn:(jw v.keys).length=v.keys.length:=EZ _;have B:Keep h6.size h6 J:=(az.trans au (by omega)).trans U (by omega);have ae:Keep h.size h J:=Y.trans B (by omega);obtain⟨I,F,H,O⟩:=Owns.frz (Later.same ag ae) ai (by omega) (by omega);have aO:Blk J f.size #[.int .i64 v.kind,.string v.text,aK ⟨Te,0,0⟩,aK ⟨Te,0,0⟩]:=O6.keep (B.get _ (by omega));have af:I f.size=Te:=by rw[H _ (by omega)];exact ag.none (by omega)
  have aI:I A.size=Te:=by rw[H _ (by omega)];exact ag.none (by omega)
  rw[zj];refine Wu An wS aO (by show 2<4;omega) rfl λt ac bm D=>?_;have aC:Later h M t I:=⟨⟨by have:=F.keep.size;omega,λj G=>by rw[D j (by omega)];exact F.keep.get j G⟩,F.le,F.old,λc cs e=>by rw[D c (λh=>by subst h;rw[af]at e;cases e)];exact F.ag c cs e⟩;have aA:MapW t m (ey (v.keys.zip us)):=V.keep ((D m (by omega)).trans (U.get m V.lt));have am:=aA.lt;refine⟨sl,Blk.cell (o:=2) ac rfl,λi g=>∃(p:Nat) (M':Fr) (so:Sl) (bs:List Nat),i=(p:Int)/\p<=(jw v.keys).length/\SrS h M A.size f.size t.size v.kind v.text sl (((jw v.keys).take p).map λq=>eZ (v.keys.zip (v.items.map zi)) q) g M' so bs/\Fr.le I M'/\(∀j,j<t.size->j≠f.size->g[j]?=t[j]?),λi _=>(jw v.keys).length-i.toNat,⟨0,I,⟨Te,0,0⟩,[],rfl,NV _,⟨aC,R6.keep ((D _ (by omega)).trans (B.get _ (by omega))),ac,ORow.nil,af,aI,by omega,by omega,by omega,ND _⟩,Fr.le.refl _,λ_ _ _=>rfl⟩,?_⟩;obtain⟨bk,_,_⟩:=rowLen O;rintro i g ⟨p,M',so,bs,rfl,hp,S,Z,fg⟩;have z:=S.L.ag;refine⟨λP=>?_,λP=>?_⟩;have b:p<(jw v.keys).length:=by have:=zD P;omega
  obtain⟨a,aP,x,aB,aG⟩:=kF z (O.mono Z) b (i:=(p:Int)) rfl (L:=sl.len) rfl (Q:=λx=>x=(jw v.keys)[p]) rfl;subst aG;refine⟨a,aP,(jw v.keys)[p],aB,so,S.out.cellAdd (o:=0) (k:=3) rfl,?_⟩;have aU:(jw v.keys)[p]∈v.keys:=(Yk v.keys).mem_iff.1 (Ot b);obtain⟨j,j1,j2,e1,e2,e3⟩:=AZ (jw v.keys)[p] v.keys (v.items.map zi) (by rw[NM];exact ah) aU;rw[NM]at j2;have ay:j<us.length:=by omega
  obtain⟨ck,ci,eu,t1,t2⟩:=jl (aV j j2 ay);have wg:MapW g m (ey (v.keys.zip us)):=aA.keep (fg m am (by omega));refine⟨v.items[j].kind,v.items[j].text,ck,ci,?_,rfl,?_⟩;have:=wD Am wg.at (jw v.keys)[p] Tc;have eg:hY (v.keys.zip us) (jw v.keys)[p] (.agg #[.int .i64 0,.string ⟨#[]⟩,.slice Te 0 0,.slice Te 0 0])=us[j]:=by unfold hY;rw[e3 us (by omega),NL ay];rfl
  rw[zv (by simp),eg,eu]at this;exact this;refine(ih j j2 _ _ _ z (yv (t1.mono S.L.le) (t2.mono S.L.le))).go λw ax M3 q L3 s hq=>?_;subst hq;obtain⟨xk,xi,rfl,y1,y2⟩:=jl (dJ.1 s);have bg:=L3.keep.size;have ba:=S.lg;have ho:ax[f.size]?=g[f.size]?:=L3.keep.get _ (by omega);refine⟨_,_,xk,xi,rfl,by rw[zj];exact ho,?_⟩;intro a6;refine⟨by rw[zj];exact((Keep.push ax _ (ND _)).get f.size (by omega)).trans ho,S.add (by rw[NM,N8];omega) L3 (yv y1 y2) λg' N bs' S' f'=>⟨⟨p+1,M3,N,bs',by rw[Qd b (by omega)],b,?_,Z.trans L3.le,λj G h0=>(f' j G h0).trans (fg j G h0)⟩,?_⟩⟩;rw[Oc b,Oq,N2,QV,e2,QT];exact S';show(jw v.keys).length-(NB .i64 ((p:Int)+1)).toNat<(jw v.keys).length-(p:Int).toNat;rw[Qd b (by omega)];omega;have b:p=(jw v.keys).length:=by have:=zE P;omega
  subst b;rw[N7]at S;exact S.fin (by rw[NM];omega) (O.mono Z) hS.symm
end
end Go.X
end
section
namespace Go.X
open Go Go.X Go.Proofs Go.RowKit
set_option maxRecDepth 100000 in
section
theorem G2{gl:Fr}(U:GL gl){v:Tr}(I:Sm v){R:Tr->Prop}(o:R (xg v)):PC Tp gl 44 [Arg.mk .tree v] [.tree] R:=by
 intro h M vs V ag ha
 match vs,ha with
 |[u],⟨D,_⟩=>
  have D:RdV M .tree v u:=D;have A:=D;obtain⟨sk,si,rfl,rk,ri⟩:=jl D;apply PX.of;apply EB v.kind v.text sk si;intro b;have k1:Keep h.size h b:=Keep.push _ _ (ND _);have z1:b.size=h.size+1:=NN _;have B1:Blk b h.size #[.int .i64 v.kind,.string v.text,aK sk,aK si]:=Blk.new _ _ _;clear_value b;intro p;have k2:Keep b.size b p:=Keep.push _ _ (ND _);have z2:p.size=b.size+1:=NN _;have R2:Blk p b.size #[.int .i64 0,.string ⟨#[]⟩,.slice Te 0 0,.slice Te 0 0]:=Blk.new _ _ _;clear_value p;have P:=B1.ofKeep k2;have F:Keep h.size h p:=k1.trans k2 (by omega);have O:Later h M p M:=Later.same ag F;refine⟨v.kind,v.text,sk,si,P.ld (cs:=[_,_,aK sk,aK si]),?_⟩;refine(LA U I (R:=λr=>r=fm v) rfl).go (vs:=[.agg #[.int .i64 v.kind,.string v.text,aK sk,aK si]]) V O.ag (zw A yc) λw S G r m x Q=>?_;subst Q;have z8:=m.keep.size;have J:=R2.keep (m.keep.get b.size (by omega));have Y:=P.keep (m.keep.get h.size (by omega));have N:G b.size=Te:=by rw[m.old _ (by omega)];exact ag.none (by omega)
  have y:=O.trans m;have stay:∀{g g':za} {M':Fr},Later h M g M'->M' b.size=Te->(∀j,j≠b.size->g'[j]?=g[j]?)->g'.size=g.size->Later h M g' M':=λ {g g' M'} L hn f z=>⟨⟨by have:=L.keep.size;omega,λj hj=>by rw[f j (by omega)];exact L.keep.get j hj⟩,L.le,L.old,λc cs e=>by rw[f c (λh=>by subst h;rw[hn]at e;cases e)];exact L.ag c cs e⟩;refine⟨_,d4 x,λi=>?_,λi=>?_⟩;have i:fm v=Tc:=by simpa using i
  unfold xg at o;rw[zv (by rw[i];simp)]at o;refine kn (k:=0) (s:=⟨#[]⟩) (sk:=⟨Te,0,0⟩) (si:=⟨Te,0,0⟩) J λg f z B=>⟨_,_,_,_,B.ld (cs:=[.int .i64 0,.string ⟨#[]⟩,aK ⟨Te,0,0⟩,aK ⟨Te,0,0⟩]),?_⟩;exact⟨G,_,stay y N f z,dJ.2 (yv (v:=.mk 0 (bl []) [] []) fD fD),o⟩;have i:fm v=Ta:=by simpa using i
  unfold xg at o;rw[zz i]at o;unfold fm Yj at i;simp only[NP,zC]at i;refine⟨v.kind,v.text,sk,si,Y.ld (cs:=[_,_,aK sk,aK si]),?_⟩;refine(xA (dx v) v (by omega) (ND _) i.2 I S G _ m.ag (RdV.mono m.le A)).go λw aa t q l n hq=>?_;subst hq;obtain⟨E,H,rfl,y1,T⟩:=jl (dJ.1 n);have Z:=l.keep.size;refine⟨_,_,E,H,rfl,?_⟩;refine kn (J.keep (l.keep.get b.size (by omega))) λg f z B=>⟨_,_,E,H,B.ld (cs:=[_,_,aK E,aK H]),?_⟩;have C:t b.size=Te:=by rw[l.old _ (by omega)];exact N
  exact⟨t,_,stay (y.trans l) C f z,dJ.2 (yv y1 T),o⟩
end
end Go.X
end
section
namespace Go.X
open Go Go.X Go.Proofs Go.RowKit
section
variable {h h' h'':za} {M M' M'':Fr} {bs bs' b1 b2:List Nat} {b lo bv:Nat} {K:Value -> za -> Prop}
theorem Later.own{h g:za}(L:Later h M g M')(f:∀c∈bs,h.size<=c):Later h M g (MxL M' g bs):=by
 refine⟨L.keep,L.le.trans (mr L.ag bs),λc i=>?_,MxL.ag L.ag bs⟩;have e:c∉bs:=λb=>by have:=f c b;omega
 rw[<-L.old c i];unfold MxL;rw[zv e]
structure Grw (h:za) (M:Fr) (b:Nat) (bs:List Nat) (h':za) (M':Fr) (bs':List Nat):Prop where
 grow:h.size<=h'.size
 le:Fr.le M M'
 old:∀c,c<h.size->M' c=M c
 ag:AgM M' h'
 fr:∀j,j<h.size->j≠b->j∉bs->h'[j]?=h[j]?
 nw:∀c∈bs',c∈bs\/h.size<=c
theorem Grw.refl(ag:AgM M h):Grw h M b bs h M bs:=⟨ND _,Fr.le.refl _,λ_ _=>rfl,ag,λ_ _ _ _=>rfl,λ_ c=>.inl c⟩
theorem Grw.trans{bs bs' e:List Nat}(A:Grw h M b bs h' M' bs')(B:Grw h' M' b bs' h'' M'' e):Grw h M b bs h'' M'' e:=by have m:=A.grow;refine⟨OD A.grow B.grow,A.le.trans B.le,λc f=>(B.old c (by omega)).trans (A.old c f),B.ag,λj k h0 i=>(B.fr j (by omega) h0 λl=>?_).trans (A.fr j k h0 i),λc f=>?_⟩;rcases A.nw j l with h|h;exact i h;omega;rcases B.nw c f with h|h;exact A.nw c h;exact .inr (by omega)
theorem Grw.ofCall(L:Later h M h' M')(A:Grw h' M' b bs h'' M'' bs')(l:∀c∈bs,c<h.size):Grw h M b bs h'' M'' bs':=by have i:=L.keep.size;refine⟨OD i A.grow,L.le.trans A.le,λc e=>(A.old c (by omega)).trans (L.old c e),A.ag,λj k h0 f=>(A.fr j (by omega) h0 f).trans (L.keep.get j k),λc e=>?_⟩;rcases A.nw c e with h|h;exact .inl h;exact .inr (by omega)
structure TbS (lo:Nat) (h:za) (M:Fr) (b:Nat) (S:List (Bt×Int)) (sl sf:Sl) (b1 b2:List Nat):Prop where
 box:Blk h b #[aK sl,aK sf]
 r1:ORow lo h M .str (S.map (·.1)) sl b1
 r2:ORow lo h M (.int .i64) (S.map (·.2)) sf b2
 dj:∀c∈b1,c∉b2
 n1:b∉b1
 n2:b∉b2
 nM:M b=Te
 lb:lo<=b
def Tb(lo:Nat)(h:za)(M:Fr)(b:Nat)(S:List (Bt×Int))(bs:List Nat):Prop:=∃sl sf b1 b2,bs=b1++b2/\TbS lo h M b S sl sf b1 b2
theorem TbS.call{S:List (Bt×Int)}{sl sf:Sl}(B:TbS lo h M b S sl sf b1 b2)(L:Later h M h' M'):TbS lo h' M' b S sl sf b1 b2:= ⟨B.box.keep (L.keep.get b B.box.lt),B.r1.call L,B.r2.call L,B.dj,B.n1,B.n2,(L.old b B.box.lt).trans B.nM,B.lb⟩
theorem Tb.call{S:List (Bt×Int)}(B:Tb lo h M b S bs)(L:Later h M h' M'):Tb lo h' M' b S bs:=by obtain⟨sl,sf,b1,b2,e,B⟩:=B;exact⟨sl,sf,b1,b2,e,B.call L⟩
theorem Tb.lt{S:List (Bt×Int)}(B:Tb lo h M b S bs):∀c∈bs,c<h.size:=by obtain⟨sl,sf,b1,b2,rfl,B⟩:=B;intro c e;rcases N0.1 e with h|h;exact(B.r1.own c h).2.1;exact(B.r2.own c h).2.1
theorem Tb.ltb{S:List (Bt×Int)}(B:Tb lo h M b S bs):b<h.size:=by obtain⟨sl,sf,b1,b2,rfl,B⟩:=B;exact B.box.lt
structure AdM (lo:Nat) (h:za) (M:Fr) (b:Nat) (sl sf:Sl) (b0:List Nat) (g:za) (X:List Bt) (s1:Sl) (c1:List Nat) (Y:List Int) (s2:Sl) (c2:List Nat):Prop where
 box:Blk g b #[aK sl,aK sf]
 r1:ORow lo g M .str X s1 c1
 r2:ORow lo g M (.int .i64) Y s2 c2
 dj:∀c∈c1,c∉c2
 n1:b∉c1
 n2:b∉c2
 gr:h.size<=g.size
 bh:b<h.size
 fr:∀j,j<h.size->j≠b->j∉b0->g[j]?=h[j]?
 w1:∀c∈c1,c∈b0\/h.size<=c
 w2:∀c∈c2,c∈b0\/h.size<=c
 ag:AgM M g
 nM:M b=Te
 lb:lo<=b
section
variable {lo : Nat} {h g : za} {M : Fr} {b : Nat} {sl sf : Sl} {b0 : List Nat} {X : List Bt} {s1 : Sl} {c1 : List Nat} {Y : List Int} {s2 : Sl} {c2 : List Nat}
theorem AdM.start{S:List (Bt×Int)}(B:TbS lo h M b S sl sf b1 b2)(ag:AgM M h):AdM lo h M b sl sf (b1++b2) h (S.map (·.1)) sl b1 (S.map (·.2)) sf b2:= ⟨B.box,B.r1,B.r2,B.dj,B.n1,B.n2,ND _,B.box.lt,λ_ _ _ _=>rfl,λc e=>.inl (NT _ e),λc e=>.inl (N1 _ e),ag,B.nM,B.lb⟩
theorem AdM.push(D:AdM lo h M b sl sf b0 g X s1 c1 Y s2 c2)(o:Obj):AdM lo h M b sl sf b0 (g.push o) X s1 c1 Y s2 c2:=by have k:Keep g.size g (g.push o):=Keep.push _ _ (ND _);have l:=D.gr;have m:(g.push o).size=g.size+1:=NN _;refine⟨D.box.ofKeep k,D.r1.frame (λc e=>k.get c (D.r1.own c e).2.1) (Fr.le.refl _) λc e=>(D.r1.own c e).2.2,D.r2.frame (λc e=>k.get c (D.r2.own c e).2.1) (Fr.le.refl _) λc e=>(D.r2.own c e).2.2,D.dj,D.n1,D.n2,by omega,D.bh,λj i h0 f=>(k.get j (by omega)).trans (D.fr j i h0 f),D.w1,D.w2,D.ag.keep k,D.nM,D.lb⟩
theorem AdM.lab(D:AdM lo h M b sl sf b0 g X s1 c1 Y s2 c2)(p:lo<=h.size)(l:X.length<=1000000){x:Bt}(o:Blk g bv #[.string x]) (q:∀(m:Sl) (g':za) (n:List Nat),AdM lo h M b sl sf b0 g' (X++[x]) m n Y s2 c2->g.size<=g'.size->(∀j,j<g.size->j∉c1->g'[j]?=g[j]?)->K (aK m) g'):
  jh Tp (NX #[22,22] 22 #[aK s1,.slice (Td ⟨bv,0,Te⟩) 1 1]) g K:=by
 have t:=D.gr;refine ORow.app CF (by omega) D.ag D.r1 (by omega) (vs:=[.string x]) o rfl l λm g' n r z w f=>q m g' n ⟨D.box.keep (f b D.box.lt D.n1),r,D.r2.frame (λc k=>f c (D.r2.own c k).2.1 λi=>D.dj c i k) (Fr.le.refl _) λc k=>(D.r2.own c k).2.2,λc k i=>?_,λi=>?_,D.n2,by omega,D.bh,λj s h0 l=>(f j (by omega) λi=>?_).trans (D.fr j s h0 l),λc k=>?_,D.w2,λc cs e=>?_,D.nM,D.lb⟩ z f;rcases w c k with h|h;exact D.dj c h i;have:=(D.r2.own c i).2.1;omega;rcases w b i with h|h;exact D.n1 h;have:=D.bh;omega;rcases D.w1 j i with h|h;exact l h;omega;rcases w c k with h|h;exact D.w1 c h;exact .inr (by omega);have k:=D.ag.lt e;rw[f c k λi=>by have:=(D.r1.own c i).2.2;rw[this]at e;cases e];exact D.ag c cs e
theorem AdM.lef(D:AdM lo h M b sl sf b0 g X s1 c1 Y s2 c2)(p:lo<=h.size)(l:Y.length<=1000000){x:Int}(o:Blk g bv #[.int .i64 x]) (q:∀(m:Sl) (g':za) (n:List Nat),AdM lo h M b sl sf b0 g' X s1 c1 (Y++[x]) m n->g.size<=g'.size->(∀j,j<g.size->j∉c2->g'[j]?=g[j]?)->K (aK m) g'):
  jh Tp (NX #[23,23] 23 #[aK s2,.slice (Td ⟨bv,0,Te⟩) 1 1]) g K:=by
 have t:=D.gr;refine ORow.app iw (by omega) D.ag D.r2 (by omega) (vs:=[.int .i64 x]) o rfl l λm g' n r z w f=>q m g' n ⟨D.box.keep (f b D.box.lt D.n2),D.r1.frame (λc i=>f c (D.r1.own c i).2.1 λk=>D.dj c i k) (Fr.le.refl _) λc i=>(D.r1.own c i).2.2,r,λc i k=>?_,D.n1,λk=>?_,by omega,D.bh,λj s h0 l=>(f j (by omega) λk=>?_).trans (D.fr j s h0 l),D.w1,λc i=>?_,λc cs e=>?_,D.nM,D.lb⟩ z f;rcases w c k with h|h;exact D.dj c i h;have:=(D.r1.own c i).2.1;omega;rcases w b k with h|h;exact D.n2 h;have:=D.bh;omega;rcases D.w2 j k with h|h;exact l h;omega;rcases w c i with h|h;exact D.w2 c h;exact .inr (by omega);have i:=D.ag.lt e;rw[f c i λk=>by have:=(D.r2.own c k).2.2;rw[this]at e;cases e];exact D.ag c cs e
theorem HN:qy Tp 23=Ta:=by kernel_rfl
theorem FU:qj Tp 23=1:=by kernel_rfl
theorem AdM.fin(D:AdM lo h M b sl sf b0 g X s1 c1 Y s2 c2){S:List (Bt×Int)}(m:X=S.map (·.1))(t:Y=S.map (·.2)){K:za->Prop}(q:∀g' bs',Grw h M b b0 g' M bs'->Tb lo g' M b S bs'->K g'):
  XRunU Tp (NR 22 (.pointer (Td (NG (NG ⟨b,0,Te⟩ 0) 0))) (aK s1)) g λg1=>XRunU Tp (NR 23 (.pointer (Td (NG (NG ⟨b,0,Te⟩ 0) 1))) (aK s2)) g1 K:=by
 subst m;subst t;have w:=D.gr;rw[add0,add0,zj];refine Wu An wS D.box (by show 0<2;omega) rfl λg1 s x n=>?_;refine Wu HN FU s (by show 1<2;omega) rfl λl r u p=>?_;have f:∀j,j≠b->l[j]?=g[j]?:=λj k=>(p j k).trans (n j k);refine q l (c1++c2) ⟨by omega,Fr.le.refl _,λ_ _=>rfl,λc cs e=>?_,λj k h0 o=>(f j h0).trans (D.fr j k h0 o),λc i=>?_⟩ ⟨s1,s2,c1,c2,rfl,r,D.r1.frame (λc i=>f c λe=>D.n1 (e ▸ i)) (Fr.le.refl _) λc i=>(D.r1.own c i).2.2,D.r2.frame (λc i=>f c λe=>D.n2 (e ▸ i)) (Fr.le.refl _) λc i=>(D.r2.own c i).2.2,D.dj,D.n1,D.n2,D.nM,D.lb⟩;rw[f c λh=>by subst h;rw[D.nM]at e;cases e];exact D.ag c cs e;rcases N0.1 i with h|h;exact D.w1 c h;exact D.w2 c h
end
end
section
variable {M:Fr} {a b:Ty} {h g:za} {n q bo bt i:Nat} {ts:Sl} {ct:Array Value}
theorem hH{x:El (.row a)×El (.row b)}{u:Value}(h:RdV M (.pair (.row a) (.row b)) x u):∃s1 s2:Sl,u=.agg #[aK s1,aK s2]/\Rd M (.row a) x.1 [aK s1]/\Rd M (.row b) x.2 [aK s2]:=by unfold RdV at h;simp only[ev,if_true]at h;obtain⟨cs,rfl,c1,c2,rfl,l,j⟩:=h;obtain⟨k,rfl,g1⟩:=l;obtain⟨c,rfl,f⟩:=j;obtain⟨s1,rfl,i⟩:=eQ (M:=M) (t:=a) (xs:=x.1) ((Qs rfl).2 ⟨k,rfl,g1⟩);obtain⟨s2,rfl,e⟩:=eQ (M:=M) (t:=b) (xs:=x.2) ((Qs rfl).2 ⟨c,rfl,f⟩);exact⟨s1,s2,rfl,i,e⟩
theorem wv{x:El (.row a)×El (.row b)}{s1 s2:Sl}(e:Rd M (.row a) x.1 [aK s1])(c:Rd M (.row b) x.2 [aK s2]):RdV M (.pair (.row a) (.row b)) x (.agg #[aK s1,aK s2]):=by unfold RdV;simp only[ev,if_true];exact⟨[_,_],rfl,[_],[_],rfl,e,c⟩
theorem Hp(z:Value)(n:Nat):madeCells #[z] n=(Ph n z).toArray:=by apply Array.ext;simp[madeCells];intro i c b;simp[madeCells,Nat.mod_one]
theorem tu{t e:TypeId}{z:Value}{bytes:Nat}(E:ElemT Tp t e z 1 bytes)(k:z.cells=#[z])(j:bytes<=1000)(o:n<=1000000){K:Value->za->Prop}(m:K (aK ⟨Td ⟨h.size,0,Te⟩,n,n⟩) (h.push (.cells (Ph n z).toArray e))):
  jh Tp (Pt t (.int .i64 (n:Int)) (.int .i64 (n:Int))) h K:=by
 intro B d;obtain⟨i,hi,b,f,l⟩:=E.info;have p:(bytes:Int)*(n:Int)<=1000*1000000:=Int.mul_le_mul (by omega) (by omega) (by omega) (by omega);have c:=run_make (P:=Tp) (mk B d h) t e i z E.slice hi b .i64 .i64 (n:Int) (n:Int) (by omega) (Int.le_refl _) (by rw[l];omega) (by omega);rw[NE,f,OI,k,Hp]at c;exact⟨_,_,_,c,m⟩
theorem CR.pop{els:List (List Value)}{sl:Sl}{b:Nat}{cs:Array Value}(H:CR g 1 els sl b cs)(f:q<=els.length):CR g 1 (els.take q) ⟨sl.a,q,sl.cap⟩ b cs:=by have k:=H.ln;have j:=H.ro.le;refine⟨⟨by show q<=sl.cap;omega,?_⟩,by rw[N8,P5 f],λi e hi=>?_⟩;rcases H.ro.at_ with⟨c,h⟩|c;exact .inl ⟨by show q=0;omega,h⟩;exact .inr c;rw[N4]at hi;split at hi;exact H.el i e hi;cases hi
structure ParI (h:za) (n bo:Nat) (T:List Nat) (outs:List Int) (ts:Sl) (bt:Nat) (ct:Array Value) (g:za):Prop where
 k:Keep bo h g
 out:Blk g bo (outs.map (OH .i64)).toArray
 ln:outs.length=n
 top:CR g 1 (T.map λi:Nat=>[OH .i64 (i:Int)]) ts bt ct
 hb:bo<bt
theorem ParI.len{T:List Nat}{outs:List Int}(S:ParI h n bo T outs ts bt ct g):ts.len=T.length:=by rw[S.top.ln,NM]
theorem ParI.cell{T:List Nat}{outs:List Int}(S:ParI h n bo T outs ts bt ct g)(hi:i<T.length):ts.a=Td ⟨bt,0,Te⟩/\zb g ⟨bt,0+i,Te⟩=Td (.int .i64 ((T[i]:Nat):Int)):=by
 have b:(T.map λi:Nat=>[OH .i64 (i:Int)])≠[]:=λe=>by rw[List.map_eq_nil_iff]at e;rw[e]at hi;exact absurd hi (Ra _)
 obtain⟨f,B⟩:=S.top.blk b;obtain⟨_,c⟩:=S.top.el i [.int .i64 ((T[i]:Nat):Int)] (by rw[OM,NL hi];rfl);refine⟨f,B.cell ?_⟩;have:=ox c (q:=0) (by omega);rw[OI,Pw]at this;rw[NZ,<-OF,this];rfl
theorem ParI.set{T:List Nat}{outs:List Int}(S:ParI h n bo T outs ts bt ct g)(hi:i<n){x:Int}{K:za->Prop}(m:∀g',ParI h n bo T (outs.set i x) ts bt ct g'->g'.size=g.size->K g'):
  XRunU Tp (NR 3 (.pointer (Td ((⟨bo,0,Te⟩:Addr).add (i*1)))) (.int .i64 x)) g K:=by
 have b:=S.ln;have l:=S.hb;rw[zj,NZ,OI];refine Wu pv (by kernel_rfl) S.out (by simp;omega) rfl λg' c o f=>m g' ⟨⟨by have:=S.k.size;omega,λj p=>(f j (by omega)).trans (S.k.get j p)⟩,?_,by rw[List.length_set];exact b,S.top.frame λ_=>f bt (by omega),l⟩ o;have e:(outs.map (OH .i64)).toArray.setIfInBounds i (.int .i64 x)=((outs.set i x).map (OH .i64)).toArray:=by rw[List.map_set];simp
 rw[e]at c;exact c
theorem GG{s:Sl}{i:Int}(b:i=(q:Int)):(⟨dP s.a 1 (0:Int).toNat ((s.cap:Nat):Int).toNat,i.toNat-(0:Int).toNat,((s.cap:Nat):Int).toNat-(0:Int).toNat⟩:Sl)=⟨s.a,q,s.cap⟩:=by have:dP s.a 1 (0:Int).toNat ((s.cap:Nat):Int).toNat=s.a:=Cd _ _ _;rw[this];congr 1;omega
set_option maxRecDepth 100000 in
set_option maxHeartbeats 2000000 in
theorem La{gl:Fr}{t:List Bt×List Int}{R:List Int×Bool->Prop}(hR:R (if zd t=Ta then(jT t.2,Ta)else([],Tc))):PC Tp gl 32 [Arg.mk (.pair (.row .str) (.row (.int .i64))) t] [.row (.int .i64),.bool] R:=by
 intro h M vs hM ag ha
 match vs,ha with
 |[u],⟨hu,_⟩=>
  obtain⟨s1,s2,rfl,r1,r2⟩:=hH (show RdV M (.pair (.row .str) (.row (.int .i64))) t u from hu);apply PX.of;obtain⟨l1,_,_⟩:=rowLen r1;obtain⟨l2,b2,_⟩:=rowLen r2;apply G1 s1 s2;intro c;have k1:Keep h.size h c:=Keep.push _ _ (ND _);have z1:c.size=h.size+1:=NN _;have T:Blk c h.size #[aK s1,aK s2]:=Blk.new _ _ _;clear_value c;have O:∀g:za,zd t=Tc->Keep h.size h g->∃M' r,Later h M g M'/\dX M' [.row (.int .i64),.bool] r (.tuple #[.slice Te 0 0,.bool Tc])/\R r:=λg e k=>⟨M,([],Tc),Later.same ag k,⟨[_,_],⟨_,_,rfl,(Qs rfl).2 fD,_,rfl,rdBool _⟩,rfl⟩,by rw[e]at hR;exact hR⟩;refine⟨s1,T.cellAdd (o:=0) (k:=0) rfl,s2,T.cellAdd (o:=0) (k:=1) rfl,s1,λ_=>T.cellAdd (o:=0) (k:=0) rfl,λf=>?_,λf=>?_⟩;refine O _ ?_ k1;cases s:zd t with
  |false=>rfl
  |true=>
   unfold zd at s;simp only[NP,zC]at s;have e1:((s1.len:Int) != (s2.len:Int))=Tc:=by simp;omega
   rw[e1]at f;have:=zD f;omega
  have l:s1.len=s2.len:=by
   by_cases e:s1.len=s2.len;exact e;exfalso;have:((s1.len:Int) != (s2.len:Int))=Ta:=by simp;omega
   simp[this]at f
  have aC:s1.len<=512:=by
   have:((s1.len:Int) != (s2.len:Int))=Tc:=by simp;omega
   rw[this]at f;have:=zE f;omega
  refine⟨s2,T.cellAdd (o:=0) (k:=1) rfl,?_⟩;refine tu (E:=(iw:ElemT _ _ _ _ 1 8)) rfl (by omega) (by omega) ⟨⟨Td ⟨c.size,0,Te⟩,s2.len,s2.len⟩,rfl,s2,?_,?_⟩;exact(T.keepN (n:=c.size) (Keep.push _ _ (ND _)) (by omega)).cellAdd (o:=0) (k:=1) rfl;obtain⟨L,D⟩:∃L,L=t.2:=⟨_,rfl⟩;have hn:L.length=s2.len:=by rw[D,l2]
  have nr:∀m,m<L.length->fC L m=Tc->zd t=Tc:=λm hm e=>by
   cases s:zd t with
   |false=>rfl
   |true=>unfold zd at s;simp only[NP,zC]at s;rw[D]at hm e;have:=Jn.1 s.2 m hm;rw[e]at this;cases this
  refine⟨λts j g=>∃(m:Nat) (outs:List Int) (bt:Nat) (ct:Array Value),j=(m:Int)/\m<=L.length/\eA L m=Ta/\ParI c L.length c.size (Ym L m) outs ts bt ct g/\∀i,i<m->outs[i]?=Td (eB L m i),λ_ j _=>L.length-j.toNat,?_,?_⟩;refine⟨0,Ph L.length 0,c.size+1,#[],rfl,NV _,rfl,⟨Keep.push _ _ (ND _),?_,PG,⟨⟨NV _,.inl ⟨rfl,rfl⟩⟩,rfl,λi e hi=>by simp[Ym]at hi⟩,by omega⟩,λi hi=>by omega⟩;rw[List.map_replicate,hn];exact Blk.new _ _ _;rintro ts j g ⟨m,outs,bt,ct,rfl,hm,Q,S,hv⟩;refine⟨λf=>?_,λf=>?_⟩;have l:m<L.length:=by have:=zD f;omega
  have kg:Keep h.size h g:=k1.trans S.k (by omega);have ah:AgM M g:=ag.keep kg;obtain⟨b,o,e1,y⟩:=oy ah r2 (k:=m) (by rw[<-D];exact l);have N:t.2[m]'(by rw[<-D];exact l)=cR L m:=by subst D;unfold cR;rw[Oo,NL l];rfl
  rw[N]at y;refine⟨⟨b,o,Te⟩,⟨e1,by omega,by omega⟩,cR L m,by rw[dV,NE];exact y,λJ=>?_,λJ=>?_⟩;refine O _ (nr m l ?_) kg;cases e:fC L m with
  |false=>rfl
  |true=>
   obtain⟨a1,a2,_⟩:=xn.1 e;have V:decide (cR L m<0)=Tc:=by simp;omega
   rw[V]at J;have:=zD J;omega
  have a0:0<=cR L m:=by by_cases e:cR L m<0;rw[zG e]at J;cases J;omega
  have a1:cR L m<=m:=by rw[zH (show¬cR L m<0 by omega)]at J;have:=zE J;omega
  generalize x:cR L m=lf at *;have hT:∀k,(F:k<(Ym L m).length)->(Ym L m)[k]<m:=λk F=>(rx.1 (Ot F)).1;refine⟨λts g=>∃(q:Nat) (outs:List Int) (ct:Array Value),q<=(Ym L m).length/\ParI c L.length c.size ((Ym L m).take q) outs ts bt ct g/\(∀i,i<m->outs[i]?=Td (if i∈(Ym L m).drop q then(m:Int)else eB L m i))/\∀r∈(Ym L m).drop q,lf<=(r:Int)/\lf<=cR L r,λts _=>ts.len,?_,?_⟩;exact⟨(Ym L m).length,outs,ct,ND _,by rw[Pe (ND _)];exact S,λi hi=>by rw[Pd (ND _),zv (by simp)];exact hv i hi,λr s=>by rw[Pd (ND _)]at s;cases s⟩;rintro ts' g' ⟨q,I,P,hq,C,ab,hp⟩;have az:ts'.len=q:=by rw[C.len,N8,P5 hq]
  have aa:Keep h.size h g':=k1.trans C.k (by omega);have ax:=C.top.ro.le;have aE:m<=512:=by omega
  have aA:q<=512:=by
   have:(Ym L m).length<=m:=by unfold Ym;exact OD (List.length_filter_le _ _) (by simp)
   omega
  obtain⟨k,F⟩:∃k,k=(Ym L m).getD (q-1) 0:=⟨_,rfl⟩;obtain⟨a,p1⟩:∃a:Addr,0<q->ts'.a=Td a/\zb g' (a.add ((q-1)*1))=Td (.int .i64 (k:Int)):=by by_cases h0:0<q;obtain⟨V,e4⟩:=C.cell (i:=q-1) (by rw[N8];omega);refine⟨_,λ_=>⟨V,?_⟩⟩;rw[zj,OI,e4,List.getElem_take,F,Oo,NL (by omega)];rfl;exact⟨⟨0,0,Te⟩,λh=>absurd h h0⟩
  have A:0<q->NB .i64 (((ts'.len:Nat):Int)-1)=((q-1:Nat):Int):=λh0=>by rw[wrap64 (by omega) (by omega)];omega
  have ap:0<q->k<m/\k∈Ym L m/\(Ym L m).drop (q-1)=k::(Ym L m).drop q:=λh0=>by
   have e:(Ym L m).getD (q-1) 0=(Ym L m)[q-1]'(by omega):=by rw[Oo,NL (by omega)];rfl
   rw[e]at F;refine⟨by rw[F];exact hT _ _,by rw[F];exact Ot _,?_⟩;rw[Po (by omega:q-1<(Ym L m).length),<-F,show q-1+1=q by omega]
  refine⟨a,λf=>?_,(k:Int),λf=>?_,λf=>?_,λf=>?_⟩;have h0:0<q:=by have:=zD f;omega
  exact⟨(p1 h0).1,by rw[A h0];omega,by rw[A h0];omega⟩;have h0:0<q:=by have:=zD f;omega
  rw[A h0,NE];exact(p1 h0).2;have h0:0<q:=by by_cases e:0<q;exact e;rw[zH (show¬((ts'.len:Nat):Int)>0 by omega)]at f;cases f
  rw[zG (show((ts'.len:Nat):Int)>0 by omega)]at f;have U:lf<=(k:Int):=by have:=zD f;omega
  obtain⟨an,aF,ac⟩:=ap h0;have A:=A h0;obtain⟨b3,o3,V,e4⟩:=oy (ag.keep aa) r2 (k:=k) (by rw[<-D];omega);have au:t.2[k]'(by rw[<-D];omega)=cR L k:=by subst D;unfold cR;rw[Oo,NL (by omega)];rfl
  rw[au]at e4;refine⟨a,⟨(p1 h0).1,by rw[A];omega,by rw[A];omega⟩,(k:Int),by rw[A,NE];exact(p1 h0).2,s2,(T.keepN C.k (by omega)).cellAdd (o:=0) (k:=1) rfl,⟨b3,o3,Te⟩,⟨V,by omega,by omega⟩,cR L k,by rw[dV,NE];exact e4,λh4=>?_,λh4=>?_⟩;refine O _ (nr m l ?_) aa;cases e:fC L m with
  |false=>rfl
  |true=>have:=(xn.1 e).2.2 k an (by rw[x];exact U);rw[x]at this;have:=zD h4;omega
  have h5:lf<=cR L k:=by have:=zE h4;omega
  have ai:q<=ts'.cap:=by omega
  have Z:(0:Int)<=0/\0<=NB .i64 (((ts'.len:Nat):Int)-1)/\NB .i64 (((ts'.len:Nat):Int)-1)<=((ts'.cap:Nat):Int)/\((ts'.cap:Nat):Int)<=((ts'.cap:Nat):Int):=by rw[A];omega
  have Y:∀z,ParI c L.length c.size ((Ym L m).take q) (I.set k (m:Int)) ts' bt P z->(∃(q2:Nat) (outs:List Int) (ct:Array Value),q2<=(Ym L m).length/\ParI c L.length c.size ((Ym L m).take q2) outs ⟨dP ts'.a 1 (0:Int).toNat ((ts'.cap:Nat):Int).toNat,(NB .i64 (((ts'.len:Nat):Int)-1)).toNat-(0:Int).toNat,((ts'.cap:Nat):Int).toNat-(0:Int).toNat⟩ bt ct z/\(∀i,i<m->outs[i]?=Td (if i∈(Ym L m).drop q2 then(m:Int)else eB L m i))/\∀r∈(Ym L m).drop q2,lf<=(r:Int)/\lf<=cR L r)/\(NB .i64 (((ts'.len:Nat):Int)-1)).toNat-(0:Int).toNat<ts'.len:=λz w=>by rw[GG A];refine⟨⟨q-1,_,P,by omega,⟨w.k,w.out,w.ln,?_,w.hb⟩,λi hi=>?_,λr s=>?_⟩,by rw[A];omega⟩;have:=w.top.pop (q:=q-1) (by rw[NM,N8];omega);rw[<-List.map_take,List.take_take,P5 (by omega)]at this;exact this;rw[List.getElem?_set,ac];by_cases e:k=i;subst e;rw[zz rfl,zz (by rw[C.ln];omega),zz (by simp)];rw[zv e,ab i hi];congr 1;by_cases y:i∈(Ym L m).drop q;rw[zz y,zz (NF _ y)];rw[zv y,zv (λh=>by rcases NI.1 h with h|h;exact e h.symm;exact y h)];rw[ac]at s;rcases NI.1 s with rfl|s;exact⟨U,h5⟩;exact hp r s
  refine⟨⟨c.size,0,Te⟩,⟨rfl,by omega,by show(k:Int)<(s2.len:Int);omega⟩,⟨.inl rfl,Z,?_⟩,?_⟩;rw[NE];exact C.set (by omega) λz w _=>Y z w;rw[NE];exact C.set (by omega) λz w _=>⟨.inl rfl,Z,Y z w⟩;have ae:0<q->(k:Int)<lf:=λh0=>by rw[zG (show((ts'.len:Nat):Int)>0 by omega)]at f;have:=zE f;omega
  have G:=Dj L m;have B:(Ym L m).filter (λi:Nat=>decide ((i:Int)<cR L m))=(Ym L m).take q:=by
   rw[x];refine yK G hq (λi hi al=>?_) λi hi al=>?_;have h0:0<q:=by omega
   have c:=ae h0;have e:k=(Ym L m)[q-1]'(by omega):=by rw[F,Oo,NL (by omega)];rfl
   rcases Ob i (q-1)with h2|h2;have:=PY.1 G i (q-1) hi (by omega) h2;omega;have:i=q-1:=by omega
   subst this;omega;exact(hp _ (by rw[List.mem_drop_iff_getElem];exact⟨i-q,by omega,by congr 1;omega⟩)).1
  have af:fC L m=Ta:=Ik Q (by rw[x];exact a0) (by rw[x];exact a1) λr s aj=>by
   rw[x]at aj ⊢;have ak:r∉(Ym L m).take q:=λh=>by rw[<-B,Pm,zC,x]at h;omega
   rw[<-OX q (Ym L m)]at s;rcases N0.1 s with h|h;exact absurd h ak;exact(hp r h).2
  refine⟨⟨c.size,0,Te⟩,⟨rfl,by omega,by show(m:Int)<(s2.len:Int);omega⟩,?_⟩;rw[NE];refine C.set (by omega) λz w z2=>?_;intro g3;have k3:Keep z.size z g3:=Keep.push _ _ (ND _);have B3:Blk g3 z.size [OH .i64 (m:Int)].toArray:=Blk.new _ _ _;have z3:g3.size=z.size+1:=NN _;clear_value g3;have ay:=w.k.size;have aB:=w.out.lt;have aD:=w.hb;have T3:CR g3 1 (((Ym L m).take q).map λi:Nat=>[OH .i64 (i:Int)]) ts' bt P:=w.top.frame λN=>k3.get bt (by rcases w.top.ro.at_ with⟨e5,e6⟩|⟨_,e6,_⟩;rcases N with N|N;exfalso;have:=w.top.ln;rw[e5]at this;exact N (Ov.1 this.symm);exact absurd e6 N;exact e6.lt);refine CR.app (E:=(iw:ElemT _ _ _ _ 1 8)) (by omega) T3 B3 rfl (by intro u hu;simp at hu;rw[hu];rfl) (by rw[NM,N8];omega) λs' g4 b' c4 T4 z4 w4 l4 f4=>⟨s',rfl,⟨m+1,_,b',c4,by rw[wrap64 (by omega) (by omega)];omega,l,BC Q af,⟨⟨by omega,λj hj=>?_⟩,?_,w.ln,?_,?_⟩,λi hi=>?_⟩,?_⟩;rw[f4 j (by omega) (by rcases w4 with⟨e,_⟩|e <;> omega),k3.get j (by omega)];exact w.k.get j hj;refine w.out.keep ?_;rw[f4 c.size (by omega) (by rcases w4 with⟨e,_⟩|e <;> omega),k3.get _ (by omega)];rw[Dq,B,Oq];exact T4;rcases w4 with⟨e,_⟩|e <;> omega;rw[List.getElem?_set];by_cases e:m=i;subst e;rw[zz rfl,zz (by rw[C.ln];exact l),yC];rw[zv e,ab i (by omega),w5 L m i (by omega),x];congr 1;have H:i∈Ym L m↔eB L m i<0:=by rw[rx];rcases Zr L m i with⟨e7,_⟩|⟨p,e7,_⟩;exact⟨λ_=>by omega,λ_=>⟨by omega,e7⟩⟩;exact⟨λh=>by omega,λh=>by omega⟩
  by_cases y:i∈(Ym L m).drop q;rw[zz y,zz ⟨H.1 (List.mem_of_mem_drop y),(hp i y).1⟩];rw[zv y,zv];rintro⟨h6,h7⟩;have h8:=H.2 h6;rw[<-OX q (Ym L m)]at h8;rcases N0.1 h8 with h|h;rw[<-B,Pm,zC,x]at h;omega;exact y h;show L.length-(NB .i64 ((m:Int)+1)).toNat<L.length-((m:Nat):Int).toNat;rw[Qd l (by omega)];simp only[NE];omega;have ar:m=L.length:=by have:=zE f;omega
  subst ar;have s:zd t=Ta:=by unfold zd;simp only[NP,zC];exact⟨⟨by omega,by omega⟩,by rw[<-D];exact Q⟩
  rw[s]at hR;have kg:Keep h.size h g:=k1.trans S.k (by omega);have ah:AgM M g:=ag.keep kg;have ho:outs=jT t.2:=by rw[<-D];apply OG;intro i;by_cases hi:i<L.length;rw[hv i hi,Hk hi];rw[Ow (by rw[S.ln];omega),Ow (by rw[MJ];omega)]
  refine⟨MxL M g [c.size],(outs,Ta),MxL.later ag kg (by intro b hb;simp at hb;omega),⟨[_,_],⟨_,_,rfl,(Qs rfl).2 ⟨_,rfl,Td ⟨c.size,0,Te⟩,s2.len,?_,⟨?_,?_⟩,.inr ⟨c.size,0,_,rfl,MxL.at (by simp) S.out,λi hi=>?_⟩⟩,_,rfl,rdBool _⟩,rfl⟩,by rw[ho];exact hR⟩;show Value.slice _ _ _=Value.slice _ _ _;rw[S.ln,hn];show outs.length<=_;rw[S.ln];omega;show outs.length<=_;rw[S.ln];omega;show cut (outs.map (OH .i64)).toArray (0+i*1) 1=[OH .i64 outs[i]];refine Xe rfl λq hq=>?_;have am:q=0:=by omega
  subst am;have hi:i<outs.length:=hi;simp[hi]
end
end Go.X
end
section
namespace Go.X
section
theorem I4(gl:Fr)(f:(List Bt)×List Int)(e:Int)(R:Bool->Prop) (H:∃(a:Int->Prop) (b:Int->Nat),a 0/\∀c:Int,a c->(((bif (decide (c<f.1.length))then(decide (c<=e))else Tc)=Ta->∃d,(0<=c/\f.1[c.toNat]?=Td d)/\(decide ((d.size:Int)>1024)=Ta->R Tc)/\(decide ((d.size:Int)>1024)=Tc->(a (NB .i64 (c+1))/\b (NB .i64 (c+1))<b c)))/\((bif (decide (c<f.1.length))then(decide (c<=e))else Tc)=Tc->R (bif (decide ((f.1.length:Int)<=e))then(decide ((f.2.length:Int)<=600))else Tc)))):
  PC Tp gl 9 [Arg.mk (.pair (.row .str) (.row (.int .i64))) f,Arg.mk (.int .i64) e] [.bool] R:=
 PF ⟨[],[],[(2,⟨[(5,.one (.dat (.int .i64)))],[],[2],[100320]⟩)],[]⟩ [.tmp 4] 36 Tryz.func9 H
theorem CZ(gl:Fr)(b:(List Bt)×List Int)(R:Bool->Prop) (H:PC Tp gl 32 [Arg.mk (.pair (.row .str) (.row (.int .i64))) (b.1,b.2)] [.row (.int .i64),.bool] (λa:(List Int)×Bool=>R a.2)):
  PC Tp gl 18 [Arg.mk (.pair (.row .str) (.row (.int .i64))) b] [.bool] R:=
 PF ⟨[],[],[],[]⟩ [.tmp 2] 11 Tryz.func18 H
theorem G3(gl:Fr)(h:(List Bt)×List Int)(R:Bool->Prop) (H:((bif ((h.1.length:Int) != (h.2.length:Int))then Ta else(decide ((h.1.length:Int)>512)))=Ta->R Tc)/\((bif ((h.1.length:Int) != (h.2.length:Int))then Ta else(decide ((h.1.length:Int)>512)))=Tc->∃(a:Int->Prop) (b:Int->Nat),a 0/\∀c:Int,a c->((decide (c<h.2.length)=Ta->∃d,(0<=c/\h.2[c.toNat]?=Td d)/\∃e,((!(decide (d<0)))=Ta->(0<=c/\h.2[c.toNat]?=Td e))/\((bif (decide (d<0))then Ta else(decide (e>c)))=Ta->R Tc)/\((bif (decide (d<0))then Ta else(decide (e>c)))=Tc->∃(f:Int->Prop) (g:Int->Nat),f 0/\∀i:Int,f i->((decide (i<c)=Ta->∃j,(0<=c/\h.2[c.toNat]?=Td j)/\∃k,(decide (j<=i)=Ta->(0<=c/\h.2[c.toNat]?=Td k))/\∃l,(decide (j<=i)=Ta->(0<=i/\h.2[i.toNat]?=Td l))/\((bif (decide (j<=i))then(decide (k>l))else Tc)=Ta->R Tc)/\((bif (decide (j<=i))then(decide (k>l))else Tc)=Tc->(f (NB .i64 (i+1))/\g (NB .i64 (i+1))<g i)))/\(decide (i<c)=Tc->(a (NB .i64 (c+1))/\b (NB .i64 (c+1))<b c)))))/\(decide (c<h.2.length)=Tc->R Ta)))):
  PC Tp gl 30 [Arg.mk (.pair (.row .str) (.row (.int .i64))) h] [.bool] R:=
 PF ⟨[],[],[(4,⟨[(3,.one (.dat (.int .i64)))],[],[1],[100192]⟩),(9,⟨[(4,.one (.dat (.int .i64)))],[],[],[100256]⟩)],[]⟩ [.tmp 2] 65 Tryz.func30 H
theorem Mr(gl:Fr)(a0:List Int)(b1:List Int)(R:Bool->Prop) (H:(((a0.length:Int) != (b1.length:Int))=Ta->R Tc)/\(((a0.length:Int) != (b1.length:Int))=Tc->∃(a:Int->Prop) (b:Int->Nat),a 0/\∀c:Int,a c->((decide (c<a0.length)=Ta->∃d,(0<=c/\a0[c.toNat]?=Td d)/\∃e,(0<=c/\b1[c.toNat]?=Td e)/\((d != e)=Ta->R Tc)/\((d != e)=Tc->(a (NB .i64 (c+1))/\b (NB .i64 (c+1))<b c)))/\(decide (c<a0.length)=Tc->R Ta)))):
  PC Tp gl 14 [Arg.mk (.row (.int .i64)) a0,Arg.mk (.row (.int .i64)) b1] [.bool] R:=
 PF ⟨[],[],[(4,⟨[(5,.one (.dat (.int .i64)))],[],[],[100320]⟩)],[]⟩ [.tmp 4] 26 Tryz.func14 H
theorem Gl(gl:Fr)(b:Tr)(R:Bt->Prop) (H:PC Tp gl 95 [Arg.mk .tree (Tr.mk b.kind b.text b.keys b.items)] [.str,.int .i64] (λa:Bt×Int=>R a.1)):
  PC Tp gl 63 [Arg.mk .tree b] [.str] R:=
 PF ⟨[],[],[],[]⟩ [.tmp 2] 11 Tryz.func63 H
end
end Go.X
end
section
namespace Go.X
open Go Go.X Go.Proofs Go.RowKit
section
variable {x y:Bool} {a b:Int} {gl:Fr} {R:Bool -> Prop}
theorem nW(a b:Bt):(a.toList==b.toList)=decide (a=b):=by rw[m8,m8,Om,beq_iff_eq,zC,r9]
theorem il:(bif x then Ta else y)=Ta↔x=Ta\/y=Ta:=by cases x <;> simp
theorem gq:(bif x then Ta else y)=Tc↔x=Tc/\y=Tc:=by cases x <;> simp
theorem jY:(bif x then y else Tc)=Ta↔x=Ta/\y=Ta:=by cases x <;> simp
theorem nt:(bif x then y else Tc)=Tc↔x=Tc\/y=Tc:=by cases x <;> simp
theorem dE(h:decide (a<b)=Ta):a<b:=zD h
theorem dH(h:decide (a<b)=Tc):¬a<b:=zE h
theorem ml{L:List Int}{m:Nat}(h:m<L.length):(0:Int)<=(m:Int)/\L[((m:Nat):Int).toNat]?=Td (cR L m):=⟨by omega,by rw[NE];exact tH h⟩
theorem zh{t:List Bt×List Int}(h:zd t=Ta):t.1.length=t.2.length/\t.2.length<=512/\eA t.2 t.2.length=Ta:=by unfold zd at h;simp only[NP,zC]at h;exact⟨h.1.1,by omega,h.2⟩
theorem xj{t:List Bt×List Int}(b:R (zd t)):PC Tp gl 18 [Arg.mk (.pair (.row .str) (.row (.int .i64))) t] [.bool] R:=by
 apply CZ;refine La (t:=t) (R:=λr=>R r.2) ?_;cases h:zd t with
 |false=>rw[h]at b;exact b
 |true=>rw[h]at b;exact b
theorem By{t:List Bt×List Int}(s:R (zd t)):PC Tp gl 30 [Arg.mk (.pair (.row .str) (.row (.int .i64))) t] [.bool] R:=by
 apply G3;refine⟨λo=>?_,λo=>?_⟩;have:zd t=Tc:=by
  cases h:zd t with
  |false=>rfl
  |true=>obtain⟨a,b,_⟩:=zh h;rcases il.1 o with h|h;rw[a]at h;simp at h;have:=zD h;omega
 rw[this]at s;exact s;obtain⟨B,x⟩:=gq.1 o;have B:(t.1.length:Int)=t.2.length:=by simpa using B
 have x:t.1.length<=512:=by have:=zE x;omega
 have key:∀b,eA t.2 t.2.length=b->R b:=λb w=>by
  have:zd t=b:=by unfold zd;rw[w,zG (show t.1.length=t.2.length by omega),zG x];rfl
  rw[this]at s;exact s
 refine⟨λj=>∃m:Nat,j=m/\m<=t.2.length/\eA t.2 m=Ta,λj=>t.2.length-j.toNat,⟨0,rfl,NV _,rfl⟩,?_⟩;rintro j ⟨m,rfl,E,ok⟩;refine⟨λo=>?_,λo=>?_⟩;have c:m<t.2.length:=by have:=dE o;omega
 have q:fC t.2 m=Tc->R Tc:=λw=>key Tc (by
  cases h:eA t.2 t.2.length with
  |false=>rfl
  |true=>have:=Jn.1 h m c;rw[w]at this;cases this)
 refine⟨cR t.2 m,ml c,cR t.2 m,λ_=>ml c,λp=>q ?_,λp=>?_⟩;cases ho:fC t.2 m with
 |false=>rfl
 |true=>obtain⟨a,b,_⟩:=xn.1 ho;rcases il.1 p with h|h;have:=dE h;omega;have:=zD h;omega
 obtain⟨p,y⟩:=gq.1 p;have p:=dH p;have y:=zE y;refine⟨λi=>∃k:Nat,i=k/\k<=m/\∀r,r<k->cR t.2 m<=(r:Int)->cR t.2 m<=cR t.2 r,λi=>m-i.toNat,⟨0,rfl,NV _,λr C=>by omega⟩,?_⟩;rintro i ⟨k,rfl,D,z⟩;refine⟨λf=>?_,λf=>?_⟩;have f:k<m:=by have:=dE f;omega
 refine⟨cR t.2 m,ml c,cR t.2 m,λ_=>ml c,cR t.2 k,λ_=>ml (by omega),λl=>q ?_,λl=>?_⟩;obtain⟨l,A⟩:=jY.1 l;have l:=zD l;have A:=zD A;cases ho:fC t.2 m with
 |false=>rfl
 |true=>have:=(xn.1 ho).2.2 k f l;omega
 rw[Qd f (by omega)];refine⟨⟨k+1,rfl,by omega,λr C n=>?_⟩,by simp only[NE];omega⟩;by_cases e:r=k;subst e;rcases nt.1 l with h|h;have:=zE h;omega;have:=zE h;omega;exact z r (by omega) n;have f:k=m:=by have:=dH f;omega
 subst f;rw[Qd c (by omega)];exact⟨⟨k+1,rfl,by omega,BC ok (xn.2 ⟨by omega,by omega,λi hi n=>z i hi n⟩)⟩,by simp only[NE];omega⟩;have u:m=t.2.length:=by have:=dH o;omega
 subst u;exact key Ta ok
theorem AI{α:Type}{a b:List α}(f:a.length=b.length){k:Nat}(j:a.length<=k)(h:∀i (e:i<a.length) (c:i<b.length),i<k->a[i]=b[i]):a=b:=List.ext_getElem f λi e c=>h i e c (by omega)
theorem uQ{a b:List Int}(t:a.length<=1000000)(m:∀r,(r=Ta↔a=b)->R r):PC Tp gl 14 [Arg.mk (.row (.int .i64)) a,Arg.mk (.row (.int .i64)) b] [.bool] R:=by
 apply Mr;refine⟨λj=>m _ ⟨λh=>(by cases h),λh=>by subst h;simp at j⟩,λj=>?_⟩;have j:(a.length:Int)=b.length:=by simpa using j
 have f:a.length=b.length:=by omega
 refine⟨λi=>∃k:Nat,i=k/\k<=a.length/\∀i (p:i<a.length) (o:i<b.length),i<k->a[i]=b[i],λi=>a.length-i.toNat,⟨0,rfl,NV _,λi _ _ h=>by omega⟩,?_⟩;rintro i ⟨k,rfl,s,n⟩;refine⟨λc=>?_,λc=>?_⟩;have c:k<a.length:=by have:=dE c;omega
 rw[Qd c (by omega)];refine⟨a[k],⟨by omega,by rw[NE,NL c]⟩,b[k],⟨by omega,by rw[NE,NL (by omega)]⟩,λl=>m _ ⟨λh=>(by cases h),λh=>?_⟩,λl=>⟨⟨k+1,rfl,c,λi p o q=>?_⟩,by simp only[NE];omega⟩⟩;subst h;simp at l;by_cases e:i=k;subst e;simpa using l;exact n i p o (by omega);have c:k=a.length:=by have:=dH c;omega
 exact m _ ⟨λ_=>AI f (Nat.le_of_eq c.symm) n,λ_=>rfl⟩
theorem Zm{t:List Bt×List Int}{most:Nat}(x:most<=100000)(l:∀r,(r=Ta->t.1.length<=most/\t.2.length<=600/\∀s∈t.1,s.size<=1024)->R r):PC Tp gl 9 [Arg.mk (.pair (.row .str) (.row (.int .i64))) t,Arg.mk (.int .i64) (most:Int)] [.bool] R:=by
 apply I4;refine⟨λi=>∃k:Nat,i=k/\k<=t.1.length/\∀i (h:i<t.1.length),i<k->t.1[i].size<=1024,λi=>t.1.length-i.toNat,⟨0,rfl,NV _,λi _ h=>by omega⟩,?_⟩;rintro i ⟨k,rfl,u,j⟩;refine⟨λc=>?_,λc=>l _ λf=>?_⟩;obtain⟨c,f⟩:=jY.1 c;have c:k<t.1.length:=by have:=dE c;omega
 have f:=zD f;rw[Qd (n:=k+1) (by omega) (by omega)];refine⟨t.1[k],⟨by omega,by rw[NE,NL c]⟩,λ_=>l _ λh=>(by cases h),λo=>⟨⟨k+1,rfl,c,λi p w=>?_⟩,by simp only[NE];omega⟩⟩;by_cases e:i=k;subst e;have:=zE o;omega;exact j i p (by omega);obtain⟨a,b⟩:=jY.1 f;have a:=zD a;have b:=zD b;have q:k=t.1.length:=by rcases nt.1 c with h|h;have:=dH h;omega;have:=zE h;omega
 refine⟨by omega,by omega,λs m=>?_⟩;obtain⟨i,hi,rfl⟩:=PM.1 m;exact j i hi (by omega)
end
section
variable {M:Fr} {h g h':za} {n i b pb m lo v:Nat} {x y:Int} {K:za -> Prop} {s:Sl} {Q:Int -> Prop}
theorem AgM.off(ag:AgM M h)(f:∀b c,M b=Td c->g[b]?=h[b]?):AgM M g:=λb c e=>by rw[f b c e];exact ag b c e
theorem i5(h:y=x+1)(h0:0<=x)(b:x<(n:Int)):n-y.toNat<n-x.toNat:=by omega
def fA(n:Nat)(f:Nat->Nat):List Value:=(OB n).map λi=>OH .i64 ((f i:Nat):Int)
theorem kK(n:Nat)(f:Nat->Nat):(fA n f).length=n:=by simp[fA]
theorem nj{f:Nat->Nat}(h:i<n):(fA n f)[i]?=Td (.int .i64 ((f i:Nat):Int)):=by simp[fA,h]
theorem Gc{f b:Nat->Nat}(e:∀i,i<n->f i=b i):fA n f=fA n b:=Pq λi hi=>by rw[e i (Og.1 hi)]
theorem F8{f:Nat->Nat}{i x:Nat}:(fA n f).set i (.int .i64 ((x:Nat):Int))=fA n λj=>if j=i then x else f j:=by apply OG;intro j;rw[List.getElem?_set];by_cases c:j<n;rw[nj c,nj c,kK];by_cases e:i=j;subst e;rw[zz rfl,zz c,zz rfl];rw[zv e,zv λh=>e h.symm];rw[Ow (by rw[kK];omega),Ow (by rw[kK];omega),kK];split;split;rename_i a b;omega;rfl;rfl
def IntB(h:za)(b n:Nat)(f:Nat->Nat):Prop:=Blk h b (fA n f).toArray
theorem IntB.keep{f:Nat->Nat}(H:IntB h b n f)(k:h'[b]?=h[b]?):IntB h' b n f:=Blk.keep H k
theorem IntB.ext{f c:Nat->Nat}(H:IntB h b n f)(e:∀i,i<n->f i=c i):IntB h b n c:=by unfold IntB;rw[<-Gc e];exact H
theorem IntB.cell{f:Nat->Nat}(H:IntB h b n f)(hi:i<n):zb h ⟨b,i,Te⟩=Td (.int .i64 ((f i:Nat):Int)):= Blk.cell H (by rw[<-OF];exact nj hi)
theorem IntB.set{f:Nat->Nat}(H:IntB h b n f){i x:Nat}(hi:i<n)(l:∀h',IntB h' b n (λj=>if j=i then x else f j)->h'.size=h.size->(∀j,j≠b->h'[j]?=h[j]?)->K h'):
  XRunU Tp (NR 3 (.pointer (Td ⟨b,i,Te⟩)) (.int .i64 ((x:Nat):Int))) h K:=by
 refine Wu pv (by kernel_rfl) H (by rw[P8,kK];exact hi) rfl λg' c m k=>l g' ?_ m k;unfold IntB;rw[<-F8];have e:(fA n f).toArray.setIfInBounds i (.int .i64 ((x:Nat):Int))=((fA n f).set i (.int .i64 ((x:Nat):Int))).toArray:=by simp
 rw[e]at c;exact c
theorem HG(n:Nat):Ph n (OH .i64 0)=fA n λ_=>0:=by apply OG;intro i;rw[List.getElem?_replicate];by_cases hi:i<n;rw[zz hi,nj hi];rfl;rw[zv hi,Ow (by rw[kK];omega)]
theorem su{t:TypeId}(E:ElemT Tp t 3 (.int .i64 0) 1 8)(c:n<=1000000){K:Value->za->Prop}(b:∀h',h'=h.push (.cells (fA n λ_=>0).toArray 3)->IntB h' h.size n (λ_=>0)->Keep h.size h h'->h'.size=h.size+1->K (aK ⟨Td ⟨h.size,0,Te⟩,n,n⟩) h'):
  jh Tp (Pt t (.int .i64 (n:Int)) (.int .i64 (n:Int))) h K:=by
 refine tu E rfl (by omega) c ?_;rw[HG];exact b _ rfl (Blk.new _ _ _) (Keep.push _ _ (ND _)) (NN _)
def pt(n m:Nat)(B:Nat->Nat):List Value:=(OB n).map λi=>aK ⟨Td ⟨B i,0,Te⟩,m,m⟩
structure Mat (h:za) (pb:Nat) (B:Nat->Nat) (n m:Nat) (P:Nat->Nat->Nat):Prop where
 top:Blk h pb (pt n m B).toArray
 row:∀i,i<n->IntB h (B i) m (P i)
 inj:∀i j,i<n->j<n->B i=B j->i=j
 hb:∀i,i<n->pb<B i
theorem Mat.keep{B:Nat->Nat}{P:Nat->Nat->Nat}(H:Mat h pb B n m P)(b:h'[pb]?=h[pb]?)(k:∀i,i<n->h'[B i]?=h[B i]?):Mat h' pb B n m P:= ⟨H.top.keep b,λi hi=>(H.row i hi).keep (k i hi),H.inj,H.hb⟩
theorem Mat.ext{B:Nat->Nat}{P P':Nat->Nat->Nat}(H:Mat h pb B n m P)(e:∀i j,i<n->j<m->P i j=P' i j):Mat h pb B n m P':= ⟨H.top,λi hi=>(H.row i hi).ext λj b=>e i j hi b,H.inj,H.hb⟩
theorem Mat.at_{B:Nat->Nat}{P:Nat->Nat->Nat}(H:Mat h pb B n m P)(hi:i<n):zb h ⟨pb,i,Te⟩=Td (aK ⟨Td ⟨B i,0,Te⟩,m,m⟩):= H.top.cell (by rw[<-OF];simp[pt,hi])
theorem Mat.set{B:Nat->Nat}{P:Nat->Nat->Nat}(H:Mat h pb B n m P){i j x:Nat}(hi:i<n)(q:j<m)(o:∀h',Mat h' pb B n m (λa b=>if a=i/\b=j then x else P a b)->h'.size=h.size->(∀k,k≠B i->h'[k]?=h[k]?)->K h'):
  XRunU Tp (NR 3 (.pointer (Td ⟨B i,j,Te⟩)) (.int .i64 ((x:Nat):Int))) h K:=by
 refine(H.row i hi).set q λh' r p c=>o h' ⟨H.top.keep (c _ (by have:=H.hb i hi;omega)),λa f=>?_,H.inj,H.hb⟩ p c;by_cases e:a=i;subst e;exact r.ext λb l=>by by_cases e:b=j;rw[zz e,zz ⟨rfl,e⟩];rw[zv e,zv λh=>e h.2]
 refine((H.row a f).keep (c _ λh=>e (H.inj a i f hi h))).ext λb l=>?_;rw[zv λh=>e h.1]
def Cel(h:za)(lo:Nat)(s:Sl)(x y v:Nat):Prop:=∃(a:Addr) (s2:Sl) (a2:Addr),s.a=Td a/\x<s.len/\zb h (a.add (x*1))=Td (aK s2)/\s2.a=Td a2/\y<s2.len/\zb h (a2.add (y*1))=Td (.int .i64 ((v:Nat):Int))/\a.block<lo/\a2.block<lo
theorem Cel.rd{i j v:Nat}(C:Cel h lo s i j v)(f:x=(i:Int))(c:y=(j:Int))(b:Q ((v:Nat):Int)):
  ∃a:Addr,(s.a=Td a/\0<=x/\x<((s.len:Nat):Int))/\∃s2:Sl,zb h (a.add (x.toNat*1))=Td (aK s2)/\∃a2:Addr,(s2.a=Td a2/\0<=y/\y<((s2.len:Nat):Int))/\∃v:Int,zb h (a2.add (y.toNat*1))=Td (.int .i64 v)/\Q v:=by
 subst f;subst c;obtain⟨a,s2,a2,k,o,e,l,n,m,_,_⟩:=C;exact⟨a,⟨k,by omega,by omega⟩,s2,by rw[NE];exact e,a2,⟨l,by omega,by omega⟩,_,by rw[NE];exact m,b⟩
theorem Cel.keep{i j v:Nat}(C:Cel h lo s i j v)(k:∀b,b<lo->g[b]?=h[b]?):Cel g lo s i j v:=by obtain⟨a,s2,a2,n,m,l,p,o,f,e,c⟩:=C;exact⟨a,s2,a2,n,m,(Cq (a:=a.add (i*1)) (by rw[U.add_blk];exact k _ e)).trans l,p,o,(Cq (a:=a2.add (j*1)) (by rw[U.add_blk];exact k _ c)).trans f,e,c⟩
theorem Mat.cel{B:Nat->Nat}{P:Nat->Nat->Nat}(H:Mat h pb B n m P){i j:Nat}(hi:i<n)(b:j<m)(e:pb<lo)(c:B i<lo):Cel h lo ⟨Td ⟨pb,0,Te⟩,n,n⟩ i j (P i j):= ⟨_,_,_,rfl,hi,by rw[dV,NZ,OI];exact H.at_ hi,rfl,b,by rw[dV,NZ,OI];exact(H.row i hi).cell b,e,c⟩
def Grd(h:za)(lo:Nat)(s:Sl)(n m:Nat)(f:Nat->Nat->Nat):Prop:=∀i j,i<n->j<m->Cel h lo s i j (f i j)
theorem Mat.grd{B:Nat->Nat}{P:Nat->Nat->Nat}(H:Mat h pb B n m P):Grd h h.size ⟨Td ⟨pb,0,Te⟩,n,n⟩ n m P:=λi j hi b=>H.cel hi b H.top.lt (H.row i hi).lt
theorem Grd.keep{f:Nat->Nat->Nat}(G:Grd h lo s n m f)(k:∀b,b<lo->g[b]?=h[b]?):Grd g lo s n m f:=λi j hi c=>(G i j hi c).keep k
theorem gn(ag:AgM M h){xs:List Int}(H:Rd M (.row (.int .i64)) xs [aK s])(l:x=(i:Int))(hi:i<xs.length)(f:Q (cR xs i)):
  ∃a:Addr,(s.a=Td a/\0<=x/\x<((s.len:Nat):Int))/\∃v:Int,zb h (a.add (x.toNat*1))=Td (.int .i64 v)/\Q v:=by
 subst l;obtain⟨b,o,j,c⟩:=oy ag H (k:=i) hi;have e:xs[i]=cR xs i:=by unfold cR;rw[Oo,NL hi];rfl
 rw[e]at c;obtain⟨m,_,_⟩:=rowLen H;exact⟨_,⟨j,by omega,by omega⟩,_,by rw[dV,NE];exact c,f⟩
theorem kQ(ag:AgM M h){xs:List Bt}(H:Rd M (.row .str) xs [aK s])(e:x=(i:Int))(hi:i<xs.length){Q:Bt->Prop}(b:Q (d5 xs i)):
  ∃a:Addr,(s.a=Td a/\0<=x/\x<((s.len:Nat):Int))/\∃v:Bt,zb h (a.add (x.toNat*1))=Td (.string v)/\Q v:=by
 have c:xs[i]=d5 xs i:=by unfold d5;rw[Oo,NL hi];rfl
 rw[<-c]at b;exact kF ag H hi e rfl b
end
end Go.X
end
