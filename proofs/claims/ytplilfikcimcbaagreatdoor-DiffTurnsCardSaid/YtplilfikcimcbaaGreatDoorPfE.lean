/- A part of the proof: nothing is stated here for its own sake. -/
import Derived.Test.YtplilfikcimcbaaGreatDoorPfD
open _root_.Go.Addr renaming add->zab
open _root_.Array renaming ext_getElem?->ze4,getElem?_eq_getElem->zcl,getElem?_push->ze0,getElem?_toList->zbh,push->zdd,size->zax,size_push->zaf,size_setIfInBounds->zbg,toList->zdu
open _root_.Bool renaming and_eq_true->zam,eq_false_iff->zen,true_and->zct
open _root_.Go.Builtin renaming append_->zao
open _root_.Go.Instr renaming lookup->zc1,makeSlice->zbp,mapUpdate->zcz,storeAt->zag
open _root_.Int renaming toNat_natCast->zae
open _root_.Go.IntKind renaming wrap->zaa
open _root_.List renaming all_eq_true->za7,append_assoc->za9,append_nil->zbs,drop_eq_getElem_cons->zbt,drop_zero->zcm,ext_getElem->zdw,ext_getElem?->zbd,filter_cons->zed,flatMap_append->zdt,flatMap_cons->zcd,getD_eq_getElem?_getD->zar,getElem?_eq_getElem->zai,getElem?_eq_none->zby,getElem?_eq_some_iff->za5,getElem?_map->zcc,getElem_map->zb3,getElem_mem->zak,length->zcf,length_append->zah,length_cons->zaw,length_map->zap,length_pos_iff->zb9,length_take->zbl,map_append->zbc,map_congr_left->zbx,map_cons->za1,map_map->zav,mem_cons->zan,mem_cons_of_mem->za3,mem_cons_self->za2,mem_filter->zbv,mem_iff_getElem->zdr,mem_map->zay,mem_of_getElem?->zcg,mem_range->zbn,mem_singleton->za6,nil_append->zck,nodup_append->zb2,nodup_cons->zbq,nodup_nil->zdq,range->zaq,range_succ->zej,replicate->zcv,size_toArray->zeo,take_append_drop->zca,take_length->zba,take_succ_eq_append_getElem->zal
open _root_.Nat renaming add_zero->zew,le_refl->zac,le_trans->zch,lt_of_lt_of_le->zdb,mul_comm->zd7,mul_le_mul->zd0,mul_le_mul_right->za8,mul_one->zbm,not_lt_zero->zc5,sub_self->ze9,sub_zero->zdo,succ_mul->zdn,zero_add->zas,zero_le->za0
open _root_.Option.some renaming inj->zbi
open _root_.Go.Value renaming int->zcn,slice->zfm,string->zaz
set_option linter.unusedVariables false
set_option maxRecDepth 100000
namespace Go.X
end Go.X
namespace Go.Proofs
end Go.Proofs
open Go Go.X Go.Proofs
open _root_.Bool renaming true->Ta,false->Tc
open _root_.Option renaming some->Td,none->Te
namespace Go.X
section
section
variable (n m : Nat) (sa sb : Nat -> Nat) (c : Nat -> Nat -> Nat)
def jX:Nat->Nat->Nat->Nat
 |0,_,_=>0
 |f+1,i,j=>
  if n<=i then(if m<=j then 0 else sb j+jX f i (j+1))
  else if m<=j then sa i+jX f (i+1) j
  else min (min (c i j+jX f (i+1) (j+1)) (sa i+jX f (i+1) j)) (sb j+jX f i (j+1))
def jt(i j:Nat):Nat:=jX n m sa sb c (n-i+(m-j)) i j
def kG:Nat->Nat->Nat->List (Nat×Nat)
 |0,_,_=>[]
 |f+1,i,j=>
  if i<n/\j<m then
   if jt n m sa sb c i j=c i j+jt n m sa sb c (i+1) (j+1)then(i,j)::kG f (i+1) (j+1)
   else if jt n m sa sb c i j=sa i+jt n m sa sb c (i+1) j then kG f (i+1) j
   else kG f i (j+1)
  else []
def nV(i j:Nat):List (Nat×Nat):=kG n m sa sb c (n-i+(m-j)) i j
end
variable {n m : Nat} {sa sb : Nat -> Nat} {c : Nat -> Nat -> Nat}
theorem Zn:∀(f e i j:Nat),n-i+(m-j)<=f->n-i+(m-j)<=e->jX n m sa sb c f i j=jX n m sa sb c e i j
 |0,0,i,j,_,_=>rfl
 |0,e+1,i,j,h,_=>by unfold jX;rw[zA (by omega),zA (by omega)]
 |f+1,0,i,j,_,h=>by unfold jX;rw[zA (by omega),zA (by omega)]
 |f+1,e+1,i,j,h,h'=>by unfold jX;by_cases h1:n<=i;rw[zA h1,zA h1];by_cases b:m<=j;rw[zA b,zA b];rw[zv b,zv b,Zn f e i (j+1) (by omega) (by omega)];rw[zv h1,zv h1];by_cases b:m<=j;rw[zA b,zA b,Zn f e (i+1) j (by omega) (by omega)];rw[zv b,zv b,Zn f e (i+1) j (by omega) (by omega),Zn f e i (j+1) (by omega) (by omega),Zn f e (i+1) (j+1) (by omega) (by omega)]
theorem YK(i j:Nat):jt n m sa sb c i j=
  if n<=i then(if m<=j then 0 else sb j+jt n m sa sb c i (j+1))
  else if m<=j then sa i+jt n m sa sb c (i+1) j
  else min (min (c i j+jt n m sa sb c (i+1) (j+1)) (sa i+jt n m sa sb c (i+1) j)) (sb j+jt n m sa sb c i (j+1)):=by
 unfold jt;rw[Zn _ (n-i+(m-j)+1) i j (zac _) (by omega)];conv=>lhs;unfold jX
 by_cases h1:n<=i;rw[zA h1,zA h1];by_cases b:m<=j;rw[zA b,zA b];rw[zv b,zv b,Zn (n-i+(m-j)) _ i (j+1) (by omega) (zac _)];rw[zv h1,zv h1];by_cases b:m<=j;rw[zA b,zA b,Zn (n-i+(m-j)) _ (i+1) j (by omega) (zac _)];rw[zv b,zv b,Zn (n-i+(m-j)) _ (i+1) j (by omega) (zac _),Zn (n-i+(m-j)) _ i (j+1) (by omega) (zac _),Zn (n-i+(m-j)) _ (i+1) (j+1) (by omega) (zac _)]
theorem Xd:∀(f b i j:Nat),n-i+(m-j)<=f->n-i+(m-j)<=b->kG n m sa sb c f i j=kG n m sa sb c b i j
 |0,0,i,j,_,_=>rfl
 |0,b+1,i,j,h,_=>by unfold kG;rw[zv (by omega)]
 |f+1,0,i,j,_,h=>by unfold kG;rw[zv (by omega)]
 |f+1,b+1,i,j,h,h'=>by unfold kG;by_cases h1:i<n/\j<m;rw[zA h1,zA h1,Xd f b (i+1) j (by omega) (by omega),Xd f b i (j+1) (by omega) (by omega),Xd f b (i+1) (j+1) (by omega) (by omega)];rw[zv h1,zv h1]
theorem Uo(i j:Nat):nV n m sa sb c i j=
  if i<n/\j<m then
   if jt n m sa sb c i j=c i j+jt n m sa sb c (i+1) (j+1)then(i,j)::nV n m sa sb c (i+1) (j+1)
   else if jt n m sa sb c i j=sa i+jt n m sa sb c (i+1) j then nV n m sa sb c (i+1) j
   else nV n m sa sb c i (j+1)
  else []:=by
 unfold nV;rw[Xd _ (n-i+(m-j)+1) i j (zac _) (by omega)];conv=>lhs;unfold kG
 by_cases h1:i<n/\j<m;rw[zA h1,zA h1,Xd (n-i+(m-j)) _ (i+1) j (by omega) (zac _),Xd (n-i+(m-j)) _ i (j+1) (by omega) (zac _),Xd (n-i+(m-j)) _ (i+1) (j+1) (by omega) (zac _)];rw[zv h1,zv h1]
def Rising(i j n m:Nat):List (Nat×Nat)->Prop
 |[]=>True
 |p::M=>i<=p.1/\j<=p.2/\p.1<n/\p.2<m/\Rising (p.1+1) (p.2+1) n m M
theorem Rising.less{i j h f n m:Nat}(hi:h<=i)(k:f<=j):∀{M:List (Nat×Nat)},Rising i j n m M->Rising h f n m M
 |[],_=>trivial
 |_::_,⟨a,b,c,d,e⟩=>⟨by omega,by omega,c,d,e⟩
theorem t0:∀(f i j:Nat),Rising i j n m (kG n m sa sb c f i j)
 |0,i,j=>trivial
 |f+1,i,j=>by unfold kG;split;rename_i h;split;exact⟨zac _,zac _,h.1,h.2,t0 f _ _⟩;split;exact(t0 f _ _).less (Nat.le_succ _) (zac _);exact(t0 f _ _).less (zac _) (Nat.le_succ _);trivial
end
section
open Go.Lib
section
def ym(v:Tr)(k:Bt):Tr:=v.items.getD (idxOfS v.keys k).toNat zT
def w7(v:Tr)(i:Nat):Tr:=v.items.getD i zT
def J6(i:Nat):Bt:=bl (Lib.itoa (i:Int))
def Yv(p:List Bt):cK:=(bl Y4,p,[],zT)
def Qy(p:List Bt)(w:Tr):cK:=(bl mS,p,[],w)
def Qz(p:List Bt)(w:Tr):cK:=(bl wq,p,[],w)
def iT(D:List Bt->Tr->Tr->List cK)(p:List Bt)(a b:Tr):List cK:=
 ((zl a.keys).filter λk=>!b.keys.contains k).map (λk=>Yv (p++[k])) ++
  (((zl a.keys).filter λk=>b.keys.contains k).flatMap (λk=>D (p++[k]) (ym a k) (ym b k)) ++
   ((zl b.keys).filter λk=>!a.keys.contains k).map (λk=>Qy (p++[k]) (ym b k)))
def iR(D:List Bt->Tr->Tr->List cK)(p:List Bt)(a b:Tr)(m:List (Nat×Nat)):List cK:=
 m.flatMap (λq=>D (p++[J6 q.1]) (w7 a q.1) (w7 b q.2)) ++
  (((zaq a.items.length).filter λi=>!(m.map (·.1)).contains i).reverse.map (λi=>Yv (p++[J6 i])) ++
   ((zaq b.items.length).filter λi=>!(m.map (·.2)).contains i).map (λi=>Qy (p++[J6 i]) (w7 b i)))
section
variable (rw : List Tr -> List Tr -> Option (List (Nat × Nat)))
def iB:Nat->List Bt->Tr->Tr->List cK
 |0,_,_,_=>[]
 |f+1,p,a,b=>
  if ji a b then []
  else if a.kind=6/\b.kind=6 then iT (iB f) p a b
  else if a.kind=5/\b.kind=5 then(match rw a.items b.items with
   |some m=>iR (iB f) p a b m
   |none=>[Qz p b])
  else [Qz p b]
end
def jL(p:List Bt)(o:cK):cK:=(o.1,p++o.2.1,o.2.2)
theorem Dk(p q:List Bt):jL p (Yv q)=Yv (p++q):=rfl
theorem CE(p q:List Bt)(w:Tr):jL p (Qy q w)=Qy (p++q) w:=rfl
theorem T9{D:List Bt->Tr->Tr->List cK}(c:∀p q a b,D (p++q) a b=(D q a b).map (jL p))(p q:List Bt)(a b:Tr):iT D (p++q) a b=(iT D q a b).map (jL p):=by unfold iT;simp only[zbc,zav,List.map_flatMap,Function.comp_def,Dk,CE,za9,c p (q++_)]
theorem RU{D:List Bt->Tr->Tr->List cK}(c:∀p q a b,D (p++q) a b=(D q a b).map (jL p))(p q:List Bt)(a b:Tr)(m:List (Nat×Nat)):iR D (p++q) a b m=(iR D q a b m).map (jL p):=by unfold iR;simp only[zbc,zav,List.map_flatMap,Function.comp_def,Dk,CE,za9,c p (q++_)]
theorem BC{rw:List Tr->List Tr->Option (List (Nat×Nat))}:∀(f:Nat) (p q:List Bt) (a b:Tr),iB rw f (p++q) a b=(iB rw f q a b).map (jL p)
 |0,p,q,a,b=>rfl
 |f+1,p,q,a,b=>by unfold iB;split;rfl;split;exact T9 (λp q a b=>BC f p q a b) p q a b;split;split;exact RU (λp q a b=>BC f p q a b) p q a b _;rfl;rfl
end
section
variable {α:Type} {i:Nat} {v a b:Tr}
theorem Zo{α:Type}(g:α->Nat)(p:α->Bool):∀l:List α,(l.map g).sum=((l.filter p).map g).sum+((l.filter λx=>!p x).map g).sum
 |[]=>rfl
 |x::l=>by have:=Zo g p l;cases h:p x;rw[List.filter_cons_of_neg (by simp[h]),List.filter_cons_of_pos (by simp[h])];simp only[za1,List.sum_cons];omega;rw[List.filter_cons_of_pos h,List.filter_cons_of_neg (by simp[h])];simp only[za1,List.sum_cons];omega
theorem By{α:Type}(g:α->Nat)(b:∀x,1<=g x):∀l:List α,l.length<=(l.map g).sum
 |[]=>zac _
 |x::l=>by have:=By g b l;have:=b x;simp only[za1,List.sum_cons,zaw];omega
theorem rW{α:Type}(g g':α->Nat):∀l:List α,(l.map λx=>g x+g' x).sum=(l.map g).sum+(l.map g').sum
 |[]=>rfl
 |x::l=>by have:=rW g g' l;simp only[za1,List.sum_cons]at this ⊢;omega
theorem qG{α:Type}{g g':α->Nat}:∀{l:List α},(∀x∈l,g x<=g' x)->(l.map g).sum<=(l.map g').sum
 |[],_=>zac _
 |x::l,h=>by have:=qG (l:=l) λy b=>h y (za3 _ b);have:=h x (za2 ..);simp only[za1,List.sum_cons];omega
theorem J0{g:α->Nat}{l b:List α}(h:l.Perm b):(l.map g).sum=(b.map g).sum:=(h.map g).sum_nat
theorem sK{A B:List α}(c:A.Nodup)(b:B.Nodup)(h:∀x,x∈A↔x∈B):A.Perm B:=(List.perm_ext_iff_of_nodup c b).2 h
theorem Zp:∀l:List Tr,wa l=(l.map aR).sum
 |[]=>rfl
 |x::l=>by rw[za1,List.sum_cons,<-Zp l];rfl
theorem uR(v:Tr):1<=aR v:=by cases v;unfold aR;omega
theorem D4{α β:Type}{A:List α}{B:List β}{M:List (α×β)}{ga:α->Nat}{gb:β->Nat}{D:α×β->Nat}(b:α->Bool)(pb:β->Bool) (h1:(A.filter b).Perm (M.map (·.1))) (c:(B.filter pb).Perm (M.map (·.2))) (h:∀x,1<=ga x) (e:∀x,1<=gb x) (f:∀q∈M,D q<=ga q.1+gb q.2):
  (A.filter λx=>!b x).length+(M.map D).sum+(B.filter λx=>!pb x).length<=(A.map ga).sum+(B.map gb).sum:=by
 have s1:=Zo ga b A;have s2:=Zo gb pb B;rw[J0 h1,zav]at s1;rw[J0 c,zav]at s2;have j:=By ga h (A.filter λx=>!b x);have k:=By gb e (B.filter λx=>!pb x);have t:=qG f;have i:=rW (λq:α×β=>ga q.1) (λq=>gb q.2) M;simp only[Function.comp_def]at s1 s2;omega
theorem j3{i j n m:Nat}:∀{M:List (Nat×Nat)},Rising i j n m M->(∀q∈M,i<=q.1/\q.1<n/\j<=q.2/\q.2<m)/\(M.map (·.1)).Nodup/\(M.map (·.2)).Nodup
 |[],_=>⟨λq f=>(nomatch f),zdq,zdq⟩
 |p::M,⟨a,b,c,d,e⟩=>by obtain⟨h,u,v⟩:=j3 e;refine⟨λq f=>?_,?_,?_⟩;rcases zan.1 f with rfl|f;exact⟨a,c,b,d⟩;have:=h q f;omega;rw[za1,zbq];refine⟨λk=>?_,u⟩;obtain⟨q,f,e⟩:=zay.1 k;have:=h q f;omega;rw[za1,zbq];refine⟨λk=>?_,v⟩;obtain⟨q,f,e⟩:=zay.1 k;have:=h q f;omega
theorem t7(v:Tr):(zaq v.items.length).map (w7 v)=v.items:=by refine zdw (by simp) λi h1 b=>?_;rw[zb3,List.getElem_range];unfold w7;rw[zar,zai b];rfl
theorem JO{l:List Bt}(h:l.Nodup)(hi:i<l.length):idxOfS l l[i]=(i:Int):=by rcases Wv l[i] l 0 with⟨_,b⟩|⟨k,h1,b,c⟩;exact absurd (zak hi) b;unfold idxOfS;rw[h1,zas];rw[zai b]at c;rw[(List.getElem_inj h).1 (zbi c)]
theorem oH(e:v.keys.Nodup)(b:v.keys.length=v.items.length):v.keys.map (ym v)=v.items:=by refine zdw (by simp[b]) λi h1 c=>?_;rw[zb3];unfold ym;rw[JO e (by omega),zae,zar,zai c];rfl
theorem nJ(h:yr zi v=Ta)(b:v.kind=6):v.keys.Nodup/\v.keys.length=v.items.length:=by cases v;rename_i k s ks xs;unfold yr at h;rw[zam]at h;have h:=h.1;have b:k=6:=b;subst b;simp[zi,yq,Tr.kind,Tr.keys,Tr.items]at h;exact⟨h.1.1.2,h.1.2⟩
theorem J1(e:v.keys.Nodup)(b:v.keys.length=v.items.length){k:Bt}(c:k∈v.keys):ym v k∈v.items:=by rw[<-oH e b];exact zay.2 ⟨k,c,rfl⟩
theorem J3(h:i<v.items.length):w7 v i∈v.items:=by unfold w7;rw[zar,zai h];exact zak h
theorem PE{D:List Bt->Tr->Tr->List cK}{p:List Bt}(na:a.keys.Nodup)(c:b.keys.Nodup)(la:a.keys.length=a.items.length)(lb:b.keys.length=b.items.length)
  (i:∀p x y,x∈a.items->y∈b.items->(D p x y).length<=aR x+aR y):(iT D p a b).length<=wa a.items+wa b.items:=by
 have f:=qn a.keys;have pb:=qn b.keys;have h:∀k,k∈zl a.keys↔k∈a.keys:=λk=>f.mem_iff;have l:∀k,k∈zl b.keys↔k∈b.keys:=λk=>pb.mem_iff;have H:=D4 (A:=zl a.keys) (B:=zl b.keys) (M:=((zl a.keys).filter λk=>b.keys.contains k).map λk=>(k,k)) (ga:=λk=>aR (ym a k)) (gb:=λk=>aR (ym b k)) (D:=λq=>(D (p++[q.1]) (ym a q.1) (ym b q.2)).length) (λk=>b.keys.contains k) (λk=>a.keys.contains k) (by rw[zav];simp only[Function.comp_def,List.map_id'];exact List.Perm.refl _) (by rw[zav];simp only[Function.comp_def,List.map_id'];refine sK ((pb.nodup_iff.2 c).filter _) ((f.nodup_iff.2 na).filter _) λx=>?_;rw[zbv,zbv,h,l,List.contains_iff_mem,List.contains_iff_mem];exact And.comm) (λ_=>uR _) (λ_=>uR _) (by intro q j;obtain⟨k,e,rfl⟩:=zay.1 j;rw[zbv,h,List.contains_iff_mem]at e;exact i _ _ _ (J1 na la e.1) (J1 c lb e.2));rw[J0 f,J0 pb]at H;have m:(a.keys.map λk=>aR (ym a k)).sum=wa a.items:=by rw[Zp,<-oH na la,zav];rfl
 have n:(b.keys.map λk=>aR (ym b k)).sum=wa b.items:=by rw[Zp,<-oH c lb,zav];rfl
 rw[m,n,zav]at H;unfold iT;rw[zah,zah,zap,zap,List.length_flatMap];simp only[Function.comp_def]at H;omega
theorem UN{D:List Bt->Tr->Tr->List cK}{p:List Bt}{m:List (Nat×Nat)}(j:Rising 0 0 a.items.length b.items.length m)
  (f:∀p x y,x∈a.items->y∈b.items->(D p x y).length<=aR x+aR y):(iR D p a b m).length<=wa a.items+wa b.items:=by
 obtain⟨e,k,n⟩:=j3 j;have H:=D4 (A:=zaq a.items.length) (B:=zaq b.items.length) (M:=m) (ga:=λi=>aR (w7 a i)) (gb:=λi=>aR (w7 b i)) (D:=λq=>(D (p++[J6 q.1]) (w7 a q.1) (w7 b q.2)).length) (λi=>(m.map (·.1)).contains i) (λi=>(m.map (·.2)).contains i) (sK (List.nodup_range.filter _) k λx=>by rw[zbv,zbn,List.contains_iff_mem];refine⟨λh=>h.2,λh=>⟨?_,h⟩⟩;obtain⟨q,c,rfl⟩:=zay.1 h;exact(e q c).2.1) (sK (List.nodup_range.filter _) n λx=>by rw[zbv,zbn,List.contains_iff_mem];refine⟨λh=>h.2,λh=>⟨?_,h⟩⟩;obtain⟨q,c,rfl⟩:=zay.1 h;exact(e q c).2.2.2) (λ_=>uR _) (λ_=>uR _) (λq c=>f _ _ _ (J3 (e q c).2.1) (J3 (e q c).2.2.2));have l:((zaq a.items.length).map λi=>aR (w7 a i)).sum=wa a.items:=by
  conv=>rhs;rw[<-t7 a]
  rw[Zp,zav];rfl
 have o:((zaq b.items.length).map λi=>aR (w7 b i)).sum=wa b.items:=by
  conv=>rhs;rw[<-t7 b]
  rw[Zp,zav];rfl
 rw[l,o]at H;unfold iR;rw[zah,zah,zap,zap,List.length_flatMap,List.length_reverse];omega
theorem FQ{rw:List Tr->List Tr->Option (List (Nat×Nat))}(c:∀us ws m,rw us ws=Td m->Rising 0 0 us.length ws.length m):
  ∀(f:Nat) (p:List Bt) (a b:Tr),yr zi a=Ta->yr zi b=Ta->(iB rw f p a b).length<=aR a+aR b
 |0,p,a,b,_,_=>za0 _
 |f+1,p,a,b,ha,hb=>by have n:=ql a;have tb:=ql b;have e:∀p x y,x∈a.items->y∈b.items->(iB rw f p x y).length<=aR x+aR y:=λp x y j i=>FQ c f p x y (qf ha j) (qf hb i);unfold iB;split;exact za0 _;split;rename_i h;obtain⟨na,la⟩:=nJ ha h.1;obtain⟨k,lb⟩:=nJ hb h.2;have:=PE (p:=p) na k la lb e;omega;split;split;rename_i m l;have:=UN (p:=p) (c _ _ _ l) e;omega;show 1<=_;omega;show 1<=_;omega
end
section
theorem Cw:∀{xs ys:List Tr},xs.length=ys.length->(∀(i:Nat) (h1:i<xs.length) (b:i<ys.length),ji xs[i] ys[i]=Ta)->kM xs ys=Ta
 |[],[],_,_=>by unfold kM;rfl
 |x::xs,y::ys,hl,h=>by unfold kM;have h0:ji x y=Ta:=h 0 (Nat.succ_pos _) (Nat.succ_pos _);rw[h0,Cw (Nat.succ.inj hl) λi h1 b=>h (i+1) (Nat.succ_lt_succ h1) (Nat.succ_lt_succ b)];rfl
 |[],_::_,hl,_=>nomatch hl
 |_::_,[],hl,_=>nomatch hl
theorem C8{b:Tr}(l:b.keys.length=b.items.length):∀{ks:List Bt} {xs:List Tr},ks.length=xs.length->(∀(i:Nat) (h1:i<ks.length) (c:i<xs.length),ks[i]∈b.keys/\ji xs[i] (ym b ks[i])=Ta)->kH ks xs b=Ta
 |[],[],_,_=>by unfold kH;rfl
 |k::ks,x::xs,hl,h=>by
  unfold kH;rw[C8 l (Nat.succ.inj hl) λi h1 c=>h (i+1) (Nat.succ_lt_succ h1) (Nat.succ_lt_succ c)];obtain⟨h1,c⟩:=h 0 (Nat.succ_pos _) (Nat.succ_pos _);have h1:k∈b.keys:=h1;have c:ji x (ym b k)=Ta:=c;rcases Wv k b.keys 0 with⟨_,f⟩|⟨j,f,m,_⟩;exact absurd h1 f;have e:idxOfS b.keys k=(j:Int):=by unfold idxOfS;rw[f,zas]
  unfold ym at c;rw[e,zae,zar,zai (by omega:j<b.items.length)]at c;rw[e,zae,zai (by omega:j<b.items.length)];have c:ji x b.items[j]=Ta:=c;simp[c]
 |[],_::_,hl,_=>nomatch hl
 |_::_,[],hl,_=>nomatch hl
theorem Q0:∀{l:List Tr} {x:Tr},x∈l->cR x<=Xj l
 |y::l,x,h=>by unfold Xj;rcases zan.1 h with rfl|h;omega;have:=Q0 h;omega
theorem tq{v:Tr}(h:yr zi v=Ta)(b:v.kind=5\/v.kind=6):lb v.text=[]:=by have h:=qt h;unfold zi at h;rcases b with e|e <;> simp[e]at h <;> simp[h]
end
section
variable {i:Nat}
theorem To{α:Type}{l:List α}(h:l.Nodup){i j:Nat}(hi:i<l.length)(c:j<l.length)(e:l[i]=l[j]):i=j:=by
 induction l generalizing i j with
 |nil=>simp at hi
 |cons a l b=>
  rw[zbq]at h
  match i,j with
  |0,0=>rfl
  |0,j+1=>exact absurd (by simp at e;rw[e];exact zak _) h.1
  |i+1,0=>exact absurd (by simp at e;rw[<-e];exact zak _) h.1
  |i+1,j+1=>exact congrArg (· + 1) (b h.2 (by simpa using hi) (by simpa using c) (by simpa using e))
theorem VI{l:List Bt}(h:l.Nodup)(hi:i<l.length):idxOfS l l[i]=(i:Int):=by rcases Wv l[i] l 0 with⟨_,b⟩|⟨k,h1,b,c⟩;exact absurd (zak hi) b;unfold idxOfS;rw[h1];rw[zai b]at c;have:=To h b hi (zbi c);simp[this]
theorem KW{v:Tr}(h:zi v=Ta)(b:v.kind=6):v.keys.Nodup:=by unfold zi at h;simp[b]at h;have:=h.1.1;unfold yq at this;simp at this;exact this.2
theorem Nc:∀(n:Nat) (v:Tr),aR v<=n->yr zi v=Ta->ji v v=Ta:=by
 intro n;induction n with
 |zero=>intro v h;have:=Qk v;omega
 |succ n q=>
  intro v r h;have hi:∀y∈v.items,ji y y=Ta:=λy k=>q y (by have:=qo k;omega) (qf h k);rw[Wx];simp only[decide_true,zct];split;rename_i l;have o:=Yn (qt h) l;have m:=KW (qt h) l;rw[wK v _ _ o,za7];intro p f;obtain⟨i,e,b⟩:=zdr.1 f;rw[List.getElem_zip]at b;have j:i<v.keys.length:=by rw[List.length_zip]at e;omega
  have c:i<v.items.length:=by omega
  subst b;unfold kK;rw[VI m j];simp only[zae,zai c];rw[hi _ (zak c)];simp;rw[wE _ _ rfl,za7];intro p f;obtain⟨i,e,b⟩:=zdr.1 f;rw[List.getElem_zip]at b;have c:i<v.items.length:=by rw[List.length_zip]at e;omega
  subst b;exact hi _ (zak c)
end
end
section
open Go.Lib
variable {v x:Tr} {l:List Tr} {k:Nat}
structure GV (v:Tr):Prop where
 r:zh v=Ta
 s:Sm v
theorem V9(h:zh v=Ta)(c:x∈v.items):zh x=Ta:=by unfold zh Zi at h ⊢;rw[zam,zam]at h ⊢;have h1:=qo c;have e:=Q0 c;have f:=j8 v;have a:=zH h.1.1;have b:=zH h.1.2;exact⟨⟨zJ (by omega),zJ (by omega)⟩,qf h.2 c⟩
theorem GV.item(H:GV v)(b:x∈v.items):GV x:=⟨V9 H.r b,H.s.item b⟩
theorem GV.open(H:GV v):y8 v=Ta:=wu H.r
theorem GV.ok(H:GV v):yr zi v=Ta:=sq H.open
theorem GV.dp(H:GV v):cR v<=32:=by have h:=H.r;unfold zh Zi at h;rw[zam,zam]at h;exact zH h.1.2
theorem GV.sz(H:GV v):aR v<=4096:=wT H.open
theorem GV.len(H:GV v):v.items.length<=4096:=by have:=H.sz;have:=wy v.items;have:=ql v;omega
theorem GV.keys(H:GV v)(b:v.kind=6):v.keys.Nodup/\v.keys.length=v.items.length:=nJ H.ok b
theorem TZ(v:Tr):(Qo v).1.1.length<=512/\(Qo v).1.2.length<=512:=by unfold Qo;split;split;exact⟨za0 _,za0 _⟩;rename_i h;have:=rH (zw v) 0;unfold sy;simp only[zap];omega;exact⟨za0 _,za0 _⟩
def jY(l:List Tr):Nat:=(l.map λv=>(Qo v).1.1.length).sum
def xd(l:List Tr):Option (List (List Bt×List Int)):=if 64<l.length\/(l.any λv=>decide ((Qo v).2≠0))=Ta\/512<jY l then Te else Td (l.map λv=>(Qo v).1)
def my:Option (List (List Bt×List Int))->List (List Bt×List Int)×Int
 |some x=>(x,0)
 |none=>([],6)
theorem UL(b:k<l.length):jY (l.take (k+1))=jY (l.take k)+(Qo l[k]).1.1.length:=by unfold jY;rw[zal b,zbc,List.sum_append];simp
theorem OU:jY (l.take k)<=jY l:=by
 unfold jY;conv=>rhs;rw[<-zca k l]
 rw[zbc,List.sum_append];omega
theorem UK{q:Tr->Bool}(b:k<l.length):(l.take (k+1)).any q=((l.take k).any q||q l[k]):=by rw[zal b,List.any_append];simp
theorem Vw(b:k<l.length)(h:(Qo l[k]).2≠0\/512<jY (l.take (k+1))):xd l=Te:=by unfold xd;rw[zA];rcases h with h|h;exact .inr (.inl (List.any_eq_true.2 ⟨l[k],zak b,by simpa using h⟩));exact .inr (.inr (zdb h OU))
theorem Kq(h1:l.length<=64)(b:(l.any λv=>decide ((Qo v).2≠0))=Tc)(c:jY l<=512):xd l=Td (l.map λv=>(Qo v).1):=by unfold xd;rw[zv];rintro(h|h|h);omega;rw[b]at h;exact nomatch h;omega
section
variable {gl : Fr}
theorem FB(t:GL gl)(x:Brn gl)(u:∀v∈l,GV v)(A:l.length<=1000000){R:List (List Bt×List Int)×Int->Prop}(h:R (my (xd l))):PC Tp gl 182 [Arg.mk (.row .tree) l] [.row jQ,.int .i64] R:=by
 apply NC;refine⟨λi=>∃k:Nat,i=k/\k<=l.length,λi=>l.length-i.toNat,⟨0,rfl,za0 _⟩,?_⟩;rintro i ⟨k,rfl,y⟩;refine⟨λj=>?_,λj=>?_⟩;have b:k<l.length:=by simp at j;omega
 have m:=u _ (zak b);refine⟨l[k],⟨by omega,by rw[zae];exact zai b⟩,?_⟩;rw[Y3];refine xc t m.s ?_;rw[m.r];refine⟨λe=>(by cases e),λ_=>?_⟩;rw[je b (by omega)];exact⟨⟨k+1,rfl,b⟩,by simp only[zae];omega⟩;refine⟨λc=>?_,λc=>?_⟩;have:xd l=Te:=by unfold xd;rw[zA (.inl (by simp at c;omega))]
 rw[this]at h;exact h;have c:l.length<=64:=by simp at c;omega
 refine⟨λout left i=>∃k:Nat,i=k/\k<=l.length/\out=(l.take k).map (λv=>(Qo v).1)/\left=512-(jY (l.take k):Int)/\jY (l.take k)<=512/\((l.take k).any λv=>decide ((Qo v).2≠0))=Tc,λ_ _ i=>l.length-i.toNat,⟨0,rfl,za0 _,rfl,rfl,za0 _,rfl⟩,?_⟩;rintro out left i ⟨k,rfl,y,rfl,rfl,w,q⟩;refine⟨λj=>?_,λj=>?_⟩;have b:k<l.length:=by simp at j;omega
 have m:=u _ (zak b);refine⟨l[k],⟨by omega,by rw[zae];exact zai b⟩,?_⟩;rw[Y3];refine OE t x m.s ?_;have z:=(TZ l[k]).1;have hL:=UL b;rw[io (n:=512-(jY (l.take k):Int)-((Qo l[k]).1.1.length:Nat)) (by omega)];refine⟨λe=>?_,λe=>?_⟩;have:xd l=Te:=Vw b (by
  by_cases f:(Qo l[k]).2=0;right;rw[f]at e;have:512-(jY (l.take k):Int)-((Qo l[k]).1.1.length:Nat)<0:=by simpa using e
  omega;exact .inl f)
 rw[this]at h;exact h;have o:(Qo l[k]).2=0/\¬512-(jY (l.take k):Int)-((Qo l[k]).1.1.length:Nat)<0:=by cases f:((Qo l[k]).2 != 0);rw[f]at e;exact⟨by simpa using f,by simpa using e⟩;rw[f]at e;exact nomatch e
 rw[je b (by omega)];refine⟨by simp;omega,⟨k+1,rfl,b,?_,by omega,by omega,?_⟩,by simp only[zae];omega⟩;rw[zal b,zbc];rfl;rw[UK b,q];simpa using o.1;have:k=l.length:=by simp at j;omega
 subst this;rw[zba]at w q ⊢;rw[Kq c q w]at h;exact h
end
end
section
section
variable {x:Nat}
section
variable (la lb : Nat -> Nat) (tn : Nat -> Nat -> Nat)
def gF(P:Nat->Nat->Nat)(fa fb:Nat):Nat->Nat->Nat->Nat
 |0,x,y=>x+y
 |_+1,0,y=>y
 |_+1,x+1,0=>x+1
 |f+1,x+1,y+1=>min (1+min (gF P fa fb f x (y+1)) (gF P fa fb f (x+1) y))
   (if la (fa+x)=fa/\lb (fb+y)=fb then gF P fa fb f x y+tn (fa+x) (fb+y)else gF P fa fb f (la (fa+x)-fa) (lb (fb+y)-fb)+P (fa+x) (fb+y))
def gN(P:Nat->Nat->Nat)(fa fb x y:Nat):Nat:=gF la lb tn P fa fb (x+y) x y
end
def Frs(la:Nat->Nat)(fa x:Nat):Prop:=∀k,k<x->fa<=la (fa+k)/\la (fa+k)<=fa+k
theorem Frs.less{la:Nat->Nat}{fa x b:Nat}(h:Frs la fa x)(e:b<=x):Frs la fa b:=λk c=>h k (by omega)
variable {la lb : Nat -> Nat} {tn : Nat -> Nat -> Nat} {P P' : Nat -> Nat -> Nat} {fa fb : Nat}
theorem nC:∀(f c x y:Nat),Frs la fa x->Frs lb fb y->x+y<=f->x+y<=c->gF la lb tn P fa fb f x y=gF la lb tn P fa fb c x y
 |f,c,0,y,_,_,_,_=>by cases f <;> cases c <;> simp[gF]
 |f,c,x+1,0,_,_,_,_=>by cases f <;> cases c <;> simp[gF]
 |0,c,x+1,y+1,_,_,h,_=>by omega
 |f+1,0,x+1,y+1,_,_,_,h=>by omega
 |f+1,c+1,x+1,y+1,ha,hb,h,h'=>by have a:=ha x (by omega);have b:=hb y (by omega);unfold gF;rw[nC f c x (y+1) (ha.less (by omega)) hb (by omega) (by omega),nC f c (x+1) y ha (hb.less (by omega)) (by omega) (by omega),nC f c x y (ha.less (by omega)) (hb.less (by omega)) (by omega) (by omega),nC f c (la (fa+x)-fa) (lb (fb+y)-fb) (ha.less (by omega)) (hb.less (by omega)) (by omega) (by omega)]
theorem Ab(y:Nat):gN la lb tn P fa fb 0 y=y:=by unfold gN;cases y <;> simp[gF]
theorem Ce(x:Nat):gN la lb tn P fa fb x 0=x:=by unfold gN;cases x <;> simp[gF]
theorem Cr{x y:Nat}(h:Frs la fa (x+1))(f:Frs lb fb (y+1)):gN la lb tn P fa fb (x+1) (y+1)=min (1+min (gN la lb tn P fa fb x (y+1)) (gN la lb tn P fa fb (x+1) y))
  (if la (fa+x)=fa/\lb (fb+y)=fb then gN la lb tn P fa fb x y+tn (fa+x) (fb+y)else gN la lb tn P fa fb (la (fa+x)-fa) (lb (fb+y)-fb)+P (fa+x) (fb+y)):=by
 have a:=h x (by omega);have b:=f y (by omega);have e:=h.less (Nat.le_succ x);have c:=f.less (Nat.le_succ y);unfold gN;rw[show x+1+(y+1)=(x+y+1)+1 by omega,gF];rw[nC (x+y+1) (x+(y+1)) x (y+1) e f (by omega) (by omega),nC (x+y+1) (x+1+y) (x+1) y h c (by omega) (by omega),nC (x+y+1) (x+y) x y e c (by omega) (by omega),nC (x+y+1) (la (fa+x)-fa+(lb (fb+y)-fb)) _ _ (h.less (by omega)) (f.less (by omega)) (by omega) (by omega)]
theorem vp:∀(n x y:Nat),x+y<=n->Frs la fa x->Frs lb fb y->gN la lb tn P fa fb x y<=x+y
 |n,0,y,_,_,_=>by rw[Ab];omega
 |n,x+1,0,_,_,_=>by rw[Ce];omega
 |0,x+1,y+1,h,_,_=>by omega
 |n+1,x+1,y+1,h,ha,hb=>by have h1:=vp n x (y+1) (by omega) (ha.less (by omega)) hb;rw[Cr ha hb];omega
end
section
def Rt(la:Nat->Nat)(n:Nat):Prop:=∀i,i<n->la i<=i/\∀k,k<i->la i<=k->la i<=la k
theorem Rt.frs{la:Nat->Nat}{n i:Nat}(h:Rt la n)(hi:i<n):Frs la (la i) (i+1-la i):=λk c=>by obtain⟨a,b⟩:=h i hi;have:=(h (la i+k) (by omega)).1;by_cases e:la i+k=i;rw[e];omega;exact⟨b _ (by omega) (by omega),this⟩
section
variable (la lb : Nat -> Nat) (tn : Nat -> Nat -> Nat)
def o8(P:Nat->Nat->Nat)(c b:Nat):Nat->Nat->Nat:=λi j=>if la i=la c/\lb j=lb b/\i<=c/\j<=b then gN la lb tn P (la c) (lb b) (i+1-la c) (j+1-lb b)else P i j
end
variable {la lb : Nat -> Nat} {tn : Nat -> Nat -> Nat} {n m : Nat}
def qT(la lb:Nat->Nat)(tn:Nat->Nat->Nat)(e:List Nat)(P:Nat->Nat->Nat)(f:List Nat):Nat->Nat->Nat:=f.foldl (λP c=>e.foldl (λP b=>o8 la lb tn P c b) P) P
end
end
section
open Go.Lib
def bK(t:List Bt×List Int)(i:Nat):Nat:=(dK t.2 i).toNat
def fK(s t:List Bt×List Int)(i j:Nat):Nat:=if p7 s.1 i=p7 t.1 j then 0 else 1
theorem py{t:List Bt×List Int}(h:kP t.2 t.2.length=Ta):Rt (bK t) t.2.length:=λi hi=>by obtain⟨a,b,c⟩:=Xb.1 (oY.1 h i hi);refine⟨by unfold bK;omega,λk e f=>?_⟩;have:=c k e (by unfold bK at f;omega);unfold bK;omega
def tv(s t:List Bt×List Int):Nat->Nat->Nat:=qT (bK s) (bK t) (fK s t) (Xc t.2) (λ_ _=>0) (Xc s.2)
theorem G9{la:Nat->Nat}{n:Nat}(h:Rt la n):Frs la 0 n:=λk b=>⟨za0 _,by rw[zas];exact(h k b).1⟩
end
section
abbrev iy:=List Bt×List Int
abbrev pn:=Int×Int
def nQ(p:Nat×Nat):pn:=((p.1:Int),(p.2:Int))
def u0(e:Int)(s t:iy):Int×Int:=if(qd s&&qd t)=Ta then((gN (bK s) (bK t) (fK s t) (tv s t) 0 0 s.2.length t.2.length:Nat),0)else(0,e)
theorem L4{t:iy}(h:qd t=Ta):t.1.length=t.2.length/\kP t.2 t.2.length=Ta:=by unfold qd at h;simp_all
theorem uS{t:iy}(h:qd t=Ta){i:Nat}(hi:i<t.2.length):dK t.2 i=((bK t i:Nat):Int):=by have:=(Xb.1 (oY.1 (L4 h).2 i hi)).1;unfold bK;omega
end
section
open Go.Lib
variable {us ws:List Tr}
abbrev jR:Ty:=.pair PJ (.int .i64)
def Yq(s t:iy):Nat:=gN (bK s) (bK t) (fK s t) (tv s t) 0 0 s.2.length t.2.length
def eK:iy:=([],[])
section
variable (x y : List iy)
def AE:List (Nat×Nat):=nV x.length y.length (λi=>(x.getD i eK).1.length) (λj=>(y.getD j eK).1.length) (λi j=>Yq (x.getD i eK) (y.getD j eK)) 0 0
def gR:Nat->Nat->Nat:=jt x.length y.length (λi=>(x.getD i eK).1.length) (λj=>(y.getD j eK).1.length) (λi j=>Yq (x.getD i eK) (y.getD j eK))
end
def jU(us ws:List Tr):Option (List (Nat×Nat)):=match xd us with
 |none=>Te
 |some x=>match xd ws with
  |none=>Te
  |some y=>Td (AE x y)
def m5(us ws:List Tr):List pn×Int×Int:=match xd us with
 |none=>([],0,6)
 |some x=>match xd ws with
  |none=>([],0,6)
  |some y=>((AE x y).map nQ,((gR x y 0 0:Nat):Int),0)
theorem Hg{l:List Tr}{x:List iy}(h:xd l=Td x):x.length=l.length:=by unfold xd at h;split at h;exact nomatch h;rw[<-zbi h,zap]
theorem uL:∀us ws m,jU us ws=Td m->Rising 0 0 us.length ws.length m:=λus ws m h=>by unfold jU at h;split at h;exact nomatch h;rename_i x c;split at h;exact nomatch h;rename_i y b;rw[<-zbi h,<-Hg c,<-Hg b];exact t0 _ _ _
theorem QG{m:List (Nat×Nat)}(h:jU us ws=Td m):∃c,m5 us ws=(m.map nQ,c,0):=by unfold jU at h;unfold m5;split at h;exact nomatch h;rename_i x e;split at h;exact nomatch h;rename_i y b;rw[<-zbi h];exact⟨_,rfl⟩
theorem Rr(h:jU us ws=Te):m5 us ws=([],0,6):=by unfold jU at h;unfold m5;split at h;rfl;rename_i x b;split at h;rfl;exact nomatch h
abbrev dR:Nat->List Bt->Tr->Tr->List cK:=iB jU
section
variable {gl : Fr}
section
variable {a b : Tr} {p : List Bt} {D : List Bt -> Tr -> Tr -> List cK}
end
end
end
section
open Go.RowKit
variable {M:Fr} {h h':zc} {n i b pb m:Nat} {x y:Int} {K:zc -> Prop} {Q:Int -> Prop}
theorem AgM.off{h g:zc}(ag:AgM M h)(f:∀b c,M b=Td c->g[b]?=h[b]?):AgM M g:=λb c e=>by rw[f b c e];exact ag b c e
theorem qB(h:y=x+1)(h0:0<=x)(h1:x<(n:Int)):n-y.toNat<n-x.toNat:=by omega
def ki(n:Nat)(f:Nat->Nat):List Value:=(zaq n).map λi=>zcn .i64 ((f i:Nat):Int)
theorem oG(n:Nat)(f:Nat->Nat):(ki n f).length=n:=by simp[ki]
theorem tf{f:Nat->Nat}(h:i<n):(ki n f)[i]?=Td (.int .i64 ((f i:Nat):Int)):=by simp[ki,h]
theorem ML{f b:Nat->Nat}(e:∀i,i<n->f i=b i):ki n f=ki n b:=zbx λi hi=>by rw[e i (zbn.1 hi)]
theorem UI{f:Nat->Nat}{i x:Nat}:(ki n f).set i (.int .i64 ((x:Nat):Int))=ki n λj=>if j=i then x else f j:=by apply zbd;intro j;rw[List.getElem?_set];by_cases c:j<n;rw[tf c,tf c,oG];by_cases e:i=j;subst e;rw[zA rfl,zA c,zA rfl];rw[zv e,zv λh=>e h.symm];rw[zby (by rw[oG];omega),zby (by rw[oG];omega),oG];split;split;rename_i a b;omega;rfl;rfl
def IntB(h:zc)(b n:Nat)(f:Nat->Nat):Prop:=Blk h b (ki n f).toArray
theorem IntB.keep{f:Nat->Nat}(H:IntB h b n f)(k:h'[b]?=h[b]?):IntB h' b n f:=Blk.keep H k
theorem IntB.ext{f c:Nat->Nat}(H:IntB h b n f)(e:∀i,i<n->f i=c i):IntB h b n c:=by unfold IntB;rw[<-ML e];exact H
theorem IntB.cell{f:Nat->Nat}(H:IntB h b n f)(hi:i<n):zd h ⟨b,i,Te⟩=Td (.int .i64 ((f i:Nat):Int)):= Blk.cell H (by rw[<-zbh];exact tf hi)
theorem IntB.set{f:Nat->Nat}(H:IntB h b n f){i x:Nat}(hi:i<n)(k:∀h',IntB h' b n (λj=>if j=i then x else f j)->h'.size=h.size->(∀j,j≠b->h'[j]?=h[j]?)->K h'):
  XRunU Tp (zag 3 (.pointer (Td ⟨b,i,Te⟩)) (.int .i64 ((x:Nat):Int))) h K:=by
 refine xu GI (by kernel_rfl) H (by rw[zeo,oG];exact hi) rfl λg' c m l=>k g' ?_ m l;unfold IntB;rw[<-UI];have e:(ki n f).toArray.setIfInBounds i (.int .i64 ((x:Nat):Int))=((ki n f).set i (.int .i64 ((x:Nat):Int))).toArray:=by simp
 rw[e]at c;exact c
theorem Ki(n:Nat):zcv n (zcn .i64 0)=ki n λ_=>0:=by apply zbd;intro i;rw[List.getElem?_replicate];by_cases hi:i<n;rw[zA hi,tf hi];rfl;rw[zv hi,zby (by rw[oG];omega)]
theorem AK{t:TypeId}(E:ElemT Tp t 3 (.int .i64 0) 1 8)(c:n<=1000000){K:Value->zc->Prop}(b:∀h',h'=h.push (.cells (ki n λ_=>0).toArray 3)->IntB h' h.size n (λ_=>0)->Keep h.size h h'->h'.size=h.size+1->K (aK ⟨Td ⟨h.size,0,Te⟩,n,n⟩) h'):
  qu Tp (zbp t (.int .i64 (n:Int)) (.int .i64 (n:Int))) h K:=by
 refine s3 E rfl (by omega) c ?_;rw[Ki];exact b _ rfl (Blk.new _ _ _) (Keep.push _ _ (zac _)) (zaf _)
def Bo(n m:Nat)(B:Nat->Nat):List Value:=(zaq n).map λi=>aK ⟨Td ⟨B i,0,Te⟩,m,m⟩
structure Mat (h:zc) (pb:Nat) (B:Nat->Nat) (n m:Nat) (P:Nat->Nat->Nat):Prop where
 top:Blk h pb (Bo n m B).toArray
 row:∀i,i<n->IntB h (B i) m (P i)
 inj:∀i j,i<n->j<n->B i=B j->i=j
 hb:∀i,i<n->pb<B i
theorem Mat.keep{B:Nat->Nat}{P:Nat->Nat->Nat}(H:Mat h pb B n m P)(b:h'[pb]?=h[pb]?)(k:∀i,i<n->h'[B i]?=h[B i]?):Mat h' pb B n m P:= ⟨H.top.keep b,λi hi=>(H.row i hi).keep (k i hi),H.inj,H.hb⟩
theorem Mat.ext{B:Nat->Nat}{P P':Nat->Nat->Nat}(H:Mat h pb B n m P)(e:∀i j,i<n->j<m->P i j=P' i j):Mat h pb B n m P':= ⟨H.top,λi hi=>(H.row i hi).ext λj b=>e i j hi b,H.inj,H.hb⟩
theorem Mat.at_{B:Nat->Nat}{P:Nat->Nat->Nat}(H:Mat h pb B n m P)(hi:i<n):zd h ⟨pb,i,Te⟩=Td (aK ⟨Td ⟨B i,0,Te⟩,m,m⟩):= H.top.cell (by rw[<-zbh];simp[Bo,hi])
theorem Mat.set{B:Nat->Nat}{P:Nat->Nat->Nat}(H:Mat h pb B n m P){i j x:Nat}(hi:i<n)(q:j<m)(r:∀h',Mat h' pb B n m (λa b=>if a=i/\b=j then x else P a b)->h'.size=h.size->(∀k,k≠B i->h'[k]?=h[k]?)->K h'):
  XRunU Tp (zag 3 (.pointer (Td ⟨B i,j,Te⟩)) (.int .i64 ((x:Nat):Int))) h K:=by
 refine(H.row i hi).set q λh' h1 l c=>r h' ⟨H.top.keep (c _ (by have:=H.hb i hi;omega)),λa f=>?_,H.inj,H.hb⟩ l c;by_cases e:a=i;subst e;exact h1.ext λb o=>by by_cases e:b=j;rw[zA e,zA ⟨rfl,e⟩];rw[zv e,zv λh=>e h.2]
 refine((H.row a f).keep (c _ λh=>e (H.inj a i f hi h))).ext λb o=>?_;rw[zv λh=>e h.1]
def Cel(h:zc)(lo:Nat)(s:Sl)(x y v:Nat):Prop:=∃(a:Addr) (s2:Sl) (a2:Addr),s.a=Td a/\x<s.len/\zd h (a.add (x*1))=Td (aK s2)/\s2.a=Td a2/\y<s2.len/\zd h (a2.add (y*1))=Td (.int .i64 ((v:Nat):Int))/\a.block<lo/\a2.block<lo
theorem Cel.rd{lo:Nat}{s:Sl}{i j v:Nat}(C:Cel h lo s i j v)(e:x=(i:Int))(b:y=(j:Int))(c:Q ((v:Nat):Int)):
  ∃a:Addr,(s.a=Td a/\0<=x/\x<((s.len:Nat):Int))/\∃s2:Sl,zd h (a.add (x.toNat*1))=Td (aK s2)/\∃a2:Addr,(s2.a=Td a2/\0<=y/\y<((s2.len:Nat):Int))/\∃v:Int,zd h (a2.add (y.toNat*1))=Td (.int .i64 v)/\Q v:=by
 subst e;subst b;obtain⟨a,s2,a2,f,o,k,m,n,l,_,_⟩:=C;exact⟨a,⟨f,by omega,by omega⟩,s2,by rw[zae];exact k,a2,⟨m,by omega,by omega⟩,_,by rw[zae];exact l,c⟩
theorem oJ(ag:AgM M h){xs:List Int}{s:Sl}(H:Rd M (.row PJ) xs [aK s])(f:x=(i:Int))(hi:i<xs.length)(e:Q (dK xs i)):
  ∃a:Addr,(s.a=Td a/\0<=x/\x<((s.len:Nat):Int))/\∃v:Int,zd h (a.add (x.toNat*1))=Td (.int .i64 v)/\Q v:=by
 subst f;obtain⟨b,o,j,c⟩:=vt ag H (k:=i) hi;have l:xs[i]=dK xs i:=by unfold dK;rw[zar,zai hi];rfl
 rw[l]at c;obtain⟨m,_,_⟩:=rowLen H;exact⟨_,⟨j,by omega,by omega⟩,_,by rw[ic,zae];exact c,e⟩
theorem Dg(ag:AgM M h){xs:List Bt}{s:Sl}(H:Rd M (.row .str) xs [aK s])(e:x=(i:Int))(hi:i<xs.length){Q:Bt->Prop}(b:Q (p7 xs i)):
  ∃a:Addr,(s.a=Td a/\0<=x/\x<((s.len:Nat):Int))/\∃v:Bt,zd h (a.add (x.toNat*1))=Td (.string v)/\Q v:=by
 have c:xs[i]=p7 xs i:=by unfold p7;rw[zar,zai hi];rfl
 rw[<-c]at b;exact jP ag H hi e rfl b
end
section
theorem NW(i:Int)(f:Int)(h:zc)(R:Value->zc->Prop) (H:qu Tp (zbp 29 (iV (w6 ((w6 (i+1))*(w6 (f+1))))) (iV (w6 ((w6 (i+1))*(w6 (f+1)))))) h (λb c=>∃d,b=aK d/\let e:=c.push (.cells #[iV (w6 (f+1)),aK d] 371);R (.pointer (Td ⟨c.size,0,Te⟩)) e)):
  XC Tp 381 #[.int .i64 i,.int .i64 f] h R:=
 XF ⟨[],[],[]⟩ [.tmp 4] 15 Tryz.func381 H
theorem zez(g0:Option Addr)(i:Int)(j:Int)(h:zc)(R:Value->zc->Prop) (H:∃b,g0=Td b/\∃c,zd h (zab b 1)=Td (aK c)/\∃d,g0=Td d/\∃e,zd h (zab d 0)=Td (iV e)/\∃f,(c.a=Td f/\0<=(w6 ((w6 ((w6 ((w6 (i+1))*e))+j))+1):Int)/\(w6 ((w6 ((w6 ((w6 (i+1))*e))+j))+1):Int)<(c.len:Int))/\R (.pointer (Td (f.add ((w6 ((w6 ((w6 ((w6 (i+1))*e))+j))+1):Int).toNat*1)))) h):
  XC Tp 351 #[.pointer g0,.int .i64 i,.int .i64 j] h R:=
 XF ⟨[],[],[]⟩ [.tmp 6] 22 Tryz.func351 H
theorem Vb(m:Option Addr)(k:Int)(l:Int)(h:zc)(R:Value->zc->Prop) (H:∃b,m=Td b/\∃c,zd h (zab (zab b 0) 0)=Td (aK c)/\∃d,(c.a=Td d/\0<=k/\k<c.len)/\∃e,zd h (d.add (k.toNat*1))=Td (.string e)/\∃f,m=Td f/\∃g,zd h (zab (zab f 2) 0)=Td (aK g)/\∃i,(g.a=Td i/\0<=l/\l<g.len)/\∃j,zd h (i.add (l.toNat*1))=Td (.string j)/\((e.toList==j.toList)=Ta->R (iV 0) h)/\((e.toList==j.toList)=Tc->R (iV 1) h)):
  XC Tp 382 #[.pointer m,.int .i64 k,.int .i64 l] h R:=
 XF ⟨[],[],[]⟩ [.tmp 6] 24 Tryz.func382 H
theorem Xx(r0:Option Addr)(be:Int)(bj:Int)(bg:Int)(bi:Int)(h:zc)(R:Value->zc->Prop) (H:XC Tp 381 #[iV (w6 (bj-be)),iV (w6 (bi-bg))] h (λb c=>∃d:Option Addr,b=.pointer d/\∃(e:Int->zc->Prop) (f:Int->zc->Nat),e be c/\∀g:Int,∀i:zc,e g i->((decide (g<bj)=Ta->XC Tp 351 #[.pointer d,iV (w6 (g-be)),iV (-1)] i (λj k=>∃l:Option Addr,j=.pointer l/\∃m,l=Td m/\XRunU Tp (zag 3 (.pointer (Td m)) (iV (w6 ((w6 (g-be))+1)))) k (λn=>(e (w6 (g+1)) n/\f (w6 (g+1)) n<f g i))))/\(decide (g<bj)=Tc->∃(o:Int->zc->Prop) (p:Int->zc->Nat),o bg i/\∀q:Int,∀r:zc,o q r->((decide (q<bi)=Ta->XC Tp 351 #[.pointer d,iV (-1),iV (w6 (q-bg))] r (λs t=>∃u:Option Addr,s=.pointer u/\∃v,u=Td v/\XRunU Tp (zag 3 (.pointer (Td v)) (iV (w6 ((w6 (q-bg))+1)))) t (λw=>(o (w6 (q+1)) w/\p (w6 (q+1)) w<p q r))))/\(decide (q<bi)=Tc->∃(x:Int->zc->Prop) (y:Int->zc->Nat),x be r/\∀z:Int,∀A:zc,x z A->((decide (z<bj)=Ta->∃(B:Int->zc->Prop) (C:Int->zc->Nat),B bg A/\∀D:Int,∀E:zc,B D E->((decide (D<bi)=Ta->∀F:Int->zc->Prop,(∀G:Int,∀I:zc,(∃J,r0=Td J/\∃L,zd I (zab (zab J 0) 1)=Td (aK L)/\∃M,(L.a=Td M/\0<=z/\z<L.len)/\∃N,zd I (M.add (z.toNat*1))=Td (iV N)/\∃O,r0=Td O/\∃P,zd I (zab (zab O 2) 1)=Td (aK P)/\∃Q,(P.a=Td Q/\0<=D/\D<P.len)/\∃S,zd I (Q.add (D.toNat*1))=Td (iV S)/\∀T:Int->zc->Prop,(∀U:Int,∀V:zc,(XC Tp 351 #[.pointer d,iV (w6 (z-be)),iV (w6 (D-bg))] V (λW X=>∃Y:Option Addr,W=.pointer Y/\∃Z,Y=Td Z/\XRunU Tp (zag 3 (.pointer (Td Z)) (iV U)) X (λaa=>(B (w6 (D+1)) aa/\C (w6 (D+1)) aa<C D E))))->T U V)->((bif (N==be)then(S==bg)else Tc)=Ta->∀ab:Int->zc->Prop,(∀ac:Int,∀ad:zc,(∃ae,r0=Td ae/\∃af,zd ad (zab ae 4)=Td (aK af)/\∃ag,(af.a=Td ag/\0<=z/\z<af.len)/\∃ah,zd ad (ag.add (z.toNat*1))=Td (aK ah)/\∃ai,(ah.a=Td ai/\0<=D/\D<ah.len)/\XRunU Tp (zag 3 (.pointer (Td (ai.add (D.toNat*1)))) (iV ac)) ad (λaj=>T ac aj))->ab ac ad)->let ak:Int->zc->Prop:=λal (am:zc)=>(ab (if al<G then al else G) am);XC Tp 351 #[.pointer d,iV (w6 ((w6 (z-be))-1)),iV (w6 ((w6 (D-bg))-1))] I (λan ao=>∃ap:Option Addr,an=.pointer ap/\∃aq,ap=Td aq/\(∃ar,zd ao aq=Td (iV ar)/\XC Tp 382 #[.pointer r0,iV z,iV D] ao (λau av=>∃aw,au=iV aw/\ak (w6 (ar+aw)) av))/\(XC Tp 382 #[.pointer r0,iV z,iV D] ao (λax ay=>∃az,ax=iV az/\∃aA,zd ay aq=Td (iV aA)/\ak (w6 (aA+az)) ay))))/\((bif (N==be)then(S==bg)else Tc)=Tc->∃aB,r0=Td aB/\∃aC,zd I (zab aB 4)=Td (aK aC)/\∃aD,(aC.a=Td aD/\0<=z/\z<aC.len)/\∃aE,zd I (aD.add (z.toNat*1))=Td (aK aE)/\∃aF,(aE.a=Td aF/\0<=D/\D<aE.len)/\∃aG,zd I (aF.add (D.toNat*1))=Td (iV aG)/\XC Tp 351 #[.pointer d,iV (w6 ((w6 (N-be))-1)),iV (w6 ((w6 (S-bg))-1))] I (λaH aI=>∃aJ:Option Addr,aH=.pointer aJ/\∃aL,aJ=Td aL/\hZ aI I ((aF.add (D.toNat*1)))/\hZ aI I ((aD.add (z.toNat*1)))/\hZ aI I (zab aB 4)/\∃aM,zd aI aL=Td (iV aM)/\hZ aI I ((aF.add (D.toNat*1)))/\hZ aI I ((aD.add (z.toNat*1)))/\hZ aI I (zab aB 4)/\T (if(w6 (aM+aG))<G then w6 (aM+aG)else G) aI)))->F G I)->let aN:Int->Int->zc->Prop:=λaO aP (aQ:zc)=>(F (w6 (1+(if aO<aP then aO else aP))) aQ);let aS:Addr->Int->zc->Prop:=λ(aT:Addr) aU (aV:zc)=>(∃aW,zd aV aT=Td (iV aW)/\aN aW aU aV);XC Tp 351 #[.pointer d,iV (w6 ((w6 (z-be))-1)),iV (w6 (D-bg))] E (λaX aY=>∃aZ:Option Addr,aX=.pointer aZ/\∃a0,aZ=Td a0/\(∃a1,zd aY a0=Td (iV a1)/\XC Tp 351 #[.pointer d,iV (w6 (z-be)),iV (w6 ((w6 (D-bg))-1))] aY (λa2 a3=>∃a4:Option Addr,a2=.pointer a4/\∃a5,a4=Td a5/\aS a5 a1 a3))/\(XC Tp 351 #[.pointer d,iV (w6 (z-be)),iV (w6 ((w6 (D-bg))-1))] aY (λa6 a7=>∃a8:Option Addr,a6=.pointer a8/\∃a9,a8=Td a9/\(∃ba,zd a7 a0=Td (iV ba)/\aS a9 ba a7)/\(∃bb,zd a7 a9=Td (iV bb)/\∃bc,zd a7 a0=Td (iV bc)/\aN bb bc a7)))))/\(decide (D<bi)=Tc->(x (w6 (z+1)) E/\y (w6 (z+1)) E<y z A))))/\(decide (z<bj)=Tc->R (.pointer d) A)))))))):
  XC Tp 350 #[.pointer r0,.int .i64 be,.int .i64 bj,.int .i64 bg,.int .i64 bi] h R:=
 XF ⟨[(20,8000),(22,8000),(17,8000)],[(3,[(12,.one (.int .i64))]),(7,[(13,.one (.int .i64))]),(11,[(14,.one (.int .i64))]),(14,[(15,.one (.int .i64))])],[(18,[(18,.one (.int .i64))]),(23,[(18,.one (.int .i64))]),(21,[(18,.one (.int .i64))])]⟩ [.tmp 10] 175 Tryz.func350 H
theorem K1(b:Sl)(c:Sl)(d:Sl)(e:Sl)(h:zc)(R:Value->zc->Prop) (H:let f:=h.push (.cells #[aK b,aK c] 31);let g:=f.push (.cells #[aK d,aK e] 31);∃i j,ze g ⟨h.size,0,Te⟩ 0 [aK i,aK j]/\XC Tp 21 #[.agg #[aK i,aK j]] g (λk l=>∃m,k=.bool m/\∃n o,((!(!m))=Ta->ze l ⟨f.size,0,Te⟩ 0 [aK n,aK o])/\∃p:Value->zc->Prop,((!(!m))=Ta->XC Tp 21 #[.agg #[aK n,aK o]] l (λq r=>∃s,q=.bool s/\p (.bool s) r))/\((!(!m))=Tc->∃t,p (.bool t) l)/\((!(!m))=Ta->∀u v,p u v->∃w,u=.bool w)/\∀x:Bool,∀y,p (.bool x) y->((bif (!m)then Ta else(!x))=Ta->R (.tuple #[.pointer Te,.bool Tc]) y)/\((bif (!m)then Ta else(!x))=Tc->∃z A,ze y ⟨h.size,0,Te⟩ 0 [aK z,aK A]/\∃B C,ze y ⟨f.size,0,Te⟩ 0 [aK B,aK C]/\∃D,zd y (zab ⟨h.size,0,Te⟩ 0)=Td (aK D)/\hZ y y ⟨f.size,0,Te⟩/\hZ y y ⟨h.size,0,Te⟩/\qu Tp (zbp 74 (iV (D.len:Int)) (iV (D.len:Int))) y (λE F=>∃G,E=aK G/\hZ F y ⟨f.size,0,Te⟩/\hZ F y ⟨h.size,0,Te⟩/\let I:=F.push (.cells #[aK z,aK A,aK B,aK C,aK G] 368);∃J:Addr,Td ⟨F.size,0,Te⟩=Td J/\∃L,zd I (zab J 4)=Td (aK L)/\∃(M:Int->zc->Prop) (N:Int->zc->Nat),M 0 I/\∀O:Int,∀P:zc,M O P->((decide (O<L.len)=Ta->∃Q:Addr,Td ⟨F.size,0,Te⟩=Td Q/\∃S,zd P (zab Q 4)=Td (aK S)/\∃T,zd P (zab ⟨f.size,0,Te⟩ 0)=Td (aK T)/\hZ P P (zab Q 4)/\qu Tp (zbp 29 (iV (T.len:Int)) (iV (T.len:Int))) P (λU V=>∃W,U=aK W/\∃X,(S.a=Td X/\0<=O/\O<S.len)/\hZ V P (zab Q 4)/\XRunU Tp (zag 29 (.pointer (Td (X.add (O.toNat*1)))) (aK W)) V (λY=>(M (w6 (O+1)) Y/\N (w6 (O+1)) Y<N O P))))/\(decide (O<L.len)=Tc->∃Z aa,ze P ⟨h.size,0,Te⟩ 0 [aK Z,aK aa]/\XC Tp 28 #[.agg #[aK Z,aK aa]] P (λab ac=>∃ad,ab=aK ad/\∃(ae:Int->zc->Prop) (af:Int->zc->Nat),ae 0 ac/\∀ag:Int,∀ah:zc,ae ag ah->((decide (ag<ad.len)=Ta->∃ai,(ad.a=Td ai/\0<=ag/\ag<ad.len)/\∃aj,zd ah (ai.add (ag.toNat*1))=Td (iV aj)/\∃ak al,ze ah ⟨f.size,0,Te⟩ 0 [aK ak,aK al]/\XC Tp 28 #[.agg #[aK ak,aK al]] ah (λam an=>∃ao,am=aK ao/\∃(ap:Int->zc->Prop) (aq:Int->zc->Nat),ap 0 an/\∀ar:Int,∀au:zc,ap ar au->((decide (ar<ao.len)=Ta->∃av,(ao.a=Td av/\0<=ar/\ar<ao.len)/\∃aw,zd au (av.add (ar.toNat*1))=Td (iV aw)/\∃ax,zd au (zab ⟨h.size,0,Te⟩ 1)=Td (aK ax)/\∃ay,(ax.a=Td ay/\0<=aj/\aj<ax.len)/\∃az,zd au (ay.add (aj.toNat*1))=Td (iV az)/\∃aA,zd au (zab ⟨f.size,0,Te⟩ 1)=Td (aK aA)/\∃aB,(aA.a=Td aB/\0<=aw/\aw<aA.len)/\∃aC,zd au (aB.add (aw.toNat*1))=Td (iV aC)/\XC Tp 350 #[.pointer (Td ⟨F.size,0,Te⟩),iV az,iV (w6 (aj+1)),iV aC,iV (w6 (aw+1))] au (λaD aE=>∃aF:Option Addr,aD=.pointer aF/\(ap (w6 (ar+1)) aE/\aq (w6 (ar+1)) aE<aq ar au)))/\(decide (ar<ao.len)=Tc->(ae (w6 (ag+1)) au/\af (w6 (ag+1)) au<af ag ah)))))/\(decide (ag<ad.len)=Tc->R (.tuple #[.pointer (Td ⟨F.size,0,Te⟩),.bool Ta]) ah))))))))):
  XC Tp 349 #[.agg #[.slice b.a b.len b.cap,.slice c.a c.len c.cap],.agg #[.slice d.a d.len d.cap,.slice e.a e.len e.cap]] h R:=
 XF ⟨[(3,8000),(7,8000),(15,8000)],[(5,[(33,.one (.int .i64))]),(10,[(50,.one (.int .i64))]),(13,[(57,.one (.int .i64))])],[]⟩ [.tmp 4,.tmp 5] 80 Tryz.func349 H
theorem Oo(b:Sl)(c:Sl)(d:Sl)(e:Sl)(h:zc)(R:Value->zc->Prop) (H:let f:=h.push (.cells #[aK b,aK c] 31);let g:=f.push (.cells #[aK d,aK e] 31);∃i j,ze g ⟨h.size,0,Te⟩ 0 [aK i,aK j]/\∃k l,ze g ⟨f.size,0,Te⟩ 0 [aK k,aK l]/\XC Tp 349 #[.agg #[aK i,aK j],.agg #[aK k,aK l]] g (λm n=>∃o:Option Addr,∃p,m=.tuple #[.pointer o,.bool p]/\((!p)=Ta->R (.tuple #[iV 0,iV 1]) n)/\((!p)=Tc->∃q,zd n (zab ⟨h.size,0,Te⟩ 0)=Td (aK q)/\∃r,zd n (zab ⟨f.size,0,Te⟩ 0)=Td (aK r)/\XC Tp 350 #[.pointer o,iV 0,iV (q.len:Int),iV 0,iV (r.len:Int)] n (λs t=>∃u:Option Addr,s=.pointer u/\XC Tp 351 #[.pointer u,iV (w6 ((q.len:Int)-1)),iV (w6 ((r.len:Int)-1))] t (λv w=>∃x:Option Addr,v=.pointer x/\∃y,x=Td y/\∃z,zd w y=Td (iV z)/\R (.tuple #[iV z,iV 0]) w))))):
  XC Tp 296 #[.agg #[.slice b.a b.len b.cap,.slice c.a c.len c.cap],.agg #[.slice d.a d.len d.cap,.slice e.a e.len e.cap]] h R:=
 XF ⟨[],[],[]⟩ [.tmp 4,.tmp 5] 35 Tryz.func296 H
end
section
open Go.RowKit
section
variable {x y A:Nat} {h:zc} {K:Value -> zc -> Prop}
theorem NO{W x y c f:Nat}(h1:y<W)(h:f<W)(e:x*W+y=c*W+f):x=c/\y=f:=by
 have a:(x*W+y) / W=x:=by rw[zd7,Nat.mul_add_div (by omega),Nat.div_eq_of_lt h1,zew]
 have b:(c*W+f) / W=c:=by rw[zd7,Nat.mul_add_div (by omega),Nat.div_eq_of_lt h,zew]
 have:x=c:=by rw[<-a,<-b,e]
 subst this;exact⟨rfl,by omega⟩
theorem ME{W A x y:Nat}(b:x<A)(c:y<W):x*W+y<A*W:=by have:(x+1)*W<=A*W:=za8 _ b;rw[zdn]at this;omega
set_option maxRecDepth 100000 in
theorem XX{A B:Nat}(hA:A<=900)(n:B<=900) (l:∀g,IntB g h.size ((A+1)*(B+1)) (λ_=>0)->Blk g (h.size+1) #[.int .i64 ((B+1:Nat):Int),aK ⟨Td ⟨h.size,0,Te⟩,(A+1)*(B+1),(A+1)*(B+1)⟩]->Keep h.size h g->g.size=h.size+2->K (.pointer (Td ⟨h.size+1,0,Te⟩)) g):
  XC Tp 381 #[.int .i64 (A:Int),.int .i64 (B:Int)] h K:=by
 apply NW;have m:(A+1)*(B+1)<=901*901:=zd0 (by omega) (by omega);have j:w6 ((w6 ((A:Int)+1))*(w6 ((B:Int)+1)))=(((A+1)*(B+1):Nat):Int):=by rw[zx (by omega),zx (by omega),<-Int.natCast_mul,wrap64 (by omega) (by omega)]
 rw[j,zx (by omega:B<9223372036854775807)];refine AK (oq:ElemT _ _ _ _ 1 8) (by omega) λh1 _ i f k=>⟨_,rfl,?_⟩;intro b;have k2:Keep h1.size h1 b:=Keep.push _ _ (zac _);have e:Blk b h1.size #[.int .i64 ((B+1:Nat):Int),aK ⟨Td ⟨h.size,0,Te⟩,(A+1)*(B+1),(A+1)*(B+1)⟩]:=Blk.new _ _ _;have c:b.size=h1.size+1:=zaf _;clear_value b;rw[k]at e c ⊢;exact l b (i.keep (k2.get _ (by omega))) e (f.trans k2 (by omega)) c
set_option maxRecDepth 100000 in
theorem U2{gb cb W N:Nat}(B:Blk h gb #[.int .i64 (W:Int),aK ⟨Td ⟨cb,0,Te⟩,N,N⟩]){i j:Int}(hi:i=(x:Int)-1)(f:j=(y:Int)-1)(r:x*W+y<N)(q:N<=1000000)(b:x<=100000)(c:W<=100000)
  (l:K (.pointer (Td ⟨cb,x*W+y,Te⟩)) h):XC Tp 351 #[.pointer (Td ⟨gb,0,Te⟩),.int .i64 i,.int .i64 j] h K:=by
 apply zez;have m:x*W<=100000*100000:=zd0 b c;have e:w6 ((w6 ((w6 ((w6 (i+1))*(W:Int)))+j))+1)=((x*W+y:Nat):Int):=by rw[hi,f,wrap64 (n:=(x:Int)-1+1) (by omega) (by omega),show(x:Int)-1+1=(x:Int)by omega,<-Int.natCast_mul,wrap64 (n:=((x*W:Nat):Int)) (by omega) (by omega),wrap64 (n:=((x*W:Nat):Int)+((y:Int)-1)) (by omega) (by omega),wrap64 (by omega) (by omega)];omega
 refine⟨_,rfl,_,B.cellAdd (o:=0) (k:=1) rfl,_,rfl,_,B.cellAdd (o:=0) (k:=0) rfl,?_⟩;rw[e];refine⟨_,⟨rfl,by omega,by show((x*W+y:Nat):Int)<(N:Int);omega⟩,?_⟩;rw[ic,zae,zas,zbm];exact l
structure TwoT (M:Fr) (s t:iy) (a1 a2 b1 b2:Sl):Prop where
 sl:Rd M (.row .str) s.1 [aK a1]
 si:Rd M (.row PJ) s.2 [aK a2]
 tl:Rd M (.row .str) t.1 [aK b1]
 ti:Rd M (.row PJ) t.2 [aK b2]
 rs:qd s=Ta
 rt:qd t=Ta
set_option maxRecDepth 100000 in
theorem Ke{M:Fr}{s t:iy}{a1 a2 b1 b2 ps:Sl}{rb:Nat}(ag:AgM M h)(T:TwoT M s t a1 a2 b1 b2)(B:Blk h rb #[aK a1,aK a2,aK b1,aK b2,aK ps]){i j:Nat}(hi:i<s.1.length)(e:j<t.1.length)
  (b:K (.int .i64 ((fK s t i j:Nat):Int)) h):XC Tp 382 #[.pointer (Td ⟨rb,0,Te⟩),.int .i64 (i:Int),.int .i64 (j:Int)] h K:=by
 apply Vb;refine⟨_,rfl,a1,B.cellAdd (o:=0) (k:=0) rfl,Dg ag T.sl rfl hi ⟨_,rfl,b1,B.cellAdd (o:=0) (k:=2) rfl,Dg ag T.tl rfl e ?_⟩⟩;unfold fK at b;rw[OO];refine⟨λc=>?_,λc=>?_⟩;rw[zA (zH c)]at b;exact b;rw[zv (zI c)]at b;exact b
end
section
variable {x y:Nat} {K:Value -> zc -> Prop}
def jK(la lb:Nat->Nat)(tn P:Nat->Nat->Nat)(fa A fb B b c:Nat):Nat->Nat->Nat:=λi j=>if(la i=fa/\lb j=fb)/\(fa<=i/\i<fa+A/\fb<=j/\j<fb+B)/\(i<b\/(i=b/\j<c))then gN la lb tn P fa fb (i+1-fa) (j+1-fb)else P i j
section
variable (h : zc) (pb : Nat) (Bf : Nat -> Nat) (n m : Nat) (la lb : Nat -> Nat) (tn P : Nat -> Nat -> Nat) (fa A fb B : Nat)
structure FoS (KN:Nat->Nat->Prop) (Pc:Nat->Nat->Nat) (g:zc):Prop where
 grid:∃G,IntB g h.size ((A+1)*(B+1)) G/\∀x y,x<=A->y<=B->KN x y->G (x*(B+1)+y)=gN la lb tn P fa fb x y
 box:Blk g (h.size+1) #[.int .i64 ((B+1:Nat):Int),aK ⟨Td ⟨h.size,0,Te⟩,(A+1)*(B+1),(A+1)*(B+1)⟩]
 mat:Mat g pb Bf n m Pc
 sz:g.size=h.size+2
 fr:∀i,i<h.size->(∀k,k<n->i≠Bf k)->g[i]?=h[i]?
end
section
variable {h : zc} {pb : Nat} {Bf : Nat -> Nat} {n m : Nat} {la lb : Nat -> Nat} {tn P : Nat -> Nat -> Nat} {fa A fb B : Nat} {KN : Nat -> Nat -> Prop} {Pc : Nat -> Nat -> Nat} {g : zc}
theorem FoS.weak(S:FoS h pb Bf n m la lb tn P fa A fb B KN Pc g){b:Nat->Nat->Prop}{c:Nat->Nat->Nat}(f:∀x y,x<=A->y<=B->b x y->KN x y)(e:∀i j,i<n->j<m->Pc i j=c i j):FoS h pb Bf n m la lb tn P fa A fb B b c g:= ⟨by grind [grid],S.box,S.mat.ext e,S.sz,S.fr⟩
theorem FoS.in_(c:x<=A)(b:y<=B):x*(B+1)+y<(A+1)*(B+1):=ME (by omega) (by omega)
theorem FoS.get(S:FoS h pb Bf n m la lb tn P fa A fb B KN Pc g)(e:x<=A)(c:y<=B)(f:KN x y):zd g ⟨h.size,x*(B+1)+y,Te⟩=Td (.int .i64 ((gN la lb tn P fa fb x y:Nat):Int)):=by obtain⟨G,a,b⟩:=S.grid;rw[<-b x y e c f];exact a.cell (FoS.in_ e c)
theorem FoS.at(S:FoS h pb Bf n m la lb tn P fa A fb B KN Pc g)(hA:A<=512)(l:B<=512){i j:Int}(hi:i=(x:Int)-1)(b:j=(y:Int)-1)(f:x<=A)(c:y<=B)(e:K (.pointer (Td ⟨h.size,x*(B+1)+y,Te⟩)) g):
  XC Tp 351 #[.pointer (Td ⟨h.size+1,0,Te⟩),.int .i64 i,.int .i64 j] g K:=by
 have k:(A+1)*(B+1)<=513*513:=zd0 (by omega) (by omega);exact U2 S.box hi b (FoS.in_ f c) (by omega) (by omega) (by omega) e
theorem FoS.put(S:FoS h pb Bf n m la lb tn P fa A fb B KN Pc g)(k:∀i,i<n->Bf i<h.size)(l:pb<h.size){x y v:Nat}(t:x<=A)(q:y<=B)(D:v=gN la lb tn P fa fb x y){K:zc->Prop}(u:∀g',FoS h pb Bf n m la lb tn P fa A fb B (λa b=>KN a b\/(a=x/\b=y)) Pc g'->K g'):
  XRunU Tp (zag 3 (.pointer (Td ⟨h.size,x*(B+1)+y,Te⟩)) (.int .i64 ((v:Nat):Int))) g K:=by
 obtain⟨G,a,b⟩:=S.grid;refine a.set (FoS.in_ t q) λg' h1 o c=>u g' ⟨⟨_,h1,λz w j r C=>?_⟩,S.box.keep (c _ (by omega)),S.mat.keep (c _ (by omega)) λi hi=>c _ (by grind),by rw[o,S.sz],λi hi f=>(c i (by omega)).trans (S.fr i hi f)⟩;by_cases e:z*(B+1)+w=x*(B+1)+y;obtain⟨rfl,rfl⟩:=NO (by omega) (by omega) e;grind;grind
theorem FoS.setP(S:FoS h pb Bf n m la lb tn P fa A fb B KN Pc g)(e:∀i,i<n->Bf i<h.size){i j x:Nat}(hi:i<n)(q:j<m){K:zc->Prop}(r:∀g',FoS h pb Bf n m la lb tn P fa A fb B KN (λa b=>if a=i/\b=j then x else Pc a b) g'->K g'):
  XRunU Tp (zag 3 (.pointer (Td ⟨Bf i,j,Te⟩)) (.int .i64 ((x:Nat):Int))) g K:=by
 have t:=e i hi;refine S.mat.set hi q λg' h1 l f=>r g' ⟨by obtain⟨G,a,b⟩:=S.grid;exact⟨G,a.keep (f _ (by omega)),b⟩,S.box.keep (f _ (by omega)),h1,by rw[l,S.sz],λk o c=>(f k (c i hi)).trans (S.fr k o c)⟩
theorem Af{p q:Nat}:(if((q:Nat):Int)<((p:Nat):Int)then((q:Nat):Int)else((p:Nat):Int))=((min p q:Nat):Int):=by split <;> omega
end
set_option maxRecDepth 100000 in
set_option maxHeartbeats 2000000 in
theorem E8{h:zc}{M:Fr}{s t:iy}{a1 a2 b1 b2:Sl}{rb pb:Nat}{Bf:Nat->Nat}{n m:Nat}{P:Nat->Nat->Nat}(ag:AgM M h)(T:TwoT M s t a1 a2 b1 b2)(Bx:Blk h rb #[aK a1,aK a2,aK b1,aK b2,aK ⟨Td ⟨pb,0,Te⟩,n,n⟩])(al:∀k,k<n->rb≠Bf k)(hM:∀k,k<n->M (Bf k)=Te) (Mt:Mat h pb Bf n m P) (hn:n=s.2.length) (hm:m=t.2.length) (hP:∀i j,i<n->j<m->P i j<=100000) {fa A fb B:Nat} {ta tb:Int} (af:ta=((fa+A:Nat):Int)) (ac:tb=((fb+B:Nat):Int)) (hA:fa+A<=n) (hB:fb+B<=m) (ha:Frs (bK s) fa A) (hb:Frs (bK t) fb B) (hK:∀g,FoS h pb Bf n m (bK s) (bK t) (fK s t) P fa A fb B (λ_ _=>True) (jK (bK s) (bK t) (fK s t) P fa A fb B (fa+A) fb) g->K (.pointer (Td ⟨h.size+1,0,Te⟩)) g):
  XC Tp 350 #[.pointer (Td ⟨rb,0,Te⟩),.int .i64 (fa:Int),.int .i64 ta,.int .i64 (fb:Int),.int .i64 tb] h K:=by
 subst af;subst ac;obtain⟨ls,ay,os⟩:=jy T.rs;obtain⟨lt,aC,ot⟩:=jy T.rt;have ae:=Bx.lt;have D:=Mt.top.lt;have u:∀i,i<n->Bf i<h.size:=λi hi=>(Mt.row i hi).lt;apply Xx;have w1:∀a c:Nat,a<=512->c<=512->w6 (((a+c:Nat):Int)-(a:Int))=(c:Int):=λa c _ _=>by rw[wrap64 (by omega) (by omega)];omega
 rw[w1 fa A (by omega) (by omega),w1 fb B (by omega) (by omega)];refine XX (by omega) (by omega) λg0 I0 B0 k0 z0=>⟨_,rfl,?_⟩;have S0:FoS h pb Bf n m (bK s) (bK t) (fK s t) P fa A fb B (λx y=>y=0/\x<=0) P g0:=⟨⟨_,I0,λx y f r z=>by simp_all[Ab]⟩,B0,Mt.keep (k0.get _ D) λi hi=>k0.get _ (u i hi),z0,λi hi _=>k0.get i hi⟩;refine⟨λi g=>∃c:Nat,i=((fa+c:Nat):Int)/\c<=A/\FoS h pb Bf n m (bK s) (bK t) (fK s t) P fa A fb B (λx y=>y=0/\x<=c) P g,λi _=>fa+A-i.toNat,⟨0,rfl,za0 _,S0⟩,?_⟩;rintro i g ⟨c,rfl,V,S⟩;refine⟨λf=>?_,λf=>?_⟩;have f:c<A:=by have:=m8 f;omega
 refine S.at (x:=c+1) (y:=0) (by omega) (by omega) (by grind) (by omega) (by omega) (by omega) ⟨_,rfl,_,rfl,?_⟩;have e:w6 (w6 (((fa+c:Nat):Int)-(fa:Int))+1)=((c+1:Nat):Int):=by rw[w1 fa c (by omega) (by omega),wrap64 (by omega) (by omega)];omega
 rw[e,zx (by omega)];refine S.put u D f (za0 _) (Ce _).symm λg' F=>⟨⟨c+1,by omega,f,F.weak (λx y _ _ z=>?_) λ_ _ _ _=>rfl⟩,qB (by omega) (by omega) (by omega)⟩;omega;have aa:c=A:=by have:=mO f;omega
 subst aa;refine⟨λj g=>∃d:Nat,j=((fb+d:Nat):Int)/\d<=B/\FoS h pb Bf n m (bK s) (bK t) (fK s t) P fa c fb B (λx y=>y=0\/(x=0/\y<=d)) P g,λj _=>fb+B-j.toNat,⟨0,rfl,za0 _,S.weak (λx y f r z=>⟨by omega,by omega⟩) λ_ _ _ _=>rfl⟩,?_⟩;rintro j g ⟨d,rfl,hd,S⟩;refine⟨λf=>?_,λf=>?_⟩;have f:d<B:=by have:=m8 f;omega
 refine S.at (x:=0) (y:=d+1) (by omega) (by omega) (by omega) (by grind) (by omega) (by omega) ⟨_,rfl,_,rfl,?_⟩;have e:w6 (w6 (((fb+d:Nat):Int)-(fb:Int))+1)=((d+1:Nat):Int):=by rw[w1 fb d (by omega) (by omega),wrap64 (by omega) (by omega)];omega
 rw[e,zx (by omega)];refine S.put u D (za0 _) f (Ab _).symm λg' F=>⟨⟨d+1,by omega,f,F.weak (λx y _ _ z=>?_) λ_ _ _ _=>rfl⟩,qB (by omega) (by omega) (by omega)⟩;omega;have ah:d=B:=by have:=mO f;omega
 subst ah;refine⟨λi g=>∃p:Nat,i=((fa+p:Nat):Int)/\p<=c/\FoS h pb Bf n m (bK s) (bK t) (fK s t) P fa c fb d (λx y=>y=0\/x<=p) (jK (bK s) (bK t) (fK s t) P fa c fb d (fa+p) fb) g,λi _=>fa+c-i.toNat,⟨0,rfl,za0 _,S.weak (λx y f r z=>by omega) λi j _ _=>?_⟩,?_⟩;unfold jK;grind;rintro i g ⟨p,rfl,hp,S⟩;refine⟨λf=>?_,λf=>?_⟩;have l:p<c:=by have:=m8 f;omega
 refine⟨λj g=>∃q:Nat,j=((fb+q:Nat):Int)/\q<=d/\FoS h pb Bf n m (bK s) (bK t) (fK s t) P fa c fb d (λx y=>y=0\/x<=p\/(x=p+1/\y<=q)) (jK (bK s) (bK t) (fK s t) P fa c fb d (fa+p) (fb+q)) g,λj _=>fb+d-j.toNat,⟨0,rfl,za0 _,S.weak (λx y f r z=>by omega) λ_ _ _ _=>rfl⟩,?_⟩;rintro j g ⟨q,rfl,hq,S⟩;refine⟨λr=>?_,λr=>?_⟩;have r:q<d:=by have:=m8 r;omega
 have Q:∀x y,x+y<=1024->x<=c->y<=d->gN (bK s) (bK t) (fK s t) P fa fb x y<=1024:=λx y h1 h2 h3=>zch (vp _ _ _ (zac _) (ha.less h2) (hb.less h3)) h1;have v1:=Q p (q+1) (by omega) (by omega) (by omega);have v2:=Q (p+1) q (by omega) (by omega) (by omega);have v3:=Q p q (by omega) (by omega) (by omega);have Y:=Cr (la:=bK s) (lb:=bK t) (tn:=fK s t) (P:=P) (ha.less l) (hb.less r);obtain⟨aB,au⟩:=ha p l;obtain⟨az,aA⟩:=hb q r;have e1:=uS T.rs (i:=fa+p) (by omega);have e2:=uS T.rt (i:=fb+q) (by omega);have agg:AgM M g:=AgM.off ag λb cc e=>S.fr b (ag.lt e) λk z he=>by simp_all
 have I:Blk g rb #[aK a1,aK a2,aK b1,aK b2,aK ⟨Td ⟨pb,0,Te⟩,n,n⟩]:=Bx.keep (S.fr rb ae al);intro O G;have C:w6 (((fa+p:Nat):Int)-(fa:Int))=(p:Int):=w1 fa p (by omega) (by omega);have wJ:w6 (((fb+q:Nat):Int)-(fb:Int))=(q:Int):=w1 fb q (by omega) (by omega);have fin:∀(g':zc) (Pc:Nat->Nat->Nat),FoS h pb Bf n m (bK s) (bK t) (fK s t) P fa c fb d (λx y=>y=0\/x<=p\/(x=p+1/\y<=q)) Pc g'->(∀i j,i<n->j<m->Pc i j=jK (bK s) (bK t) (fK s t) P fa c fb d (fa+p) (fb+(q+1)) i j)->XC Tp 351 #[.pointer (Td ⟨h.size+1,0,Te⟩),.int .i64 (w6 (((fa+p:Nat):Int)-(fa:Int))),.int .i64 (w6 (((fb+q:Nat):Int)-(fb:Int)))] g' λv h'=>∃x:Option Addr,v=.pointer x/\∃a,x=Td a/\XRunU Tp (zag 3 (.pointer (Td a)) (.int .i64 ((gN (bK s) (bK t) (fK s t) P fa fb (p+1) (q+1):Nat):Int))) h' λh''=>(∃U:Nat,w6 (((fb+q:Nat):Int)+1)=((fb+U:Nat):Int)/\U<=d/\FoS h pb Bf n m (bK s) (bK t) (fK s t) P fa c fb d (λx y=>y=0\/x<=p\/(x=p+1/\y<=U)) (jK (bK s) (bK t) (fK s t) P fa c fb d (fa+p) (fb+U)) h'')/\fb+d-(w6 (((fb+q:Nat):Int)+1)).toNat<fb+d-(((fb+q:Nat):Int)).toNat:=λg' Pc F ab=>by refine F.at (x:=p+1) (y:=q+1) (by omega) (by omega) (by rw[C];omega) (by rw[wJ];omega) l r ⟨_,rfl,_,rfl,?_⟩;refine F.put u D l r rfl λax ak=>?_;rw[zx (by omega)];refine⟨⟨q+1,by omega,r,ak.weak (λx y _ _ z=>?_) ab⟩,qB (by omega) (by omega) (by omega)⟩;omega
 have rest:O ((1+min (gN (bK s) (bK t) (fK s t) P fa fb p (q+1)) (gN (bK s) (bK t) (fK s t) P fa fb (p+1) q):Nat):Int) g:=by
  refine G _ _ ⟨_,rfl,a2,I.cellAdd (o:=0) (k:=1) rfl,oJ agg T.si rfl (by omega) ⟨_,rfl,b2,I.cellAdd (o:=0) (k:=3) rfl,oJ agg T.ti rfl (by omega) ?_⟩⟩;rw[e1,e2];intro aj E;refine⟨λV=>?_,λV=>?_⟩;obtain⟨c1,c2⟩:=Ud.1 V;have c1:bK s (fa+p)=fa:=by have:=beq_iff_eq.1 c1;omega
  have c2:bK t (fb+q)=fb:=by have:=beq_iff_eq.1 c2;omega
  rw[zA ⟨c1,c2⟩]at Y;intro L J;have t1:fK s t (fa+p) (fb+q)<=1:=by unfold fK;split <;> omega
  have H:L ((gN (bK s) (bK t) (fK s t) P fa fb (p+1) (q+1):Nat):Int) g:=by
   refine J _ _ ⟨_,rfl,_,I.cellAdd (o:=0) (k:=4) rfl,_,⟨rfl,by omega,by simp;omega⟩,_,by rw[ic,zae,zas,zbm];exact S.mat.at_ (by omega),_,⟨rfl,by omega,by simp;omega⟩,?_⟩;rw[ic,zae,zas,zbm];refine S.setP u (by omega) (by omega) λg' F=>E _ _ (fin g' _ F λi j hi hj=>?_);by_cases e:i=fa+p/\j=fb+q;obtain⟨rfl,rfl⟩:=e;rw[zA ⟨rfl,rfl⟩];unfold jK;rw[zA ⟨⟨c1,c2⟩,by omega,by omega⟩,show fa+p+1-fa=p+1 by omega,show fb+q+1-fb=q+1 by omega];rw[zv e];unfold jK;have:((bK s i=fa/\bK t j=fb)/\(fa<=i/\i<fa+c/\fb<=j/\j<fb+d)/\(i<fa+p\/(i=fa+p/\j<fb+q)))↔((bK s i=fa/\bK t j=fb)/\(fa<=i/\i<fa+c/\fb<=j/\j<fb+d)/\(i<fa+p\/(i=fa+p/\j<fb+(q+1)))):=by omega
   simp only[this]
  intro Z;have zz:Z (w6 (((gN (bK s) (bK t) (fK s t) P fa fb p q:Nat):Int)+((fK s t (fa+p) (fb+q):Nat):Int))) g:=by show L (if w6 (((gN (bK s) (bK t) (fK s t) P fa fb p q:Nat):Int)+((fK s t (fa+p) (fb+q):Nat):Int))<_ then w6 (((gN (bK s) (bK t) (fK s t) P fa fb p q:Nat):Int)+((fK s t (fa+p) (fb+q):Nat):Int))else _) g;rw[wrap64 (by omega) (by omega),<-Int.natCast_add,Af,<-Y];exact H
  refine S.at (x:=p) (y:=q) (by omega) (by omega) (by rw[C,wrap64 (by omega) (by omega)]) (by rw[wJ,wrap64 (by omega) (by omega)]) (by omega) (by omega) ⟨_,rfl,_,rfl,⟨_,S.get (x:=p) (y:=q) (by omega) (by omega) (by omega),Ke agg T I (by omega) (by omega) ⟨_,rfl,zz⟩⟩,Ke agg T I (by omega) (by omega) ⟨_,rfl,_,S.get (x:=p) (y:=q) (by omega) (by omega) (by omega),zz⟩⟩;have hn:¬(bK s (fa+p)=fa/\bK t (fb+q)=fb):=λ⟨c1,c2⟩=>by rcases Uc.1 V with h1|h1;rw[c1]at h1;simp at h1;rw[c2]at h1;simp at h1
  rw[zv hn]at Y;have l:jK (bK s) (bK t) (fK s t) P fa c fb d (fa+p) (fb+q) (fa+p) (fb+q)=P (fa+p) (fb+q):=by unfold jK;rw[zv (by omega)]
  have ar:=hP (fa+p) (fb+q) (by omega) (by omega);have v4:=Q (bK s (fa+p)-fa) (bK t (fb+q)-fb) (by omega) (by omega) (by omega);have zz:aj (if w6 (((gN (bK s) (bK t) (fK s t) P fa fb (bK s (fa+p)-fa) (bK t (fb+q)-fb):Nat):Int)+((jK (bK s) (bK t) (fK s t) P fa c fb d (fa+p) (fb+q) (fa+p) (fb+q):Nat):Int))<((1+min (gN (bK s) (bK t) (fK s t) P fa fb p (q+1)) (gN (bK s) (bK t) (fK s t) P fa fb (p+1) q):Nat):Int)then w6 (((gN (bK s) (bK t) (fK s t) P fa fb (bK s (fa+p)-fa) (bK t (fb+q)-fb):Nat):Int)+((jK (bK s) (bK t) (fK s t) P fa c fb d (fa+p) (fb+q) (fa+p) (fb+q):Nat):Int))else((1+min (gN (bK s) (bK t) (fK s t) P fa fb p (q+1)) (gN (bK s) (bK t) (fK s t) P fa fb (p+1) q):Nat):Int)) g:=by
   rw[l,wrap64 (by omega) (by omega),<-Int.natCast_add,Af,<-Y];refine E _ _ (fin g _ S λi j hi hj=>?_);unfold jK;have:((bK s i=fa/\bK t j=fb)/\(fa<=i/\i<fa+c/\fb<=j/\j<fb+d)/\(i<fa+p\/(i=fa+p/\j<fb+q)))↔((bK s i=fa/\bK t j=fb)/\(fa<=i/\i<fa+c/\fb<=j/\j<fb+d)/\(i<fa+p\/(i=fa+p/\j<fb+(q+1)))):=by by_cases e:i=fa+p/\j=fb+q;obtain⟨rfl,rfl⟩:=e;omega;omega
   simp only[this]
  refine⟨_,rfl,_,I.cellAdd (o:=0) (k:=4) rfl,_,⟨rfl,by omega,by simp;omega⟩,_,by rw[ic,zae,zas,zbm];exact S.mat.at_ (by omega),_,⟨rfl,by omega,by simp;omega⟩,_,by rw[ic,zae,zas,zbm];exact(S.mat.row _ (by omega)).cell (by omega),?_⟩;refine S.at (x:=bK s (fa+p)-fa) (y:=bK t (fb+q)-fb) (by omega) (by omega) (by rw[wrap64 (n:=((bK s (fa+p):Nat):Int)-(fa:Int)) (by omega) (by omega),wrap64 (by omega) (by omega)];omega) (by rw[wrap64 (n:=((bK t (fb+q):Nat):Int)-(fb:Int)) (by omega) (by omega),wrap64 (by omega) (by omega)];omega) (by omega) (by omega) ⟨_,rfl,_,rfl,rfl,rfl,rfl,_,S.get (by omega) (by omega) (by omega),rfl,rfl,rfl,zz⟩
 have w:O (w6 (1+(if((gN (bK s) (bK t) (fK s t) P fa fb (p+1) q:Nat):Int)<((gN (bK s) (bK t) (fK s t) P fa fb p (q+1):Nat):Int)then((gN (bK s) (bK t) (fK s t) P fa fb (p+1) q:Nat):Int)else((gN (bK s) (bK t) (fK s t) P fa fb p (q+1):Nat):Int)))) g:=by rw[Af,wrap64 (by omega) (by omega)];exact rest
 clear G rest;have c1:=S.get (x:=p) (y:=q+1) (by omega) (by omega) (by omega);have c2:=S.get (x:=p+1) (y:=q) (by omega) (by omega) (by omega);intro am an;have N:∀{K:Value->zc->Prop},K (.pointer (Td ⟨h.size,(p+1)*(d+1)+q,Te⟩)) g->XC Tp 351 #[.pointer (Td ⟨h.size+1,0,Te⟩),.int .i64 (w6 (((fa+p:Nat):Int)-(fa:Int))),.int .i64 (w6 (w6 (((fb+q:Nat):Int)-(fb:Int))-1))] g K:=λz=>S.at (x:=p+1) (y:=q) (by omega) (by omega) (by rw[C];omega) (by rw[wJ,wrap64 (by omega) (by omega)]) (by omega) (by omega) z;refine S.at (x:=p) (y:=q+1) (by omega) (by omega) (by rw[C,wrap64 (by omega) (by omega)]) (by rw[wJ];omega) (by omega) (by omega) ⟨_,rfl,_,rfl,⟨_,c1,N ⟨_,rfl,_,rfl,_,c2,w⟩⟩,N ⟨_,rfl,_,rfl,⟨_,c1,_,c2,w⟩,_,c2,_,c1,w⟩⟩;have ai:q=d:=by have:=mO r;omega
 subst ai;rw[zx (by omega)];refine⟨⟨p+1,by omega,l,S.weak (λx y f r z=>by omega) λi j _ _=>?_⟩,qB (by omega) (by omega) (by omega)⟩;unfold jK;have:((bK s i=fa/\bK t j=fb)/\(fa<=i/\i<fa+c/\fb<=j/\j<fb+q)/\(i<fa+p\/(i=fa+p/\j<fb+q)))↔((bK s i=fa/\bK t j=fb)/\(fa<=i/\i<fa+c/\fb<=j/\j<fb+q)/\(i<fa+(p+1)\/(i=fa+(p+1)/\j<fb))):=by omega
 simp only[this];have l:p=c:=by have:=mO f;omega
 subst l;exact hK g (S.weak (λx y f r z=>by omega) λ_ _ _ _=>rfl)
end
section
variable {h g g1:zc} {pb n m c:Nat} {K:Value -> zc -> Prop} {M gl:Fr} {a1 a2 b1 b2:Sl}
theorem JR:ElemT Tp 74 29 (.slice Te 0 0) 1 24:=⟨by kernel_rfl,⟨Tryz.t29,by kernel_rfl,by kernel_rfl,by kernel_rfl,by kernel_rfl⟩,rfl,by omega⟩
def lY(n m c:Nat)(B:Nat->Nat):List Value:=(zaq n).map λi=>if i<c then aK ⟨Td ⟨B i,0,Te⟩,m,m⟩else .slice Te 0 0
structure MatP (h:zc) (pb:Nat) (B:Nat->Nat) (n m c:Nat) (P:Nat->Nat->Nat):Prop where
 top:Blk h pb (lY n m c B).toArray
 row:∀i,i<c->IntB h (B i) m (P i)
 inj:∀i j,i<c->j<c->B i=B j->i=j
 hb:∀i,i<c->pb<B i
theorem MatP.done{B:Nat->Nat}{P:Nat->Nat->Nat}(H:MatP h pb B n m n P):Mat h pb B n m P:= ⟨by have e:lY n m n B=Bo n m B:=zbx λi hi=>zA (zbn.1 hi);rw[<-e];exact H.top,H.row,H.inj,H.hb⟩
theorem MatP.keep{h h':zc}{B:Nat->Nat}{P:Nat->Nat->Nat}(H:MatP h pb B n m c P)(b:h'[pb]?=h[pb]?)(k:∀i,i<c->h'[B i]?=h[B i]?):MatP h' pb B n m c P:= ⟨H.top.keep b,λi hi=>(H.row i hi).keep (k i hi),H.inj,H.hb⟩
theorem YE{B:Nat->Nat}{P:Nat->Nat->Nat}(c:n<=1000000)(b:∀h',MatP h' h.size B n m 0 P->Keep h.size h h'->h'.size=h.size+1->K (aK ⟨Td ⟨h.size,0,Te⟩,n,n⟩) h'):
  qu Tp (zbp 74 (.int .i64 (n:Int)) (.int .i64 (n:Int))) h K:=by
 refine s3 JR rfl (by omega) c ?_;refine b _ ⟨?_,λi hi=>absurd hi (zc5 _),λi j hi=>absurd hi (zc5 _),λi hi=>absurd hi (zc5 _)⟩ (Keep.push _ _ (zac _)) (zaf _);have e:zcv n (zfm Te 0 0)=lY n m 0 B:=by apply zbd;intro i;by_cases hi:i<n <;> simp[lY,hi]
 rw[e];exact Blk.new _ _ _
theorem MatP.step{B:Nat->Nat}{P:Nat->Nat->Nat}(S:MatP g pb B n m c P)(u:c<n)(b:B c=g.size)(q:IntB g1 g.size m (P c))(k:Keep g.size g g1){K:zc->Prop} (t:∀g2,MatP g2 pb B n m (c+1) P->g2.size=g1.size->(∀j,j≠pb->g2[j]?=g1[j]?)->K g2):
  XRunU Tp (zag 29 (.pointer (Td ⟨pb,c,Te⟩)) (aK ⟨Td ⟨g.size,0,Te⟩,m,m⟩)) g1 K:=by
 have o:=S.top.lt;refine xu (by kernel_rfl) (by kernel_rfl) (S.top.keep (k.get _ o)) (by simp[lY,u]) rfl λg2 b2 r l=>t g2 ⟨?_,λi hi=>?_,λi j hi w e=>?_,λi hi=>?_⟩ r l;have e:(lY n m c B).toArray.setIfInBounds c (aK ⟨Td ⟨g.size,0,Te⟩,m,m⟩)=(lY n m (c+1) B).toArray:=by
  rw[<-b];apply ze4;intro i;rw[Array.getElem?_setIfInBounds];by_cases hi:i<n;by_cases e:c=i;subst e;simp[lY,hi];have:(i<c+1)=(i<c):=propext ⟨λh=>by omega,λh=>by omega⟩;simp[lY,hi,e,this];have:¬c=i:=by omega
  simp[lY,hi,this]
 rw[e]at b2;exact b2;by_cases e:i=c;subst e;rw[b];exact q.keep (l _ (by omega));have h1:=(S.row i (by omega)).lt;have f:=S.hb i (by omega);exact(S.row i (by omega)).keep ((l _ (by omega)).trans (k.get _ h1));by_cases h1:i=c;by_cases f:j=c;omega;have:=(S.row j (by omega)).lt;rw[h1,b]at e;omega;by_cases f:j=c;have:=(S.row i (by omega)).lt;rw[f,b]at e;omega;exact S.inj i j (by omega) (by omega) e;by_cases h1:i=c;rw[h1,b];exact o;exact S.hb i (by omega)
structure RkS (h2:zc) (M Mb:Fr) (a1 a2 b1 b2:Sl) (pb rb:Nat) (Bf:Nat->Nat) (n m:Nat) (P:Nat->Nat->Nat) (g:zc) (M':Fr):Prop where
 later:Later h2 M g M'
 le:Fr.le Mb M'
 mat:Mat g pb Bf n m P
 box:Blk g rb #[aK a1,aK a2,aK b1,aK b2,aK ⟨Td ⟨pb,0,Te⟩,n,n⟩]
 nf:∀k,k<n->M' (Bf k)=Te
 hp:∀i j,i<n->j<m->P i j<=100000
theorem RkS.call{h:zc}{M l:Fr}{pb rb:Nat}{Bf:Nat->Nat}{P:Nat->Nat->Nat}{M':Fr}(S:RkS h M l a1 a2 b1 b2 pb rb Bf n m P g M'){j:Fr}(L:Later g M' g1 j):RkS h M l a1 a2 b1 b2 pb rb Bf n m P g1 j:= ⟨S.later.trans L,λb c e=>L.le _ _ (S.le _ _ e),S.mat.keep (L.keep.get _ S.mat.top.lt) λi hi=>L.keep.get _ (S.mat.row i hi).lt,S.box.keep (L.keep.get _ S.box.lt),λk f=>by rw[L.old _ (S.mat.row k f).lt];exact S.nf k f,S.hp⟩
theorem yM{α β:Type}{l:List α}(h:c<l.length)(f:β->α->β)(z:β):(l.take (c+1)).foldl f z=f ((l.take c).foldl f z) l[c]:=by rw[List.take_add_one,zai h,List.foldl_append];rfl
theorem Fa{L:List Int}(h:c<(Xc L).length):dK ((Xc L).map λi:Nat=>(i:Int)) c=(((Xc L)[c]:Nat):Int):=by unfold dK;rw[zar,zcc,zai h];rfl
theorem OB{la lb:Nat->Nat}{tn P:Nat->Nat->Nat}{n m f e:Nat}(k:Rt la n)(rb:Rt lb m)(b:f<n)(c:e<m)(q:n<=512)(r:m<=512)(o:∀i j,i<n->j<m->P i j<=100000):∀i j,i<n->j<m->o8 la lb tn P f e i j<=100000:=λi j hi l=>by unfold o8;split;rename_i h;exact zch (vp _ _ _ (zac _) ((k.frs b).less (by omega)) ((rb.frs c).less (by omega))) (by omega);exact o i j hi l
set_option maxRecDepth 100000 in
set_option maxHeartbeats 4000000 in
theorem Sc{s t:iy}(hM:Fr.le gl M)(ag:AgM M h)(r1:Rd M (.row .str) s.1 [aK a1])(r2:Rd M (.row PJ) s.2 [aK a2])(r3:Rd M (.row .str) t.1 [aK b1])(r4:Rd M (.row PJ) t.2 [aK b2]) (ak:(qd s&&qd t)=Tc->∀g M',Later h M g M'->K (.tuple #[.pointer Te,.bool Tc]) g) (T:qd s=Ta->qd t=Ta->∀g M' pb rb Bf,Later h M g M'->RkS g M' M a1 a2 b1 b2 pb rb Bf s.2.length t.2.length (tv s t) g M'->h.size<=pb->h.size<=rb->(∀k,k<s.2.length->h.size<=Bf k/\rb≠Bf k)->K (.tuple #[.pointer (Td ⟨rb,0,Te⟩),.bool Ta]) g):
  XC Tp 349 #[.agg #[aK a1,aK a2],.agg #[aK b1,aK b2]] h K:=by
 apply K1 a1 a2 b1 b2;intro h1 D;have z1:h1.size=h.size+1:=zaf _;have z2:D.size=h1.size+1:=zaf _;have L1:Later h M h1 M:=Later.push ag _;have L2:Later h1 M D M:=Later.push L1.ag _;have B1:Blk h1 h.size #[aK a1,aK a2]:=Blk.new _ _ _;have B1:Blk D h.size #[aK a1,aK a2]:=B1.keep (L2.keep.get _ (by omega));have B2:Blk D h1.size #[aK b1,aK b2]:=Blk.new _ _ _;have J:=L1.trans L2;clear_value h1 D;refine⟨a1,a2,B1.ld (cs:=[aK a1,aK a2]),?_⟩;refine(vP (gl:=gl) (t:=s) (R:=λr=>r=qd s) rfl).go (vs:=[.agg #[aK a1,aK a2]]) hM J.ag (zr (a:=Arg.mk (.pair (.row .str) (.row PJ)) s) (mI r1 r2) qj) λw h5 M5 r S l hr=>?_;subst hr;have z5:=S.keep.size;have aI:=B2.keep (S.keep.get _ (by omega));refine⟨_,Xh l,b1,b2,λ_=>aI.ld (cs:=[aK b1,aK b2]),λv g=>∃M',Later h5 M5 g M'/\(qd s=Ta->v=.bool (qd t)),λn=>?_,λn=>⟨Tc,M5,Later.refl S.ag,λe=>by rw[e]at n;cases n⟩,λn v g ⟨M',_,e⟩=>⟨_,e (by simpa using n)⟩,?_⟩;refine(vP (gl:=gl) (t:=t) (R:=λr=>r=qd t) rfl).go (vs:=[.agg #[aK b1,aK b2]]) (hM.trans (J.trans S).le) S.ag (zr (a:=Arg.mk (.pair (.row .str) (.row PJ)) t) (mI (r3.mono (J.trans S).le) (r4.mono (J.trans S).le)) qj) λw h6 M6 r L6 l hr=>?_;subst hr;exact⟨_,Xh l,M6,L6,λ_=>rfl⟩;rintro x17 g1 ⟨M6,L6,an⟩;have E:=S.trans L6;have am:=J.trans E;refine⟨λO=>?_,λO=>?_⟩;refine ak ?_ g1 M6 am;rcases WY.1 O with e|e;have:qd s=Tc:=by simpa using e
 rw[this];rfl;cases Q:qd s with
 |false=>rfl
 |true=>
  have h1:x17=qd t:=by have:=an Q;simpa using this
  have D:x17=Tc:=by simpa using e
  rw[<-h1,D];rfl
 obtain⟨e1,e2⟩:=Kh.1 O;have Q:qd s=Ta:=by simpa using e1
 have ht:qd t=Ta:=by
  have h1:x17=qd t:=by have:=an Q;simpa using this
  rw[<-h1];simpa using e2
 obtain⟨ls,aO,os⟩:=jy Q;obtain⟨lt,aV,ot⟩:=jy ht;obtain⟨q1,_,_⟩:=rowLen r1;obtain⟨q3,_,_⟩:=rowLen r3;have ra:=py os;have N:=py ot;have U:=B1.keep (E.keep.get _ (by omega));have aj:=B2.keep (E.keep.get _ (by omega));have ar:=E.keep.size;refine⟨a1,a2,U.ld (cs:=[aK a1,aK a2]),b1,b2,aj.ld (cs:=[aK b1,aK b2]),a1,U.cellAdd (o:=0) (k:=0) rfl,rfl,rfl,?_⟩;rw[show a1.len=s.2.length by omega];refine YE (B:=λi=>g1.size+2+i) (m:=t.2.length) (P:=λ_ _=>0) (by omega) λg2 P2 k2 aL=>⟨⟨Td ⟨g1.size,0,Te⟩,s.2.length,s.2.length⟩,rfl,k2.get _ (show h1.size<g1.size by omega),k2.get _ (show h.size<g1.size by omega),?_⟩;intro g3;have k3:Keep g2.size g2 g3:=Keep.push _ _ (zac _);have z3:g3.size=g2.size+1:=zaf _;have B3:Blk g3 g2.size #[aK a1,aK a2,aK b1,aK b2,aK ⟨Td ⟨g1.size,0,Te⟩,s.2.length,s.2.length⟩]:=by
  first
  |exact Blk.new _ _ _
  |rw[show a1=(⟨a1.a,s.2.length,a1.cap⟩:Sl)by rw[<-show a1.len=s.2.length by omega]];exact Blk.new _ _ _
 have P3:MatP g3 g1.size (λi=>g1.size+2+i) s.2.length t.2.length 0 (λ_ _=>0):=P2.keep (k3.get _ (by omega)) λi hi=>absurd hi (zc5 _);have aD:Keep g1.size g1 g3:=k2.trans k3 (by omega);clear_value g3;refine⟨_,rfl,_,B3.cellAdd (o:=0) (k:=4) rfl,λi g=>∃c:Nat,i=(c:Int)/\c<=s.2.length/\MatP g g1.size (λi=>g1.size+2+i) s.2.length t.2.length c (λ_ _=>0)/\Blk g g2.size #[aK a1,aK a2,aK b1,aK b2,aK ⟨Td ⟨g1.size,0,Te⟩,s.2.length,s.2.length⟩]/\Keep g1.size g1 g/\g.size=g1.size+2+c,λi _=>s.2.length-i.toNat,⟨0,rfl,za0 _,P3,B3,aD,by omega⟩,?_⟩;rintro i g ⟨c,rfl,O,P4,B4,k4,z4⟩;refine⟨λn=>?_,λn=>?_⟩;have n:c<s.2.length:=by have h5:(c:Int)<(s.2.length:Int):=m8 n;omega
 have au:=aj.keep (k4.get _ (by omega));refine⟨_,rfl,_,B4.cellAdd (o:=0) (k:=4) rfl,b1,au.cellAdd (o:=0) (k:=0) rfl,rfl,?_⟩;rw[show b1.len=t.2.length by omega];refine AK (oq:ElemT _ _ _ _ 1 8) (by omega) λg5 _ I5 k5 z5=>⟨_,rfl,_,⟨rfl,by omega,by show(c:Int)<(s.2.length:Int);omega⟩,k5.get _ (by have:=B4.lt;exact this),?_⟩;rw[ic,zae,zas,zbm];refine P4.step n (by omega) I5 k5 λg6 P6 z6 f6=>⟨⟨c+1,by rw[zx (by omega)],n,P6,B4.keep ((f6 _ (by omega)).trans (k5.get _ B4.lt)),⟨by omega,λj hj=>?_⟩,by omega⟩,by rw[zx (by omega)];simp only[zae];omega⟩;rw[f6 j (by omega),k5.get j (by omega)];exact k4.get j hj;have ax:c=s.2.length:=by have h5:¬(c:Int)<(s.2.length:Int):=mO n;omega
 subst ax;have Lg:Later g1 M6 g M6:=Later.same L6.ag k4;have Mt:=P4.done;have aG:=U.keep (k4.get _ (by omega));refine⟨a1,a2,aG.ld (cs:=[aK a1,aK a2]),?_⟩;have Z:=(am.trans Lg).le;refine(GK (gl:=gl) (t:=s) (R:=λr=>r=(Xc s.2).map λi:Nat=>(i:Int)) (by rw[Q,zA rfl])).go (vs:=[.agg #[aK a1,aK a2]]) (hM.trans Z) Lg.ag (zr (a:=Arg.mk (.pair (.row .str) (.row PJ)) s) (mI (r1.mono Z) (r2.mono Z)) qj) λw h7 M7 r L7 l hr=>?_;subst hr;obtain⟨aC,rfl,ah⟩:=Xq (Y1.1 l);obtain⟨aB,_,_⟩:=rowLen ah;rw[zap]at aB;have aF:∀k,k<s.2.length->M6 (g1.size+2+k)=Te:=λk I=>L6.ag.none (by omega);have S7:RkS D M M7 a1 a2 b1 b2 g1.size g2.size (λi=>g1.size+2+i) s.2.length t.2.length (λ_ _=>0) h7 M7:=⟨(E.trans Lg).trans L7,Fr.le.refl _,Mt.keep (L7.keep.get _ (by omega)) λi hi=>L7.keep.get _ (by show g1.size+2+i<g.size;omega),B4.keep (L7.keep.get _ B4.lt),λk I=>by show M7 (g1.size+2+k)=Te;rw[L7.old _ (by omega)];exact aF k I,λ_ _ _ _=>za0 _⟩;have ae:∀(L:List Int) c,(O:c<(Xc L).length)->(Xc L)[c]<L.length:=λL c O=>(Cb.1 (zak O)).1;have kl:∀L:List Int,(Xc L).length<=L.length:=λL=>by unfold Xc;exact zch (List.length_filter_le _ _) (by simp)
 have aT:=kl s.2;have aU:=kl t.2;refine⟨aC,rfl,λi g=>∃(c:Nat) (M':Fr),i=(c:Int)/\c<=(Xc s.2).length/\RkS D M M7 a1 a2 b1 b2 g1.size g2.size (λi=>g1.size+2+i) s.2.length t.2.length (qT (bK s) (bK t) (fK s t) (Xc t.2) (λ_ _=>0) ((Xc s.2).take c)) g M',λi _=>(Xc s.2).length-i.toNat,⟨0,M7,rfl,za0 _,S7⟩,?_⟩;rintro i g' ⟨c,M8,rfl,O,C⟩;refine⟨λn=>?_,λn=>?_⟩;have n:c<(Xc s.2).length:=by have:=m8 n;omega
 obtain⟨q,V⟩:∃k,k=(Xc s.2)[c]:=⟨_,rfl⟩;have x:q<s.2.length:=by rw[V];exact ae _ _ n
 refine oJ C.later.ag (ah.mono C.le) rfl (by rw[zap];exact n) ?_;rw[Fa n,<-V];have af:=B2.keep (C.later.keep.get _ (by omega));refine⟨b1,b2,af.ld (cs:=[aK b1,aK b2]),?_⟩;have ac:=J.le.trans C.later.le;refine(GK (gl:=gl) (t:=t) (R:=λr=>r=(Xc t.2).map λi:Nat=>(i:Int)) (by rw[ht,zA rfl])).go (vs:=[.agg #[aK b1,aK b2]]) (hM.trans ac) C.later.ag (zr (a:=Arg.mk (.pair (.row .str) (.row PJ)) t) (mI (r3.mono ac) (r4.mono ac)) qj) λw h9 M9 r L9 l hr=>?_;subst hr;obtain⟨aJ,rfl,ai⟩:=Xq (Y1.1 l);obtain⟨az,_,_⟩:=rowLen ai;rw[zap]at az;have S9:=C.call L9;obtain⟨P9,Y⟩:∃P,P=qT (bK s) (bK t) (fK s t) (Xc t.2) (λ_ _=>0) ((Xc s.2).take c):=⟨_,rfl⟩;rw[<-Y]at S9;have aE:RkS D M M9 a1 a2 b1 b2 g1.size g2.size (λi=>g1.size+2+i) s.2.length t.2.length P9 h9 M9:=⟨S9.later,Fr.le.refl _,S9.mat,S9.box,S9.nf,S9.hp⟩;refine⟨aJ,rfl,λj g=>∃(d:Nat) (M':Fr),j=(d:Int)/\d<=(Xc t.2).length/\RkS D M M9 a1 a2 b1 b2 g1.size g2.size (λi=>g1.size+2+i) s.2.length t.2.length (((Xc t.2).take d).foldl (λP z=>o8 (bK s) (bK t) (fK s t) P q z) P9) g M',λj _=>(Xc t.2).length-j.toNat,⟨0,M9,rfl,za0 _,aE⟩,?_⟩;rintro j g'' ⟨d,aa,rfl,hd,f⟩;refine⟨λG=>?_,λG=>?_⟩;have G:d<(Xc t.2).length:=by have:=m8 G;omega
 obtain⟨z,H⟩:∃k,k=(Xc t.2)[d]:=⟨_,rfl⟩;have y:z<t.2.length:=by rw[H];exact ae _ _ G
 have u:=J.le.trans f.later.le;refine oJ f.later.ag (ai.mono f.le) rfl (by rw[zap];exact G) ?_;rw[Fa G,<-H];have al:=B1.keep (f.later.keep.get _ (by omega));have ab:=B2.keep (f.later.keep.get _ (by omega));refine⟨a2,al.cellAdd (o:=0) (k:=1) rfl,oJ f.later.ag (r2.mono u) rfl x ⟨b2,ab.cellAdd (o:=0) (k:=1) rfl,oJ f.later.ag (r4.mono u) rfl y ?_⟩⟩;rw[uS Q x,uS ht y,zx (by omega),zx (by omega)];have aS:=(ra q x).1;have aY:=(N z y).1;have Tw:TwoT aa s t a1 a2 b1 b2:=⟨r1.mono u,r2.mono u,r3.mono u,r4.mono u,Q,ht⟩;refine E8 f.later.ag Tw f.box (λk I=>by show g2.size≠g1.size+2+k;omega) f.nf f.mat rfl rfl f.hp (fa:=bK s q) (A:=q+1-bK s q) (fb:=bK t z) (B:=z+1-bK t z) (by omega) (by omega) (by omega) (by omega) (ra.frs x) (N.frs y) λay F=>⟨_,rfl,?_⟩;have aM:D.size<=g1.size:=ar;have aQ:∀k,k<s.2.length->g1.size+2+k<g''.size:=λk I=>(f.mat.row k I).lt;have F':∀i,i<g1.size+2->ay[i]?=g''[i]?:=λi hi=>F.fr i (by have:=f.box.lt;have:=f.mat.top.lt;omega) λk I=>by show i≠g1.size+2+k;omega
 rw[zx (by omega)];refine⟨⟨d+1,aa,rfl,G,⟨⟨?_,f.later.le,f.later.old,?_⟩,f.le,?_,f.box.keep (F' _ (by omega)),f.nf,?_⟩⟩,by simp only[zae];omega⟩;refine⟨by have:=f.later.keep.size;have:=F.sz;omega,λj hj=>?_⟩;rw[F' j (by omega)];exact f.later.keep.get j hj;exact AgM.off f.later.ag λb cc e=>F.fr b (f.later.ag.lt e) λk I he=>by have:=f.nf k I;rw[<-he,e]at this;cases this
 rw[yM G,<-H];refine F.mat.ext λi j hi hj=>?_;have aN:=(ra i hi).1;have aP:=(N j hj).1;unfold jK o8;have:((bK s i=bK s q/\bK t j=bK t z)/\(bK s q<=i/\i<bK s q+(q+1-bK s q)/\bK t z<=j/\j<bK t z+(z+1-bK t z))/\(i<bK s q+(q+1-bK s q)\/(i=bK s q+(q+1-bK s q)/\j<bK t z)))↔(bK s i=bK s q/\bK t j=bK t z/\i<=q/\j<=z):=by omega
 simp only[this];rw[yM G,<-H];exact OB ra N x y (by omega) (by omega) f.hp;have aA:d=(Xc t.2).length:=by have:=mO G;omega
 subst aA;rw[zx (by omega)];have e:((Xc t.2).take (Xc t.2).length).foldl (λP z=>o8 (bK s) (bK t) (fK s t) P q z) P9=qT (bK s) (bK t) (fK s t) (Xc t.2) (λ_ _=>0) ((Xc s.2).take (c+1)):=by rw[zba];unfold qT at Y ⊢;rw[yM n,<-V,<-Y]
 rw[e]at f;exact⟨⟨c+1,aa,rfl,n,⟨f.later,λb cc he=>f.le _ _ (L9.le _ _ (C.le _ _ he)),f.mat,f.box,f.nf,f.hp⟩⟩,by simp only[zae];omega⟩;have aH:c=(Xc s.2).length:=by have:=mO n;omega
 subst aH;rw[zba]at C;refine T Q ht g' M8 g1.size g2.size (λi=>g1.size+2+i) (J.trans C.later) ⟨Later.refl C.later.ag,(J.trans C.later).le,C.mat,C.box,C.nf,C.hp⟩ (by omega) (by omega) λk I=>⟨by show h.size<=g1.size+2+k;omega,by show g2.size≠g1.size+2+k;omega⟩
set_option maxRecDepth 100000 in
theorem Pe{s t:iy}{R:Int×Int->Prop}(f:R (u0 1 s t)):PC Tp gl 296 [Arg.mk (.pair (.row .str) (.row PJ)) s,Arg.mk (.pair (.row .str) (.row PJ)) t] [.int .i64,.int .i64] R:=by
 intro h M vs P ag ha
 match vs,ha with
 |[u,v],⟨hu,hv,_⟩=>
  obtain⟨a1,a2,rfl,r,H⟩:=se (show RdV M (.pair (.row .str) (.row PJ)) s u from hu);obtain⟨b1,b2,rfl,q,G⟩:=se (show RdV M (.pair (.row .str) (.row PJ)) t v from hv);apply PX.of;apply Oo a1 a2 b1 b2;intro h1 i;have z1:h1.size=h.size+1:=zaf _;have z2:i.size=h1.size+1:=zaf _;have I:Later h M h1 M:=Later.push ag _;have J:Later h1 M i M:=Later.push I.ag _;have n:Blk h1 h.size #[aK a1,aK a2]:=Blk.new _ _ _;have n:Blk i h.size #[aK a1,aK a2]:=n.keep (J.keep.get _ (by omega));have N:Blk i h1.size #[aK b1,aK b2]:=Blk.new _ _ _;have c:=I.trans J;clear_value h1 i;have ret:∀(M':Fr) (x y:Int),J4 M' [.int .i64,.int .i64] (x,y) (.tuple #[.int .i64 x,.int .i64 y]):=λM' x y=>⟨[_,_],⟨_,_,rfl,Ja .i64 x,_,rfl,Ja .i64 y⟩,rfl⟩;refine⟨a1,a2,n.ld (cs:=[aK a1,aK a2]),b1,b2,N.ld (cs:=[aK b1,aK b2]),?_⟩;refine Sc P c.ag r H q G (λe g M' L=>⟨Te,Tc,rfl,λ_=>⟨M',_,c.trans L,ret M' 0 1,?_⟩,λh=>by cases h⟩) λE z g M' pb rb Bf L S hp V m=>⟨_,Ta,rfl,λh=>(by cases h),λ_=>?_⟩;unfold u0 at f;rw[e]at f;exact f;obtain⟨ls,O,os⟩:=jy E;obtain⟨lt,U,ot⟩:=jy z;obtain⟨q1,_,_⟩:=rowLen r;obtain⟨q3,_,_⟩:=rowLen q;have Q:=py os;have C:=py ot;have M0:=(c.trans L).le;have D:=n.keep (L.keep.get _ (by omega));have w:=N.keep (L.keep.get _ (by omega));refine⟨a1,D.cellAdd (o:=0) (k:=0) rfl,b1,w.cellAdd (o:=0) (k:=0) rfl,?_⟩;have T:TwoT M' s t a1 a2 b1 b2:=⟨r.mono M0,H.mono M0,q.mono M0,G.mono M0,E,z⟩;refine E8 S.later.ag T S.box (λk l=>(m k l).2) S.nf S.mat rfl rfl S.hp (fa:=0) (A:=s.2.length) (fb:=0) (B:=t.2.length) (by omega) (by omega) (by omega) (by omega) (G9 Q) (G9 C) λg3 F=>⟨_,rfl,?_⟩;refine F.at (x:=s.2.length) (y:=t.2.length) (by omega) (by omega) (by rw[wrap64 (by omega) (by omega)];omega) (by rw[wrap64 (by omega) (by omega)];omega) (zac _) (zac _) ⟨_,rfl,_,rfl,_,F.get (zac _) (zac _) trivial,M',_,?_,ret M' _ 0,?_⟩;refine⟨⟨by have:=(c.trans L).keep.size;have:=F.sz;omega,λj Z=>?_⟩,M0,(c.trans L).old,?_⟩;have Y:=L.keep.size;rw[F.fr j (by omega) λk l=>by have:=(m k l).1;omega];exact(c.trans L).keep.get j Z;exact AgM.off S.later.ag λb cc e=>F.fr b (S.later.ag.lt e) λk l he=>by have:=S.nf k l;rw[<-he,e]at this;cases this
  unfold u0 at f;rw[E,z]at f;exact f
end
end
section
theorem KF(b:Int)(c:Bt)(d:Sl)(e:Sl)(f:Int)(g:Bt)(i:Sl)(j:Sl)(h:zc)(R:Value->zc->Prop) (H:let k:=h.push (.cells #[iV b,.string c,aK d,aK e] 25);let l:=k.push (.cells #[iV f,.string g,aK i,aK j] 25);∃m n o p,ze l ⟨h.size,0,Te⟩ 0 (tL m n o p)/\XC Tp 49 #[tA m n o p] l (λq r=>∃s,q=.bool s/\∃t u v w,((!(!s))=Ta->ze r ⟨k.size,0,Te⟩ 0 (tL t u v w))/\∃x:Value->zc->Prop,((!(!s))=Ta->XC Tp 49 #[tA t u v w] r (λy z=>∃A,y=.bool A/\x (.bool A) z))/\((!(!s))=Tc->∃B,x (.bool B) r)/\((!(!s))=Ta->∀C D,x C D->∃E,C=.bool E)/\∀F:Bool,∀G,x (.bool F) G->((bif (!s)then Ta else(!F))=Ta->R (.tuple #[.slice Te 0 0,iV 1]) G)/\((bif (!s)then Ta else(!F))=Tc->let I:=G.push (.cells #[.slice Te 0 0] 82);∃J L M N,ze I ⟨h.size,0,Te⟩ 0 (tL J L M N)/\∃O P Q S,ze I ⟨k.size,0,Te⟩ 0 (tL O P Q S)/\XC Tp 65 #[.pointer (Td ⟨G.size,0,Te⟩),.slice Te 0 0,tA J L M N,tA O P Q S] I (λT U=>T=.tuple #[]/\∃V,zd U (zab ⟨G.size,0,Te⟩ 0)=Td (aK V)/\R (.tuple #[aK V,iV 0]) U)))):
  XC Tp 33 #[.agg #[.int .i64 b,.string c,.slice d.a d.len d.cap,.slice e.a e.len e.cap],.agg #[.int .i64 f,.string g,.slice i.a i.len i.cap,.slice j.a j.len j.cap]] h R:=
 XF ⟨[],[],[]⟩ [.tmp 4,.tmp 5] 20 Tryz.func33 H
theorem Sg(V:Sl)(h:zc)(R:Value->zc->Prop) (H:let b:=h.push (.cells #[.pointer Te,.slice Te 0 0] 89);∃(c:Int->zc->Prop) (d:Int->zc->Nat),c 0 b/\∀e:Int,∀f:zc,c e f->((decide (e<V.len)=Ta->∃g,(V.a=Td g/\0<=e/\e<V.len)/\∃i j k l m n o,ze f (g.add (e.toNat*7)) 0 [.string i,aK j,aK k,iV l,.string m,aK n,aK o]/\let p:=f.push (.cells #[.string (⟨#[]⟩:Bt),.slice Te 0 0,.slice Te 0 0,iV 0,.string (⟨#[]⟩:Bt),.slice Te 0 0,.slice Te 0 0] 50);XRunU Tp (zag 50 (.pointer (Td ⟨f.size,0,Te⟩)) (.agg #[.string i,aK j,aK k,iV l,.string m,aK n,aK o])) p (λq=>∃r s t u v w x,ze q ⟨f.size,0,Te⟩ 0 [.string r,aK s,aK t,iV u,.string v,aK w,aK x]/\XC Tp 44 #[.agg #[.string r,aK s,aK t,iV u,.string v,aK w,aK x]] q (λy z=>∃A,y=.bool A/\((!A)=Ta->R (.tuple #[.string (⟨#[]⟩:Bt),iV 1]) z)/\((!A)=Tc->∃B C D E F G I,ze z ⟨f.size,0,Te⟩ 0 [.string B,aK C,aK D,iV E,.string F,aK G,aK I]/\XC Tp 69 #[.agg #[.string B,aK C,aK D,iV E,.string F,aK G,aK I]] z (λJ L=>∃M,J=.string M/\XC Tp 68 #[.pointer (Td ⟨h.size,0,Te⟩),.string M] L (λN O=>∃P,∃Q:Value,N=.tuple #[iV P,Q]/\(c (w6 (e+1)) O/\d (w6 (e+1)) O<d e f)))))))/\(decide (e<V.len)=Tc->XC Tp 70 #[.pointer (Td ⟨h.size,0,Te⟩)] f (λS T=>∃U,S=.string U/\R (.tuple #[.string U,iV 0]) T)))):
  XC Tp 38 #[.slice V.a V.len V.cap] h R:=
 XF ⟨[],[(3,[(9,.one (.int .i64))])],[]⟩ [.tmp 2,.tmp 3] 21 Tryz.func38 H
theorem MX(d0:Option Addr)(ax:Sl)(b:Int)(c:Bt)(d:Sl)(e:Sl)(f:Int)(g:Bt)(i:Sl)(j:Sl)(h:zc)(R:Value->zc->Prop) (H:let k:=h.push (.cells #[iV b,.string c,aK d,aK e] 25);let l:=k.push (.cells #[iV f,.string g,aK i,aK j] 25);∀m:zc->Prop,(∀n:zc,(∃o p q r,ze n ⟨k.size,0,Te⟩ 0 (tL o p q r)/\XC Tp 90 #[tA o p q r] n (λs t=>∃u v w x,s=tA u v w x/\XC Tp 118 #[.pointer d0,.string (⟨#[114,101,112,108,97,99,101]⟩:Bt),tA u v w x,aK ax] t (λy z=>y=.tuple #[]/\R (.tuple #[]) z)))->m n)->∃A B C D,ze l ⟨h.size,0,Te⟩ 0 (tL A B C D)/\∃E F G I,ze l ⟨k.size,0,Te⟩ 0 (tL E F G I)/\XC Tp 46 #[tA A B C D,tA E F G I] l (λJ L=>∃M,J=.bool M/\(M=Ta->R (.tuple #[]) L)/\(M=Tc->∃N,zd L (zab ⟨h.size,0,Te⟩ 0)=Td (iV N)/\∃O,((N==6)=Ta->zd L (zab ⟨k.size,0,Te⟩ 0)=Td (iV O))/\((bif (N==6)then(O==6)else Tc)=Ta->∃P Q S T,ze L ⟨h.size,0,Te⟩ 0 (tL P Q S T)/\∃U V W X,ze L ⟨k.size,0,Te⟩ 0 (tL U V W X)/\XC Tp 115 #[.pointer d0,aK ax,tA P Q S T,tA U V W X] L (λY Z=>Y=.tuple #[]/\R (.tuple #[]) Z))/\((bif (N==6)then(O==6)else Tc)=Tc->∃aa,zd L (zab ⟨h.size,0,Te⟩ 0)=Td (iV aa)/\∃ab,((aa==5)=Ta->zd L (zab ⟨k.size,0,Te⟩ 0)=Td (iV ab))/\((bif (aa==5)then(ab==5)else Tc)=Ta->∃ac,zd L (zab ⟨h.size,0,Te⟩ 3)=Td (aK ac)/\∃ad,zd L (zab ⟨k.size,0,Te⟩ 3)=Td (aK ad)/\XC Tp 116 #[aK ac,aK ad] L (λae af=>∃ag ah ai,ae=.tuple #[aK ag,iV ah,iV ai]/\((ai==0)=Ta->∃aj ak al am,ze af ⟨h.size,0,Te⟩ 0 (tL aj ak al am)/\∃an ao ap aq,ze af ⟨k.size,0,Te⟩ 0 (tL an ao ap aq)/\XC Tp 117 #[.pointer d0,aK ax,tA aj ak al am,tA an ao ap aq,aK ag] af (λar au=>ar=.tuple #[]/\R (.tuple #[]) au))/\((ai==0)=Tc->m af)))/\((bif (aa==5)then(ab==5)else Tc)=Tc->m L))))):
  XC Tp 65 #[.pointer d0,.slice ax.a ax.len ax.cap,.agg #[.int .i64 b,.string c,.slice d.a d.len d.cap,.slice e.a e.len e.cap],.agg #[.int .i64 f,.string g,.slice i.a i.len i.cap,.slice j.a j.len j.cap]] h R:=
 XF ⟨[],[],[(8,[])]⟩ [] 60 Tryz.func65 H
theorem SJ(b:Bt)(c:Sl)(d:Sl)(e:Int)(f:Bt)(g:Sl)(i:Sl)(h:zc)(R:Value->zc->Prop) (H:let j:=h.push (.cells #[.string b,aK c,aK d,iV e,.string f,aK g,aK i] 50);∃k,zd j (zab ⟨h.size,0,Te⟩ 0)=Td (.string k)/\∃l,zd j (zab ⟨h.size,0,Te⟩ 1)=Td (aK l)/\zo Tp 124=Ta/\XC Tp 124 #[aK l] j (λm n=>∃o,m=.string o/\hZ n j (zab ⟨h.size,0,Te⟩ 0)/\let p:=n.push (.cells #[.string k,.string o] 9);∀q:Sl->zc->Prop,(∀r:Sl,∀s:zc,(XC Tp 127 #[aK r,.string (⟨#[32]⟩:Bt)] s (λt u=>∃v,t=.string v/\j6 (v.size+((⟨#[10]⟩:Bt)).size)/\R (.string (v++(⟨#[10]⟩:Bt))) u))->q r s)->∃w,zd p (zab ⟨h.size,0,Te⟩ 0)=Td (.string w)/\∀x:Bool->zc->Prop,(∀y:Bool,∀z:zc,((y=Ta->∃A,zd z (zab ⟨h.size,0,Te⟩ 2)=Td (aK A)/\zo Tp 124=Ta/\XC Tp 124 #[aK A] z (λB C=>∃D,B=.string D/\let E:=C.push (.cells #[.string D] 9);qu Tp (zao #[22,22] 22 #[.slice (Td ⟨n.size,0,Te⟩) 2 2,.slice (Td ⟨C.size,0,Te⟩) 1 1]) E (λF G=>∃I,F=aK I/\q I G)))/\(y=Tc->∀J:Bool->zc->Prop,(∀L:Bool,∀M:zc,((L=Ta->∃N O P Q,ze M (zab ⟨h.size,0,Te⟩ 3) 0 (tL N O P Q)/\XC Tp 126 #[tA N O P Q] M (λS T=>∃U V,S=.tuple #[.string U,iV V]/\let W:=T.push (.cells #[.string U] 9);qu Tp (zao #[22,22] 22 #[.slice (Td ⟨n.size,0,Te⟩) 2 2,.slice (Td ⟨T.size,0,Te⟩) 1 1]) W (λX Y=>∃Z,X=aK Z/\q Z Y)))/\(L=Tc->q (⟨Td ⟨n.size,0,Te⟩,2,2⟩:Sl) M))->J L M)->((w.toList==(⟨#[97,100,100]⟩:Bt).toList)=Ta->J (w.toList==(⟨#[97,100,100]⟩:Bt).toList) z)/\((w.toList==(⟨#[97,100,100]⟩:Bt).toList)=Tc->((w.toList==(⟨#[114,101,112,108,97,99,101]⟩:Bt).toList)=Ta->J (w.toList==(⟨#[114,101,112,108,97,99,101]⟩:Bt).toList) z)/\((w.toList==(⟨#[114,101,112,108,97,99,101]⟩:Bt).toList)=Tc->J (w.toList==(⟨#[116,101,115,116]⟩:Bt).toList) z))))->x y z)->((w.toList==(⟨#[109,111,118,101]⟩:Bt).toList)=Ta->x (w.toList==(⟨#[109,111,118,101]⟩:Bt).toList) p)/\((w.toList==(⟨#[109,111,118,101]⟩:Bt).toList)=Tc->x (w.toList==(⟨#[99,111,112,121]⟩:Bt).toList) p))):
  XC Tp 69 #[.agg #[.string b,.slice c.a c.len c.cap,.slice d.a d.len d.cap,.int .i64 e,.string f,.slice g.a g.len g.cap,.slice i.a i.len i.cap]] h R:=
 XF ⟨[(2,8000)],[],[(12,[(4,.one (.sl))]),(6,[(16,.one (.bool))]),(10,[(26,.one (.bool))])]⟩ [.tmp 2] 43 Tryz.func69 H
theorem Xy(d0:Option Addr)(bu:Sl)(b:Int)(c:Bt)(d:Sl)(e:Sl)(f:Int)(g:Bt)(i:Sl)(j:Sl)(h:zc)(R:Value->zc->Prop) (H:let k:=h.push (.cells #[iV b,.string c,aK d,aK e] 25);let l:=k.push (.cells #[iV f,.string g,aK i,aK j] 25);∃m n o p,ze l ⟨h.size,0,Te⟩ 0 (tL m n o p)/\∃q r s t,ze l ⟨k.size,0,Te⟩ 0 (tL q r s t)/\XC Tp 179 #[tA m n o p] l (λu v=>∃w:Option Nat,u=.map w/\hZ v l ⟨k.size,0,Te⟩/\XC Tp 179 #[tA q r s t] v (λx y=>∃z:Option Nat,x=.map z/\∃A,zd y (zab ⟨h.size,0,Te⟩ 2)=Td (aK A)/\∃B,zd y (zab ⟨k.size,0,Te⟩ 2)=Td (aK B)/\XC Tp 180 #[aK A] y (λC D=>∃E:Value,C=E/\hZ D y (zab ⟨k.size,0,Te⟩ 2)/\XC Tp 161 #[E] D (λF G=>∃I,F=aK I/\hZ G y (zab ⟨k.size,0,Te⟩ 2)/\XC Tp 180 #[aK B] G (λJ L=>∃M:Value,J=M/\XC Tp 161 #[M] L (λN O=>∃P,N=aK P/\∃(Q:Int->zc->Prop) (S:Int->zc->Nat),Q 0 O/\∀T:Int,∀U:zc,Q T U->((decide (T<I.len)=Ta->∃V,(I.a=Td V/\0<=T/\T<I.len)/\∃W,zd U (V.add (T.toNat*1))=Td (.string W)/\∃X Y Z aa ab,QExec Tp (zc1 144 (.map z) (.string W) Ta) U (.tuple #[tA X Y Z aa,.bool ab])/\let ac:=U.push (.cells tC 25);XRunU Tp (zag 25 (.pointer (Td ⟨U.size,0,Te⟩)) (tA X Y Z aa)) ac (λad=>((!ab)=Ta->XC Tp 181 #[aK bu,.string W] ad (λae af=>∃ag,ae=aK ag/\XC Tp 118 #[.pointer d0,.string (⟨#[114,101,109,111,118,101]⟩:Bt),tZ,aK ag] af (λah ai=>ah=.tuple #[]/\(Q (w6 (T+1)) ai/\S (w6 (T+1)) ai<S T U))))/\((!ab)=Tc->(Q (w6 (T+1)) ad/\S (w6 (T+1)) ad<S T U))))/\(decide (T<I.len)=Tc->∃(aj:Int->zc->Prop) (ak:Int->zc->Nat),aj 0 U/\∀al:Int,∀am:zc,aj al am->((decide (al<I.len)=Ta->∃an,(I.a=Td an/\0<=al/\al<I.len)/\∃ao,zd am (an.add (al.toNat*1))=Td (.string ao)/\∃ap aq ar au av,QExec Tp (zc1 144 (.map z) (.string ao) Ta) am (.tuple #[tA ap aq ar au,.bool av])/\let aw:=am.push (.cells tC 25);XRunU Tp (zag 25 (.pointer (Td ⟨am.size,0,Te⟩)) (tA ap aq ar au)) aw (λax=>(av=Ta->∃ay az aA aB,ze ax ⟨am.size,0,Te⟩ 0 (tL ay az aA aB)/\let aC:Int->Bt->Sl->Sl->Sl->zc->Prop:=λaD aE (aF:Sl) (aG:Sl) (aH:Sl) (aI:zc)=>(XC Tp 65 #[.pointer d0,aK aH,tA aD aE aF aG,tA ay az aA aB] aI (λaJ aL=>aJ=.tuple #[]/\(aj (w6 (al+1)) aL/\ak (w6 (al+1)) aL<ak al am)));(XC Tp 181 #[aK bu,.string ao] ax (λaM aN=>∃aO,aM=aK aO/\hZ aN ax ⟨am.size,0,Te⟩/\∃aP aQ aS aT,QExec Tp (zc1 144 (.map w) (.string ao) Tc) aN (tA aP aQ aS aT)/\hZ aN ax ⟨am.size,0,Te⟩/\aC aP aQ aS aT aO aN))/\(∃aU aV aW aX,QExec Tp (zc1 144 (.map w) (.string ao) Tc) ax (tA aU aV aW aX)/\hZ ax ax ⟨am.size,0,Te⟩/\XC Tp 181 #[aK bu,.string ao] ax (λaY aZ=>∃a0,aY=aK a0/\hZ aZ ax ⟨am.size,0,Te⟩/\aC aU aV aW aX a0 aZ)))/\(av=Tc->(aj (w6 (al+1)) ax/\ak (w6 (al+1)) ax<ak al am))))/\(decide (al<I.len)=Tc->∃(a1:Int->zc->Prop) (a2:Int->zc->Nat),a1 0 am/\∀a3:Int,∀a4:zc,a1 a3 a4->((decide (a3<P.len)=Ta->∃a5,(P.a=Td a5/\0<=a3/\a3<P.len)/\∃a6,zd a4 (a5.add (a3.toNat*1))=Td (.string a6)/\∃a7 a8 a9 ba bb,QExec Tp (zc1 144 (.map w) (.string a6) Ta) a4 (.tuple #[tA a7 a8 a9 ba,.bool bb])/\let bc:=a4.push (.cells tC 25);XRunU Tp (zag 25 (.pointer (Td ⟨a4.size,0,Te⟩)) (tA a7 a8 a9 ba)) bc (λbd=>((!bb)=Ta->∃be bf bg bh,QExec Tp (zc1 144 (.map z) (.string a6) Tc) bd (tA be bf bg bh)/\XC Tp 90 #[tA be bf bg bh] bd (λbi bj=>∃bk bl bm bn,bi=tA bk bl bm bn/\XC Tp 181 #[aK bu,.string a6] bj (λbo bp=>∃bq,bo=aK bq/\XC Tp 118 #[.pointer d0,.string (⟨#[97,100,100]⟩:Bt),tA bk bl bm bn,aK bq] bp (λbr bs=>br=.tuple #[]/\(a1 (w6 (a3+1)) bs/\a2 (w6 (a3+1)) bs<a2 a3 a4)))))/\((!bb)=Tc->(a1 (w6 (a3+1)) bd/\a2 (w6 (a3+1)) bd<a2 a3 a4))))/\(decide (a3<P.len)=Tc->R (.tuple #[]) a4))))))))))))):
  XC Tp 115 #[.pointer d0,.slice bu.a bu.len bu.cap,.agg #[.int .i64 b,.string c,.slice d.a d.len d.cap,.slice e.a e.len e.cap],.agg #[.int .i64 f,.string g,.slice i.a i.len i.cap,.slice j.a j.len j.cap]] h R:=
 XF ⟨[(1,8000),(2,8000),(15,8000)],[(4,[(38,.one (.int .i64))]),(11,[(59,.one (.int .i64))]),(18,[(82,.one (.int .i64))])],[]⟩ [] 104 Tryz.func115 H
theorem XJ(S:Sl)(b1:Sl)(h:zc)(R:Value->zc->Prop) (H:XC Tp 182 #[aK S] h (λb c=>∃d e,b=.tuple #[aK d,iV e]/\XC Tp 182 #[aK b1] c (λf g=>∃i j,f=.tuple #[aK i,iV j]/\((bif (e==1)then Ta else(j==1))=Ta->R (.tuple #[.slice Te 0 0,iV 0,iV 1]) g)/\((bif (e==1)then Ta else(j==1))=Tc->((bif (e != 0)then Ta else(j != 0))=Ta->R (.tuple #[.slice Te 0 0,iV 0,iV 6]) g)/\((bif (e != 0)then Ta else(j != 0))=Tc->XC Tp 183 #[aK d,aK i] g (λk l=>∃m:Option Addr,k=.pointer m/\∃(n:Sl->Int->Int->zc->Prop) (o:Sl->Int->Int->zc->Nat),n (⟨Te,0,0⟩:Sl) 0 0 l/\∀p:Sl,∀q r:Int,∀s:zc,n p q r s->(((bif (decide (q<d.len))then(decide (r<i.len))else Tc)=Ta->∃t,m=Td t/\∃u,zd s (zab t 3)=Td (aK u)/\∃v,(u.a=Td v/\0<=q/\q<u.len)/\∃w,zd s (v.add (q.toNat*1))=Td (aK w)/\∃x,(w.a=Td x/\0<=r/\r<w.len)/\∃y,zd s (x.add (r.toNat*1))=Td (iV y)/\XC Tp 184 #[.pointer m,iV q,iV r] s (λz A=>∃B,z=iV B/\((y==B)=Ta->let C:=A.push (.cells #[iV q,iV r] 190);qu Tp (zao #[125,125] 125 #[aK p,.slice (Td ⟨A.size,0,Te⟩) 1 1]) C (λD E=>∃F,D=aK F/\(n F (w6 (q+1)) (w6 (r+1)) E/\o F (w6 (q+1)) (w6 (r+1)) E<o p q r s)))/\((y==B)=Tc->XC Tp 185 #[.pointer m,iV q,iV r] A (λG I=>∃J,G=iV J/\((y==J)=Ta->(n p (w6 (q+1)) r I/\o p (w6 (q+1)) r I<o p q r s))/\((y==J)=Tc->(n p q (w6 (r+1)) I/\o p q (w6 (r+1)) I<o p q r s))))))/\((bif (decide (q<d.len))then(decide (r<i.len))else Tc)=Tc->∃L,m=Td L/\∃M,zd s (zab L 3)=Td (aK M)/\∃N,(M.a=Td N/\0<=(0:Int)/\(0:Int)<(M.len:Int))/\∃O,zd s (N.add ((0:Int).toNat*1))=Td (aK O)/\∃P,(O.a=Td P/\0<=(0:Int)/\(0:Int)<(O.len:Int))/\∃Q,zd s (P.add ((0:Int).toNat*1))=Td (iV Q)/\R (.tuple #[aK p,iV Q,iV 0]) s)))))))):
  XC Tp 116 #[.slice S.a S.len S.cap,.slice b1.a b1.len b1.cap] h R:=
 XF ⟨[],[(10,[(12,.one (.sl)),(13,.one (.int .i64)),(14,.one (.int .i64))])],[]⟩ [.tmp 4,.tmp 5,.tmp 6] 97 Tryz.func116 H
theorem MJ(d0:Option Addr)(u:Bt)(b:Int)(c:Bt)(d:Sl)(e:Sl)(t:Sl)(h:zc)(R:Value->zc->Prop) (H:let f:=h.push (.cells #[iV b,.string c,aK d,aK e] 25);∃g,d0=Td g/\∃i,zd f (zab g 0)=Td (aK i)/\∃j k l m,ze f ⟨h.size,0,Te⟩ 0 (tL j k l m)/\hZ f f (zab g 0)/\let n:=f.push (.cells #[.string u,aK t,.slice Te 0 0,iV j,.string k,aK l,aK m] 50);hZ n f (zab g 0)/\qu Tp (zao #[44,44] 44 #[aK i,.slice (Td ⟨f.size,0,Te⟩) 1 1]) n (λo p=>∃q,o=aK q/\∃r,d0=Td r/\XRunU Tp (zag 44 (.pointer (Td (zab r 0))) (aK q)) p (λs=>R (.tuple #[]) s))):
  XC Tp 118 #[.pointer d0,.string u,.agg #[.int .i64 b,.string c,.slice d.a d.len d.cap,.slice e.a e.len e.cap],.slice t.a t.len t.cap] h R:=
 XF ⟨[(1,8000)],[],[]⟩ [] 21 Tryz.func118 H
theorem Ue(b:Int)(c:Bt)(d:Sl)(e:Sl)(h:zc)(R:Value->zc->Prop) (H:let f:=h.push (.cells #[iV b,.string c,aK d,aK e] 25);∃g,zd f (zab ⟨h.size,0,Te⟩ 2)=Td (aK g)/\let i:=f.push (.map #[] 0);∃j,zd i (zab ⟨h.size,0,Te⟩ 2)=Td (aK j)/\∃(k:Int->zc->Prop) (l:Int->zc->Nat),k 0 i/\∀m:Int,∀n:zc,k m n->((decide (m<j.len)=Ta->∃o,(j.a=Td o/\0<=m/\m<j.len)/\∃p,zd n (o.add (m.toNat*1))=Td (.string p)/\∃q,zd n (zab ⟨h.size,0,Te⟩ 3)=Td (aK q)/\∃r,(q.a=Td r/\0<=m/\m<q.len)/\∃s t u v,ze n (r.add (m.toNat*4)) 0 (tL s t u v)/\XRunU Tp (zcz 144 (.map (Td f.size)) (.string p) (tA s t u v)) n (λw=>(k (w6 (m+1)) w/\l (w6 (m+1)) w<l m n)))/\(decide (m<j.len)=Tc->R (.map (Td f.size)) n))):
  XC Tp 179 #[.agg #[.int .i64 b,.string c,.slice d.a d.len d.cap,.slice e.a e.len e.cap]] h R:=
 XF ⟨[],[(3,[(13,.one (.int .i64))])],[]⟩ [.tmp 2] 27 Tryz.func179 H
theorem ZI(a0:Sl)(b1:Sl)(h:zc)(R:Value->zc->Prop) (H:let b:=h.push (.cells #[aK a0,aK b1,.slice Te 0 0,.slice Te 0 0] 187);∃(c:Int->zc->Prop) (d:Int->zc->Nat),c 0 b/\∀e:Int,∀f:zc,c e f->(((decide (e<(w6 ((a0.len:Int)+1))))=Ta->∃g:Addr,Td ⟨h.size,0,Te⟩=Td g/\∃i,zd f (zab g 2)=Td (aK i)/\∃j:Addr,Td ⟨h.size,0,Te⟩=Td j/\∃k,zd f (zab j 3)=Td (aK k)/\let l:Sl->Sl->zc->Prop:=λ(m:Sl) (n:Sl) (o:zc)=>(qu Tp (zao #[74,74] 74 #[aK k,aK m]) o (λp q=>∃r,p=aK r/\∃s:Addr,Td ⟨h.size,0,Te⟩=Td s/\XRunU Tp (zag 74 (.pointer (Td (zab s 2))) (aK n)) q (λt=>∃u:Addr,Td ⟨h.size,0,Te⟩=Td u/\XRunU Tp (zag 74 (.pointer (Td (zab u 3))) (aK r)) t (λv=>(c (w6 (e+1)) v/\d (w6 (e+1)) v<d e f)))));let w:Sl->Sl->zc->Prop:=λ(x:Sl) (y:Sl) (z:zc)=>(let A:=z.push (.cells #[aK x] 29);hZ A f (zab j 3)/\l (⟨Td ⟨z.size,0,Te⟩,1,1⟩:Sl) y A);let B:Sl->Sl->zc->Prop:=λ(C:Sl) (D:Sl) (E:zc)=>(qu Tp (zao #[74,74] 74 #[aK i,aK D]) E (λF G=>∃I,F=aK I/\hZ G f (zab j 3)/\l C I G));let J:Sl->zc->Prop:=λ(L:Sl) (M:zc)=>(qu Tp (zbp 29 (iV (w6 ((b1.len:Int)+1))) (iV (w6 ((b1.len:Int)+1)))) M (λN O=>∃P,N=aK P/\hZ O f (zab j 3)/\w P L O));let Q:Sl->Sl->zc->Prop:=λ(S:Sl) (T:Sl) (U:zc)=>((qu Tp (zao #[74,74] 74 #[aK i,aK T]) U (λV W=>∃X,V=aK X/\hZ W f (zab j 3)/\w S X W))/\(let Y:=U.push (.cells #[aK S] 29);hZ Y f (zab j 3)/\hZ Y f (zab g 2)/\B (⟨Td ⟨U.size,0,Te⟩,1,1⟩:Sl) T Y));let Z:Sl->Sl->zc->Prop:=λ(aa:Sl) (ab:Sl) (ac:zc)=>(let ad:=ac.push (.cells #[aK ab] 29);hZ ad f (zab j 3)/\hZ ad f (zab g 2)/\B aa (⟨Td ⟨ac.size,0,Te⟩,1,1⟩:Sl) ad);let ae:Sl->zc->Prop:=λ(af:Sl) (ag:zc)=>((qu Tp (zao #[74,74] 74 #[aK i,aK af]) ag (λah ai=>∃aj,ah=aK aj/\hZ ai f (zab j 3)/\J aj ai))/\(qu Tp (zbp 29 (iV (w6 ((b1.len:Int)+1))) (iV (w6 ((b1.len:Int)+1)))) ag (λak al=>∃am,ak=aK am/\hZ al f (zab j 3)/\hZ al f (zab g 2)/\Q am af al)));let an:Sl->Sl->zc->Prop:=λ(ao:Sl) (ap:Sl) (aq:zc)=>((let ar:=aq.push (.cells #[aK ap] 29);hZ ar f (zab j 3)/\hZ ar f (zab g 2)/\Q ao (⟨Td ⟨aq.size,0,Te⟩,1,1⟩:Sl) ar)/\(let au:=aq.push (.cells #[aK ao] 29);hZ au f (zab j 3)/\hZ au f (zab g 2)/\Z (⟨Td ⟨aq.size,0,Te⟩,1,1⟩:Sl) ap au));let av:Sl->zc->Prop:=λ(aw:Sl) (ax:zc)=>(qu Tp (zbp 29 (iV (w6 ((b1.len:Int)+1))) (iV (w6 ((b1.len:Int)+1)))) ax (λay az=>∃aA,ay=aK aA/\hZ az f (zab j 3)/\hZ az f (zab g 2)/\Z aw aA az));let aB:Sl->zc->Prop:=λ(aC:Sl) (aD:zc)=>((let aE:=aD.push (.cells #[aK aC] 29);hZ aE f (zab j 3)/\hZ aE f (zab g 2)/\ae (⟨Td ⟨aD.size,0,Te⟩,1,1⟩:Sl) aE)/\(qu Tp (zbp 29 (iV (w6 ((b1.len:Int)+1))) (iV (w6 ((b1.len:Int)+1)))) aD (λaF aG=>∃aH,aF=aK aH/\hZ aG f (zab j 3)/\hZ aG f (zab g 2)/\an aH aC aG)));let aI:Sl->zc->Prop:=λ(aJ:Sl) (aL:zc)=>((qu Tp (zbp 29 (iV (w6 ((b1.len:Int)+1))) (iV (w6 ((b1.len:Int)+1)))) aL (λaM aN=>∃aO,aM=aK aO/\hZ aN f (zab j 3)/\hZ aN f (zab g 2)/\an aJ aO aN))/\(let aP:=aL.push (.cells #[aK aJ] 29);hZ aP f (zab j 3)/\hZ aP f (zab g 2)/\av (⟨Td ⟨aL.size,0,Te⟩,1,1⟩:Sl) aP));let aQ:zc->Prop:=λ(aS:zc)=>((qu Tp (zbp 29 (iV (w6 ((b1.len:Int)+1))) (iV (w6 ((b1.len:Int)+1)))) aS (λaT aU=>∃aV,aT=aK aV/\hZ aU f (zab j 3)/\hZ aU f (zab g 2)/\aB aV aU))/\(qu Tp (zbp 29 (iV (w6 ((b1.len:Int)+1))) (iV (w6 ((b1.len:Int)+1)))) aS (λaW aX=>∃aY,aW=aK aY/\hZ aX f (zab j 3)/\hZ aX f (zab g 2)/\aI aY aX)));(hZ f f (zab j 3)/\hZ f f (zab g 2)/\(qu Tp (zbp 29 (iV (w6 ((b1.len:Int)+1))) (iV (w6 ((b1.len:Int)+1)))) f (λaZ a1=>∃a2,aZ=aK a2/\hZ a1 f (zab j 3)/\hZ a1 f (zab g 2)/\(let a3:=a1.push (.cells #[aK a2] 29);hZ a3 f (zab j 3)/\hZ a3 f (zab g 2)/\(qu Tp (zao #[74,74] 74 #[aK i,.slice (Td ⟨a1.size,0,Te⟩) 1 1]) a3 (λa4 a5=>∃a6,a4=aK a6/\hZ a5 f (zab j 3)/\hZ a5 f (zab j 3)/\J a6 a5))/\(hZ a3 f (zab j 3)/\hZ a3 f (zab g 2)/\ae (⟨Td ⟨a1.size,0,Te⟩,1,1⟩:Sl) a3))/\(hZ a1 f (zab j 3)/\hZ a1 f (zab g 2)/\aB a2 a1)))/\(hZ f f (zab j 3)/\hZ f f (zab g 2)/\aQ f))/\(hZ f f (zab j 3)/\hZ f f (zab g 2)/\(hZ f f (zab j 3)/\hZ f f (zab g 2)/\aQ f)/\(qu Tp (zbp 29 (iV (w6 ((b1.len:Int)+1))) (iV (w6 ((b1.len:Int)+1)))) f (λa7 a8=>∃a9,a7=aK a9/\hZ a8 f (zab j 3)/\hZ a8 f (zab g 2)/\(hZ a8 f (zab j 3)/\hZ a8 f (zab g 2)/\aI a9 a8)/\(let ba:=a8.push (.cells #[aK a9] 29);hZ ba f (zab j 3)/\hZ ba f (zab g 2)/\hZ ba f (zab j 3)/\hZ ba f (zab g 2)/\av (⟨Td ⟨a8.size,0,Te⟩,1,1⟩:Sl) ba)))))/\((decide (e<(w6 ((a0.len:Int)+1))))=Tc->∃(bb:Int->zc->Prop) (bc:Int->zc->Nat),bb 0 f/\∀bd:Int,∀be:zc,bb bd be->(((decide (bd<(w6 ((a0.len:Int)+1))))=Ta->∃(bf:Int->zc->Prop) (bg:Int->zc->Nat),bf 0 be/\∀bh:Int,∀bi:zc,bf bh bi->(((decide (bh<(w6 ((b1.len:Int)+1))))=Ta->∃bj:Addr,Td ⟨h.size,0,Te⟩=Td bj/\∃bk,zd bi (zab bj 3)=Td (aK bk)/\let bl:Addr->Int->zc->Prop:=λ(bm:Addr) bn (bo:zc)=>(XRunU Tp (zag 3 (.pointer (Td bm)) (iV bn)) bo (λbp=>(bf (w6 (bh+1)) bp/\bg (w6 (bh+1)) bp<bg bh bi)));let bq:Sl->zc->Prop:=λ(br:Sl) (bs:zc)=>(XC Tp 242 #[.pointer (Td ⟨h.size,0,Te⟩),iV (w6 ((a0.len:Int)-bd)),iV (w6 ((b1.len:Int)-bh))] bs (λbt bu=>∃bv,bt=iV bv/\∃bw,(br.a=Td bw/\0<=(w6 ((b1.len:Int)-bh))/\(w6 ((b1.len:Int)-bh))<(br.len:Int))/\bl (bw.add ((w6 ((b1.len:Int)-bh)).toNat*1)) bv bu));let bx:Int->Sl->zc->Prop:=λbz (bA:Sl) (bB:zc)=>(∃bC,(bA.a=Td bC/\0<=(w6 ((b1.len:Int)-bh))/\(w6 ((b1.len:Int)-bh))<(bA.len:Int))/\bl (bC.add ((w6 ((b1.len:Int)-bh)).toNat*1)) bz bB);let bD:Int->Addr->zc->Prop:=λbE (bF:Addr) (bG:zc)=>(∃bH,zd bG bF=Td (aK bH)/\∃bI,(bH.a=Td bI/\0<=(w6 ((b1.len:Int)-bh))/\(w6 ((b1.len:Int)-bh))<(bH.len:Int))/\bl (bI.add ((w6 ((b1.len:Int)-bh)).toNat*1)) bE bG);let bJ:Sl->zc->Prop:=λ(bL:Sl) (bM:zc)=>(bq bL bM);let bN:Sl->zc->Prop:=λ(bO:Sl) (bP:zc)=>(bq bO bP);let bQ:Sl->zc->Prop:=λ(bS:Sl) (bT:zc)=>((bq bS bT)/\(XC Tp 242 #[.pointer (Td ⟨h.size,0,Te⟩),iV (w6 ((a0.len:Int)-bd)),iV (w6 ((b1.len:Int)-bh))] bT (λbU bV=>∃bW,bU=iV bW/\bx bW bS bV)));let bX:Addr->zc->Prop:=λ(bY:Addr) (bZ:zc)=>((∃b0,zd bZ bY=Td (aK b0)/\bq b0 bZ)/\(XC Tp 242 #[.pointer (Td ⟨h.size,0,Te⟩),iV (w6 ((a0.len:Int)-bd)),iV (w6 ((b1.len:Int)-bh))] bZ (λb2 b3=>∃b4,b2=iV b4/\hZ b3 bi (zab bj 3)/\bD b4 bY b3)));let b5:Int->Addr->zc->Prop:=λb6 (b7:Addr) (b8:zc)=>((∃b9,zd b8 b7=Td (aK b9)/\bx b6 b9 b8)/\(hZ b8 bi (zab bj 3)/\bD b6 b7 b8));let ca:Int->zc->Prop:=λcb (cc:zc)=>(∃cd,(bk.a=Td cd/\0<=(w6 ((a0.len:Int)-bd))/\(w6 ((a0.len:Int)-bd))<(bk.len:Int))/\hZ cc bi (zab bj 3)/\bD cb (cd.add ((w6 ((a0.len:Int)-bd)).toNat*1)) cc);let ce:Sl->zc->Prop:=λ(cf:Sl) (cg:zc)=>((bJ cf cg)/\(bN cf cg));let ch:Sl->zc->Prop:=λ(ci:Sl) (cj:zc)=>((bJ ci cj)/\(bQ ci cj));let ck:Sl->zc->Prop:=λ(cl:Sl) (cm:zc)=>((bN cl cm)/\(bQ cl cm));let cn:Addr->zc->Prop:=λ(co:Addr) (cp:zc)=>((∃cq,zd cp co=Td (aK cq)/\bJ cq cp)/\(hZ cp bi (zab bj 3)/\bX co cp));let cr:Addr->zc->Prop:=λ(cs:Addr) (ct:zc)=>((∃cu,zd ct cs=Td (aK cu)/\bN cu ct)/\(hZ ct bi (zab bj 3)/\bX cs ct));let cv:Addr->zc->Prop:=λ(cw:Addr) (cx:zc)=>((∃cy,zd cx cw=Td (aK cy)/\bQ cy cx)/\(hZ cx bi (zab bj 3)/\bX cw cx)/\(XC Tp 242 #[.pointer (Td ⟨h.size,0,Te⟩),iV (w6 ((a0.len:Int)-bd)),iV (w6 ((b1.len:Int)-bh))] cx (λcz cA=>∃cB,cz=iV cB/\hZ cA bi (zab bj 3)/\b5 cB cw cA)));let cC:zc->Prop:=λ(cD:zc)=>((∃cE,(bk.a=Td cE/\0<=(w6 ((a0.len:Int)-bd))/\(w6 ((a0.len:Int)-bd))<(bk.len:Int))/\hZ cD bi (zab bj 3)/\bX (cE.add ((w6 ((a0.len:Int)-bd)).toNat*1)) cD)/\(XC Tp 242 #[.pointer (Td ⟨h.size,0,Te⟩),iV (w6 ((a0.len:Int)-bd)),iV (w6 ((b1.len:Int)-bh))] cD (λcF cG=>∃cH,cF=iV cH/\hZ cG bi (zab bj 3)/\ca cH cG)));let cI:Addr->zc->Prop:=λ(cJ:Addr) (cL:zc)=>((∃cM,zd cL cJ=Td (aK cM)/\ce cM cL)/\(hZ cL bi (zab bj 3)/\cn cJ cL)/\(hZ cL bi (zab bj 3)/\cr cJ cL));let cN:Addr->zc->Prop:=λ(cO:Addr) (cP:zc)=>((∃cQ,zd cP cO=Td (aK cQ)/\ch cQ cP)/\(hZ cP bi (zab bj 3)/\cn cO cP)/\(hZ cP bi (zab bj 3)/\cv cO cP));let cS:Addr->zc->Prop:=λ(cT:Addr) (cU:zc)=>((∃cV,zd cU cT=Td (aK cV)/\ck cV cU)/\(hZ cU bi (zab bj 3)/\cr cT cU)/\(hZ cU bi (zab bj 3)/\cv cT cU));let cW:zc->Prop:=λ(cX:zc)=>((∃cY,(bk.a=Td cY/\0<=(w6 ((a0.len:Int)-bd))/\(w6 ((a0.len:Int)-bd))<(bk.len:Int))/\hZ cX bi (zab bj 3)/\cn (cY.add ((w6 ((a0.len:Int)-bd)).toNat*1)) cX)/\(hZ cX bi (zab bj 3)/\cC cX));let cZ:zc->Prop:=λ(c0:zc)=>((∃c1,(bk.a=Td c1/\0<=(w6 ((a0.len:Int)-bd))/\(w6 ((a0.len:Int)-bd))<(bk.len:Int))/\hZ c0 bi (zab bj 3)/\cr (c1.add ((w6 ((a0.len:Int)-bd)).toNat*1)) c0)/\(hZ c0 bi (zab bj 3)/\cC c0));let c2:zc->Prop:=λ(c3:zc)=>((∃c4,(bk.a=Td c4/\0<=(w6 ((a0.len:Int)-bd))/\(w6 ((a0.len:Int)-bd))<(bk.len:Int))/\hZ c3 bi (zab bj 3)/\cv (c4.add ((w6 ((a0.len:Int)-bd)).toNat*1)) c3)/\(hZ c3 bi (zab bj 3)/\cC c3)/\(XC Tp 242 #[.pointer (Td ⟨h.size,0,Te⟩),iV (w6 ((a0.len:Int)-bd)),iV (w6 ((b1.len:Int)-bh))] c3 (λc5 c6=>∃c7,c5=iV c7/\hZ c6 bi (zab bj 3)/\(∃c8,(bk.a=Td c8/\0<=(w6 ((a0.len:Int)-bd))/\(w6 ((a0.len:Int)-bd))<(bk.len:Int))/\hZ c6 bi (zab bj 3)/\b5 c7 (c8.add ((w6 ((a0.len:Int)-bd)).toNat*1)) c6)/\(hZ c6 bi (zab bj 3)/\ca c7 c6))));(∃c9,(bk.a=Td c9/\0<=(w6 ((a0.len:Int)-bd))/\(w6 ((a0.len:Int)-bd))<(bk.len:Int))/\hZ bi bi (zab bj 3)/\(∃da,zd bi (c9.add ((w6 ((a0.len:Int)-bd)).toNat*1))=Td (aK da)/\(ce da bi)/\(ch da bi)/\(ck da bi))/\(hZ bi bi (zab bj 3)/\cI (c9.add ((w6 ((a0.len:Int)-bd)).toNat*1)) bi)/\(hZ bi bi (zab bj 3)/\cN (c9.add ((w6 ((a0.len:Int)-bd)).toNat*1)) bi)/\(hZ bi bi (zab bj 3)/\cS (c9.add ((w6 ((a0.len:Int)-bd)).toNat*1)) bi))/\(hZ bi bi (zab bj 3)/\(∃db,(bk.a=Td db/\0<=(w6 ((a0.len:Int)-bd))/\(w6 ((a0.len:Int)-bd))<(bk.len:Int))/\hZ bi bi (zab bj 3)/\cI (db.add ((w6 ((a0.len:Int)-bd)).toNat*1)) bi)/\(hZ bi bi (zab bj 3)/\cW bi)/\(hZ bi bi (zab bj 3)/\cZ bi))/\(hZ bi bi (zab bj 3)/\(∃dc,(bk.a=Td dc/\0<=(w6 ((a0.len:Int)-bd))/\(w6 ((a0.len:Int)-bd))<(bk.len:Int))/\hZ bi bi (zab bj 3)/\cN (dc.add ((w6 ((a0.len:Int)-bd)).toNat*1)) bi)/\(hZ bi bi (zab bj 3)/\cW bi)/\(hZ bi bi (zab bj 3)/\c2 bi))/\(hZ bi bi (zab bj 3)/\(∃dd,(bk.a=Td dd/\0<=(w6 ((a0.len:Int)-bd))/\(w6 ((a0.len:Int)-bd))<(bk.len:Int))/\hZ bi bi (zab bj 3)/\cS (dd.add ((w6 ((a0.len:Int)-bd)).toNat*1)) bi)/\(hZ bi bi (zab bj 3)/\cZ bi)/\(hZ bi bi (zab bj 3)/\c2 bi)))/\((decide (bh<(w6 ((b1.len:Int)+1))))=Tc->(bb (w6 (bd+1)) bi/\bc (w6 (bd+1)) bi<bc bd be))))/\((decide (bd<(w6 ((a0.len:Int)+1))))=Tc->R (.pointer (Td ⟨h.size,0,Te⟩)) be))))):
  XC Tp 183 #[.slice a0.a a0.len a0.cap,.slice b1.a b1.len b1.cap] h R:=
 XF ⟨[(4,8000),(12,8000)],[(3,[(15,.one (.int .i64))]),(7,[(47,.one (.int .i64))]),(10,[(53,.one (.int .i64))])],[]⟩ [.tmp 4] 84 Tryz.func183 H
theorem Us(r:Option Addr)(o:Int)(q:Int)(h:zc)(R:Value->zc->Prop) (H:∃b,r=Td b/\∃c,zd h (zab b 2)=Td (aK c)/\∃d,(c.a=Td d/\0<=o/\o<c.len)/\∃e,zd h (d.add (o.toNat*1))=Td (aK e)/\∃f,(e.a=Td f/\0<=q/\q<e.len)/\∃g,zd h (f.add (q.toNat*1))=Td (iV g)/\∃i,r=Td i/\∃j,zd h (zab i 3)=Td (aK j)/\∃k,(j.a=Td k/\0<=(w6 (o+1))/\(w6 (o+1))<(j.len:Int))/\∃l,zd h (k.add ((w6 (o+1)).toNat*1))=Td (aK l)/\∃m,(l.a=Td m/\0<=(w6 (q+1))/\(w6 (q+1))<(l.len:Int))/\∃n,zd h (m.add ((w6 (q+1)).toNat*1))=Td (iV n)/\R (iV (w6 (g+n))) h):
  XC Tp 184 #[.pointer r,.int .i64 o,.int .i64 q] h R:=
 XF ⟨[],[],[]⟩ [.tmp 6] 30 Tryz.func184 H
theorem NV(o:Option Addr)(m:Int)(n:Int)(h:zc)(R:Value->zc->Prop) (H:∃b,o=Td b/\∃c,zd h (zab b 0)=Td (aK c)/\∃d,(c.a=Td d/\0<=m/\m<c.len)/\∃e,zd h (zab (d.add (m.toNat*2)) 0)=Td (aK e)/\∃f,o=Td f/\∃g,zd h (zab f 3)=Td (aK g)/\∃i,(g.a=Td i/\0<=(w6 (m+1))/\(w6 (m+1))<(g.len:Int))/\∃j,zd h (i.add ((w6 (m+1)).toNat*1))=Td (aK j)/\∃k,(j.a=Td k/\0<=n/\n<j.len)/\∃l,zd h (k.add (n.toNat*1))=Td (iV l)/\R (iV (w6 ((e.len:Int)+l))) h):
  XC Tp 185 #[.pointer o,.int .i64 m,.int .i64 n] h R:=
 XF ⟨[],[],[]⟩ [.tmp 6] 28 Tryz.func185 H
theorem Xe(j:Int)(c1:Addr)(h:zc)(R:Value->zc->Prop) (H:∃b,zd h c1=Td (aK b)/\XC Tp 159 #[iV j] h (λc d=>∃e,c=.string e/\hZ d h c1/\XC Tp 181 #[aK b,.string e] d (λf g=>∃i,f=aK i/\R (aK i) g))):
  XC Tp 186 #[.int .i64 j,.pointer (Td c1)] h R:=
 XF ⟨[(1,8000)],[],[]⟩ [.tmp 3] 8 Tryz.func186 H
theorem OV(U:Option Addr)(S:Int)(T:Int)(h:zc)(R:Value->zc->Prop) (H:∃b,U=Td b/\∃c,zd h (zab b 0)=Td (aK c)/\∃d,U=Td d/\∃e,zd h (zab d 1)=Td (aK e)/\((bif (S==c.len)then(T==e.len)else Tc)=Ta->R (iV 0) h)/\((bif (S==c.len)then(T==e.len)else Tc)=Tc->((S==c.len)=Ta->XC Tp 295 #[.pointer U,iV S,iV T] h (λf g=>∃i,f=iV i/\R (iV i) g))/\((S==c.len)=Tc->((T==e.len)=Ta->XC Tp 185 #[.pointer U,iV S,iV T] h (λj k=>∃l,j=iV l/\R (iV l) k))/\((T==e.len)=Tc->∃m,U=Td m/\∃n,zd h (zab m 2)=Td (aK n)/\∃o,(n.a=Td o/\0<=S/\S<n.len)/\∃p,zd h (o.add (S.toNat*1))=Td (aK p)/\∃q,U=Td q/\∃r,zd h (zab q 0)=Td (aK r)/\∃s,(r.a=Td s/\0<=S/\S<r.len)/\∃t u,ze h (s.add (S.toNat*2)) 0 [aK t,aK u]/\∃v,U=Td v/\∃w,zd h (zab v 1)=Td (aK w)/\∃x,(w.a=Td x/\0<=T/\T<w.len)/\∃y z,ze h (x.add (T.toNat*2)) 0 [aK y,aK z]/\XC Tp 296 #[.agg #[aK t,aK u],.agg #[aK y,aK z]] h (λA B=>∃C D,A=.tuple #[iV C,iV D]/\∃E,(p.a=Td E/\0<=T/\T<p.len)/\hZ B h ((o.add (S.toNat*1)))/\hZ B h (zab m 2)/\XRunU Tp (zag 3 (.pointer (Td (E.add (T.toNat*1)))) (iV C)) B (λF=>XC Tp 184 #[.pointer U,iV S,iV T] F (λG I=>∃J,G=iV J/\XC Tp 185 #[.pointer U,iV S,iV T] I (λL M=>∃N,L=iV N/\XC Tp 295 #[.pointer U,iV S,iV T] M (λO P=>∃Q,O=iV Q/\R (iV (if Q<(if N<J then N else J)then Q else if N<J then N else J)) P))))))))):
  XC Tp 242 #[.pointer U,.int .i64 S,.int .i64 T] h R:=
 XF ⟨[(8,8000)],[],[]⟩ [.tmp 6] 84 Tryz.func242 H
theorem XE(o:Option Addr)(n:Int)(m:Int)(h:zc)(R:Value->zc->Prop) (H:∃b,o=Td b/\∃c,zd h (zab b 1)=Td (aK c)/\∃d,(c.a=Td d/\0<=m/\m<c.len)/\∃e,zd h (zab (d.add (m.toNat*2)) 0)=Td (aK e)/\∃f,o=Td f/\∃g,zd h (zab f 3)=Td (aK g)/\∃i,(g.a=Td i/\0<=n/\n<g.len)/\∃j,zd h (i.add (n.toNat*1))=Td (aK j)/\∃k,(j.a=Td k/\0<=(w6 (m+1))/\(w6 (m+1))<(j.len:Int))/\∃l,zd h (k.add ((w6 (m+1)).toNat*1))=Td (iV l)/\R (iV (w6 ((e.len:Int)+l))) h):
  XC Tp 295 #[.pointer o,.int .i64 n,.int .i64 m] h R:=
 XF ⟨[],[],[]⟩ [.tmp 6] 28 Tryz.func295 H
end
section
open Go.Lib
section
variable {v i:Nat} {K:Value -> zc -> Prop}
theorem ZZ{v:Tr}(h:(Qo v).2=0):qd (Qo v).1=Ta:=by unfold Qo at h ⊢;split;rename_i b;rw[zA b]at h;split;rename_i c;rw[zA c]at h;exact absurd h (by decide);rename_i c;exact PI (by omega);rename_i b;rw[zv b]at h;exact absurd h (by decide)
theorem EW{l:List Tr}{x:List iy}(h:xd l=Td x):(∀t∈x,qd t=Ta)/\x.length<=64:=by unfold xd at h;split at h;exact nomatch h;rename_i f;rw[<-zbi h];refine⟨λt e=>?_,by rw[zap];omega⟩;obtain⟨v,c,rfl⟩:=zay.1 e;refine ZZ ?_;by_cases b:(Qo v).2=0;exact b;exact absurd (.inr (.inl (List.any_eq_true.2 ⟨v,c,by simpa using b⟩))) f
theorem Kd{s t:iy}(e:qd s=Ta)(c:qd t=Ta):Yq s t<=1024:=by obtain⟨_,l,k⟩:=jy e;obtain⟨_,m,j⟩:=jy c;have b:=py k;have f:=py j;have h:=vp (la:=bK s) (lb:=bK t) (tn:=fK s t) (P:=tv s t) (fa:=0) (fb:=0) (s.2.length+t.2.length) s.2.length t.2.length (zac _) (λi hi=>⟨za0 _,by have:=(b (0+i) (by omega)).1;exact this⟩) (λi hi=>⟨za0 _,by have:=(f (0+i) (by omega)).1;exact this⟩);unfold Yq;omega
theorem AB{n m:Nat}{sa sb:Nat->Nat}{c:Nat->Nat->Nat}(e:∀i,sa i<=512)(h:∀j,sb j<=512):∀(f i j:Nat),jX n m sa sb c f i j<=512*(n-i)+512*(m-j)
 |0,i,j=>za0 _
 |f+1,i,j=>by have a:=e i;have b:=h j;have h1:=AB (n:=n) (m:=m) (c:=c) e h f (i+1) j;have k:=AB (n:=n) (m:=m) (c:=c) e h f i (j+1);unfold jX;split;split;exact za0 _;omega;split;omega;omega
theorem JK{x y:List iy}(e:∀t∈x,qd t=Ta)(b:∀t∈y,qd t=Ta)(f:x.length<=64)(o:y.length<=64)(i j:Nat):gR x y i j<=65536:=by
 have key:∀(z:List iy),(∀t∈z,qd t=Ta)->∀i,(z.getD i eK).1.length<=512:=λz hz i=>by
  rw[zar];cases h:z[i]? with
  |none=>exact za0 _
  |some t=>obtain⟨k,l,_⟩:=jy (hz t (zcg h));show t.1.length<=512;omega
 have h:=AB (n:=x.length) (m:=y.length) (c:=λi j=>Yq (x.getD i eK) (y.getD j eK)) (key x e) (key y b) (x.length-i+(y.length-j)) i j;unfold gR jt;omega
theorem uD{M:Fr}{h:zc}(ag:AgM M h){xs:List iy}{s:Sl}(H:Rd M (.row jQ) xs [aK s]){k:Nat}(f:k<xs.length):∃(a:Addr) (s1 s2:Sl),s.a=Td a/\ze h (a.add (k*2)) 0 [aK s1,aK s2]/\Rd M (.row .str) xs[k].1 [aK s1]/\Rd M (.row PJ) xs[k].2 [aK s2]:=by
 obtain⟨b,o,cs,j,e,l⟩:=Go.X.rowAt H f;have m:RdV M jQ xs[k] (.agg (cut cs (o+k*sz jQ) (sz jQ)).toArray):=by unfold RdV;simp only[hY,if_true];exact⟨_,rfl,l⟩
 obtain⟨s1,s2,q,h1,c⟩:=se m;refine⟨_,s1,s2,j,?_,h1,c⟩;rw[ic];refine nP ag e (i:=0) ?_;have:(cut cs (o+k*sz jQ) (sz jQ))=[aK s1,aK s2]:=by injection q with q;exact congrArg zdu q
 exact this
structure Tbl (g:zc) (s:Sl) (tb n m:Nat) (B:Nat->Nat) (P:Nat->Nat->Nat):Prop where
 a:s.a=Td ⟨tb,0,Te⟩
 ln:s.len=n
 lt:tb<g.size
 at_:∀i,i<n->zd g ⟨tb,i,Te⟩=Td (aK ⟨Td ⟨B i,0,Te⟩,m,m⟩)
 row:∀i,i<n->IntB g (B i) m (P i)
 inj:∀i j,i<n->j<n->B i=B j->i=j
 ne:∀i,i<n->B i≠tb
section
variable {g g' : zc} {s : Sl} {tb n m : Nat} {B : Nat -> Nat} {P P' : Nat -> Nat -> Nat}
theorem Tbl.keep(H:Tbl g s tb n m B P)(hz:g.size<=g'.size)(b:g'[tb]?=g[tb]?)(k:∀i,i<n->g'[B i]?=g[B i]?):Tbl g' s tb n m B P:= ⟨H.a,H.ln,by have:=H.lt;omega,λi hi=>(JV (a:=⟨tb,i,Te⟩) b).trans (H.at_ i hi),λi hi=>(H.row i hi).keep (k i hi),H.inj,H.ne⟩
theorem Tbl.cel(H:Tbl g s tb n m B P){i j:Nat}(hi:i<n)(b:j<m):Cel g g.size s i j (P i j):= ⟨_,_,_,H.a,by rw[H.ln];exact hi,by rw[ic,zas,zbm];exact H.at_ i hi,rfl,b,by rw[ic,zas,zbm];exact(H.row i hi).cell b,H.lt,(H.row i hi).lt⟩
theorem Tbl.set(H:Tbl g s tb n m B P){i j x:Nat}(hi:i<n)(q:j<m){K:zc->Prop}(r:∀g',Tbl g' s tb n m B (λa b=>if a=i/\b=j then x else P a b)->g'.size=g.size->(∀k,k≠B i->g'[k]?=g[k]?)->K g'):
  XRunU Tp (zag 3 (.pointer (Td ⟨B i,j,Te⟩)) (.int .i64 ((x:Nat):Int))) g K:=by
 refine(H.row i hi).set q λg' h1 l f=>r g' ⟨H.a,H.ln,by have:=H.lt;omega,λa c=>(JV (a:=⟨tb,a,Te⟩) (f _ (H.ne i hi).symm)).trans (H.at_ a c),λa c=>?_,H.inj,H.ne⟩ l f;by_cases e:a=i;subst e;exact h1.ext λb o=>by by_cases e:b=j;rw[zA e,zA ⟨rfl,e⟩];rw[zv e,zv λh=>e h.2]
 refine((H.row a c).keep (f _ λh=>e (H.inj a i c hi h))).ext λb o=>?_;rw[zv λh=>e h.1]
end
structure Cst (g:zc) (M:Fr) (cb:Nat) (xs ys:List iy) (sa sb sp sr:Sl) (tp tr:Nat) (Bp Br:Nat->Nat) (P Q:Nat->Nat->Nat):Prop where
 ag:AgM M g
 box:Blk g cb #[aK sa,aK sb,aK sp,aK sr]
 ra:Rd M (.row jQ) xs [aK sa]
 rb:Rd M (.row jQ) ys [aK sb]
 p:Tbl g sp tp (xs.length+1) (ys.length+1) Bp P
 q:Tbl g sr tr (xs.length+1) (ys.length+1) Br Q
 nb:∀i,i<xs.length+1->Bp i≠cb/\Br i≠cb/\Bp i≠tr/\Br i≠tp
 dj:∀i j,i<xs.length+1->j<xs.length+1->Bp i≠Br j
 nM:∀i,i<xs.length+1->M (Bp i)=Te/\M (Br i)=Te
section
variable {gl M : Fr} {g : zc} {cb : Nat} {xs ys : List iy} {sa sb sp sr : Sl} {tp tr : Nat} {Bp Br : Nat -> Nat} {P Q : Nat -> Nat -> Nat}
theorem wN{a:Int}{n:Nat}(h:a=(n:Int))(b:n<=1000000):w6 a=(n:Int):=by rw[h,wrap64 (by omega) (by omega)]
set_option maxRecDepth 100000 in
theorem Gb(C:Cst g M cb xs ys sa sb sp sr tp tr Bp Br P Q){i j v:Nat}(hi:i<xs.length)(c:j<ys.length)(f:xs.length<=64/\ys.length<=64)(h:P i j<=200000/\Q (i+1) (j+1)<=200000)(e:v=P i j+Q (i+1) (j+1))(b:K (.int .i64 ((v:Nat):Int)) g):
  XC Tp 184 #[.pointer (Td ⟨cb,0,Te⟩),.int .i64 (i:Int),.int .i64 (j:Int)] g K:=by
 apply Us;refine⟨_,rfl,sp,C.box.cellAdd (o:=0) (k:=2) rfl,(C.p.cel (i:=i) (j:=j) (by omega) (by omega)).rd rfl rfl ⟨_,rfl,sr,C.box.cellAdd (o:=0) (k:=3) rfl,(C.q.cel (i:=i+1) (j:=j+1) (by omega) (by omega)).rd (wN rfl (by omega)) (wN rfl (by omega)) ?_⟩⟩;rw[wN (n:=v) (by omega) (by omega)];exact b
set_option maxRecDepth 100000 in
theorem Bv(C:Cst g M cb xs ys sa sb sp sr tp tr Bp Br P Q){i j v:Nat}(hi:i<xs.length)(w:j<=ys.length)(r:xs.length<=64/\ys.length<=64)(x:(xs.getD i eK).1.length<=512/\Q (i+1) j<=200000)(e:v=(xs.getD i eK).1.length+Q (i+1) j)(l:K (.int .i64 ((v:Nat):Int)) g):
  XC Tp 185 #[.pointer (Td ⟨cb,0,Te⟩),.int .i64 (i:Int),.int .i64 (j:Int)] g K:=by
 obtain⟨a,s1,s2,f,m,c,u⟩:=uD C.ag C.ra hi;have b:=(rowLen c).1;have h:=(rowLen C.ra).1;have t:(xs.getD i eK).1.length=xs[i].1.length:=by rw[zar,zai hi];rfl
 apply NV;refine⟨_,rfl,sa,C.box.cellAdd (o:=0) (k:=0) rfl,a,⟨f,by omega,by omega⟩,s1,by rw[zae];exact m.1,_,rfl,sr,C.box.cellAdd (o:=0) (k:=3) rfl,(C.q.cel (i:=i+1) (j:=j) (by omega) (by omega)).rd (wN rfl (by omega)) rfl ?_⟩;rw[wN (n:=v) (by omega) (by omega)];exact l
set_option maxRecDepth 100000 in
theorem DG(C:Cst g M cb xs ys sa sb sp sr tp tr Bp Br P Q){i j v:Nat}(hi:i<=xs.length)(b:j<ys.length)(t:xs.length<=64/\ys.length<=64)(x:(ys.getD j eK).1.length<=512/\Q i (j+1)<=200000)(e:v=(ys.getD j eK).1.length+Q i (j+1))(m:K (.int .i64 ((v:Nat):Int)) g):
  XC Tp 295 #[.pointer (Td ⟨cb,0,Te⟩),.int .i64 (i:Int),.int .i64 (j:Int)] g K:=by
 obtain⟨a,s1,s2,h,r,f,w⟩:=uD C.ag C.rb b;have c:=(rowLen f).1;have l:=(rowLen C.rb).1;have u:(ys.getD j eK).1.length=ys[j].1.length:=by rw[zar,zai b];rfl
 apply XE;refine⟨_,rfl,sb,C.box.cellAdd (o:=0) (k:=1) rfl,a,⟨h,by omega,by omega⟩,s1,by rw[zae];exact r.1,_,rfl,sr,C.box.cellAdd (o:=0) (k:=3) rfl,(C.q.cel (i:=i) (j:=j+1) (by omega) (by omega)).rd rfl (wN rfl (by omega)) ?_⟩;rw[wN (n:=v) (by omega) (by omega)];exact m
end
end
section
variable {i:Nat}
theorem VO{p q r:Nat}:(if((r:Nat):Int)<(if((q:Nat):Int)<((p:Nat):Int)then((q:Nat):Int)else((p:Nat):Int))then((r:Nat):Int)else if((q:Nat):Int)<((p:Nat):Int)then((q:Nat):Int)else((p:Nat):Int))=((min (min p q) r:Nat):Int):=by split <;> split <;> omega
def lR(xs ys:List iy)(P:Nat->Nat->Nat)(i j:Nat):Nat->Nat->Nat:=λa b=>if a=i/\b=j/\i<xs.length/\j<ys.length then Yq (xs.getD i eK) (ys.getD j eK)else P a b
section
variable {gl M : Fr} {g : zc} {cb : Nat} {xs ys : List iy} {sa sb sp sr : Sl} {tp tr : Nat} {Bp Br : Nat -> Nat} {P Q : Nat -> Nat -> Nat}
theorem getD_at{l:List iy}(h:i<l.length):l.getD i eK=l[i]:=by rw[zar,zai h];rfl
set_option maxRecDepth 100000 in
theorem Sw(hM:Fr.le gl M)(C:Cst g M cb xs ys sa sb sp sr tp tr Bp Br P Q)(T:∀t∈xs,qd t=Ta)(V:∀t∈ys,qd t=Ta)(hl:xs.length<=64/\ys.length<=64){i j:Nat}{ii jj:Int}(ei:ii=(i:Int))(ej:jj=(j:Int))(hi:i<=xs.length)(hj:j<=ys.length) (G:∀S N,i<=S->S<=xs.length->j<=N->N<=ys.length->S≠i\/N≠j->Q S N=gR xs ys S N) {K:Value->zc->Prop} (hK:∀g' M',Cst g' M' cb xs ys sa sb sp sr tp tr Bp Br (lR xs ys P i j) Q->Fr.le M M'->(∀b,b<g.size->M' b=M b)->g.size<=g'.size->(∀c,c<g.size->(∀k,k<xs.length+1->c≠Bp k)->g'[c]?=g[c]?)->K (.int .i64 ((gR xs ys i j:Nat):Int)) g'):
  XC Tp 242 #[.pointer (Td ⟨cb,0,Te⟩),.int .i64 ii,.int .i64 jj] g K:=by
 subst ei;subst ej;obtain⟨r,u⟩:=hl;have la:=(rowLen C.ra).1;have ab:=(rowLen C.rb).1;have D:=JK T V r u;have key:∀(z:List iy),(∀t∈z,qd t=Ta)->∀i,(z.getD i eK).1.length<=512:=λz hz i=>by
  rw[zar];cases h:z[i]? with
  |none=>exact za0 _
  |some t=>obtain⟨l1,l2,_⟩:=jy (hz t (zcg h));show t.1.length<=512;omega
 have I:=YK (n:=xs.length) (m:=ys.length) (sa:=λi=>(xs.getD i eK).1.length) (sb:=λj=>(ys.getD j eK).1.length) (c:=λi j=>Yq (xs.getD i eK) (ys.getD j eK)) i j;have I:gR xs ys i j=if xs.length<=i then(if ys.length<=j then 0 else(ys.getD j eK).1.length+gR xs ys i (j+1))else if ys.length<=j then(xs.getD i eK).1.length+gR xs ys (i+1) j else min (min (Yq (xs.getD i eK) (ys.getD j eK)+gR xs ys (i+1) (j+1)) ((xs.getD i eK).1.length+gR xs ys (i+1) j)) ((ys.getD j eK).1.length+gR xs ys i (j+1)):=I;have w:¬(i<xs.length/\j<ys.length)->K (.int .i64 ((gR xs ys i j:Nat):Int)) g:=λhn=>by
  have e:lR xs ys P i j=P:=by funext a b;unfold lR;rw[zv λh=>hn h.2.2]
  exact hK g M (by rw[e];exact C) (Fr.le.refl _) (λ_ _=>rfl) (zac _) λ_ _ _=>rfl
 apply OV;refine⟨_,rfl,sa,C.box.cellAdd (o:=0) (k:=0) rfl,_,rfl,sb,C.box.cellAdd (o:=0) (k:=1) rfl,?_⟩;rw[la,ab];refine⟨λA=>?_,λA=>⟨λh1=>?_,λh1=>⟨λh2=>?_,λh2=>?_⟩⟩⟩;have h:i=xs.length/\j=ys.length:=by cases e:(((i:Nat):Int)==((xs.length:Nat):Int));rw[e]at A;exact nomatch A;rw[e]at A;simp at e A;omega
 have:=w (by omega);rw[I,zA (by omega),zA (by omega)]at this;exact this;have f:i=xs.length:=by have:=beq_iff_eq.1 h1;omega
 have l:j<ys.length:=by rw[h1]at A;simp at A;omega
 refine DG C hi l ⟨r,u⟩ (v:=gR xs ys i j) ⟨key ys V j,by rw[G i (j+1) (zac _) hi (by omega) (by omega) (.inr (by omega))];have:=D i (j+1);omega⟩ ?_ ⟨_,rfl,w (by omega)⟩;rw[I,zA (by omega),zv (by omega),G i (j+1) (zac _) hi (by omega) (by omega) (.inr (by omega))];have f:i<xs.length:=by
  have:¬((i:Nat):Int)=((xs.length:Nat):Int):=by simpa using h1
  omega
 have l:j=ys.length:=by have:=beq_iff_eq.1 h2;omega
 refine Bv C f hj ⟨r,u⟩ (v:=gR xs ys i j) ⟨key xs T i,by rw[G (i+1) j (by omega) (by omega) (zac _) hj (.inl (by omega))];have:=D (i+1) j;omega⟩ ?_ ⟨_,rfl,w (by omega)⟩;rw[I,zv (by omega),zA (by omega),G (i+1) j (by omega) (by omega) (zac _) hj (.inl (by omega))];have f:i<xs.length:=by
  have:¬((i:Nat):Int)=((xs.length:Nat):Int):=by simpa using h1
  omega
 have l:j<ys.length:=by
  have:¬((j:Nat):Int)=((ys.length:Nat):Int):=by simpa using h2
  omega
 obtain⟨a1,s1,s2,e1,e2,r1,r2⟩:=uD C.ag C.ra f;obtain⟨a2,t1,t2,f1,E,r3,r4⟩:=uD C.ag C.rb l;have rs:=T _ (zak f);have rt:=V _ (zak l);have hd:=Kd rs rt;have aa:=C.p.at_ i (by omega);refine⟨_,rfl,sp,C.box.cellAdd (o:=0) (k:=2) rfl,_,⟨C.p.a,by omega,by rw[C.p.ln];omega⟩,⟨Td ⟨Bp i,0,Te⟩,ys.length+1,ys.length+1⟩,by rw[ic,zae,zas,zbm];exact aa,_,rfl,sa,C.box.cellAdd (o:=0) (k:=0) rfl,a1,⟨e1,by omega,by omega⟩,s1,s2,by rw[zae];exact e2,_,rfl,sb,C.box.cellAdd (o:=0) (k:=1) rfl,a2,⟨f1,by omega,by omega⟩,t1,t2,by rw[zae];exact E,?_⟩;refine(Pe (s:=xs[i]) (t:=ys[j]) (R:=λq=>q=(((Yq xs[i] ys[j]:Nat):Int),0)) (by unfold u0 Yq;rw[rs,rt];rfl)).go (vs:=[.agg #[aK s1,aK s2],.agg #[aK t1,aK t2]]) hM C.ag (zr (a:=Arg.mk jQ _) (mI r1 r2) (zr (a:=Arg.mk jQ _) (mI r3 r4) qj)) λv g1 Z q L J hq=>?_;subst hq;obtain⟨us,⟨u1,ae,rfl,H,⟨u2,rfl,F⟩⟩,rfl⟩:=J;have H:=rS H;have F:=rS F;subst H;subst F;have x:=L.keep;have B:Cst g1 Z cb xs ys sa sb sp sr tp tr Bp Br P Q:=⟨L.ag,C.box.keep (x.get _ C.box.lt),Rd.mono L.le C.ra,Rd.mono L.le C.rb,C.p.keep x.size (x.get _ C.p.lt) λk y=>x.get _ (C.p.row k y).lt,C.q.keep x.size (x.get _ C.q.lt) λk y=>x.get _ (C.q.row k y).lt,C.nb,C.dj,λk y=>⟨by rw[L.old _ (C.p.row k y).lt];exact(C.nM k y).1,by rw[L.old _ (C.q.row k y).lt];exact(C.nM k y).2⟩⟩;refine⟨_,_,rfl,_,⟨rfl,by omega,by show(j:Int)<((ys.length+1:Nat):Int);omega⟩,x.get _ (by rw[ic];exact C.p.lt),x.get _ C.box.lt,?_⟩;rw[ic,zae,zas,zbm];refine B.p.set (i:=i) (j:=j) (by omega) (by omega) λg2 p2 z2 E=>?_;have eP:lR xs ys P i j=λa b=>if a=i/\b=j then Yq xs[i] ys[j]else P a b:=by funext a b;unfold lR;rw[getD_at f,getD_at l];by_cases h:a=i/\b=j;rw[zA ⟨h.1,h.2,f,l⟩,zA h];rw[zv λh'=>h ⟨h'.1,h'.2.1⟩,zv h]
 have O:=C.nb i (by omega);have U:Cst g2 Z cb xs ys sa sb sp sr tp tr Bp Br (lR xs ys P i j) Q:=⟨AgM.off L.ag (λb cc e=>E b λD=>(by rw[D,(B.nM i (by omega)).1]at e;exact nomatch e)),B.box.keep (E _ O.1.symm),B.ra,B.rb,by rw[eP];exact p2,B.q.keep (by omega) (E _ O.2.2.1.symm) λk y=>E _ λh=>C.dj i k (by omega) y h.symm,B.nb,B.dj,B.nM⟩;have v1:(lR xs ys P i j) i j=Yq (xs.getD i eK) (ys.getD j eK):=by unfold lR;rw[zA ⟨rfl,rfl,f,l⟩]
 have q1:=G (i+1) (j+1) (by omega) (by omega) (by omega) (by omega) (.inl (by omega));have q2:=G (i+1) j (by omega) (by omega) (by omega) (by omega) (.inl (by omega));have q3:=G i (j+1) (by omega) (by omega) (by omega) (by omega) (.inr (by omega));have b1:=D (i+1) (j+1);have b2:=D (i+1) j;have b3:=D i (j+1);have ac:Yq (xs.getD i eK) (ys.getD j eK)<=1024:=by rw[getD_at f,getD_at l];exact hd
 refine Gb U f l ⟨r,u⟩ (v:=Yq (xs.getD i eK) (ys.getD j eK)+gR xs ys (i+1) (j+1)) ⟨by rw[v1];omega,by rw[q1];omega⟩ (by rw[v1,q1]) ⟨_,rfl,?_⟩;refine Bv U f (by omega) ⟨r,u⟩ (v:=(xs.getD i eK).1.length+gR xs ys (i+1) j) ⟨key xs T i,by rw[q2];omega⟩ (by rw[q2]) ⟨_,rfl,?_⟩;refine DG U (by omega) l ⟨r,u⟩ (v:=(ys.getD j eK).1.length+gR xs ys i (j+1)) ⟨key ys V j,by rw[q3];omega⟩ (by rw[q3]) ⟨_,rfl,?_⟩;rw[VO];have:=hK g2 Z U L.le L.old (by have:=x.size;omega) λc A Y=>(E c (Y i (by omega))).trans (x.get c A);rw[I,zv (by omega),zv (by omega)]at this;exact this
end
end
section
variable {n m x c:Nat} {ty:TypeId} {K:Value -> zc -> Prop} {g':zc}
def l7(n m:Nat)(B:Nat->Nat):List (List Value):=(zaq n).map λi=>[aK ⟨Td ⟨B i,0,Te⟩,m,m⟩]
theorem ZK{B:Nat->Nat}:l7 (n+1) m (λi=>if i=n then x else B i)=l7 n m B++[[aK ⟨Td ⟨x,0,Te⟩,m,m⟩]]:=by
 unfold l7;rw[zej,zbc];congr 1;refine zbx λi hi=>?_;have:=zbn.1 hi;have b:¬i=n:=by omega
 simp only[b,if_false];simp
structure Rws (m n:Nat) (g:zc) (s:Sl) (b:Nat) (cs:Array Value) (B:Nat->Nat):Prop where
 cr:CR g 1 (l7 n m B) s b cs
 row:∀i,i<n->IntB g (B i) m λ_=>0
 inj:∀i j,i<n->j<n->B i=B j->i=j
 ne:∀i,i<n->B i≠b
 lt:s.cap≠0->b<g.size
def iJ(n:Nat)(s:Sl)(b:Nat)(B:Nat->Nat)(c:Nat):Prop:=(s.cap≠0/\c=b)\/∃i,i<n/\c=B i
section
variable {m n : Nat} {g g' : zc} {s : Sl} {b : Nat} {cs : Array Value} {B : Nat -> Nat}
theorem Rws.len(H:Rws m n g s b cs B):s.len=n:=by rw[H.cr.ln];simp[l7]
theorem Rws.cap(H:Rws m n g s b cs B)(c:0<n):s.cap≠0:=by have:=H.len;have:=H.cr.ro.le;omega
theorem Rws.own(H:Rws m n g s b cs B)(h:iJ n s b B c):c<g.size:=by rcases h with⟨h1,rfl⟩|⟨i,hi,rfl⟩;exact H.lt h1;exact(H.row i hi).lt
theorem Rws.frame(H:Rws m n g s b cs B)(hz:g.size<=g'.size)(f:∀c,iJ n s b B c->g'[c]?=g[c]?):Rws m n g' s b cs B:=by refine⟨H.cr.frame λh=>f b (.inl ⟨?_,rfl⟩),λi hi=>(H.row i hi).keep (f _ (.inr ⟨i,hi,rfl⟩)),H.inj,H.ne,λh=>by have:=H.lt h;omega⟩;rcases h with h|h;have:=zb9.2 h;have e:=H.cr.ro.le;have:=H.cr.ln;omega;exact h
theorem Lz(s:Sl):∀u∈[aK s],u.oneCell'=Ta:=λu b=>by rw[za6.1 b];rfl
theorem Rws.add(H:Rws m n g s b cs B){x l:Nat}(z:IntB g x m λ_=>0)(A:¬iJ n s b B x)(G:Blk g l #[aK ⟨Td ⟨x,0,Te⟩,m,m⟩])(y:n<=1000000) (J:∀(q:Sl) (g':zc) (b':Nat) (cs':Array Value),Rws m (n+1) g' q b' cs' (λi=>if i=n then x else B i)->g.size<=g'.size->(∀c,iJ (n+1) q b' (λi=>if i=n then x else B i) c->iJ n s b B c\/c=x\/g.size<=c)->(∀j,j<g.size->¬iJ n s b B j->g'[j]?=g[j]?)->K (aK q) g'):
  qu Tp (zao #[74,74] ty #[aK s,aK ⟨Td ⟨l,0,Te⟩,1,1⟩]) g K:=by
 refine CR.app JR (by omega) H.cr (vs:=[aK ⟨Td ⟨x,0,Te⟩,m,m⟩]) G rfl (Lz _) (by simp[l7];exact y) λq g' b' cs' C I r w D=>?_;have k:iJ n s b B b'\/g.size<=b':=by rcases r with⟨f,u⟩|f;exact .inl (.inl ⟨by have:=H.cr.ro.le;omega,f⟩);exact .inr f
 have t:∀i,i<n->B i≠b':=λi hi e=>by rcases r with⟨f,_⟩|f;exact H.ne i hi (e.trans f);have:=(H.row i hi).lt;omega
 have F:x≠b':=λe=>by rcases k with h|h;exact A (e ▸ h);have:=z.lt;omega
 refine J q g' b' cs' ⟨by rw[ZK];exact C,λi hi=>?_,λi j hi E e=>?_,λi hi=>?_,λ_=>w⟩ I (λc L=>?_) λj E y=>D j E λe=>?_;by_cases e:i=n;simp only[e,if_true];exact z.keep (D x z.lt F);simp only[e,if_false];have o:i<n:=by omega
 exact(H.row i o).keep (D _ (H.row i o).lt (t i o));by_cases f:i=n <;> by_cases u:j=n;omega;simp only[f,u,if_true,if_false]at e;exact absurd (.inr ⟨j,by omega,e⟩) A;simp only[f,u,if_true,if_false]at e;exact absurd (.inr ⟨i,by omega,e.symm⟩) A;simp only[f,u,if_false]at e;exact H.inj i j (by omega) (by omega) e;by_cases e:i=n;simp only[e,if_true];exact F;simp only[e,if_false];exact t i (by omega);rcases L with⟨_,rfl⟩|⟨i,hi,rfl⟩;rcases k with h|h;exact .inl h;exact .inr (.inr h);by_cases e:i=n;subst e;exact .inr (.inl (zA rfl));simp only[e,if_false];exact .inl (.inr ⟨i,by omega,rfl⟩);subst e;rcases k with h|h;exact y h;omega
theorem Rws.nil:Rws m 0 g ⟨Te,0,0⟩ b cs B:=⟨⟨⟨zac _,.inl ⟨rfl,rfl⟩⟩,rfl,λi e h=>(by simp[l7]at h)⟩,λi hi=>absurd hi (zc5 _),λi _ hi=>absurd hi (zc5 _),λi hi=>absurd hi (zc5 _),λh=>absurd rfl h⟩
theorem Rws.cell(H:Rws m n g s b cs B){i:Nat}(hi:i<n):s.a=Td ⟨b,0,Te⟩/\b<g.size/\zd g ⟨b,i,Te⟩=Td (aK ⟨Td ⟨B i,0,Te⟩,m,m⟩):=by
 have c:l7 n m B≠[]:=λe=>by have:=congrArg zcf e;simp[l7]at this;omega
 obtain⟨h1,f⟩:=H.cr.blk c;refine⟨h1,f.lt,f.cell ?_⟩;have e:=(H.cr.el i [aK ⟨Td ⟨B i,0,Te⟩,m,m⟩] (by simp[l7,hi])).2;have:=AD e (q:=0) (by omega);rw[zbm,zew,zbh]at this;exact this
end
def Sid(m n:Nat)(s:Sl)(g:zc)(O:Nat->Prop):Nat->Sl->Prop
 |0,_=>∃b cs B,Rws m n g s b cs B/\∀c,iJ n s b B c->O c
 |1,y=>∃b cs B x,Rws m n g s b cs B/\(∀c,iJ n s b B c->O c)/\y=⟨Td ⟨x,0,Te⟩,m,m⟩/\IntB g x m (λ_=>0)/\¬iJ n s b B x/\O x
 |2,y=>∃b cs B x l,Rws m n g s b cs B/\(∀c,iJ n s b B c->O c)/\y=⟨Td ⟨l,0,Te⟩,1,1⟩/\IntB g x m (λ_=>0)/\¬iJ n s b B x/\O x/\Blk g l #[aK ⟨Td ⟨x,0,Te⟩,m,m⟩]/\O l
 |_,y=>∃b cs B,Rws m (n+1) g y b cs B/\∀c,iJ (n+1) y b B c->O c
theorem Sid.frame{s:Sl}{g g':zc}{O:Nat->Prop}:∀{k:Nat} {y:Sl},Sid m n s g O k y->g.size<=g'.size->(∀c,O c->g'[c]?=g[c]?)->Sid m n s g' O k y
 |0,y,⟨b,cs,B,h1,h2⟩,hz,f=>⟨b,cs,B,h1.frame hz λc e=>f c (h2 c e),h2⟩
 |1,y,⟨b,cs,B,x,h1,h2,h3,h4,h5,h6⟩,hz,f=>⟨b,cs,B,x,h1.frame hz λc e=>f c (h2 c e),h2,h3,h4.keep (f x h6),h5,h6⟩
 |2,y,⟨b,cs,B,x,l,h1,h2,h3,h4,h5,h6,h7,h8⟩,hz,f=>⟨b,cs,B,x,l,h1.frame hz λc e=>f c (h2 c e),h2,h3,h4.keep (f x h6),h5,h6,h7.keep (f l h8),h8⟩
 |k+3,y,⟨b,cs,B,h1,h2⟩,hz,f=>⟨b,cs,B,h1.frame hz λc e=>f c (h2 c e),h2⟩
structure St2 (m n:Nat) (s1 s2:Sl) (g0:zc) (O0:Nat->Prop) (i j:Nat) (y z:Sl) (g:zc) (O1 O2:Nat->Prop):Prop where
 s1:Sid m n s1 g O1 i y
 s2:Sid m n s2 g O2 j z
 dj:∀c,O1 c->¬O2 c
 l1:∀c,O1 c->c<g.size/\(O0 c\/g0.size<=c)
 l2:∀c,O2 c->c<g.size/\(O0 c\/g0.size<=c)
 sz:g0.size<=g.size
 fr:∀c,c<g0.size->¬O0 c->g[c]?=g0[c]?
def St(m n:Nat)(s1 s2:Sl)(g0:zc)(O0:Nat->Prop)(i j:Nat)(y z:Sl)(g:zc):Prop:=∃c b,St2 m n s1 s2 g0 O0 i j y z g c b
section
variable {m n : Nat} {s1 s2 : Sl} {g0 : zc} {O0 : Nat -> Prop} {i j : Nat} {y z : Sl} {g : zc}
theorem St.swap(H:St m n s1 s2 g0 O0 i j y z g):St m n s2 s1 g0 O0 j i z y g:=by obtain⟨o,l,a,b,c,d,e,f,k⟩:=H;exact⟨l,o,b,a,λx h h'=>c x h' h,e,d,f,k⟩
theorem St.get(H:St m n s1 s2 g0 O0 i j y z g)(b:c<g0.size)(e:¬O0 c):g[c]?=g0[c]?:=by obtain⟨h,f,S⟩:=H;exact S.fr c b e
theorem St.new(H:St m n s1 s2 g0 O0 i j y z g){f:Nat}{l:Sl}(k:Keep g.size g g')(u:g'.size=g.size+1)(r:∀b,Sid m n s1 g b i y->(∀c,b c->c<g.size)->Sid m n s1 g' (λc=>b c\/c=g.size) f l):St m n s1 s2 g0 O0 f j l z g':=by obtain⟨b,o,S⟩:=H;have t:=S.sz;refine⟨λc=>b c\/c=g.size,o,r b S.s1 λc e=>(S.l1 c e).1,S.s2.frame k.size λc e=>k.get c (S.l2 c e).1,?_,?_,?_,by omega,λc e q=>(k.get c (by omega)).trans (S.fr c e q)⟩;rintro c (h|rfl) h';exact S.dj c h h';have:=(S.l2 _ h').1;omega;rintro c (h|rfl);exact⟨by have:=(S.l1 c h).1;omega,(S.l1 c h).2⟩;exact⟨by omega,.inr t⟩;intro c h;exact⟨by have:=(S.l2 c h).1;omega,(S.l2 c h).2⟩
theorem St.mk(H:St m n s1 s2 g0 O0 0 j y z g)(o:m<=1000000)(r:∀f g',St m n s1 s2 g0 O0 1 j f z g'->K (aK f) g'):
  qu Tp (zbp 29 (.int .i64 (m:Int)) (.int .i64 (m:Int))) g K:=by
 refine AK (oq:ElemT _ _ _ _ 1 8) o λg' _ I k q=>r _ g' (H.new k q ?_);rintro O1 ⟨b,cs,B,h1,i⟩ t;have l:¬iJ n s1 b B g.size:=λh=>by have:=h1.own h;omega
 exact⟨b,cs,B,g.size,h1.frame k.size λc e=>k.get c (h1.own e),λc e=>.inl (i c e),rfl,I,l,.inr rfl⟩
theorem St.pu(H:St m n s1 s2 g0 O0 1 j y z g){T:TypeId}:St m n s1 s2 g0 O0 2 j ⟨Td ⟨g.size,0,Te⟩,1,1⟩ z (g.push (.cells #[aK y] T)):=by have k:Keep g.size g (g.push (.cells #[aK y] T)):=Keep.push _ _ (zac _);refine H.new k (zaf _) ?_;rintro O1 ⟨b,cs,B,x,h1,i,rfl,f,l,h⟩ o;exact⟨b,cs,B,x,g.size,h1.frame k.size λc e=>k.get c (h1.own e),λc e=>.inl (i c e),rfl,f.keep (k.get x f.lt),l,.inl h,Blk.new _ _ _,.inr rfl⟩
theorem St.ap(H:St m n s1 s2 g0 O0 2 j y z g)(w:n<=1000000)(J:∀o g',St m n s1 s2 g0 O0 3 j o z g'->K (aK o) g'):
  qu Tp (zao #[74,74] ty #[aK s1,aK y]) g K:=by
 obtain⟨D,t,S⟩:=H;obtain⟨b,cs,B,x,l,h1,k,rfl,E,I,A,G,L⟩:=S.s1;have M:=S.sz;refine h1.add E I G w λr g' b' cs' C F u q=>J r g' ⟨λc=>D c/\c<g'.size\/(g.size<=c/\c<g'.size),t,⟨b',cs',_,C,λc f=>?_⟩,S.s2.frame F λc f=>q c (S.l2 c f).1 λh=>S.dj c (k c h) f,?_,?_,?_,by omega,λc f i=>(q c (by omega) λh=>?_).trans (S.fr c f i)⟩;have e:=C.own f;rcases u c f with h|rfl|h;exact .inl ⟨k c h,e⟩;exact .inl ⟨A,e⟩;exact .inr ⟨h,e⟩;rintro c (⟨h,_⟩|⟨h,_⟩) h';exact S.dj c h h';have:=(S.l2 c h').1;omega;rintro c (⟨h,h'⟩|⟨h,h'⟩);exact⟨h',(S.l1 c h).2⟩;exact⟨h',.inr (by omega)⟩;intro c h;exact⟨by have:=(S.l2 c h).1;omega,(S.l2 c h).2⟩;rcases(S.l1 c (k c h)).2 with h'|h';exact i h';omega
end
end
section
theorem Cy:yb Tp 74=Ta:=by kernel_rfl
theorem HS:j4 Tp 74=1:=by kernel_rfl
structure RcS (h:zc) (sa sb:Sl) (m k:Nat) (sp sr:Sl) (g:zc) (b1 b2:Nat) (c1 c2:Array Value) (B1 B2:Nat->Nat):Prop where
 box:Blk g h.size #[aK sa,aK sb,aK sp,aK sr]
 p:Rws m k g sp b1 c1 B1
 q:Rws m k g sr b2 c2 B2
 dj:∀c,iJ k sp b1 B1 c->¬iJ k sr b2 B2 c
 lo:∀c,iJ k sp b1 B1 c\/iJ k sr b2 B2 c->h.size<c
 fr:∀c,c<h.size->g[c]?=h[c]?
 sz:h.size+1<=g.size
structure RcQ (M:Fr) (h:zc) (cb:Nat) (xs ys:List iy) (sa sb sp sr:Sl) (tp tr:Nat) (Bp Br:Nat->Nat) (c d:Nat) (g:zc) (M':Fr) (P Q:Nat->Nat->Nat):Prop where
 C:Cst g M' cb xs ys sa sb sp sr tp tr Bp Br P Q
 hq:∀a b,a<=xs.length->b<=ys.length->xs.length-a<c\/(xs.length-a=c/\ys.length-b<d)->Q a b=gR xs ys a b
 hp:∀a b,a<xs.length->b<ys.length->xs.length-a<c\/(xs.length-a=c/\ys.length-b<d)->P a b=Yq (xs.getD a eK) (ys.getD b eK)
 L:Later h M g M'
 lo:∀i,i<xs.length+1->h.size<=Bp i/\h.size<=Br i
set_option maxRecDepth 100000 in
set_option maxHeartbeats 2000000 in
theorem Ui{gl M:Fr}{h:zc}{xs ys:List iy}{sa sb:Sl}(hM:Fr.le gl M)(ag:AgM M h)(ra:Rd M (.row jQ) xs [aK sa])(rb:Rd M (.row jQ) ys [aK sb])(hx:∀t∈xs,qd t=Ta)(hy:∀t∈ys,qd t=Ta)(hl:xs.length<=64/\ys.length<=64){K:Value->zc->Prop} (hK:∀g M' cb sp sr tp tr Bp Br P Q,RcQ M h cb xs ys sa sb sp sr tp tr Bp Br (xs.length+1) 0 g M' P Q->K (.pointer (Td ⟨cb,0,Te⟩)) g):
  XC Tp 183 #[aK sa,aK sb] h K:=by
 obtain⟨bU,b7⟩:=hl;have la:=(rowLen ra).1;have bH:=(rowLen rb).1;apply ZI sa sb;intro h1;have x:Blk h1 h.size #[aK sa,aK sb,aK ⟨Te,0,0⟩,aK ⟨Te,0,0⟩]:=Blk.new _ _ _;have k1:Keep h.size h h1:=Keep.push _ _ (zac _);have z1:h1.size=h.size+1:=zaf _;clear_value h1;have eN:w6 (((sa.len:Nat):Int)+1)=((xs.length+1:Nat):Int):=by rw[la,zx (by omega)]
 have eM:w6 (((sb.len:Nat):Int)+1)=((ys.length+1:Nat):Int):=by rw[bH,zx (by omega)]
 refine⟨λi g=>∃(k:Nat) (sp sr:Sl) (b1 b2:Nat) (c1 c2:Array Value) (x A:Nat->Nat),i=(k:Int)/\k<=xs.length+1/\RcS h sa sb (ys.length+1) k sp sr g b1 b2 c1 c2 x A,λi _=>xs.length+1-i.toNat,⟨0,⟨Te,0,0⟩,⟨Te,0,0⟩,0,0,#[],#[],λ_=>0,λ_=>0,rfl,za0 _,x,Rws.nil,Rws.nil,?_,?_,λc l=>k1.get c l,by omega⟩,?_⟩;rintro c (⟨h1,_⟩|⟨i,hi,_⟩);simp_all;omega;rintro c ((⟨h1,_⟩|⟨i,hi,_⟩)|(⟨h1,_⟩|⟨i,hi,_⟩));simp_all;omega;simp_all;omega;rintro i g5 ⟨k,sp,sr,b1,b2,c1,c2,x,A,rfl,hk,S⟩;rw[eN];refine⟨λl=>?_,λl=>?_⟩
 ·have bS:k<xs.length+1:=by have h5:(k:Int)<((xs.length+1:Nat):Int):=zH l;omega
  have b9:h.size<g5.size:=by have:=S.sz;omega
  rw[eM];refine⟨_,rfl,sp,S.box.cellAdd (o:=0) (k:=2) rfl,_,rfl,sr,S.box.cellAdd (o:=0) (k:=3) rfl,?_⟩;intro ay aL au a6 bC aI aC aZ aU bL bj bG;have nO:¬(iJ k sp b1 x h.size\/iJ k sr b2 A h.size):=λhh=>by have:=S.lo _ hh;omega
  obtain⟨O0,Z⟩:∃O0:Nat->Prop,O0=λc=>iJ k sp b1 x c\/iJ k sr b2 A c:=⟨_,rfl⟩;have cb:∀{i j y z g},St (ys.length+1) k sp sr g5 O0 i j y z g->g[h.size]?=g5[h.size]?:=λH=>H.get b9 (by grind);have fin:∀n m g,St (ys.length+1) k sp sr g5 O0 3 3 n m g->XRunU Tp (zag 74 (.pointer (Td (zab ⟨h.size,0,Te⟩ 2))) (aK n)) g λbE=>∃G:Addr,Td (⟨h.size,0,Te⟩:Addr)=Td G/\XRunU Tp (zag 74 (.pointer (Td (zab G 3))) (aK m)) bE λaS=>
    (∃(k':Nat) (sp sr:Sl) (b1 b2:Nat) (c1 c2:Array Value) (x A:Nat->Nat),w6 ((k:Int)+1)=(k':Int)/\k'<=xs.length+1/\RcS h sa sb (ys.length+1) k' sp sr aS b1 b2 c1 c2 x A)/\xs.length+1-(w6 ((k:Int)+1)).toNat<xs.length+1-(k:Int).toNat:=λn m g H=>by
   have Bx:=S.box.keep (cb H);obtain⟨O1,O2,T⟩:=H;obtain⟨b6,ca,cd,R1,o1⟩:=T.s1;obtain⟨bY,bZ,bQ,R2,o2⟩:=T.s2;have hs:=T.sz;have bT:∀c,O1 c\/O2 c->h.size<c:=λc l=>by
    have:O0 c\/g5.size<=c:=by rcases l with l|l;exact(T.l1 c l).2;exact(T.l2 c l).2
    rcases this with hh|hh;rw[Z]at hh;exact S.lo c hh;omega
   rw[ic];refine xu Cy HS Bx (by simp) rfl λg1 u1 w1 v1=>⟨_,rfl,?_⟩;rw[ic];refine xu Cy HS u1 (by simp) rfl λg2 u2 w2 v2=>⟨⟨k+1,n,m,b6,bY,ca,bZ,cd,bQ,zx (by omega),bS,u2,R1.frame (by omega) λc l=>?_,R2.frame (by omega) λc l=>?_,λc l aB=>T.dj c (o1 c l) (o2 c aB),λc l=>bT c ?_,λc l=>?_,by omega⟩,by grind [zx]⟩;grind;grind;grind;refine(v2 c (by omega)).trans ((v1 c (by omega)).trans ((T.fr c (by omega) λhh=>?_).trans (S.fr c l)));rw[Z]at hh;have:=S.lo c hh;omega
  have af:∀n m g,St (ys.length+1) k sp sr g5 O0 3 2 m n g->ay n m g:=λn m g H=>H.swap.ap (by omega) λu g' f=>⟨u,rfl,_,rfl,fin m u g' f.swap⟩;have bu:∀n m g,St (ys.length+1) k sp sr g5 O0 3 1 m n g->aL n m g:=λn m g H=>(show _/\_ from⟨cb (H.swap.pu (T:=29)).swap,af _ _ _ H.swap.pu.swap⟩);have ak:∀n m g,St (ys.length+1) k sp sr g5 O0 2 2 m n g->au n m g:=λn m g H=>H.ap (by omega) λu g' f=>⟨u,rfl,cb f,af _ _ _ f⟩;have bI:∀y g z,St (ys.length+1) k sp sr g5 O0 3 0 y z g->a6 y g:=λy g z H=>H.swap.mk (by omega) λu g' f=>⟨u,rfl,cb f.swap,bu _ _ _ f.swap⟩;have bn:∀n m g,St (ys.length+1) k sp sr g5 O0 2 1 m n g->bC n m g:=λn m g H=>⟨H.ap (by omega) λu g' f=>⟨u,rfl,cb f,bu _ _ _ f⟩,by intro cy;exact⟨cb (H.swap.pu (T:=29)).swap,cb (H.swap.pu (T:=29)).swap,ak _ _ _ H.swap.pu.swap⟩⟩;have bO:∀n m g,St (ys.length+1) k sp sr g5 O0 1 2 m n g->aI n m g:=λn m g H=>(show _/\_/\_ from⟨cb (H.pu (T:=29)),cb (H.pu (T:=29)),ak _ _ _ H.pu⟩);have bi:∀y g z,St (ys.length+1) k sp sr g5 O0 2 0 y z g->aC y g:=λy g z H=>⟨H.ap (by omega) λu g' f=>⟨u,rfl,cb f,bI _ _ _ f⟩,H.swap.mk (by omega) λu g' f=>⟨u,rfl,cb f.swap,cb f.swap,bn _ _ _ f.swap⟩⟩;have aP:∀n m g,St (ys.length+1) k sp sr g5 O0 1 1 m n g->aZ n m g:=λn m g H=>⟨by intro cm;exact⟨cb (H.pu (T:=29)),cb (H.pu (T:=29)),bn _ _ _ H.pu⟩,by intro cn;exact⟨cb (H.swap.pu (T:=29)).swap,cb (H.swap.pu (T:=29)).swap,bO _ _ _ H.swap.pu.swap⟩⟩;have aJ:∀y g z,St (ys.length+1) k sp sr g5 O0 0 2 z y g->aU y g:=λy g z H=>H.mk (by omega) λu g' f=>⟨u,rfl,cb f,cb f,bO _ _ _ f⟩;have bz:∀y g z,St (ys.length+1) k sp sr g5 O0 1 0 y z g->bL y g:=λy g z H=>⟨by intro cp;exact⟨cb (H.pu (T:=29)),cb (H.pu (T:=29)),bi _ _ _ H.pu⟩,H.swap.mk (by omega) λu g' f=>⟨u,rfl,cb f.swap,cb f.swap,aP _ _ _ f.swap⟩⟩;have aT:∀y g z,St (ys.length+1) k sp sr g5 O0 0 1 z y g->bj y g:=λy g z H=>⟨H.mk (by omega) λu g' f=>⟨u,rfl,cb f,cb f,aP _ _ _ f⟩,by intro cB;exact⟨cb (H.swap.pu (T:=29)).swap,cb (H.swap.pu (T:=29)).swap,aJ _ _ _ H.swap.pu.swap⟩⟩;have aO:∀g y z,St (ys.length+1) k sp sr g5 O0 0 0 y z g->bG g:=λg y z H=>⟨H.mk (by omega) λu g' f=>⟨u,rfl,cb f,cb f,bz _ _ _ f⟩,H.swap.mk (by omega) λu g' f=>⟨u,rfl,cb f.swap,cb f.swap,aT _ _ _ f.swap⟩⟩;have st:St (ys.length+1) k sp sr g5 O0 0 0 sp sr g5:=⟨iJ k sp b1 x,iJ k sr b2 A,⟨b1,c1,x,S.p,λc l=>l⟩,⟨b2,c2,A,S.q,λc l=>l⟩,S.dj,λc l=>⟨S.p.own l,.inl (by rw[Z];exact .inl l)⟩,λc l=>⟨S.q.own l,.inl (by rw[Z];exact .inr l)⟩,zac _,λ_ _ _=>rfl⟩;clear_value ay aL au a6 bC aI aC aZ aU bL bj bG;refine⟨⟨rfl,rfl,st.mk (by omega) λu g' f=>⟨u,rfl,cb f,cb f,?_,cb f,cb f,bz _ _ _ f⟩,rfl,rfl,aO _ _ _ st⟩,rfl,rfl,⟨rfl,rfl,aO _ _ _ st⟩,st.swap.mk (by omega) λu g' f=>⟨u,rfl,cb f.swap,cb f.swap,⟨cb f.swap,cb f.swap,aT _ _ _ f.swap⟩,?_⟩⟩;intro ck;have P:=f.pu (T:=29);exact⟨cb P,cb P,P.ap (by omega) (λm g2 H2=>⟨m,rfl,cb H2,cb H2,bI _ _ _ H2⟩),cb P,cb P,bi _ _ _ P⟩;intro cz;have P:=(f.pu (T:=29)).swap;exact⟨cb P,cb P,cb P,cb P,aJ _ _ _ P⟩
 have bP:k=xs.length+1:=by have h5:¬(k:Int)<((xs.length+1:Nat):Int):=zI l;omega
 subst bP;have c0:=S.p.cell (i:=0) (by omega);have d0:=S.q.cell (i:=0) (by omega);have kg:Keep h.size h g5:=⟨by have:=S.sz;omega,S.fr⟩;have L5:Later h M g5 M:=Later.same ag kg;have lp:∀i,i<xs.length+1->h.size<x i:=λi hi=>S.lo _ (.inl (.inr ⟨i,hi,rfl⟩));have lq:∀i,i<xs.length+1->h.size<A i:=λi hi=>S.lo _ (.inr (.inr ⟨i,hi,rfl⟩));have cq:h.size<b1:=S.lo _ (.inl (.inl ⟨S.p.cap (by omega),rfl⟩));have cu:h.size<b2:=S.lo _ (.inr (.inl ⟨S.q.cap (by omega),rfl⟩));have aM:∀c,h.size<=c->M c=Te:=λc l=>by
  cases e:M c with
  |none=>rfl
  |some cs=>have:=ag.lt e;omega
 have C0:Cst g5 M h.size xs ys sa sb sp sr b1 b2 x A (λ_ _=>0) (λ_ _=>0):=⟨L5.ag,S.box,ra,rb,⟨c0.1,S.p.len,c0.2.1,λi hi=>(S.p.cell hi).2.2,S.p.row,S.p.inj,S.p.ne⟩,⟨d0.1,S.q.len,d0.2.1,λi hi=>(S.q.cell hi).2.2,S.q.row,S.q.inj,S.q.ne⟩,λi hi=>⟨by grind,by grind,λe=>S.dj (x i) (.inr ⟨i,hi,rfl⟩) (e ▸ .inl ⟨S.q.cap (by omega),rfl⟩),λe=>S.dj b1 (.inl ⟨S.p.cap (by omega),rfl⟩) (.inr ⟨i,hi,e.symm⟩)⟩,λi j hi hj e=>S.dj (x i) (.inr ⟨i,hi,rfl⟩) (.inr ⟨j,hj,e⟩),λi hi=>⟨aM _ (by grind),aM _ (by grind)⟩⟩;refine⟨λi g=>∃(c:Nat) (M':Fr) (P Q:Nat->Nat->Nat),i=(c:Int)/\c<=xs.length+1/\RcQ M h h.size xs ys sa sb sp sr b1 b2 x A c 0 g M' P Q,λi _=>xs.length+1-i.toNat,⟨0,M,_,_,rfl,za0 _,C0,λa b _ _ hd=>by omega,λa b _ _ hd=>by omega,L5,λi hi=>⟨by grind,by grind⟩⟩,?_⟩;clear C0;rintro i g6 ⟨c,M6,P6,Q6,rfl,co,S6⟩;rw[eM];refine⟨λl=>?_,λl=>?_⟩;have aB:c<xs.length+1:=by have h5:(c:Int)<((xs.length+1:Nat):Int):=zH l;omega
 refine⟨λj g=>∃(d:Nat) (M':Fr) (P Q:Nat->Nat->Nat),j=(d:Int)/\d<=ys.length+1/\RcQ M h h.size xs ys sa sb sp sr b1 b2 x A c d g M' P Q,λj _=>ys.length+1-j.toNat,⟨0,M6,P6,Q6,rfl,za0 _,S6⟩,?_⟩;rintro j g3 ⟨d,M3,P,Q,rfl,hd,T⟩;have C:=T.C;refine⟨λl=>?_,λl=>?_⟩;have bV:d<ys.length+1:=by have h5:(d:Int)<((ys.length+1:Nat):Int):=zH l;omega
 have eI:w6 (((sa.len:Nat):Int)-(c:Int))=((xs.length-c:Nat):Int):=by rw[la];exact wN (by omega) (by omega)
 have eJ:w6 (((sb.len:Nat):Int)-(d:Int))=((ys.length-d:Nat):Int):=by rw[bH];exact wN (by omega) (by omega)
 refine⟨_,rfl,sr,C.box.cellAdd (o:=0) (k:=3) rfl,?_⟩;intro aH aE be bN cj cg a7 bF bB aN aD bD aY bg bM aG aV bm a8 bq aQ br aF;obtain⟨Row,ac⟩:∃Row:Sl,Row=⟨Td ⟨A (xs.length-c),0,Te⟩,ys.length+1,ys.length+1⟩:=⟨_,rfl⟩;have ba:∀g:zc,Tbl g sr b2 (xs.length+1) (ys.length+1) A Q->zd g ((⟨b2,0,Te⟩:Addr).add ((w6 (((sa.len:Nat):Int)-(c:Int))).toNat*1))=Td (aK Row):=λg H=>by rw[eI,ic,zae,zas,zbm,ac];exact H.at_ _ (by omega)
 have cA:=ba g3 C.q;have Y:sr.a=Td (⟨b2,0,Te⟩:Addr)/\(0:Int)<=w6 (((sa.len:Nat):Int)-(c:Int))/\w6 (((sa.len:Nat):Int)-(c:Int))<((sr.len:Nat):Int):=⟨C.q.a,by rw[eI];omega,by rw[eI,C.q.ln];omega⟩;have bJ:Row.a=Td (⟨A (xs.length-c),0,Te⟩:Addr)/\(0:Int)<=w6 (((sb.len:Nat):Int)-(d:Int))/\w6 (((sb.len:Nat):Int)-(d:Int))<((Row.len:Nat):Int):=⟨by rw[ac],by rw[eJ];omega,by grind⟩;obtain⟨v,hv⟩:∃v:Int,v=((gR xs ys (xs.length-c) (ys.length-d):Nat):Int):=⟨_,rfl⟩;obtain⟨Post,D⟩:∃Post:zc->Prop,Post=λg'=>∃M',Cst g' M' h.size xs ys sa sb sp sr b1 b2 x A (lR xs ys P (xs.length-c) (ys.length-d)) Q/\Fr.le M3 M'/\(∀b,b<g3.size->M' b=M3 b)/\g3.size<=g'.size/\(∀c,c<g3.size->(∀k,k<xs.length+1->c≠x k)->g'[c]?=g3[c]?):=⟨_,rfl⟩;have LS:∀{K:Value->zc->Prop},(∀g',Post g'->K (.int .i64 v) g')->XC Tp 242 #[.pointer (Td ⟨h.size,0,Te⟩),.int .i64 (w6 (((sa.len:Nat):Int)-(c:Int))),.int .i64 (w6 (((sb.len:Nat):Int)-(d:Int)))] g3 K:=λ {K} hK=>by refine Sw (hM.trans T.L.le) C hx hy ⟨bU,b7⟩ eI eJ (by omega) (by omega) (λi' j' h1 h2 h3 h4 h5=>T.hq i' j' h2 h4 (by omega)) λg' M' w q2 q3 q4 q5=>?_;grind
 have pc:∀g',Post g'->zd g' ((⟨b2,0,Te⟩:Addr).add ((w6 (((sa.len:Nat):Int)-(c:Int))).toNat*1))=Td (aK Row):=λg' H=>by rw[D]at H;obtain⟨M',w,_⟩:=H;exact ba g' w.q
 have pb:∀g',Post g'->g'[h.size]?=g3[h.size]?:=λg' H=>by rw[D]at H;obtain⟨M',w,_,_,_,q5⟩:=H;exact q5 _ C.box.lt λk hk e=>(C.nb k hk).1 e.symm
 have I:∀g',Post g'->aH ((⟨A (xs.length-c),0,Te⟩:Addr).add ((w6 (((sb.len:Nat):Int)-(d:Int))).toNat*1)) v g':=λg' H=>by rw[D]at H;obtain⟨M',w,q2,q3,q4,q5⟩:=H;show XRunU Tp (zag 3 (.pointer (Td _)) (.int .i64 _)) g' _;rw[eJ,ic,zae,zas,zbm,hv];refine w.q.set (i:=xs.length-c) (j:=ys.length-d) (by omega) (by omega) λg4 p4 z4 f4=>⟨⟨d+1,M',_,_,zx (by omega),bV,⟨AgM.off w.ag (λb cc e=>f4 b λB=>(by rw[B,(w.nM _ (by omega)).2]at e;exact nomatch e)),w.box.keep (f4 _ (w.nb _ (by omega)).2.1.symm),w.ra,w.rb,w.p.keep (by omega) (f4 _ (w.nb _ (by omega)).2.2.2.symm) λk hk=>f4 _ (w.dj k _ hk (by omega)),p4,w.nb,w.dj,w.nM⟩,?_,?_,⟨⟨by have:=T.L.keep.size;omega,λb B=>?_⟩,T.L.le.trans q2,λb B=>(q3 b (by have:=T.L.keep.size;omega)).trans (T.L.old b B),?_⟩,T.lo⟩,by grind [zx]⟩;intro a b ha B aA;by_cases e:a=xs.length-c/\b=ys.length-d;grind;rw[zv e];exact T.hq a b ha B (by omega);intro a b ha B aA;unfold lR;by_cases e:a=xs.length-c/\b=ys.length-d;grind;rw[zv λh=>e ⟨h.1,h.2.1⟩];exact T.hp a b ha B (by omega);have l1:=T.lo (xs.length-c) (by omega);exact(f4 b (by omega)).trans ((q5 b (by have:=T.L.keep.size;omega) λk hk e=>by grind).trans (T.L.keep.get b B));exact AgM.off w.ag (λb cc e=>f4 b λB=>(by rw[B,(w.nM _ (by omega)).2]at e;exact nomatch e))
 have r:aE Row g3:=LS λg' H=>⟨_,rfl,_,bJ,I g' H⟩;have al:∀g',Post g'->be v Row g':=λg' H=>⟨_,bJ,I g' H⟩;have J:∀g',Post g'->bN v ((⟨b2,0,Te⟩:Addr).add ((w6 (((sa.len:Nat):Int)-(c:Int))).toNat*1)) g':=λg' H=>⟨Row,pc g' H,_,bJ,I g' H⟩;have U:a7 Row g3:=⟨r,LS λg' H=>⟨_,rfl,al g' H⟩⟩;have E:bF ((⟨b2,0,Te⟩:Addr).add ((w6 (((sa.len:Nat):Int)-(c:Int))).toNat*1)) g3:=⟨⟨Row,cA,r⟩,LS λg' H=>⟨_,rfl,pb g' H,J g' H⟩⟩;have aj:∀g',Post g'->bB v ((⟨b2,0,Te⟩:Addr).add ((w6 (((sa.len:Nat):Int)-(c:Int))).toNat*1)) g':=λg' H=>⟨⟨Row,pc g' H,al g' H⟩,pb g' H,J g' H⟩;have ai:∀g',Post g'->aN v g':=λg' H=>⟨_,Y,pb g' H,J g' H⟩;have az:aD Row g3:=⟨r,r⟩;have ae:bD Row g3:=⟨r,U⟩;have ab:aY Row g3:=⟨r,U⟩;have O:bg ((⟨b2,0,Te⟩:Addr).add ((w6 (((sa.len:Nat):Int)-(c:Int))).toNat*1)) g3:=⟨⟨Row,cA,r⟩,rfl,E⟩;have V:bM ((⟨b2,0,Te⟩:Addr).add ((w6 (((sa.len:Nat):Int)-(c:Int))).toNat*1)) g3:=⟨⟨Row,cA,r⟩,rfl,E⟩;have N:aG ((⟨b2,0,Te⟩:Addr).add ((w6 (((sa.len:Nat):Int)-(c:Int))).toNat*1)) g3:=⟨⟨Row,cA,U⟩,⟨rfl,E⟩,LS λg' H=>⟨_,rfl,pb g' H,aj g' H⟩⟩;have F:aV g3:=⟨⟨_,Y,rfl,E⟩,LS λg' H=>⟨_,rfl,pb g' H,ai g' H⟩⟩;have an:bm ((⟨b2,0,Te⟩:Addr).add ((w6 (((sa.len:Nat):Int)-(c:Int))).toNat*1)) g3:=⟨⟨Row,cA,az⟩,⟨rfl,O⟩,rfl,V⟩;have ar:a8 ((⟨b2,0,Te⟩:Addr).add ((w6 (((sa.len:Nat):Int)-(c:Int))).toNat*1)) g3:=⟨⟨Row,cA,ae⟩,⟨rfl,O⟩,rfl,N⟩;have am:bq ((⟨b2,0,Te⟩:Addr).add ((w6 (((sa.len:Nat):Int)-(c:Int))).toNat*1)) g3:=⟨⟨Row,cA,ab⟩,⟨rfl,V⟩,rfl,N⟩;have ah:aQ g3:=⟨⟨_,Y,rfl,O⟩,rfl,F⟩;have ax:br g3:=⟨⟨_,Y,rfl,V⟩,rfl,F⟩;have aa:aF g3:=⟨⟨_,Y,rfl,N⟩,⟨rfl,F⟩,LS λg' H=>⟨_,rfl,pb g' H,⟨_,Y,pb g' H,aj g' H⟩,pb g' H,ai g' H⟩⟩;exact⟨⟨_,Y,rfl,⟨Row,cA,az,ae,ab⟩,⟨rfl,an⟩,⟨rfl,ar⟩,rfl,am⟩,⟨rfl,⟨_,Y,rfl,an⟩,⟨rfl,ah⟩,rfl,ax⟩,⟨rfl,⟨_,Y,rfl,ar⟩,⟨rfl,ah⟩,rfl,aa⟩,rfl,⟨_,Y,rfl,am⟩,⟨rfl,ax⟩,rfl,aa⟩;have b8:d=ys.length+1:=by have h5:¬(d:Int)<((ys.length+1:Nat):Int):=zI l;omega
 subst b8;rw[zx (by omega)];exact⟨⟨c+1,M3,P,Q,rfl,aB,T.C,λa b ha B aA=>T.hq a b ha B (by omega),λa b ha B aA=>T.hp a b ha B (by omega),T.L,T.lo⟩,qB (by omega) (by omega) (by omega)⟩;grind
end
section
variable {M:Fr}
theorem YA:ElemT Tp 125 190 (.agg #[.int .i64 0,.int .i64 0]) (sz jR) 16:=⟨by kernel_rfl,⟨Tryz.t190,by kernel_rfl,by kernel_rfl,by kernel_rfl,by kernel_rfl⟩,rfl,by decide⟩
theorem JA{T:Ty}{r:List (El T)×Int}{w:Value}(h:J4 M [.row T,.int .i64] r w):∃s:Sl,w=.tuple #[aK s,.int .i64 r.2]/\Rd M (.row T) r.1 [aK s]:=by obtain⟨us,⟨e,c,rfl,h1,⟨u2,rfl,b⟩⟩,rfl⟩:=h;obtain⟨s,rfl,h1⟩:=Xq h1;have b:=rS b;subst b;exact⟨s,rfl,h1⟩
theorem BW{l:List pn}{s:Sl}(i j:Int)(h:Rd M (.row jR) l [aK s]):J4 M [.row jR,.int .i64,.int .i64] (l,i,j) (.tuple #[aK s,.int .i64 i,.int .i64 j]):= ⟨[_,_,_],⟨_,_,rfl,(Y9 rfl).2 h,_,_,rfl,Ja _ _,_,rfl,Ja _ _⟩,rfl⟩
theorem Pz(i j:Nat):Rd M jR (nQ (i,j)) [.int .i64 (i:Int),.int .i64 (j:Int)]:=⟨[.int .i64 (i:Int)],[.int .i64 (j:Int)],rfl,rfl,rfl⟩
theorem Cst.keep{g g':zc}{cb:Nat}{xs ys:List iy}{sa sb sp sr:Sl}{tp tr:Nat}{Bp Br:Nat->Nat}{P Q:Nat->Nat->Nat}(C:Cst g M cb xs ys sa sb sp sr tp tr Bp Br P Q)(ag:AgM M g')(hz:g.size<=g'.size)(f:∀j,j<g.size->g'[j]?=g[j]?):Cst g' M cb xs ys sa sb sp sr tp tr Bp Br P Q:= ⟨ag,C.box.keep (f _ C.box.lt),C.ra,C.rb,C.p.keep hz (f _ C.p.lt) λi hi=>f _ (C.p.row i hi).lt,C.q.keep hz (f _ C.q.lt) λi hi=>f _ (C.q.row i hi).lt,C.nb,C.dj,C.nM⟩
def rF(x y:List iy)(a b:Nat):List (Nat×Nat):=nV x.length y.length (λi=>(x.getD i eK).1.length) (λj=>(y.getD j eK).1.length) (λi j=>Yq (x.getD i eK) (y.getD j eK)) a b
theorem EK(x y:List iy)(a b:Nat):rF x y a b=if a<x.length/\b<y.length then(if gR x y a b=Yq (x.getD a eK) (y.getD b eK)+gR x y (a+1) (b+1)then(a,b)::rF x y (a+1) (b+1)else if gR x y a b=(x.getD a eK).1.length+gR x y (a+1) b then rF x y (a+1) b else rF x y a (b+1))else []:=Uo a b
set_option maxRecDepth 100000 in
set_option maxHeartbeats 2000000 in
theorem Mu{gl:Fr}(hg:GL gl)(F:Brn gl){us ws:List Tr}(hu:∀v∈us,GV v)(hw:∀v∈ws,GV v)(nu:us.length<=1000000)(nw:ws.length<=1000000){R:List pn×Int×Int->Prop}(Y:R (m5 us ws)):
  PC Tp gl 116 [Arg.mk (.row .tree) us,Arg.mk (.row .tree) ws] [.row jR,.int .i64,.int .i64] R:=by
 intro h M vs hM ag A;obtain⟨u,v,rfl,Z,aa⟩:∃u v,vs=[u,v]/\RdV M (.row .tree) us u/\RdV M (.row .tree) ws v:=by
  match vs,A with
  |[u,v],⟨h1,h2,_⟩=>exact⟨u,v,rfl,h1,h2⟩
 obtain⟨s1,rfl,r1⟩:=Xq Z;obtain⟨s2,rfl,r2⟩:=Xq aa;apply PX.of;apply XJ s1 s2;refine(FB hg F hu nu (R:=λq=>q=my (xd us)) rfl).go (vs:=[aK s1]) hM ag (zr (a:=Arg.mk (.row .tree) _) Z qj) λw2 h2 M2 q2 L2 I ah=>?_;subst ah;obtain⟨t1,rfl,d1⟩:=JA I;refine⟨t1,_,rfl,?_⟩;refine(FB hg F hw nw (R:=λq=>q=my (xd ws)) rfl).go (vs:=[aK s2]) (hM.trans L2.le) L2.ag (zr (a:=Arg.mk (.row .tree) _) (aa.mono L2.le) qj) λw6 h6 M6 q6 L6 U af=>?_;subst af;obtain⟨t2,rfl,d2⟩:=JA U;refine⟨t2,_,rfl,?_⟩;have LL:=L2.trans L6;have H:∀M',Rd M' (.row jR) [] [aK ⟨Te,0,0⟩]:=λM'=>⟨_,rfl,Te,0,rfl,⟨by simp,by simp⟩,.inl rfl⟩;unfold m5 at Y;cases ex:xd us with
 |none=>rw[ex]at Y;refine⟨λr=>?_,λ_=>⟨λ_=>⟨M6,_,LL,BW 0 6 (H M6),Y⟩,λr=>?_⟩⟩;cases ey:xd ws <;> rw[ey]at r <;> simp[my]at r;simp[my]at r
 |some x=>
  cases ey:xd ws with
  |none=>rw[ex,ey]at Y;refine⟨λr=>?_,λ_=>⟨λ_=>⟨M6,_,LL,BW 0 6 (H M6),Y⟩,λr=>?_⟩⟩;simp[my]at r;simp[my]at r
  |some y=>
   rw[ex,ey]at Y;rw[ex]at d1;rw[ey]at d2;have d1:Rd M2 (.row jQ) x [aK t1]:=d1;have d2:Rd M6 (.row jQ) y [aK t2]:=d2;obtain⟨rx,lx⟩:=EW ex;obtain⟨ry,ly⟩:=EW ey;have ab:=JK rx ry lx ly;have n1:=(rowLen d1).1;have n2:=(rowLen d2).1;refine⟨λr=>?_,λ_=>⟨λr=>?_,λ_=>?_⟩⟩;simp[my]at r;simp[my]at r;refine Ui (hM.trans LL.le) LL.ag (Rd.mono L6.le d1) d2 rx ry ⟨lx,ly⟩ λg0 M0 cb sp sr tp tr Bp Br P Q T=>⟨_,rfl,?_⟩;have C0:=T.C;have hq:∀a b,a<=x.length->b<=y.length->Q a b=gR x y a b:=λa b A F=>T.hq a b A F (by omega);have hp:∀a b,a<x.length->b<y.length->P a b=Yq (x.getD a eK) (y.getD b eK):=λa b A F=>T.hp a b A F (by omega);have LG:=LL.trans T.L;rw[n1,n2];have key:∀(z:List iy),(∀t∈z,qd t=Ta)->∀i,(z.getD i eK).1.length<=512:=λz hz i=>by
    rw[zar];cases h:z[i]? with
    |none=>exact za0 _
    |some t=>obtain⟨l1,l2,_⟩:=jy (hz t (zcg h));show t.1.length<=512;omega
   have ac:∀a b,a<x.length->b<y.length->Yq (x.getD a eK) (y.getD b eK)<=1024:=λa b A F=>by rw[getD_at A,getD_at F];exact Kd (rx _ (zak A)) (ry _ (zak F))
   refine⟨λout i j g=>∃(a b:Nat) (l:List (Nat×Nat)) (bs:List Nat),i=(a:Int)/\j=(b:Int)/\a<=x.length/\b<=y.length/\l.length<=a/\ORow g0.size g M0 jR (l.map nQ) out bs/\AgM M0 g/\g0.size<=g.size/\(∀c,c<g0.size->g[c]?=g0[c]?)/\AE x y=l++rF x y a b,λ_ i j _=>x.length+y.length-i.toNat-j.toNat,⟨0,0,[],[],rfl,rfl,za0 _,za0 _,zac _,ORow.nil,C0.ag,zac _,λ_ _=>rfl,rfl⟩,?_⟩;rintro out i j g ⟨a,b,l,bs,rfl,rfl,A,G,hl,O,agg,hz,fr,E⟩;have C:=C0.keep agg hz fr;refine⟨λm=>?_,λm=>?_⟩;have S:a<x.length/\b<y.length:=by cases e:decide ((a:Int)<((x.length:Nat):Int));rw[e]at m;exact nomatch m;rw[e]at m;have h1:=zH e;have h2:=zH (show decide ((b:Int)<((y.length:Nat):Int))=Ta from m);exact⟨by omega,by omega⟩
   obtain⟨n,f⟩:=S;have vq:=hq a b A G;have q1:=hq (a+1) (b+1) (by omega) (by omega);have q2:=hq (a+1) b (by omega) G;have pd:=hp a b n f;have b1:=ab (a+1) (b+1);have b2:=ab (a+1) b;have dl:=ac a b n f;have D:=EK x y a b;rw[zA ⟨n,f⟩]at D;refine⟨_,rfl,sr,C.box.cellAdd (o:=0) (k:=3) rfl,(C.q.cel (i:=a) (j:=b) (by omega) (by omega)).rd rfl rfl ?_⟩;rw[vq];refine Gb C n f ⟨lx,ly⟩ (v:=Yq (x.getD a eK) (y.getD b eK)+gR x y (a+1) (b+1)) ⟨by rw[pd];omega,by rw[q1];omega⟩ (by rw[pd,q1]) ⟨_,rfl,λJ=>?_,λJ=>?_⟩;have J:gR x y a b=Yq (x.getD a eK) (y.getD b eK)+gR x y (a+1) (b+1):=by have:=beq_iff_eq.1 J;omega
   rw[zA J]at D;intro w;have kp:Keep g.size g w:=Keep.push _ _ (zac _);have ae:Blk w g.size [.int .i64 (a:Int),.int .i64 (b:Int)].toArray:=Blk.new _ _ _;have zp:w.size=g.size+1:=zaf _;clear_value w;have V:ORow g0.size w M0 jR (l.map nQ) out bs:=O.frame (λc m=>kp.get c (O.own c m).2.1) (Fr.le.refl _) λc m=>(O.own c m).2.2;have B:=agg.keep kp;refine V.app YA (by omega) B (by omega) ae (Pz a b) (by rw[zap];omega) λs' g' bs' O' z' o' f'=>⟨s',rfl,⟨a+1,b+1,l++[(a,b)],bs',zx (by omega),zx (by omega),n,f,by rw[zah];simp;omega,by rw[zbc];exact O',?_,by omega,λc m=>?_,?_⟩,by rw[zx (by omega),zx (by omega)];simp only[zae];omega⟩;exact AgM.off B λc cc e=>f' c (B.lt e) λhm=>by rw[(V.own c hm).2.2]at e;exact nomatch e
   exact(f' c (by omega) λhm=>by have:=(V.own c hm).1;omega).trans ((kp.get c (by omega)).trans (fr c m));rw[E,D,za9];rfl;have J:¬gR x y a b=Yq (x.getD a eK) (y.getD b eK)+gR x y (a+1) (b+1):=λe=>by
    have:¬((gR x y a b:Nat):Int)=((Yq (x.getD a eK) (y.getD b eK)+gR x y (a+1) (b+1):Nat):Int):=by simpa using J
    omega
   rw[zv J]at D;refine Bv C n G ⟨lx,ly⟩ (v:=(x.getD a eK).1.length+gR x y (a+1) b) ⟨key x rx a,by rw[q2];omega⟩ (by rw[q2]) ⟨_,rfl,λN=>?_,λN=>?_⟩;have N:gR x y a b=(x.getD a eK).1.length+gR x y (a+1) b:=by have:=beq_iff_eq.1 N;omega
   rw[zA N]at D;exact⟨⟨a+1,b,l,bs,zx (by omega),rfl,n,G,by omega,O,agg,hz,fr,by rw[E,D]⟩,by rw[zx (by omega)];simp only[zae];omega⟩;have N:¬gR x y a b=(x.getD a eK).1.length+gR x y (a+1) b:=λe=>by
    have:¬((gR x y a b:Nat):Int)=(((x.getD a eK).1.length+gR x y (a+1) b:Nat):Int):=by simpa using N
    omega
   rw[zv N]at D;exact⟨⟨a,b+1,l,bs,rfl,zx (by omega),A,f,hl,O,agg,hz,fr,by rw[E,D]⟩,by rw[zx (by omega)];simp only[zae];omega⟩;have S:¬(a<x.length/\b<y.length):=λ⟨h1,h2⟩=>by have e1:decide ((a:Int)<((x.length:Nat):Int))=Ta:=zJ (by omega);have e2:decide ((b:Int)<((y.length:Nat):Int))=Ta:=zJ (by omega);rw[e1,e2]at m;exact nomatch m
   have D:=EK x y a b;rw[zv S]at D;rw[D,zbs]at E;refine⟨_,rfl,sr,C.box.cellAdd (o:=0) (k:=3) rfl,(C.q.cel (i:=0) (j:=0) (by omega) (by omega)).rd rfl rfl ⟨MxL M0 g bs,_,LG.trans (MxL.later C0.ag ⟨hz,fr⟩ λc m=>(O.own c m).1),BW _ 0 (O.rd agg (λc m=>m) (by rw[zap];omega)),?_⟩⟩;rw[hq 0 0 (za0 _) (za0 _),<-E];exact Y
end
end
section
section
theorem NJ(f:Sl)(i:Bt)(h:zc)(R:Value->zc->Prop) (H:((Td (iV (f.len:Int)):Option Value)=Te\/∃v,(Td (iV (f.len:Int)):Option Value)=Td v)/\(0<=(0:Int)/\(0:Int)<=(f.len:Int)/\(f.len:Int)<=(f.len:Int)/\(f.len:Int)<=(f.cap:Int))/\let b:=h.push (.cells #[.string i] 9);qu Tp (zao #[22,22] 22 #[.slice (x9 f.a 1 ((0:Int).toNat) ((f.len:Int).toNat)) ((f.len:Int).toNat-(0:Int).toNat) ((f.len:Int).toNat-(0:Int).toNat),.slice (Td ⟨h.size,0,Te⟩) 1 1]) b (λc d=>∃e,c=aK e/\R (aK e) d)):
  XC Tp 181 #[.slice f.a f.len f.cap,.string i] h R:=
 XF ⟨[],[],[]⟩ [.tmp 4] 14 Tryz.func181 H
end
section
section
variable {gl M : Fr} {h : zc}
theorem TD{cs:Array Value}{n:Nat}{l:List Value}(h:cs.toList.take n=l):cut cs 0 n=l:=by unfold cut;rw[zcm];exact h
theorem rN{p:List Bt}{bp:List Nat}{sp:Sl}(P:OPath h p bp sp)(O:p.length<=1000000)(s:Bt){K:Value->zc->Prop}
  (F:∀(g:zc) (m:Sl) (b:Nat),Keep h.size h g->h.size<=b->b<g.size->OPath g (p++[s]) [b] m->K (aK m) g):XC Tp 181 #[aK sp,.string s] h K:=by
 obtain⟨h1,L,Q,E⟩:=P;apply NJ sp s;refine⟨.inr ⟨_,rfl⟩,⟨by omega,by omega,by omega,by omega⟩,?_⟩;intro g1;have x:Keep h.size h g1:=Keep.push _ _ (zac _);have M:g1.size=h.size+1:=zaf _;have b1:Blk g1 h.size #[.string s]:=Blk.new _ _ _;clear_value g1;rw[zae,show(0:Int).toNat=0 from rfl,Zc,zdo];have arr:Arr g1.size g1 (Td ⟨h.size,0,Te⟩) [.string s]:=.inr ⟨h.size,0,rfl,by omega,λi v k=>by refine b1.cell ?_;rw[zas,<-zbh];exact k⟩;have fin:∀(g:zc) (c n:Nat) (f:Array Value),n=p.length+1->n<=c->Blk g g1.size f->f.toList.take (p.length+1)=p.map zaz++[.string s]->Keep g1.size g1 g->∃r:Sl,zfm (Td ⟨g1.size,0,Te⟩) n c=aK r/\K (aK r) g:=λg c n f I D l w y=>by subst I;refine⟨⟨Td ⟨g1.size,0,Te⟩,p.length+1,c⟩,rfl,F g _ g1.size (x.trans y (by omega)) (by omega) l.lt ⟨by simp,by simp;exact D,by simp;omega,.inr ⟨g1.size,f,rfl,rfl,l,?_⟩⟩⟩;rw[zah,zbc];exact TD w
 cases ha:sp.a with
 |none=>
  have B:p=[]:=by rcases E with⟨h0,_⟩|⟨b,cs,_,e,_⟩;exact h0;rw[ha]at e;exact nomatch e
  subst B;have H:sp.len=0:=h1;rw[H];refine oK Wt (s:=⟨Te,0,0⟩) (b:=g1.size) (cs:=#[]) ⟨zac _,.inl ⟨rfl,rfl⟩⟩ b1 rfl (λu G=>by simp at G;rw[G];rfl) (by simp) (by simp) λm g b' cs' N=>?_;have J:g1.size<=b':=by rcases N.new with e|e;omega;exact e
  have A:m.len=1:=N.len;have z:=N.cap;refine⟨m,rfl,F g m b' ⟨by have:=N.grow;omega,λj C=>(N.old j (by omega) (by omega)).trans (x.get j C)⟩ (by omega) N.blk.lt ⟨A,z,by simp,.inr ⟨b',cs',rfl,N.a,N.blk,?_⟩⟩⟩;have:=N.cut;exact this
 |some q=>
  have o:∀j v,(p.map zaz)[j]?=Td v->zd g1 (q.add j)=Td v:=λj v k=>by
   rcases E with⟨h0,_⟩|⟨b,cs,_,e,l,t⟩;rw[h0]at k;exact nomatch k;rw[ha]at e;have e:=zbi e;subst e;rw[ic,zas];refine(l.keep (x.get b l.lt)).cell ?_;have C:j<p.length:=by have:=(za5.1 k).1;simpa using this
   rw[<-t,zk,zA C,zas]at k;rw[<-zbh];exact k
  refine Ib Wt (p:=q) (n:=sp.len) (olds:=p.map zaz) (by simp[h1]) o (src:=⟨Td ⟨h.size,0,Te⟩,1,1⟩) (N:=g1.size) (news:=[.string s]) arr rfl (by rw[h1];simp;omega) (by rw[h1];simp;omega) (λh0=>absurd h0 (show¬(1:Nat)=0 by decide)) λc g f _ D l w y=>?_;refine fin g c _ f (by rw[h1]) D l ?_ y;have:(p.map zaz++[zaz s]).length=p.length+1:=by simp
  rw[this]at w;exact w
end
end
section
structure Df (lo:Nat) (M:Fr) (db:Nat) (g:zc) (na:DA) (so:Sl) (b:Nat) (cs:Array Value):Prop where
 ag:AgM M g
 box:Blk g db #[aK so]
 ds:DStp lo g M na so b cs
 nb:¬iq na so b db
 lo:lo<=g.size
 nM:M db=Te
structure Dt (h g:zc) (db:Nat) (na:DA) (so:Sl) (b:Nat) (na':DA) (so':Sl) (b':Nat) (X:Nat->Prop):Prop where
 sz:h.size<=g.size
 own:∀c,iq na' so' b' c->iq na so b c\/X c\/h.size<=c
 fr:∀j,j<h.size->¬iq na so b j->j≠db->g[j]?=h[j]?
section
variable {lo db b b' b2 : Nat} {M M' : Fr} {h g g2 : zc} {na na' na2 : DA} {so so' so2 : Sl} {cs : Array Value} {X Y : Nat -> Prop}
theorem Dt.refl:Dt h h db na so b na so b X:=⟨zac _,λc e=>.inl e,λ_ _ _ _=>rfl⟩
theorem Dt.mono(H:Dt h g db na so b na' so' b' X)(e:∀c,X c->Y c\/h.size<=c):Dt h g db na so b na' so' b' Y:= ⟨H.sz,λc f=>by rcases H.own c f with q|q|q;exact .inl q;rcases e c q with q|q;exact .inr (.inl q);exact .inr (.inr q);exact .inr (.inr q),H.fr⟩
theorem Df.keep(D:Df lo M db h na so b cs)(k:Keep h.size h g):Df lo M db g na so b cs:= ⟨D.ag.keep k,D.box.keep (k.get _ D.box.lt),D.ds.frame k.size (λc e=>k.get c (D.ds.own e).2.1) λc e=>(D.ds.own e).2.2,D.nb,by have:=D.lo;have:=k.size;omega,D.nM⟩
theorem Df.mem(D:Df lo M db h na so b cs)(ag:AgM M' h)(le:Fr.le M M')(e:∀c,iq na so b c->M' c=Te)(nd:M' db=Te):Df lo M' db h na so b cs:= ⟨ag,D.box,D.ds.frame (zac _) (λ_ _=>rfl) e,D.nb,D.lo,nd⟩
theorem Df.back(D:Df lo M' db h na so b cs)(ag:AgM M h)(le:Fr.le M M'):Df lo M db h na so b cs:=by
 have key:∀c,M' c=Te->M c=Te:=λc f=>by
  cases e:M c with
  |none=>rfl
  |some x=>rw[le c x e]at f;exact nomatch f
 exact⟨ag,D.box,D.ds.frame (zac _) (λ_ _=>rfl) λc f=>key c (D.ds.own f).2.2,D.nb,D.lo,key _ D.nM⟩
theorem Tj:ElemT Tp 44 50 (.agg #[.string ⟨#[]⟩,.slice Te 0 0,.slice Te 0 0,.int .i64 0,.string ⟨#[]⟩,.slice Te 0 0,.slice Te 0 0]) 7 136:=⟨by kernel_rfl,⟨Tryz.t50,by kernel_rfl,by kernel_rfl,by kernel_rfl,by kernel_rfl⟩,rfl,by decide⟩
theorem Uf:yb Tp 44=Ta:=by kernel_rfl
theorem Vh:j4 Tp 44=1:=by kernel_rfl
set_option maxRecDepth 100000 in
theorem Mw(D:Df lo M db h na so b cs){p:List Bt}{bp:List Nat}{sp:Sl}(P:OPath h p bp sp){v:Tr}{sk si:Sl}{bv:List Nat}(V:OT h v bv (zm v sk si))(n:∀c,c∈bp\/c∈bv->lo<=c/\M c=Te/\¬iq na so b c/\c≠db)(y:∀c∈bp,c∉bv)(B:na.length<=1000000)(l:Bt){K:Value->zc->Prop} (Q:∀g so' b' cs',Df lo M db g (na++[((l,p,[],v),⟨sp,bp,sk,si,bv⟩)]) so' b' cs'->Dt h g db na so b (na++[((l,p,[],v),⟨sp,bp,sk,si,bv⟩)]) so' b' (λc=>c∈bp\/c∈bv)->(∀c,c∈bp\/c∈bv->g[c]?=h[c]?)->K (.tuple #[]) g):
  XC Tp 118 #[.pointer (Td ⟨db,0,Te⟩),.string l,.agg #[.int .i64 v.kind,.string v.text,aK sk,aK si],aK sp] h K:=by
 apply MJ (Td ⟨db,0,Te⟩) l v.kind v.text sk si sp;intro h1;have F:Keep h.size h h1:=Keep.push _ _ (zac _);have Y:h1.size=h.size+1:=zaf _;have b1:Blk h1 h.size (zm v sk si).toArray:=Blk.new _ _ _;clear_value h1;have G:=D.keep F;refine⟨_,rfl,so,G.box.cellAdd (o:=0) (k:=0) rfl,v.kind,v.text,sk,si,b1.ld (cs:=zm v sk si),rfl,?_⟩;intro m;have A:Keep h1.size h1 m:=Keep.push _ _ (zac _);have z8:m.size=h1.size+1:=zaf _;have U:Blk m h1.size (dC ((l,p,[],v),⟨sp,bp,sk,si,bv⟩)).toArray:=Blk.new _ _ _;clear_value m;have x:Keep h.size h m:=F.trans A (by omega);have w:=G.keep A;have r:=V.lt;have u:∀c∈bp,c<h.size:=λc f=>by obtain⟨_,_,_,J⟩:=P;rcases J with⟨_,rfl⟩|⟨b',cs',rfl,_,e,_⟩;exact nomatch f;rw[za6.1 f];exact e.lt
 have t:∀c,c∈bp\/c∈bv->c<h.size:=λc f=>by rcases f with f|f;exact u c f;exact r c f
 have I:DI lo m M ((l,p,[],v),⟨sp,bp,sk,si,bv⟩):=⟨P.frame λc f=>x.get c (u c f),rfl,V.frame λc f=>x.get c (r c f),λc f=>⟨(n c f).1,by have:=t c f;omega,(n c f).2.1⟩,y⟩;have O:=D.box.lt;refine⟨A.get _ (by show db<_;omega),w.ds.push Tj (by omega) w.ag I (λc f=>(n c f).2.2.1) w.lo U B λz g' b' cs' N z' H E=>⟨z,rfl,_,rfl,?_⟩⟩;have nd:∀c,iq (na++[((l,p,[],v),⟨sp,bp,sk,si,bv⟩)]) z b' c->c≠db:=λc f e=>by subst e;rcases H c f with q|q|q;exact D.nb q;exact(n c q).2.2.2 rfl;omega
 have T:Blk g' db #[aK so]:=w.box.keep (E db (by omega) D.nb);refine xu Uf Vh T (by show 0<1;omega) rfl λg2 u2 w2 C=>?_;have i:∀j,j<h.size->¬iq na so b j->j≠db->g2[j]?=h[j]?:=λj L B y=>(C j y).trans ((E j (by omega) B).trans (x.get j L));refine Q g2 z b' cs' ⟨AgM.off D.ag λc Z e=>i c (D.ag.lt e) (λf=>?_) λS=>?_,u2,N.frame (by omega) (λc f=>C c (nd c f)) (λc f=>(N.own f).2.2),λf=>nd db f rfl,by have:=D.lo;omega,D.nM⟩ ⟨by omega,λc f=>?_,i⟩ λc f=>i c (t c f) (n c f).2.2.1 (n c f).2.2.2;rw[(D.ds.own f).2.2]at e;exact nomatch e;rw[S,D.nM]at e;exact nomatch e;rcases H c f with q|q|q;exact .inl q;exact .inr (.inl q);exact .inr (.inr (by omega))
end
end
end
section
open Go.Lib
set_option maxHeartbeats 1000000 in
section
theorem Iq{v:Tr}(Y:v.keys.Nodup)(hl:v.keys.length=v.items.length)(hi:v.items.length<=1000000000000){h:zc}{M:Fr}{u:Value}(ag:AgM M h)(U:RdV M .tree v u){K:Value->zc->Prop} (S:∀(h':zc) (m:Nat) (us:List Value),Keep h.size h h'->h.size<=m->us.length=v.items.length->(∀i (h1:i<v.items.length) (l:i<us.length),RdV M .tree v.items[i] us[i])->MapW h' m (Y5 (v.keys.zip us))->K (.map (Td m)) h'):
  XC Tp 179 #[u] h K:=by
 obtain⟨sk,si,rfl,F,L⟩:=qp U;obtain⟨C,_,_⟩:=rowLen F;obtain⟨li,_,_⟩:=rowLen L;apply Ue v.kind v.text sk si;intro h1;have N:Keep h.size h h1:=Keep.push _ _ (zac _);have b1:Blk h1 h.size (zj v.kind v.text sk si).toArray:=Blk.new _ _ _;have z1:h1.size=h.size+1:=zaf _;clear_value h1;refine⟨sk,b1.cellAdd (by rfl),?_⟩;intro c;have E:Keep h1.size h1 c:=Keep.push _ _ (zac _);have P:MapW c h1.size []:=MapW.new _;have z3:c.size=h1.size+1:=zaf _;clear_value c;have b3:=b1.ofKeep E;have Q:Keep h.size h c:=N.trans E (by omega);refine⟨sk,b3.cellAdd (by rfl),λx g=>∃(k:Nat) (us:List Value),x=(k:Int)/\k<=v.items.length/\us.length=k/\g.size=c.size/\(∀j,j≠h1.size->g[j]?=c[j]?)/\(∀i (h1:i<v.items.length) (l:i<us.length),RdV M .tree v.items[i] us[i])/\MapW g h1.size (Y5 ((v.keys.take k).zip us)),λx _=>v.items.length-x.toNat,⟨0,[],rfl,za0 _,rfl,rfl,λ_ _=>rfl,λi _ l=>by simp at l,by simpa[Y5]using P⟩,?_⟩;rintro x g ⟨k,us,rfl,hk,n,zg,A,H,z⟩;have D:Keep h.size h g:=⟨by omega,λj w=>by rw[A j (by omega)];exact Q.get j w⟩;have agg:=ag.keep D;refine⟨λt=>?_,λt=>?_⟩;have b:k<v.keys.length:=by rw[C]at t;simp at t;omega
 have q:k<v.items.length:=by omega
 refine jP agg F b rfl rfl ?_;have T:Blk g h.size (zj v.kind v.text sk si).toArray:=b3.keep (A _ (by omega));obtain⟨a,G,I,ea,B,O,Z⟩:=Jt agg L q;refine⟨si,T.cellAdd (by rfl),a,⟨ea,by omega,by omega⟩,v.items[k].kind,v.items[k].text,G,I,?_,?_⟩;rw[zae];exact B;refine FM mapVal z v.keys[k] _ λg' o V y=>?_;rw[je q (by omega)];refine⟨⟨k+1,us++[.agg #[.int .i64 v.items[k].kind,.string v.items[k].text,aK G,aK I]],rfl,by omega,by simp;omega,by omega,λj w=>(y j w).trans (A j w),λi h1 l=>?_,?_⟩,by simp only[zae];omega⟩;rw[List.getElem_append];split;rename_i c;exact H i h1 c;rename_i c;have:i=k:=by simp at l;omega
 subst this;simp only[n,ze9,List.getElem_cons_zero];exact qe O Z;rw[EC b n];have f:il ((v.keys.take k).zip us) v.keys[k]=Te:=vT λJ=>by
  rw[List.map_fst_zip (by simp;omega)]at J;have r:=Y;have e:v.keys=v.keys.take k++v.keys[k]::v.keys.drop (k+1):=by rw[<-zbt b,zca]
  rw[e,zb2]at r;exact r.2.2 _ J _ za2 rfl
 rw[Wi f]at o;exact o;have b:k=v.keys.length:=by rw[C]at t;simp at t;omega
 subst b;rw[zba]at z;exact S g h1.size us D (by omega) (by omega) H z
end
end
section
section
theorem Zs(f:Nat)(c1:Addr)(h:zc)(R:Value->zc->Prop) (H:∃c:Sl,zd h c1=Td (.slice c.a c.len c.cap)/\∃(k:Int->zc->Prop) (o:Int->zc->Nat),k 0 h/\∀b:Int,∀i:zc,k b i->(((decide ((b:Int)<((c.len:Nat):Int)))=Ta->∃m:Addr,(c.a=Td m/\0<=(b:Int)/\(b:Int)<((c.len:Nat):Int))/\∃j:Bt,zd i (m.add ((b:Int).toNat*1))=Td (.string j)/\YX Tp f #[.string j] i (λq l=>∃e:Bool,q=.bool e/\((!e)=Ta->R (.tuple #[]) l)/\((!e)=Tc->(k (w6 (b+1)) l/\o (w6 (b+1)) l<o b i))))/\((decide ((b:Int)<((c.len:Nat):Int)))=Tc->R (.tuple #[]) i))):
  md Tp 241 #[.func (.yield f) #[] #[],.pointer (Td c1)] h R:=
 xN Tryz.mixed ⟨[],[(1,[(7,.one (.int .i64))])],[]⟩ [.func (.yield f) #[] #[],.pointer (Td c1)] (rs:=[]) (n:=16) Tryz.func241 (by kernel_rfl) (by kernel_rfl) (by kernel_rfl) (by kernel_rfl) (Eq.mp (by kernel_rfl) H)
end
section
theorem jl(c:Sl)(h:zc)(R:Value->zc->Prop) (H:let b:=h.push (.cells #[aK c] 22);R (.func (.func 241) #[] #[.pointer (Td ⟨h.size,0,Te⟩)]) b):
  XC Tp 180 #[.slice c.a c.len c.cap] h R:=
 XF ⟨[],[],[]⟩ [.tmp 2] 4 Tryz.func180 H
theorem Pn(h:zc)(R:Value->zc->Prop) (H:XC Tp 51 #[iV 1] h (λb c=>∃d e f g,b=tA d e f g/\let i:=c.push (.cells tC 25);XRunU Tp (zag 25 (.pointer (Td ⟨c.size,0,Te⟩)) (tA d e f g)) i (λj=>∀k:Addr->zc->Prop,(∀l:Addr,∀m:zc,(∀n:Addr->zc->Prop,(∀o:Addr,∀p:zc,(∃q r s t,ze p l 0 (tL q r s t)/\∃u v w x,ze p o 0 (tL u v w x)/\XC Tp 33 #[tA q r s t,tA u v w x] p (λy z=>∃A B,y=.tuple #[aK A,iV B]/\XC Tp 38 #[aK A] z (λC D=>∃E F,C=.tuple #[.string E,iV F]/\∃G:Value->zc->Prop,((bif (bif (bif (B==0)then((A.len:Int)==3)else Tc)then(F==0)else Tc)then(E.toList==(⟨#[114,101,109,111,118,101,32,34,47,97,34,10,114,101,112,108,97,99,101,32,34,47,98,47,49,34,32,51,10,97,100,100,32,34,47,99,34,32,48,10]⟩:Bt).toList)else Tc)=Ta->XC Tp 41 #[aK A] D (λI J=>∃L,I=aK L/\G (aK L) J))/\((bif (bif (bif (B==0)then((A.len:Int)==3)else Tc)then(F==0)else Tc)then(E.toList==(⟨#[114,101,109,111,118,101,32,34,47,97,34,10,114,101,112,108,97,99,101,32,34,47,98,47,49,34,32,51,10,97,100,100,32,34,47,99,34,32,48,10]⟩:Bt).toList)else Tc)=Tc->∃M,G (aK M) D)/\((bif (bif (bif (B==0)then((A.len:Int)==3)else Tc)then(F==0)else Tc)then(E.toList==(⟨#[114,101,109,111,118,101,32,34,47,97,34,10,114,101,112,108,97,99,101,32,34,47,98,47,49,34,32,51,10,97,100,100,32,34,47,99,34,32,48,10]⟩:Bt).toList)else Tc)=Ta->∀N O,G N O->∃P,N=aK P)/\∀Q:Sl,∀S,G (aK Q) S->∃T:Value->zc->Prop,((bif (bif (bif (B==0)then((A.len:Int)==3)else Tc)then(F==0)else Tc)then(E.toList==(⟨#[114,101,109,111,118,101,32,34,47,97,34,10,114,101,112,108,97,99,101,32,34,47,98,47,49,34,32,51,10,97,100,100,32,34,47,99,34,32,48,10]⟩:Bt).toList)else Tc)=Ta->let U:=S.push (.cells #[.string (⟨#[47,97]⟩:Bt),.string (⟨#[47,98,47,49]⟩:Bt),.string (⟨#[47,99]⟩:Bt)] 9);T (.slice (Td ⟨S.size,0,Te⟩) 3 3) U)/\((bif (bif (bif (B==0)then((A.len:Int)==3)else Tc)then(F==0)else Tc)then(E.toList==(⟨#[114,101,109,111,118,101,32,34,47,97,34,10,114,101,112,108,97,99,101,32,34,47,98,47,49,34,32,51,10,97,100,100,32,34,47,99,34,32,48,10]⟩:Bt).toList)else Tc)=Tc->∃V,T (aK V) S)/\((bif (bif (bif (B==0)then((A.len:Int)==3)else Tc)then(F==0)else Tc)then(E.toList==(⟨#[114,101,109,111,118,101,32,34,47,97,34,10,114,101,112,108,97,99,101,32,34,47,98,47,49,34,32,51,10,97,100,100,32,34,47,99,34,32,48,10]⟩:Bt).toList)else Tc)=Ta->∀W X,T W X->∃Y,W=aK Y)/\∀Z:Sl,∀aa,T (aK Z) aa->∃ab:Value->zc->Prop,((bif (bif (bif (B==0)then((A.len:Int)==3)else Tc)then(F==0)else Tc)then(E.toList==(⟨#[114,101,109,111,118,101,32,34,47,97,34,10,114,101,112,108,97,99,101,32,34,47,98,47,49,34,32,51,10,97,100,100,32,34,47,99,34,32,48,10]⟩:Bt).toList)else Tc)=Ta->XC Tp 40 #[aK Q,aK Z] aa (λac ae=>∃af,ac=.bool af/\ab (.bool af) ae))/\((bif (bif (bif (B==0)then((A.len:Int)==3)else Tc)then(F==0)else Tc)then(E.toList==(⟨#[114,101,109,111,118,101,32,34,47,97,34,10,114,101,112,108,97,99,101,32,34,47,98,47,49,34,32,51,10,97,100,100,32,34,47,99,34,32,48,10]⟩:Bt).toList)else Tc)=Tc->∃ag,ab (.bool ag) aa)/\((bif (bif (bif (B==0)then((A.len:Int)==3)else Tc)then(F==0)else Tc)then(E.toList==(⟨#[114,101,109,111,118,101,32,34,47,97,34,10,114,101,112,108,97,99,101,32,34,47,98,47,49,34,32,51,10,97,100,100,32,34,47,99,34,32,48,10]⟩:Bt).toList)else Tc)=Ta->∀ah ai,ab ah ai->∃aj,ah=.bool aj)/\∀ak:Bool,∀al,ab (.bool ak) al->R (.bool (bif (bif (bif (bif (B==0)then((A.len:Int)==3)else Tc)then(F==0)else Tc)then(E.toList==(⟨#[114,101,109,111,118,101,32,34,47,97,34,10,114,101,112,108,97,99,101,32,34,47,98,47,49,34,32,51,10,97,100,100,32,34,47,99,34,32,48,10]⟩:Bt).toList)else Tc)then ak else Tc)) al)))->n o p)->∃am an ao ap,ze m ⟨c.size,0,Te⟩ 0 (tL am an ao ap)/\let aq:Addr->Int->Bt->Sl->Sl->zc->Prop:=λ(ar:Addr) au av (aw:Sl) (ax:Sl) (ay:zc)=>(XRunU Tp (zag 25 (.pointer (Td ar)) (tA au av aw ax)) ay (λaz=>n ar az));let aA:Addr->Sl->Sl->zc->Prop:=λ(aB:Addr) (aC:Sl) (aD:Sl) (aE:zc)=>(XC Tp 47 #[aK aD,aK aC] aE (λaF aG=>∃aH aI aJ aL,aF=tA aH aI aJ aL/\aq aB aH aI aJ aL aG));let aM:Sl->Sl->zc->Prop:=λ(aN:Sl) (aO:Sl) (aP:zc)=>((XC Tp 47 #[aK aO,aK aN] aP (λaQ aS=>∃aT aU aV aW,aQ=tA aT aU aV aW/\let aX:=aS.push (.cells tC 25);aq ⟨aS.size,0,Te⟩ aT aU aV aW aX))/\(let aY:=aP.push (.cells tC 25);aA ⟨aP.size,0,Te⟩ aN aO aY));let aZ:Addr->Int->Bt->Sl->Sl->Int->Bt->Sl->Sl->Sl->zc->Prop:=λ(a0:Addr) a1 a2 (a3:Sl) (a4:Sl) a5 a6 (a7:Sl) (a8:Sl) (a9:Sl) (ba:zc)=>(let bb:=ba.push (.cells #[iV a5,.string a6,aK a7,aK a8,iV a1,.string a2,aK a3,aK a4] 25);aA a0 (⟨Td ⟨ba.size,0,Te⟩,2,2⟩:Sl) a9 bb);let bc:Addr->Sl->zc->Prop:=λ(bd:Addr) (be:Sl) (bf:zc)=>(let bg:=bf.push (.cells #[.string (⟨#[98]⟩:Bt),.string (⟨#[99]⟩:Bt)] 9);aA bd be (⟨Td ⟨bf.size,0,Te⟩,2,2⟩:Sl) bg);let bh:Int->Bt->Sl->Sl->Int->Bt->Sl->Sl->Sl->zc->Prop:=λbi bj (bk:Sl) (bl:Sl) bm bn (bo:Sl) (bp:Sl) (bq:Sl) (br:zc)=>((let bs:=br.push (.cells #[iV bm,.string bn,aK bo,aK bp,iV bi,.string bj,aK bk,aK bl] 25);aM (⟨Td ⟨br.size,0,Te⟩,2,2⟩:Sl) bq bs)/\(let bt:=br.push (.cells tC 25);aZ ⟨br.size,0,Te⟩ bi bj bk bl bm bn bo bp bq bt));let bu:Addr->Int->Bt->Sl->Sl->Sl->zc->Prop:=λ(bv:Addr) bw bx (bz:Sl) (bA:Sl) (bB:Sl) (bC:zc)=>(XC Tp 51 #[iV 0] bC (λbD bE=>∃bF bG bH bI,bD=tA bF bG bH bI/\aZ bv bF bG bH bI bw bx bz bA bB bE));let bJ:Addr->Int->Bt->Sl->Sl->Int->Bt->Sl->Sl->zc->Prop:=λ(bL:Addr) bM bN (bO:Sl) (bP:Sl) bQ bS (bT:Sl) (bU:Sl) (bV:zc)=>((let bW:=bV.push (.cells #[.string (⟨#[98]⟩:Bt),.string (⟨#[99]⟩:Bt)] 9);aZ bL bM bN bO bP bQ bS bT bU (⟨Td ⟨bV.size,0,Te⟩,2,2⟩:Sl) bW)/\(let bX:=bV.push (.cells #[iV bQ,.string bS,aK bT,aK bU,iV bM,.string bN,aK bO,aK bP] 25);bc bL (⟨Td ⟨bV.size,0,Te⟩,2,2⟩:Sl) bX));let bY:Int->Bt->Sl->Sl->Sl->zc->Prop:=λbZ b0 (b1:Sl) (b2:Sl) (b3:Sl) (b4:zc)=>((XC Tp 51 #[iV 0] b4 (λb5 b6=>∃b7 b8 b9 ca,b5=tA b7 b8 b9 ca/\bh b7 b8 b9 ca bZ b0 b1 b2 b3 b6))/\(let cb:=b4.push (.cells tC 25);bu ⟨b4.size,0,Te⟩ bZ b0 b1 b2 b3 cb));let cc:Addr->Sl->Sl->zc->Prop:=λ(cd:Addr) (ce:Sl) (cf:Sl) (cg:zc)=>(XC Tp 52 #[aK ce] cg (λch ci=>∃cj ck cl cm,ch=tA cj ck cl cm/\bu cd cj ck cl cm cf ci));let cn:Addr->Int->Bt->Sl->Sl->zc->Prop:=λ(co:Addr) cp cq (cr:Sl) (cs:Sl) (ct:zc)=>((let cu:=ct.push (.cells #[.string (⟨#[98]⟩:Bt),.string (⟨#[99]⟩:Bt)] 9);bu co cp cq cr cs (⟨Td ⟨ct.size,0,Te⟩,2,2⟩:Sl) cu)/\(XC Tp 51 #[iV 0] ct (λcv cw=>∃cx cy cz cA,cv=tA cx cy cz cA/\bJ co cx cy cz cA cp cq cr cs cw)));let cB:Sl->Sl->zc->Prop:=λ(cC:Sl) (cD:Sl) (cE:zc)=>((XC Tp 52 #[aK cC] cE (λcF cG=>∃cH cI cJ cL,cF=tA cH cI cJ cL/\bY cH cI cJ cL cD cG))/\(let cM:=cE.push (.cells tC 25);cc ⟨cE.size,0,Te⟩ cC cD cM));let cN:Addr->Int->Bt->Sl->Sl->Sl->zc->Prop:=λ(cO:Addr) cP cQ (cS:Sl) (cT:Sl) (cU:Sl) (cV:zc)=>(let cW:=cV.push (.cells #[iV am,.string an,aK ao,aK ap,iV cP,.string cQ,aK cS,aK cT] 25);cc cO (⟨Td ⟨cV.size,0,Te⟩,2,2⟩:Sl) cU cW);let cX:Addr->Sl->zc->Prop:=λ(cY:Addr) (cZ:Sl) (c0:zc)=>((let c1:=c0.push (.cells #[.string (⟨#[98]⟩:Bt),.string (⟨#[99]⟩:Bt)] 9);cc cY cZ (⟨Td ⟨c0.size,0,Te⟩,2,2⟩:Sl) c1)/\(XC Tp 52 #[aK cZ] c0 (λc2 c3=>∃c4 c5 c6 c7,c2=tA c4 c5 c6 c7/\cn cY c4 c5 c6 c7 c3)));let c8:Int->Bt->Sl->Sl->Sl->zc->Prop:=λc9 da (db:Sl) (dc:Sl) (dd:Sl) (de:zc)=>((let df:=de.push (.cells #[iV am,.string an,aK ao,aK ap,iV c9,.string da,aK db,aK dc] 25);cB (⟨Td ⟨de.size,0,Te⟩,2,2⟩:Sl) dd df)/\(let dg:=de.push (.cells tC 25);hZ dg m ⟨c.size,0,Te⟩/\cN ⟨de.size,0,Te⟩ c9 da db dc dd dg));let dh:Addr->Sl->zc->Prop:=λ(di:Addr) (dj:Sl) (dk:zc)=>(XC Tp 51 #[iV 3] dk (λdl dm=>∃dn dp dq dr,dl=tA dn dp dq dr/\hZ dm m ⟨c.size,0,Te⟩/\cN di dn dp dq dr dj dm));let ds:Addr->Int->Bt->Sl->Sl->zc->Prop:=λ(dt:Addr) du dv (dw:Sl) (dx:Sl) (dy:zc)=>((let dz:=dy.push (.cells #[.string (⟨#[98]⟩:Bt),.string (⟨#[99]⟩:Bt)] 9);hZ dz m ⟨c.size,0,Te⟩/\cN dt du dv dw dx (⟨Td ⟨dy.size,0,Te⟩,2,2⟩:Sl) dz)/\(let dA:=dy.push (.cells #[iV am,.string an,aK ao,aK ap,iV du,.string dv,aK dw,aK dx] 25);cX dt (⟨Td ⟨dy.size,0,Te⟩,2,2⟩:Sl) dA));(let dB:=m.push (.cells #[.string (⟨#[98]⟩:Bt),.string (⟨#[99]⟩:Bt)] 9);hZ dB m ⟨c.size,0,Te⟩/\(XC Tp 51 #[iV 3] dB (λdC dD=>∃dE dF dG dH,dC=tA dE dF dG dH/\hZ dD m ⟨c.size,0,Te⟩/\c8 dE dF dG dH (⟨Td ⟨m.size,0,Te⟩,2,2⟩:Sl) dD))/\(let dI:=dB.push (.cells tC 25);hZ dI m ⟨c.size,0,Te⟩/\dh ⟨dB.size,0,Te⟩ (⟨Td ⟨m.size,0,Te⟩,2,2⟩:Sl) dI))/\(XC Tp 51 #[iV 3] m (λdJ dL=>∃dM dN dO dP,dJ=tA dM dN dO dP/\hZ dL m ⟨c.size,0,Te⟩/\(let dQ:=dL.push (.cells #[.string (⟨#[98]⟩:Bt),.string (⟨#[99]⟩:Bt)] 9);hZ dQ m ⟨c.size,0,Te⟩/\c8 dM dN dO dP (⟨Td ⟨dL.size,0,Te⟩,2,2⟩:Sl) dQ)/\(let dS:=dL.push (.cells #[iV am,.string an,aK ao,aK ap,iV dM,.string dN,aK dO,aK dP] 25);(let dT:=dS.push (.cells #[.string (⟨#[98]⟩:Bt),.string (⟨#[99]⟩:Bt)] 9);cB (⟨Td ⟨dL.size,0,Te⟩,2,2⟩:Sl) (⟨Td ⟨dS.size,0,Te⟩,2,2⟩:Sl) dT)/\(XC Tp 52 #[.slice (Td ⟨dL.size,0,Te⟩) 2 2] dS (λdU dV=>∃dW dX dY dZ,dU=tA dW dX dY dZ/\(let d0:=dV.push (.cells #[.string (⟨#[98]⟩:Bt),.string (⟨#[99]⟩:Bt)] 9);bY dW dX dY dZ (⟨Td ⟨dV.size,0,Te⟩,2,2⟩:Sl) d0)/\(XC Tp 51 #[iV 0] dV (λd1 d2=>∃d3 d4 d5 d6,d1=tA d3 d4 d5 d6/\(let d7:=d2.push (.cells #[.string (⟨#[98]⟩:Bt),.string (⟨#[99]⟩:Bt)] 9);bh d3 d4 d5 d6 dW dX dY dZ (⟨Td ⟨d2.size,0,Te⟩,2,2⟩:Sl) d7)/\(let d8:=d2.push (.cells #[iV dW,.string dX,aK dY,aK dZ,iV d3,.string d4,aK d5,aK d6] 25);(let d9:=d8.push (.cells #[.string (⟨#[98]⟩:Bt),.string (⟨#[99]⟩:Bt)] 9);aM (⟨Td ⟨d2.size,0,Te⟩,2,2⟩:Sl) (⟨Td ⟨d8.size,0,Te⟩,2,2⟩:Sl) d9)/\(let ea:=d8.push (.cells tC 25);bc ⟨d8.size,0,Te⟩ (⟨Td ⟨d2.size,0,Te⟩,2,2⟩:Sl) ea))/\(let eb:=d2.push (.cells tC 25);bJ ⟨d2.size,0,Te⟩ d3 d4 d5 d6 dW dX dY dZ eb)))/\(let ec:=dV.push (.cells tC 25);cn ⟨dV.size,0,Te⟩ dW dX dY dZ ec)))/\(let ed:=dS.push (.cells tC 25);cX ⟨dS.size,0,Te⟩ (⟨Td ⟨dL.size,0,Te⟩,2,2⟩:Sl) ed))/\(let ee:=dL.push (.cells tC 25);hZ ee m ⟨c.size,0,Te⟩/\ds ⟨dL.size,0,Te⟩ dM dN dO dP ee)))/\(let ef:=m.push (.cells tC 25);hZ ef m ⟨c.size,0,Te⟩/\(let eg:=ef.push (.cells #[.string (⟨#[98]⟩:Bt),.string (⟨#[99]⟩:Bt)] 9);hZ eg m ⟨c.size,0,Te⟩/\dh ⟨m.size,0,Te⟩ (⟨Td ⟨ef.size,0,Te⟩,2,2⟩:Sl) eg)/\(XC Tp 51 #[iV 3] ef (λeh ei=>∃ej ek el em,eh=tA ej ek el em/\hZ ei m ⟨c.size,0,Te⟩/\ds ⟨m.size,0,Te⟩ ej ek el em ei))))->k l m)->∃en eo ep eq,ze j ⟨c.size,0,Te⟩ 0 (tL en eo ep eq)/\∃er es et eu,ze j ⟨c.size,0,Te⟩ 0 (tL er es et eu)/\let ev:Addr->Int->Bt->Sl->Sl->zc->Prop:=λ(ew:Addr) ex ey (ez:Sl) (eA:Sl) (eB:zc)=>(XRunU Tp (zag 25 (.pointer (Td ew)) (tA ex ey ez eA)) eB (λeC=>k ew eC));let eD:Addr->Sl->Sl->zc->Prop:=λ(eE:Addr) (eF:Sl) (eG:Sl) (eH:zc)=>(XC Tp 47 #[aK eG,aK eF] eH (λeI eJ=>∃eL eM eN eO,eI=tA eL eM eN eO/\ev eE eL eM eN eO eJ));let eP:Sl->Sl->zc->Prop:=λ(eQ:Sl) (eS:Sl) (eT:zc)=>((XC Tp 47 #[aK eS,aK eQ] eT (λeU eV=>∃eW eX eY eZ,eU=tA eW eX eY eZ/\let e0:=eV.push (.cells tC 25);ev ⟨eV.size,0,Te⟩ eW eX eY eZ e0))/\(let e1:=eT.push (.cells tC 25);eD ⟨eT.size,0,Te⟩ eQ eS e1));let e2:Addr->Int->Bt->Sl->Sl->Sl->zc->Prop:=λ(e3:Addr) e4 e5 (e6:Sl) (e7:Sl) (e8:Sl) (e9:zc)=>(let fa:=e9.push (.cells #[iV en,.string eo,aK ep,aK eq,iV e4,.string e5,aK e6,aK e7] 25);eD e3 (⟨Td ⟨e9.size,0,Te⟩,2,2⟩:Sl) e8 fa);let fb:Addr->Sl->zc->Prop:=λ(fc:Addr) (fd:Sl) (fe:zc)=>(let ff:=fe.push (.cells #[.string (⟨#[97]⟩:Bt),.string (⟨#[98]⟩:Bt)] 9);eD fc fd (⟨Td ⟨fe.size,0,Te⟩,2,2⟩:Sl) ff);let fg:Int->Bt->Sl->Sl->Sl->zc->Prop:=λfh fi (fj:Sl) (fk:Sl) (fl:Sl) (fm:zc)=>((let fn:=fm.push (.cells #[iV en,.string eo,aK ep,aK eq,iV fh,.string fi,aK fj,aK fk] 25);eP (⟨Td ⟨fm.size,0,Te⟩,2,2⟩:Sl) fl fn)/\(let fo:=fm.push (.cells tC 25);hZ fo j ⟨c.size,0,Te⟩/\e2 ⟨fm.size,0,Te⟩ fh fi fj fk fl fo));let fp:Addr->Sl->Sl->zc->Prop:=λ(fq:Addr) (fr:Sl) (fs:Sl) (ft:zc)=>(XC Tp 52 #[aK fr] ft (λfu fv=>∃fw fx fy fz,fu=tA fw fx fy fz/\hZ fv j ⟨c.size,0,Te⟩/\e2 fq fw fx fy fz fs fv));let fA:Addr->Int->Bt->Sl->Sl->zc->Prop:=λ(fB:Addr) fC fD (fE:Sl) (fF:Sl) (fG:zc)=>((let fH:=fG.push (.cells #[.string (⟨#[97]⟩:Bt),.string (⟨#[98]⟩:Bt)] 9);hZ fH j ⟨c.size,0,Te⟩/\e2 fB fC fD fE fF (⟨Td ⟨fG.size,0,Te⟩,2,2⟩:Sl) fH)/\(let fI:=fG.push (.cells #[iV en,.string eo,aK ep,aK eq,iV fC,.string fD,aK fE,aK fF] 25);fb fB (⟨Td ⟨fG.size,0,Te⟩,2,2⟩:Sl) fI));let fJ:Sl->Sl->zc->Prop:=λ(fL:Sl) (fM:Sl) (fN:zc)=>((XC Tp 52 #[aK fL] fN (λfO fP=>∃fQ fS fT fU,fO=tA fQ fS fT fU/\hZ fP j ⟨c.size,0,Te⟩/\fg fQ fS fT fU fM fP))/\(let fV:=fN.push (.cells tC 25);hZ fV j ⟨c.size,0,Te⟩/\fp ⟨fN.size,0,Te⟩ fL fM fV));let fW:Addr->Int->Bt->Sl->Sl->Sl->zc->Prop:=λ(fX:Addr) fY fZ (f0:Sl) (f1:Sl) (f2:Sl) (f3:zc)=>(let f4:=f3.push (.cells #[iV er,.string es,aK et,aK eu,iV fY,.string fZ,aK f0,aK f1] 25);hZ f4 j ⟨c.size,0,Te⟩/\fp fX (⟨Td ⟨f3.size,0,Te⟩,2,2⟩:Sl) f2 f4);let f5:Addr->Sl->zc->Prop:=λ(f6:Addr) (f7:Sl) (f8:zc)=>((let f9:=f8.push (.cells #[.string (⟨#[97]⟩:Bt),.string (⟨#[98]⟩:Bt)] 9);hZ f9 j ⟨c.size,0,Te⟩/\fp f6 f7 (⟨Td ⟨f8.size,0,Te⟩,2,2⟩:Sl) f9)/\(XC Tp 52 #[aK f7] f8 (λga gb=>∃gc gd ge gf,ga=tA gc gd ge gf/\hZ gb j ⟨c.size,0,Te⟩/\fA f6 gc gd ge gf gb)));let gg:Int->Bt->Sl->Sl->Sl->zc->Prop:=λgh gi (gj:Sl) (gk:Sl) (gl:Sl) (gm:zc)=>((let gn:=gm.push (.cells #[iV er,.string es,aK et,aK eu,iV gh,.string gi,aK gj,aK gk] 25);hZ gn j ⟨c.size,0,Te⟩/\fJ (⟨Td ⟨gm.size,0,Te⟩,2,2⟩:Sl) gl gn)/\(let go:=gm.push (.cells tC 25);hZ go j ⟨c.size,0,Te⟩/\hZ go j ⟨c.size,0,Te⟩/\fW ⟨gm.size,0,Te⟩ gh gi gj gk gl go));let gp:Addr->Sl->zc->Prop:=λ(gq:Addr) (gr:Sl) (gs:zc)=>(XC Tp 51 #[iV 2] gs (λgt gu=>∃gv gw gx gy,gt=tA gv gw gx gy/\hZ gu j ⟨c.size,0,Te⟩/\hZ gu j ⟨c.size,0,Te⟩/\fW gq gv gw gx gy gr gu));let gz:Addr->Int->Bt->Sl->Sl->zc->Prop:=λ(gA:Addr) gB gC (gD:Sl) (gE:Sl) (gF:zc)=>((let gG:=gF.push (.cells #[.string (⟨#[97]⟩:Bt),.string (⟨#[98]⟩:Bt)] 9);hZ gG j ⟨c.size,0,Te⟩/\hZ gG j ⟨c.size,0,Te⟩/\fW gA gB gC gD gE (⟨Td ⟨gF.size,0,Te⟩,2,2⟩:Sl) gG)/\(let gH:=gF.push (.cells #[iV er,.string es,aK et,aK eu,iV gB,.string gC,aK gD,aK gE] 25);hZ gH j ⟨c.size,0,Te⟩/\f5 gA (⟨Td ⟨gF.size,0,Te⟩,2,2⟩:Sl) gH));(let gI:=j.push (.cells #[.string (⟨#[97]⟩:Bt),.string (⟨#[98]⟩:Bt)] 9);hZ gI j ⟨c.size,0,Te⟩/\hZ gI j ⟨c.size,0,Te⟩/\(XC Tp 51 #[iV 2] gI (λgJ gL=>∃gM gN gO gP,gJ=tA gM gN gO gP/\hZ gL j ⟨c.size,0,Te⟩/\hZ gL j ⟨c.size,0,Te⟩/\gg gM gN gO gP (⟨Td ⟨j.size,0,Te⟩,2,2⟩:Sl) gL))/\(let gQ:=gI.push (.cells tC 25);hZ gQ j ⟨c.size,0,Te⟩/\hZ gQ j ⟨c.size,0,Te⟩/\gp ⟨gI.size,0,Te⟩ (⟨Td ⟨j.size,0,Te⟩,2,2⟩:Sl) gQ))/\(XC Tp 51 #[iV 2] j (λgS gT=>∃gU gV gW gX,gS=tA gU gV gW gX/\hZ gT j ⟨c.size,0,Te⟩/\hZ gT j ⟨c.size,0,Te⟩/\(let gY:=gT.push (.cells #[.string (⟨#[97]⟩:Bt),.string (⟨#[98]⟩:Bt)] 9);hZ gY j ⟨c.size,0,Te⟩/\hZ gY j ⟨c.size,0,Te⟩/\gg gU gV gW gX (⟨Td ⟨gT.size,0,Te⟩,2,2⟩:Sl) gY)/\(let gZ:=gT.push (.cells #[iV er,.string es,aK et,aK eu,iV gU,.string gV,aK gW,aK gX] 25);hZ gZ j ⟨c.size,0,Te⟩/\(let g0:=gZ.push (.cells #[.string (⟨#[97]⟩:Bt),.string (⟨#[98]⟩:Bt)] 9);hZ g0 j ⟨c.size,0,Te⟩/\fJ (⟨Td ⟨gT.size,0,Te⟩,2,2⟩:Sl) (⟨Td ⟨gZ.size,0,Te⟩,2,2⟩:Sl) g0)/\(XC Tp 52 #[.slice (Td ⟨gT.size,0,Te⟩) 2 2] gZ (λg1 g2=>∃g3 g4 g5 g6,g1=tA g3 g4 g5 g6/\hZ g2 j ⟨c.size,0,Te⟩/\(let g7:=g2.push (.cells #[.string (⟨#[97]⟩:Bt),.string (⟨#[98]⟩:Bt)] 9);hZ g7 j ⟨c.size,0,Te⟩/\fg g3 g4 g5 g6 (⟨Td ⟨g2.size,0,Te⟩,2,2⟩:Sl) g7)/\(let g8:=g2.push (.cells #[iV en,.string eo,aK ep,aK eq,iV g3,.string g4,aK g5,aK g6] 25);(let g9:=g8.push (.cells #[.string (⟨#[97]⟩:Bt),.string (⟨#[98]⟩:Bt)] 9);eP (⟨Td ⟨g2.size,0,Te⟩,2,2⟩:Sl) (⟨Td ⟨g8.size,0,Te⟩,2,2⟩:Sl) g9)/\(let ha:=g8.push (.cells tC 25);fb ⟨g8.size,0,Te⟩ (⟨Td ⟨g2.size,0,Te⟩,2,2⟩:Sl) ha))/\(let hb:=g2.push (.cells tC 25);hZ hb j ⟨c.size,0,Te⟩/\fA ⟨g2.size,0,Te⟩ g3 g4 g5 g6 hb)))/\(let hc:=gZ.push (.cells tC 25);hZ hc j ⟨c.size,0,Te⟩/\f5 ⟨gZ.size,0,Te⟩ (⟨Td ⟨gT.size,0,Te⟩,2,2⟩:Sl) hc))/\(let hd:=gT.push (.cells tC 25);hZ hd j ⟨c.size,0,Te⟩/\hZ hd j ⟨c.size,0,Te⟩/\gz ⟨gT.size,0,Te⟩ gU gV gW gX hd)))/\(let he:=j.push (.cells tC 25);hZ he j ⟨c.size,0,Te⟩/\hZ he j ⟨c.size,0,Te⟩/\(let hf:=he.push (.cells #[.string (⟨#[97]⟩:Bt),.string (⟨#[98]⟩:Bt)] 9);hZ hf j ⟨c.size,0,Te⟩/\hZ hf j ⟨c.size,0,Te⟩/\gp ⟨j.size,0,Te⟩ (⟨Td ⟨he.size,0,Te⟩,2,2⟩:Sl) hf)/\(XC Tp 51 #[iV 2] he (λhg hh=>∃hi hj hk hl,hg=tA hi hj hk hl/\hZ hh j ⟨c.size,0,Te⟩/\hZ hh j ⟨c.size,0,Te⟩/\gz ⟨j.size,0,Te⟩ hi hj hk hl hh)))))):
  XC Tp 30 #[] h R:=
 XF ⟨[(3,8000),(2,8000)],[],[(3,[(2,.one (.ad))]),(4,[(3,.one (.ad))])]⟩ [.tmp 0] 57 Tryz.func30 H
theorem Q1(c:Sl)(h:zc)(R:Value->zc->Prop) (H:let b:=h.push (.cells #[aK c] 192);R (.func (.func 243) #[] #[.pointer (Td ⟨h.size,0,Te⟩)]) b):
  XC Tp 187 #[.slice c.a c.len c.cap] h R:=
 XF ⟨[],[],[]⟩ [.tmp 2] 4 Tryz.func187 H
end
end
section
open Go.RowKit Go.Sort Go.Shelf
variable {h:zc} {ks:List Bt} {K:Value -> zc -> Prop} {M:Fr} {c:Nat}
theorem LC:zo Tp 241=Ta:=by kernel_rfl
structure AqS (h:zc) (rec:i4) (ks:List Bt) (n:Nat) (g:zc) (sl:Sl):Prop where
 keep:Keep h.size h g
 d:g[h.size+1]?=Td (.deferred (Td []))
 rc:g[h.size+2]?=Td (.loop (rec .ready Te))
 box:Blk g h.size #[aK sl]
 o:Owns g (h.size+3) 9 1 sl ((ks.take n).map zaz)
 hn:n<=ks.length
 gz:h.size+3<=g.size
set_option maxRecDepth 100000 in
theorem AqS.round{rec:i4}{n:Nat}{g:zc}{sl:Sl}(S:AqS h rec ks n g sl)(T:ks.length<=1000000)(L:n<ks.length){O G F E:Value}(I:∀g' u,AqS h rec ks (n+1) g' u->K (.bool Ta) g'):
  lW Tp 13 (lZ (codeOf Tryz.f277)) (lJ (codeOf Tryz.f277)) rec (h.size+2) K [(7,[],.string ks[n]),(0,[],F),(1,[],E),(2,[],.pointer (Td ⟨h.size,0,Te⟩)),(4,[],G),(6,[],O)] g:=by
 apply yy;have U:=S.gz;have V:=S.keep.size;refine⟨S.rc,?_⟩;intro b;have m:∀j,j≠h.size+2->b[j]?=g[j]?:=λj k=>zq k;have N:b[h.size+2]?=Td (.loop (rec .busy Te)):=set_self (by omega);have Y:b.size=g.size:=zbg;clear_value b;have y:Blk b h.size #[aK sl]:=S.box.keep (m _ (by omega));refine⟨sl,y.cell rfl,?_⟩;intro f;have w:Keep b.size b f:=Keep.push _ _ (zac _);have z3:f.size=b.size+1:=zaf _;have M:Blk f b.size #[.string ks[n]]:=Blk.new _ _ _;clear_value f;have J:Owns b (h.size+3) 9 1 sl ((ks.take n).map zaz):=S.o.keep λp c=>by have:=S.o.base_le p c;exact m _ (by omega)
 have x:=J.keepN w;have D:=nI S.o;rw[zbl]at D;refine Zw Wt x (src:=⟨Td ⟨b.size,0,Te⟩,1,1⟩) (news:=[.string ks[n]]) (n:=f.size) ?_ rfl (by simp[Value.oneCell']) (by simp only;omega) (by simp only;omega) (by omega) λr A Z z B q4 Q=>⟨r,rfl,?_⟩;refine .inr ⟨b.size,0,rfl,by omega,λi v q=>?_⟩
 match i,q with
 |0,q=>cases q;exact M.cell rfl
 have l:∀j,j<h.size+3->A[j]?=b[j]?:=λj k=>by rw[B j (by omega) λp c=>by have:=x.base_le p c;omega];exact w.get j (by omega)
 refine xu sA uN (y.keep (l _ (by omega))) (by show 0<1;omega) rfl λt C P u2=>?_;have e:∀j,j<h.size+3->j≠h.size->t[j]?=b[j]?:=λj k h0=>(u2 j h0).trans (l j k);have H:t[h.size+2]?=Td (.loop (rec .busy Te)):=by rw[e _ (by omega) (by omega)];exact N
 refine⟨H,I _ r ⟨?_,?_,set_self (by omega),?_,?_,by omega,?_⟩⟩;refine S.keep.trans ⟨by rw[zbg];omega,λj k=>?_⟩ (zac _);rw[zq (by omega),e j (by omega) (by omega),m j (by omega)];rw[zq (by omega),e _ (by omega) (by omega),m _ (by omega)];exact S.d;exact Blk.keep C (zq (by omega));have:Owns t (h.size+3) 9 1 r ((ks.take (n+1)).map zaz):=by rw[zal L,zbc];exact z.keep λp c=>by have:=z.base_le p c;exact u2 _ (by omega)
 exact this.keep λp c=>by have:=this.base_le p c;exact zq (by omega)
 rw[zbg];omega
set_option maxRecDepth 100000 in
theorem Rn{s:Sl}(ag:AgM M h)(C:Blk h c #[aK s])(r:Rd M (.row .str) ks [aK s])(E:ks.length<=1000000) (A:∀(h':zc) (sl:Sl),Keep h.size h h'->Owns h' h.size 9 1 sl (ks.map zaz)->K (.slice sl.a sl.len sl.cap) h'):
  XC Tp 277 #[.slice Te 0 0,.func (.func 241) #[] #[.pointer (Td ⟨c,0,Te⟩)]] h K:=by
 obtain⟨m,_,_⟩:=rowLen r;apply yx ⟨Te,0,0⟩;intro h1;have y:Keep h.size h h1:=Keep.push _ _ (zac _);have z:h1.size=h.size+1:=zaf _;have F:Blk h1 h.size #[aK ⟨Te,0,0⟩]:=Blk.new _ _ _;clear_value h1;have i:=C.lt;refine⟨_,_,rfl,LC,λrec t=>?_⟩;obtain⟨f,b⟩:∃f:zc,f=((h1.push (.deferred (Td []))).push (.loop (rec .ready Te))):=⟨_,rfl⟩;have w:Keep h1.size h1 f:=by rw[b];exact(Keep.push _ _ (zac _)).trans (Keep.push _ _ (by rw[zaf];omega)) (zac _)
 have J:f.size=h1.size+2:=by rw[b,zaf,zaf]
 have u:f[h1.size]?=Td (.deferred (Td [])):=by rw[b,ze0,zv (by rw[zaf];omega)];exact yc _ _
 have q:f[h1.size+1]?=Td (.loop (rec .ready Te)):=by rw[b];have:=yc (h1.push (.deferred (Td []))) (.loop (rec .ready Te));rw[zaf]at this;exact this
 rw[<-b];clear b;have k:Keep h.size h f:=y.trans w (by omega);have I:h1.size=h.size+1:=z;rw[I]at u q t ⊢;apply Zs;refine⟨s,(C.keep (k.get c i)).cell rfl,λx g=>∃(n:Nat) (sl:Sl),x=(n:Int)/\AqS h rec ks n g sl,λx _=>ks.length-x.toNat,⟨0,⟨Te,0,0⟩,rfl,k,u,q,F.ofKeep w,Owns.nil _ _ _ _,za0 _,by omega⟩,?_⟩;rintro x g ⟨n,sl,rfl,S⟩;refine⟨λi=>?_,λi=>?_⟩;have e:n<ks.length:=by rw[m]at i;simpa using i
 refine jP (ag.keep S.keep) r e rfl rfl ?_;refine t S.rc (S.round E e λg' l H=>⟨Ta,rfl,(λG=>by cases G),λ_=>?_⟩);rw[je e (by omega)];exact⟨⟨n+1,l,rfl,H⟩,by simp only[zae];omega⟩;have e:n=ks.length:=by have:=S.hn;rw[m]at i;simp at i;omega
 subst e;have D:=S.gz;refine .inl ⟨S.rc,sl,?_,?_,A _ sl ?_ ?_⟩;exact(S.box.keep (zq (by omega))).cell rfl;rw[zq (by omega)];exact S.d;refine S.keep.trans ⟨by rw[zbg,zbg];exact zac _,λj L=>?_⟩ (zac _);rw[zq (by omega),zq (by omega)];have o:=S.o;rw[zba]at o;refine(o.keep λp B=>?_).base (by omega);have:=S.o.base_le p B;rw[zq (by omega),zq (by omega)]
theorem HT{s:Sl}(ag:AgM M h)(C:Blk h c #[aK s])(n:Rd M (.row .str) ks [aK s])(e:ks.length<=1000000) (m:∀h' sl,Keep h.size h h'->Owns h' h.size 9 1 sl ((zl ks).map zaz)->K (.slice sl.a sl.len sl.cap) h'):
  XC Tp 161 #[.func (.func 241) #[] #[.pointer (Td ⟨c,0,Te⟩)]] h K:=by
 apply Zm;apply xx;refine Rn ag C n e λh1 sl b f=>⟨sl,rfl,sl,rfl,?_⟩;refine XC.mono (Ft f e) ?_;rintro v h2 ⟨rfl,o,l,k⟩;refine⟨rfl,m h2 sl ⟨zch b.size l,λi hi=>?_⟩ o⟩;refine(k i (zdb hi b.size) λp j=>?_).trans (b.get i hi);have:=(f.base_le p j).1;omega
end
section
open Go.Lib
section
variable {M:Fr} {v:Tr} {g:zc}
def iS(_:Nat):Prop:=False
def Dn(lo:Nat)(M:Fr)(db:Nat)(h:zc)(na:DA)(so:Sl)(b:Nat)(L:List cK)(X:Nat->Prop)(g:zc):Prop:=
 ∃na' so' b' cs',Df lo M db g na' so' b' cs'/\Dt h g db na so b na' so' b' X/\na'.map (·.1)=na.map (·.1)++L
theorem Df.fresh{lo:Nat}{db:Nat}{h:zc}{na:DA}{so:Sl}{b:Nat}{cs:Array Value}(D:Df lo M db h na so b cs){c:Nat}(i:h.size<=c):lo<=c/\M c=Te/\¬iq na so b c/\c≠db:=by
 refine⟨zch D.lo i,?_,λf=>?_,λe=>?_⟩;cases e:M c with
 |none=>rfl
 |some x=>have:=D.ag.lt e;omega
 have:=(D.ds.own f).2.1;omega;have:=D.box.lt;omega
section
variable {lo db b : Nat} {M : Fr} {h hL g g2 : zc} {na : DA} {so : Sl} {cs : Array Value} {X Y : Nat -> Prop} {L L' : List cK}
theorem Dn.refl(D:Df lo M db h na so b cs):Dn lo M db h na so b [] X h:=⟨na,so,b,cs,D,Dt.refl,by simp⟩
theorem Dn.mono(H:Dn lo M db h na so b L X g)(f:∀c,X c->Y c\/h.size<=c):Dn lo M db h na so b L Y g:=by obtain⟨na',so',b',cs',D,T,e⟩:=H;exact⟨na',so',b',cs',D,T.mono f,e⟩
theorem Dn.ag(H:Dn lo M db h na so b L X g):AgM M g:=by obtain⟨na',so',b',cs',D,T,e⟩:=H;exact D.ag
theorem Dn.sz(H:Dn lo M db h na so b L X g):h.size<=g.size:=by obtain⟨na',so',b',cs',D,T,e⟩:=H;exact T.sz
theorem Dn.old(H:Dn lo M db h na so b L X g){j:Nat}(h1:j<h.size)(c:¬iq na so b j)(f:j≠db):g[j]?=h[j]?:=by obtain⟨na',so',b',cs',D,T,e⟩:=H;exact T.fr j h1 c f
theorem Dn.loc(D:Df lo M db h na so b cs)(H:Dn lo M db hL na so b L X g){j:Nat}(h1:h.size<=j)(c:j<hL.size):g[j]?=hL[j]?:= H.old c (D.fresh h1).2.2.1 (D.fresh h1).2.2.2
theorem Dn.frm(k:Keep h.size h hL)(H:Dn lo M db hL na so b L X g):Dn lo M db h na so b L X g:=by obtain⟨na',so',b',cs',D,T,e⟩:=H;refine⟨na',so',b',cs',D,⟨zch k.size T.sz,λc l=>?_,λj i m f=>(T.fr j (by have:=k.size;omega) m f).trans (k.get j i)⟩,e⟩;rcases T.own c l with q|q|q;exact .inl q;exact .inr (.inl q);exact .inr (.inr (zch k.size q))
theorem Dn.go(H:Dn lo M db hL na so b L iS g)(k:Keep g.size g g2):∃na' so' b' cs',Df lo M db g2 na' so' b' cs'/\na'.map (·.1)=na.map (·.1)++L/\(∀c,g.size<=c->lo<=c/\M c=Te/\¬iq na' so' b' c/\c≠db) /\ (∀c,c<hL.size->¬iq na so b c->¬iq na' so' b' c) /\
  ∀L' Y n,(∀c,Y c->hL.size<=c)->Dn lo M db g2 na' so' b' L' Y n->Dn lo M db hL na so b (L++L') iS n:=by
 obtain⟨na',so',b',cs',D,T,e⟩:=H;refine⟨na',so',b',cs',D.keep k,e,λc h=>D.fresh h,λc h f l=>?_,λL' Y n u=>?_⟩;rcases T.own c l with q|q|q;exact f q;exact q;omega;rintro⟨na2,so2,b2,i,r,m,w⟩;have hz:=T.sz;have x:=k.size;refine⟨na2,so2,b2,i,r,⟨by have:=m.sz;omega,λc h=>?_,λj t f o=>?_⟩,by rw[w,e,za9]⟩;rcases m.own c h with q|q|q;exact T.own c q;exact .inr (.inr (u c q));exact .inr (.inr (by omega));refine(m.fr j (by omega) (λl=>?_) o).trans ((k.get j (by omega)).trans (T.fr j t f o));rcases T.own j l with q|q|q;exact f q;exact q;omega
theorem rX(D:Df lo M db h na so b cs){p:List Bt}{bp:List Nat}{sp:Sl}(P:OPath h p bp sp){sk si:Sl}{bv:List Nat}(V:OT h v bv (zm v sk si))(l:∀c,c∈bp\/c∈bv->lo<=c/\M c=Te/\¬iq na so b c/\c≠db)(f:∀c∈bp,c∉bv)(j:na.length<=1000000)(e:Bt){K:Value->zc->Prop} (m:∀g,Dn lo M db h na so b [(e,p,[],v)] (λc=>c∈bp\/c∈bv) g->K (.tuple #[]) g):
  XC Tp 118 #[.pointer (Td ⟨db,0,Te⟩),.string e,.agg #[.int .i64 v.kind,.string v.text,aK sk,aK si],aK sp] h K:=
 Mw D P V l f j e λg so' b' cs' i k _=>m g ⟨_,so',b',cs',i,k,by rw[zbc];rfl⟩
end
theorem zZ{base:Nat}{s:Sl}{xs:List Bt}(O:Owns g base 9 1 s (xs.map zaz)){k:Nat}(c:k<xs.length){i:Int}(hi:i=(k:Int)){Q:Bt->Prop}(f:Q xs[k]):
  ∃a:Addr,(s.a=Td a/\0<=i/\i<((s.len:Nat):Int))/\∃x:Bt,zd g (a.add (i.toNat*1))=Td (.string x)/\Q x:=by
 subst hi;have j:=nI O;rcases O.arr with e|⟨b,o,e,l,h⟩;rw[List.map_eq_nil_iff]at e;subst e;exact absurd c (zc5 _);refine⟨_,⟨e,by omega,by omega⟩,xs[k],?_,f⟩;rw[zae,zbm,ic];exact h k _ (by rw[zcc,zai c];rfl)
theorem pw(G:v.keys.Nodup)(F:v.keys.length=v.items.length){us:List Value}(A:us.length=v.items.length)(w:∀i (h1:i<v.items.length) (b:i<us.length),RdV M .tree v.items[i] us[i]){m:Nat}(u:MapW g m (Y5 (v.keys.zip us)))(k:Bt):
  ∃(x:Tr) (l c:Sl),RdV M .tree x (.agg #[.int .i64 x.kind,.string x.text,aK l,aK c])/\(v.keys.contains k=Ta->x=ym v k/\ym v k∈v.items) /\ QExec Tp (zc1 144 (.map (Td m)) (.string k) Ta) g (.tuple #[.agg #[.int .i64 x.kind,.string x.text,aK l,aK c],.bool (v.keys.contains k)]) /\ QExec Tp (zc1 144 (.map (Td m)) (.string k) Tc) g (.agg #[.int .i64 x.kind,.string x.text,aK l,aK c]):=by
 have h1:=Ye mapVal u.at k Ta;have b:=Ye mapVal u.at k Tc;rw[zA rfl]at h1;rw[zv (by simp)]at b;by_cases f:k∈v.keys;obtain⟨j,B,n,C,N,E⟩:=wM k v.keys v.items F f;have o:=E us (by omega);have r:j<us.length:=by omega
 rw[zai r]at o;obtain⟨l,c,q,J,L⟩:=qp (w j n r);have y:ym v k=v.items[j]:=by rcases Wv k v.keys 0 with⟨_,e⟩|⟨z,H,D,I⟩;exact absurd f e;have:z=j:=(List.getElem?_inj D G).1 (by rw[I,zai B,C]);unfold ym idxOfS;rw[H,zas,zae,this,zar,zai n];rfl
 have t:v.keys.contains k=Ta:=List.contains_iff_mem.2 f;have hz:jE (v.keys.zip us) k (.agg #[.int .i64 0,.string ⟨#[]⟩,.slice Te 0 0,.slice Te 0 0])=us[j]:=by unfold jE;rw[o];rfl
 rw[hz,o,q]at h1;rw[hz,q]at b;rw[t];refine⟨v.items[j],l,c,by rw[<-q];exact w j n r,λ_=>⟨y.symm,by rw[y];exact zak n⟩,h1,b⟩;have g2:il (v.keys.zip us) k=Te:=vT (by rw[List.map_fst_zip (by omega)];exact f);have t:v.keys.contains k=Tc:=by rw[zen];exact λh=>f (List.contains_iff_mem.1 h)
 have hz:jE (v.keys.zip us) k (.agg #[.int .i64 0,.string ⟨#[]⟩,.slice Te 0 0,.slice Te 0 0])=.agg #[.int .i64 0,.string ⟨#[]⟩,.slice Te 0 0,.slice Te 0 0]:=by unfold jE;rw[g2];rfl
 rw[hz,g2]at h1;rw[hz]at b;rw[t];exact⟨zT,⟨Te,0,0⟩,⟨Te,0,0⟩,qe (v:=zT) lA lA,λh=>(by cases h),h1,b⟩
end
section
variable {α β:Type} {n lo db b:Nat} {M:Fr} {so:Sl}
def tY(gl:Fr)(lo db:Nat)(f:Nat)(p:List Bt)(x y:Tr):Prop:=
 ∀(M:Fr) (h:zc) (na:DA) (so:Sl) (b:Nat) (cs:Array Value) (bp:List Nat) (sp:Sl) (i e:Value) (K:Value->zc->Prop),Fr.le gl M ->
  Df lo M db h na so b cs->OPath h p bp sp->(∀c∈bp,lo<=c/\M c=Te/\¬iq na so b c/\c≠db)->RdV M .tree x i->RdV M .tree y e->na.length+(dR f p x y).length<=1000000 ->
  (∀g,Dn lo M db h na so b (dR f p x y) (λc=>c∈bp) g->K (.tuple #[]) g)->XC Tp 65 #[.pointer (Td ⟨db,0,Te⟩),aK sp,i,e] h K
def kL(p:List Bt)(b:Tr)(k:Bt):List cK:=if b.keys.contains k then []else [Yv (p++[k])]
def mo(D:List Bt->Tr->Tr->List cK)(p:List Bt)(a b:Tr)(k:Bt):List cK:=if b.keys.contains k then D (p++[k]) (ym a k) (ym b k)else []
def nq(p:List Bt)(a b:Tr)(k:Bt):List cK:=if a.keys.contains k then []else [Qy (p++[k]) (ym b k)]
theorem Yr{α:Type}(c:Bt->Bool)(F:Bt->List α):∀l:List Bt,(l.filter c).flatMap F=l.flatMap λk=>if c k then F k else []
 |[]=>rfl
 |k::l=>by rw[zed,zcd];by_cases h:c k=Ta;rw[zA h,zA h,zcd,Yr c F l];rw[zv h,zv h,zck,Yr c F l]
theorem BF{α:Type}(F:Bt->α):∀l:List Bt,l.map F=l.flatMap λk=>[F k]
 |[]=>rfl
 |k::l=>by rw[za1,zcd,<-BF F l];rfl
theorem QP(D:List Bt->Tr->Tr->List cK)(p:List Bt)(a b:Tr):iT D p a b=(zl a.keys).flatMap (kL p b)++((zl a.keys).flatMap (mo D p a b)++(zl b.keys).flatMap (nq p a b)):=by unfold iT;rw[BF,BF,Yr,Yr,Yr];congr 1;refine congrArg (λF=>List.flatMap F _) (funext λk=>?_);unfold kL;simp;congr 1;refine congrArg (λF=>List.flatMap F _) (funext λk=>?_);unfold nq;simp
theorem xe(E:α->List β){l:List α}(h:n<l.length):(l.take (n+1)).flatMap E=(l.take n).flatMap E++E l[n]:=by rw[zal h,zdt,zcd,List.flatMap_nil,zbs]
theorem wv(E:α->List β)(l:List α)(n:Nat):((l.take n).flatMap E).length<=(l.flatMap E).length:=by
 conv=>rhs;rw[<-zca n l,zdt,zah]
 omega
def LpI(lo:Nat)(M:Fr)(db:Nat)(hL:zc)(na:DA)(so:Sl)(b:Nat)(c:List cK)(E:Bt->List cK)(ks:List Bt)(x:Int)(g:zc):Prop:=∃n:Nat,x=(n:Int)/\n<=ks.length/\Dn lo M db hL na so b (c++(ks.take n).flatMap E) iS g
theorem LpI.next{hL:zc}{na:DA}{e:List cK}{E:Bt->List cK}{ks:List Bt}{g:zc}(c:n<ks.length)(f:ks.length<=1000000)(H:Dn lo M db hL na so b ((e++(ks.take n).flatMap E)++E ks[n]) iS g):
  LpI lo M db hL na so b e E ks (w6 ((n:Int)+1)) g/\ks.length-(w6 ((n:Int)+1)).toNat<ks.length-(n:Int).toNat:=by
 rw[je c (by omega)];refine⟨⟨n+1,rfl,c,?_⟩,by omega⟩;rw[xe E c,<-za9];exact H
set_option maxHeartbeats 4000000 in
set_option maxRecDepth 100000 in
theorem TT{gl:Fr}(hg:GL gl){lo db f:Nat}{p:List Bt}{x y:Tr}(gx:GV x)(gy:GV y)(kx:x.kind=6)(ky:y.kind=6)(hp:p.length<=900000) (ih:∀s u v,u∈x.items->v∈y.items->tY gl lo db f (p++[s]) u v) {h:zc} {na:DA} {cs:Array Value} (hM:Fr.le gl M) (D:Df lo M db h na so b cs) {bp:List Nat} {sp:Sl} (P:OPath h p bp sp) (hP:∀c∈bp,lo<=c/\M c=Te/\¬iq na so b c/\c≠db) {ux uy:Value} (J:RdV M .tree x ux) (hy:RdV M .tree y uy) (hN:na.length+(iT (dR f) p x y).length<=1000000) {K:Value->zc->Prop} (hK:∀g,Dn lo M db h na so b (iT (dR f) p x y) iS g->K (.tuple #[]) g):
  XC Tp 115 #[.pointer (Td ⟨db,0,Te⟩),aK sp,ux,uy] h K:=by
 obtain⟨xn,xl⟩:=gx.keys kx;obtain⟨yn,yl⟩:=gy.keys ky;have lx:=gx.len;have ly:=gy.len;have bC:=J;have bE:=hy;obtain⟨xk,xi,rfl,bq,bU⟩:=qp J;obtain⟨yk,yi,rfl,bB,bV⟩:=qp hy;rw[QP]at hN hK;rw[zah,zah]at hN;apply Xy (Td ⟨db,0,Te⟩) sp x.kind x.text xk xi y.kind y.text yk yi;intro h1 h2;have z1:h1.size=h.size+1:=zaf _;have z2:h2.size=h1.size+1:=zaf _;have k1:Keep h.size h h1:=Keep.push _ _ (zac _);have k2:Keep h1.size h1 h2:=Keep.push _ _ (zac _);have b1:Blk h1 h.size (zj x.kind x.text xk xi).toArray:=Blk.new _ _ _;have b2:Blk h2 h1.size (zj y.kind y.text yk yi).toArray:=Blk.new _ _ _;have aQ:=b1.ofKeep k2;clear_value h1 h2;have K2:Keep h.size h h2:=k1.trans k2 (by omega);refine⟨_,_,xk,xi,aQ.ld (cs:=zj x.kind x.text xk xi),_,_,yk,yi,b2.ld (cs:=zj y.kind y.text yk yi),?_⟩;refine Iq xn xl (by omega) (D.ag.keep K2) bC λbD m1 us af co aE aD w1=>⟨Td m1,rfl,af.get _ (by simp_all),?_⟩;have b8:=af.size;have aH:Keep h.size h bD:=K2.trans af (by omega);refine Iq yn yl (by omega) (D.ag.keep aH) bE λG m2 vs S cg lvs aC w2=>⟨Td m2,rfl,?_⟩;have cm:=S.size;have bj:Keep h.size h G:=aH.trans S (by omega);have bH:MapW G m1 (Y5 (x.keys.zip us)):=w1.keep (S.get m1 w1.lt);refine⟨xk,((aQ.ofKeep af).ofKeep S).cellAdd (o:=0) (k:=2) rfl,yk,((b2.ofKeep af).ofKeep S).cellAdd (o:=0) (k:=2) rfl,?_⟩;apply jl xk;intro B;have O:Keep G.size G B:=Keep.push _ _ (zac _);have b7:B.size=G.size+1:=zaf _;have be:Blk B G.size #[aK xk]:=Blk.new _ _ _;clear_value B;have aT:Keep h.size h B:=bj.trans O (by omega);refine⟨_,rfl,O.get _ (by grind [zf]),?_⟩;refine HT (D.ag.keep aT) be bq (by omega) λV s1 U o1=>⟨s1,rfl,(U.get _ (by grind [zf])).trans (O.get _ (by grind [zf])),?_⟩;have b6:=U.size;have br:Keep h.size h V:=aT.trans U (by omega);apply jl yk;intro N;have ai:Keep V.size V N:=Keep.push _ _ (zac _);have bY:N.size=V.size+1:=zaf _;have bg:Blk N V.size #[aK yk]:=Blk.new _ _ _;clear_value N;have aL:Keep h.size h N:=br.trans ai (by omega);refine⟨_,rfl,HT (D.ag.keep aL) bg bB (by omega) λz s2 k29 o2=>⟨s2,rfl,?_⟩⟩;have bZ:=k29.size;have az:Keep h.size h z:=aL.trans k29 (by omega);have a7:=D.keep az;have bP:=w1.lt;have aS:=w2.lt;have W1:MapW z m1 (Y5 (x.keys.zip us)):=bH.keep (((O.trans U (by omega)).trans (ai.trans k29 (by omega)) (by omega)).get m1 (by omega));have W2:MapW z m2 (Y5 (y.keys.zip vs)):=w2.keep (((O.trans U (by omega)).trans (ai.trans k29 (by omega)) (by omega)).get m2 aS);have O1:Owns z B.size 9 1 s1 ((zl x.keys).map zaz):=(o1.keepN (ai.trans k29 (by omega)));have an:(zl x.keys).length<=1000000:=by rw[(qn x.keys).length_eq];omega
 have aG:(zl y.keys).length<=1000000:=by rw[(qn y.keys).length_eq];omega
 have aj:∀c∈bp,c<h.size:=λc l=>by obtain⟨_,_,_,h4⟩:=P;rcases h4 with⟨_,rfl⟩|⟨b',cs',rfl,_,e,_⟩;grind;rw[za6.1 l];exact e.lt
 have st:∀{L:List cK} {g:zc},Dn lo M db z na so b L iS g->MapW g m1 (Y5 (x.keys.zip us))/\MapW g m2 (Y5 (y.keys.zip vs))/\Owns g B.size 9 1 s1 ((zl x.keys).map zaz)/\Owns g N.size 9 1 s2 ((zl y.keys).map zaz)/\OPath g p bp sp:=λ {L g} H=>by have loc:=λ {j:Nat} (q1:h.size<=j) (q2:j<z.size)=>Dn.loc D H q1 q2;refine⟨W1.keep (loc (by omega) W1.lt),W2.keep (loc (by omega) W2.lt),O1.keep λq hq=>?_,o2.keep λq hq=>?_,P.frame λc l=>?_⟩;have:=O1.base_le q hq;grind;have:=o2.base_le q hq;grind;have:=aj c l;exact(H.old (by omega) (hP c l).2.2.1 (hP c l).2.2.2).trans (az.get c this)
 refine⟨LpI lo M db z na so b [] (kL p y) (zl x.keys),λi _=>(zl x.keys).length-i.toNat,⟨0,rfl,za0 _,Dn.refl a7⟩,?_⟩;rintro i g ⟨n,rfl,hn,H⟩;have ls:=nI O1;refine⟨λl=>?_,λl=>?_⟩;have m:n<(zl x.keys).length:=by rw[ls]at l;simpa using l
 obtain⟨q1,q2,q3,q4,q5⟩:=st H;refine zZ q3 m rfl ?_;obtain⟨v,dk,di,r1,r2,lk,_⟩:=pw yn yl lvs aC q2 (zl x.keys)[n];refine⟨v.kind,v.text,dk,di,_,lk,?_⟩;intro am;have ca:am.size=g.size+1:=zaf _;have bz:Keep g.size g am:=Keep.push _ _ (zac _);have bA:Blk am g.size (zj 0 ⟨#[]⟩ ⟨Te,0,0⟩ ⟨Te,0,0⟩).toArray:=Blk.new _ _ _;clear_value am;refine jh bA rfl _ _ _ _ λbu cn cj bJ=>?_;have aB:Keep g.size g bu:=⟨by omega,λj hj=>by rw[bJ j (by omega)];exact bz.get j hj⟩;refine⟨λJ=>?_,λJ=>?_⟩;refine rN (q5.frame λc l=>aB.get c (by have:=aj c l;have:=H.sz;omega)) (by omega) _ λbF F bn a6 ah ax bG=>⟨F,rfl,?_⟩;obtain⟨na',so',b',cs',Z,e',aa,_,t⟩:=H.go (aB.trans a6 (by omega));have tl:=wv (kL p y) (zl x.keys) n;refine rX (v:=zT) (bv:=[]) Z bG (OT.zero bF) (λc l=>?_) (by simp) ?_ _ λg2 H2=>⟨rfl,?_⟩;grind;have:=congrArg zcf e';grind;refine LpI.next m an ?_;have r:kL p y (zl x.keys)[n]=[(⟨#[114,101,109,111,118,101]⟩,p++[(zl x.keys)[n]],[],zT)]:=by unfold kL;rw[zv (by grind)];rfl
 rw[r];refine t _ _ g2 (λc l=>?_) H2;rcases l with l|l;rw[za6.1 l];have:=H.sz;omega;grind;refine LpI.next m an ?_;have r:kL p y (zl x.keys)[n]=[]:=by unfold kL;rw[zA (by simpa using J)]
 rw[r];obtain⟨na',so',b',cs',Z,e',aa,_,t⟩:=H.go aB;exact t _ iS _ (λc l=>nomatch l) (Dn.refl Z);have m:n=(zl x.keys).length:=by rw[ls]at l;simp at l;omega
 subst m;rw[zba,zck]at H;have H1:=H;clear H l hn;refine⟨LpI lo M db z na so b ((zl x.keys).flatMap (kL p y)) (mo (dR f) p x y) (zl x.keys),λi _=>(zl x.keys).length-i.toNat,⟨0,rfl,za0 _,by simpa using H1⟩,?_⟩;clear H1 g;rintro i g ⟨n,rfl,hn,H⟩;refine⟨λl=>?_,λl=>?_⟩
 ·have m:n<(zl x.keys).length:=by rw[ls]at l;simpa using l
  obtain⟨q1,q2,q3,q4,q5⟩:=st H;refine zZ q3 m rfl ?_;obtain⟨v,dk,di,r1,r2,lk,_⟩:=pw yn yl lvs aC q2 (zl x.keys)[n];refine⟨v.kind,v.text,dk,di,_,lk,?_⟩;intro ak;have cc:ak.size=g.size+1:=zaf _;have aZ:Keep g.size g ak:=Keep.push _ _ (zac _);have bi:Blk ak g.size (zj 0 ⟨#[]⟩ ⟨Te,0,0⟩ ⟨Te,0,0⟩).toArray:=Blk.new _ _ _;clear_value ak;refine jh bi rfl _ _ _ _ λI a8 cd bm=>?_;have al:Keep g.size g I:=⟨by omega,λj hj=>by rw[bm j (by omega)];exact aZ.get j hj⟩;have aA:MapW I m1 (Y5 (x.keys.zip us)):=q1.keep (al.get m1 q1.lt);refine⟨λJ=>?_,λJ=>?_⟩
  ·refine⟨v.kind,v.text,dk,di,a8.ld (cs:=zj v.kind v.text dk di),?_⟩;have aJ:OPath I p bp sp:=q5.frame λc l=>al.get c (by have:=aj c l;have:=H.sz;omega);obtain⟨ev,hv⟩:=r2 J;have aM:x.keys.contains (zl x.keys)[n]=Ta:=List.contains_iff_mem.2 ((qn x.keys).mem_iff.1 (zak m));have r:mo (dR f) p x y (zl x.keys)[n]=dR f (p++[(zl x.keys)[n]]) (ym x (zl x.keys)[n]) (ym y (zl x.keys)[n]):=by unfold mo;rw[zA J]
   have tl:=wv (mo (dR f) p x y) (zl x.keys) (n+1);rw[xe _ m,zah,r]at tl;have fin:∀(ab:zc) (F:Sl) (bn:Nat) (u:Tr) (Y T:Sl),Keep I.size I ab->I.size<=bn->OPath ab (p++[(zl x.keys)[n]]) [bn] F->RdV M .tree u (.agg #[.int .i64 u.kind,.string u.text,aK Y,aK T])->u=ym x (zl x.keys)[n]->u∈x.items ->
     XC Tp 65 #[.pointer (Td ⟨db,0,Te⟩),aK F,.agg #[.int .i64 u.kind,.string u.text,aK Y,aK T],.agg #[.int .i64 v.kind,.string v.text,aK dk,aK di]] ab λw g2=>w=.tuple #[]/\(LpI lo M db z na so b ((zl x.keys).flatMap (kL p y)) (mo (dR f) p x y) (zl x.keys) (w6 ((n:Int)+1)) g2/\(zl x.keys).length-(w6 ((n:Int)+1)).toNat<(zl x.keys).length-(n:Int).toNat):=λab F bn u Y T A b9 ae ru eu hu=>by
    obtain⟨na',so',b',cs',Z,e',aa,_,t⟩:=H.go (al.trans A (by omega));refine ih (zl x.keys)[n] u v hu (ev ▸ hv) M ab na' so' b' cs' [bn] F _ _ _ hM Z ae (λc l=>by grind) ru r1 ?_ λg2 H2=>⟨rfl,LpI.next m an ?_⟩;have:=congrArg zcf e';grind;rw[r,<-eu,<-ev];refine t _ _ g2 (λc l=>?_) H2;rw[za6.1 l];have:=H.sz;omega
   refine⟨?_,?_⟩;refine rN aJ (by omega) _ λay F bn A ah ax ae=>⟨F,rfl,A.get _ (by grind),?_⟩;obtain⟨u,Y,T,t1,t2,_,ac⟩:=pw xn xl aE aD (aA.keep (A.get m1 aA.lt)) (zl x.keys)[n];obtain⟨eu,hu⟩:=t2 aM;exact⟨u.kind,u.text,Y,T,ac,A.get _ (by grind),fin ay F bn u Y T A ah ae t1 eu (eu ▸ hu)⟩;obtain⟨u,Y,T,t1,t2,_,ac⟩:=pw xn xl aE aD aA (zl x.keys)[n];obtain⟨eu,hu⟩:=t2 aM;refine⟨u.kind,u.text,Y,T,ac,rfl,?_⟩;refine rN aJ (by omega) _ λay F bn A ah ax ae=>⟨F,rfl,A.get _ (by grind),fin ay F bn u Y T A ah ae t1 eu (eu ▸ hu)⟩
  refine LpI.next m an ?_;have r:mo (dR f) p x y (zl x.keys)[n]=[]:=by unfold mo;rw[zv (by rw[J];decide)]
  rw[r];obtain⟨na',so',b',cs',Z,e',aa,_,t⟩:=H.go al;exact t _ iS _ (λc l=>nomatch l) (Dn.refl Z)
 have m:n=(zl x.keys).length:=by rw[ls]at l;simp at l;omega
 subst m;rw[zba]at H;have H1:=H;clear H l hn;have aO:=nI o2;refine⟨LpI lo M db z na so b ((zl x.keys).flatMap (kL p y)++(zl x.keys).flatMap (mo (dR f) p x y)) (nq p x y) (zl y.keys),λi _=>(zl y.keys).length-i.toNat,⟨0,rfl,za0 _,by simpa using H1⟩,?_⟩;clear H1 g;rintro i g ⟨n,rfl,hn,H⟩;refine⟨λl=>?_,λl=>?_⟩;have m:n<(zl y.keys).length:=by rw[aO]at l;simpa using l
 obtain⟨q1,q2,q3,q4,q5⟩:=st H;refine zZ q4 m rfl ?_;obtain⟨v,dk,di,r1,r2,lk,_⟩:=pw xn xl aE aD q1 (zl y.keys)[n];refine⟨v.kind,v.text,dk,di,_,lk,?_⟩;intro C;have bN:C.size=g.size+1:=zaf _;have aN:Keep g.size g C:=Keep.push _ _ (zac _);have aP:Blk C g.size (zj 0 ⟨#[]⟩ ⟨Te,0,0⟩ ⟨Te,0,0⟩).toArray:=Blk.new _ _ _;clear_value C;refine jh aP rfl _ _ _ _ λau bQ bM aI=>?_;have E:Keep g.size g au:=⟨by omega,λj hj=>by rw[aI j (by omega)];exact aN.get j hj⟩;have bI:MapW au m2 (Y5 (y.keys.zip vs)):=q2.keep (E.get m2 q2.lt);refine⟨λJ=>?_,λJ=>?_⟩;obtain⟨u,Y,T,t1,t2,_,ac⟩:=pw yn yl lvs aC bI (zl y.keys)[n];have aY:y.keys.contains (zl y.keys)[n]=Ta:=List.contains_iff_mem.2 ((qn y.keys).mem_iff.1 (zak m));obtain⟨eu,hu⟩:=t2 aY;have gu:GV u:=gy.item (eu ▸ hu);refine⟨u.kind,u.text,Y,T,ac,?_⟩;refine nh hg gu.s gu.open hM (H.ag.keep E) t1 λaU bs ck ci ar ot bT=>⟨_,_,ck,ci,rfl,?_⟩;have bS:=ar.size;have aV:Keep g.size g aU:=E.trans ar (by omega);refine rN (q5.frame λc l=>aV.get c (by have:=aj c l;have:=H.sz;omega)) (by omega) _ λbO F bn Q ah ax aF=>⟨F,rfl,?_⟩;have bL:=Q.size;obtain⟨na',so',b',cs',Z,e',aa,_,t⟩:=H.go (aV.trans Q (by omega));have tl:=wv (nq p x y) (zl y.keys) n;have ba:=ot.lt;refine rX Z aF (ot.frame λc l=>Q.get c (ba c l)) (λc l=>?_) (λc l hb=>?_) ?_ _ λg2 H2=>⟨rfl,?_⟩;rcases l with l|l;grind;grind;grind;have:=congrArg zcf e';grind [zap,zah];refine LpI.next m aG ?_;have r:nq p x y (zl y.keys)[n]=[(⟨#[97,100,100]⟩,p++[(zl y.keys)[n]],[],u)]:=by unfold nq;rw[zv (by grind),<-eu];rfl
 rw[r];refine t _ _ g2 (λc l=>?_) H2;have:=H.sz;rcases l with l|l;grind;grind;refine LpI.next m aG ?_;have r:nq p x y (zl y.keys)[n]=[]:=by unfold nq;rw[zA (by simpa using J)]
 rw[r];obtain⟨na',so',b',cs',Z,e',aa,_,t⟩:=H.go E;exact t _ iS _ (λc l=>nomatch l) (Dn.refl Z);have m:n=(zl y.keys).length:=by rw[aO]at l;simp at l;omega
 subst m;rw[zba,za9]at H;exact hK g (H.frm az)
end
end
section
open Go.Lib Go.RowKit
variable {n i b:Nat} {x:Bool} {h:zc} {K:Value -> zc -> Prop} {M:Fr}
theorem uh{α β:Type}(c:α->Bool)(F:α->β):∀l:List α,(l.filter c).map F=l.flatMap λk=>if c k then [F k]else []
 |[]=>rfl
 |k::l=>by rw[zed,zcd];by_cases h:c k=Ta;rw[zA h,zA h,za1,uh c F l];rfl;rw[zv h,zv h,zck,uh c F l]
def sF(D:List Bt->Tr->Tr->List cK)(p:List Bt)(a b:Tr)(q:Nat×Nat):List cK:=D (p++[J6 q.1]) (w7 a q.1) (w7 b q.2)
def kV(p:List Bt)(m:List (Nat×Nat))(i:Nat):List cK:=if(m.map (·.1)).contains i then []else [Yv (p++[J6 i])]
def mD(p:List Bt)(b:Tr)(m:List (Nat×Nat))(i:Nat):List cK:=if(m.map (·.2)).contains i then []else [Qy (p++[J6 i]) (w7 b i)]
theorem T1(D:List Bt->Tr->Tr->List cK)(p:List Bt)(a b:Tr)(m:List (Nat×Nat)):
  iR D p a b m=m.flatMap (sF D p a b)++((zaq a.items.length).reverse.flatMap (kV p m)++(zaq b.items.length).flatMap (mD p b m)):=by
 unfold iR;rw[<-List.filter_reverse,uh,uh];congr 1;congr 1;refine congrArg (λF=>List.flatMap F _) (funext λk=>?_);unfold kV;cases(m.map (·.1)).contains k <;> rfl;refine congrArg (λF=>List.flatMap F _) (funext λk=>?_);unfold mD;cases(m.map (·.2)).contains k <;> rfl
def kE(n:Nat)(f:Nat->Bool):List Value:=(zaq n).map λi=>Value.bool (f i)
theorem pe(n:Nat)(f:Nat->Bool):(kE n f).length=n:=by simp[kE]
theorem uA{f:Nat->Bool}(h:i<n):(kE n f)[i]?=Td (.bool (f i)):=by simp[kE,h]
theorem PR{f b:Nat->Bool}(e:∀i,i<n->f i=b i):kE n f=kE n b:=zbx λi hi=>by rw[e i (zbn.1 hi)]
theorem WT{f:Nat->Bool}:(kE n f).set i (.bool x)=kE n λj=>if j=i then x else f j:=by apply zbd;intro j;rw[List.getElem?_set];by_cases c:j<n;rw[uA c,uA c,pe];by_cases e:i=j;subst e;rw[zA rfl,zA c,zA rfl];rw[zv e,zv λh=>e h.symm];rw[zby (by rw[pe];omega),zby (by rw[pe];omega),pe];split;split;rename_i a b;omega;rfl;rfl
def BolB(h:zc)(b n:Nat)(f:Nat->Bool):Prop:=Blk h b (kE n f).toArray
theorem BolB.keep{h h':zc}{f:Nat->Bool}(H:BolB h b n f)(k:h'[b]?=h[b]?):BolB h' b n f:=Blk.keep H k
theorem BolB.ext{f c:Nat->Bool}(H:BolB h b n f)(e:∀i,i<n->f i=c i):BolB h b n c:=by unfold BolB;rw[<-PR e];exact H
theorem BolB.cell{f:Nat->Bool}(H:BolB h b n f)(hi:i<n):zd h ⟨b,i,Te⟩=Td (.bool (f i)):= Blk.cell H (by rw[<-zbh];exact uA hi)
theorem OC:yb Tp 4=Ta:=by kernel_rfl
theorem BolB.set{f:Nat->Bool}(H:BolB h b n f)(hi:i<n){K:zc->Prop}(k:∀h',BolB h' b n (λj=>if j=i then x else f j)->h'.size=h.size->(∀j,j≠b->h'[j]?=h[j]?)->K h'):
  XRunU Tp (zag 4 (.pointer (Td ⟨b,i,Te⟩)) (.bool x)) h K:=by
 refine xu OC (by kernel_rfl) H (by rw[zeo,pe];exact hi) rfl λg' c m l=>k g' ?_ m l;unfold BolB;rw[<-WT];have e:(kE n f).toArray.setIfInBounds i (.bool x)=((kE n f).set i (.bool x)).toArray:=by simp
 rw[e]at c;exact c
theorem PT(n:Nat):zcv n (Value.bool Tc)=kE n λ_=>Tc:=by apply zbd;intro i;rw[List.getElem?_replicate];by_cases hi:i<n;rw[zA hi,uA hi];rw[zv hi,zby (by rw[pe];omega)]
theorem PU:ElemT Tp 192 4 (.bool Tc) 1 1:=⟨by kernel_rfl,⟨Tryz.t4,by kernel_rfl,by kernel_rfl,by kernel_rfl,by kernel_rfl⟩,rfl,by decide⟩
theorem o5(c:n<=1000000)(b:∀h',BolB h' h.size n (λ_=>Tc)->Keep h.size h h'->h'.size=h.size+1->K (aK ⟨Td ⟨h.size,0,Te⟩,n,n⟩) h'):
  qu Tp (zbp 192 (.int .i64 (n:Int)) (.int .i64 (n:Int))) h K:=by
 refine s3 PU rfl (by omega) c ?_;rw[PT];exact b _ (Blk.new _ _ _) (Keep.push _ _ (zac _)) (zaf _)
section
variable {lo db b : Nat} {M : Fr} {h0 h g g' : zc} {na : DA} {so : Sl} {cs : Array Value} {L : List cK}
theorem Dn.poke(D:Df lo M db h0 na so b cs)(H:Dn lo M db h na so b L iS g){o:Nat}(A:h0.size<=o)(u:o<h.size)(z:g'.size=g.size)(f:∀j,j≠o->g'[j]?=g[j]?):
  ∃h',Dn lo M db h' na so b L iS g'/\h'.size=h.size/\(∀j,j≠o->h'[j]?=h[j]?)/\h'[o]?=g'[o]?:=by
 obtain⟨_,F,E,B⟩:=D.fresh A;obtain⟨na',so',b',cs',i,T,e⟩:=H;have hz:=T.sz;have t:o<g'.size:=by omega
 obtain⟨v,x⟩:∃v,g'[o]?=Td v:=⟨g'[o],zcl t⟩;have r:¬iq na' so' b' o:=λk=>by rcases T.own o k with q|q|q;exact E q;exact q;omega
 refine⟨h.setIfInBounds o v,⟨na',so',b',cs',⟨AgM.off i.ag λc G w=>f c λl=>?_,i.box.keep (f db λl=>B l.symm),i.ds.frame (by omega) (λc k=>f c λl=>r (l ▸ k)) (λc k=>(i.ds.own k).2.2),i.nb,by have:=i.lo;omega,i.nM⟩,⟨by rw[zbg];omega,λc k=>?_,λj m C y=>?_⟩,e⟩,zbg,λj m=>zq m,?_⟩;rw[l,F]at w;exact nomatch w;rw[zbg];exact T.own c k;rw[zbg]at m;by_cases n:j=o;subst n;rw[x];exact(set_self u).symm;rw[f j n,zq n];exact T.fr j m C y;rw[x];exact set_self u
end
theorem T6{p:pn}{cs:List Value}(h:Rd M jR p cs):cs=[.int .i64 p.1,.int .i64 p.2]:=by
 obtain⟨c1,c2,rfl,h1,b⟩:=h;have h1:c1=[.int .i64 p.1]:=by simpa[Rd]using h1
 have b:c2=[.int .i64 p.2]:=by simpa[Rd]using b
 rw[h1,b];rfl
theorem MO{g:zc}(ag:AgM M g){m:List (Nat×Nat)}{s:Sl}(H:Rd M (.row jR) (m.map nQ) [aK s]){k:Nat}(h:k<m.length):∃a:Addr,(s.a=Td a/\(0:Int)<=(k:Int)/\((k:Nat):Int)<((s.len:Nat):Int))/\ze g (a.add (((k:Nat):Int).toNat*2)) 0 [.int .i64 (m[k].1:Int),.int .i64 (m[k].2:Int)]:=by
 obtain⟨l,_,_⟩:=rowLen H;rw[zap]at l;have b1:(0:Int)<=(k:Int)/\((k:Nat):Int)<((s.len:Nat):Int):=by omega
 obtain⟨b,o,cs,i,f,j⟩:=Go.X.rowAt H (k:=k) (by rw[zap];exact h);have c:=T6 j;rw[show sz jR=2 from rfl,zb3]at c;have e:ze g ⟨b,o+k*2,Te⟩ 0 [.int .i64 (m[k].1:Int),.int .i64 (m[k].2:Int)]:=nP ag f (vs:=[.int .i64 (m[k].1:Int),.int .i64 (m[k].2:Int)]) c;refine⟨⟨b,o,Te⟩,⟨i,b1⟩,?_⟩;rw[ic,zae];exact e
theorem Px:zo Tp 186=Ta:=by kernel_rfl
theorem sT{gl:Fr}(x:GL gl)(u:Fr.le gl M)(ag:AgM M h){c:Nat}{p:List Bt}{bp:List Nat}{sp:Sl}(C:Blk h c #[aK sp])(P:OPath h p bp sp)(A:p.length<=1000000)(hi:i<=1000000) (z:∀(g:zc) (j:Sl) (b:Nat),Keep h.size h g->h.size<=b->OPath g (p++[J6 i]) [b] j->K (aK j) g):
  kU Tp (.func (.func 186) #[] #[.pointer (Td ⟨c,0,Te⟩)]) #[.int .i64 (i:Int)] (λf vs=>XC Tp f vs h K):=by
 refine⟨Px,?_⟩;show XC Tp 186 #[.int .i64 (i:Int),.pointer (Td ⟨c,0,Te⟩)] h K;apply Xe;refine⟨sp,C.cell rfl,?_⟩;have B:PC Tp gl 159 [Arg.mk PJ (i:Int)] [.str] (λr=>r=J6 i):=zU x.pow (by omega) (by omega) rfl;refine B.go (vs:=[.int .i64 (i:Int)]) u ag (zr (Ja .i64 (i:Int)) qj) λw F E r m l q=>?_;have q:r=J6 i:=q;subst q;have o:∀c∈bp,c<h.size:=λc n=>by obtain⟨_,_,_,y⟩:=P;rcases y with⟨_,rfl⟩|⟨b',cs',rfl,_,e,_⟩;exact nomatch n;rw[za6.1 n];exact e.lt
 refine⟨J6 i,lG l,m.keep.get c C.lt,?_⟩;refine rN (P.frame λc n=>m.keep.get c (o c n)) A _ λg j b k t D P'=>⟨j,rfl,z g j b (m.keep.trans k m.keep.size) (zch m.keep.size t) P'⟩
end
section
theorem Qf(f:Nat)(c1:Addr)(h:zc)(R:Value->zc->Prop) (H:∃i:Sl,zd h c1=Td (.slice i.a i.len i.cap)/\∃(m:Int->zc->Prop) (o:Int->zc->Nat),m (w6 (((i.len:Nat):Int)-1)) h/\∀b:Int,∀j:zc,m b j->(((decide ((b:Int)>=0))=Ta->∃c:Sl,zd j c1=Td (.slice c.a c.len c.cap)/\∃q:Addr,(c.a=Td q/\0<=(b:Int)/\(b:Int)<((c.len:Nat):Int))/\∃k:Bool,zd j (q.add ((b:Int).toNat*1))=Td (.bool k)/\YX Tp f #[.int .i64 b,.bool k] j (λr l=>∃e:Bool,r=.bool e/\((!e)=Ta->R (.tuple #[]) l)/\((!e)=Tc->(m (w6 (b-1)) l/\o (w6 (b-1)) l<o b j))))/\((decide ((b:Int)>=0))=Tc->R (.tuple #[]) j))):
  md Tp 243 #[.func (.yield f) #[] #[],.pointer (Td c1)] h R:=
 xN Tryz.mixed ⟨[],[(1,[(3,.one (.int .i64))])],[]⟩ [.func (.yield f) #[] #[],.pointer (Td c1)] (rs:=[]) (n:=19) Tryz.func243 (by kernel_rfl) (by kernel_rfl) (by kernel_rfl) (by kernel_rfl) (Eq.mp (by kernel_rfl) H)
theorem N4(d0:Option Addr)(l:Sl)(aQ:Int)(aC:Bt)(z:Sl)(x:Sl)(aI:Int)(aM:Bt)(u:Sl)(w:Sl)(m4:Sl)(h:zc)(R:Value->zc->Prop) (H:let bn:zc:=zdd h (.cells #[.pointer d0] 124);let ah:zc:=zdd bn (.cells #[.slice l.a l.len l.cap] 22);let O:zc:=zdd ah (.cells #[.int .i64 aQ,.string aC,.slice z.a z.len z.cap,.slice x.a x.len x.cap] 25);let az:zc:=zdd O (.cells #[.int .i64 aI,.string aM,.slice u.a u.len u.cap,.slice w.a w.len w.cap] 25);let cE:zc:=zdd az (.cells #[.nilFunc] 191);XRunU Tp (zag 191 (.pointer (Td ⟨zax az,0,Te⟩)) (.func (.func 186) #[] #[.pointer (Td ⟨zax bn,0,Te⟩)])) cE (λQ=>∃i:Sl,zd Q (zab ⟨zax ah,0,Te⟩ 3)=Td (.slice i.a i.len i.cap)/\∃e:Sl,zd Q (zab ⟨zax O,0,Te⟩ 3)=Td (.slice e.a e.len e.cap)/\let bF:Sl->Sl->Sl->zc->Prop:=λ(B:Sl) (y:Sl) (aU:Sl) (cA:zc)=>(∃(a6:Int->zc->Prop) (bN:Int->zc->Nat),a6 0 cA/\∀f:Int,∀j:zc,a6 f j->(((decide ((f:Int)<((m4.len:Nat):Int)))=Ta->∃bu:Addr,(m4.a=Td bu/\0<=(f:Int)/\(f:Int)<((m4.len:Nat):Int))/\∃aO:Int,∃aP:Int,ze j (bu.add ((f:Int).toNat*2)) 0 [.int .i64 aO,.int .i64 aP]/\let b8:zc:=zdd j (.cells #[.int .i64 0,.int .i64 0] 190);XRunU Tp (zag 190 (.pointer (Td ⟨zax j,0,Te⟩)) (.agg #[.int .i64 aO,.int .i64 aP])) b8 (λaF=>∃U:Int,zd aF (zab ⟨zax j,0,Te⟩ 0)=Td (.int .i64 U)/\∃aa:Int,zd aF (zab ⟨zax j,0,Te⟩ 1)=Td (.int .i64 aa)/\∃bH:Addr,(B.a=Td bH/\0<=(U:Int)/\(U:Int)<((B.len:Nat):Int))/\XRunU Tp (zag 4 (.pointer (Td (bH.add ((U:Int).toNat*1)))) (.bool Ta)) aF (λbI=>∃bJ:Addr,(y.a=Td bJ/\0<=(aa:Int)/\(aa:Int)<((y.len:Nat):Int))/\hZ bI aF (zab ⟨zax j,0,Te⟩ 1)/\XRunU Tp (zag 4 (.pointer (Td (bJ.add ((aa:Int).toNat*1)))) (.bool Ta)) bI (λk=>∃aN:Option Addr,zd k ⟨zax h,0,Te⟩=Td (.pointer aN)/\∃aB:Value,zd k ⟨zax az,0,Te⟩=Td aB/\∃aL:Int,zd k (zab ⟨zax j,0,Te⟩ 0)=Td (.int .i64 aL)/\∃N:Sl,zd k (zab ⟨zax ah,0,Te⟩ 3)=Td (.slice N.a N.len N.cap)/\∃I:Int,zd k (zab ⟨zax j,0,Te⟩ 0)=Td (.int .i64 I)/\∃aD:Addr,(N.a=Td aD/\0<=(I:Int)/\(I:Int)<((N.len:Nat):Int))/\∃aJ:Int,∃aT:Bt,∃J:Sl,∃F:Sl,ze k (aD.add ((I:Int).toNat*4)) 0 [.int .i64 aJ,.string aT,.slice J.a J.len J.cap,.slice F.a F.len F.cap]/\∃P:Sl,zd k (zab ⟨zax O,0,Te⟩ 3)=Td (.slice P.a P.len P.cap)/\∃D:Int,zd k (zab ⟨zax j,0,Te⟩ 1)=Td (.int .i64 D)/\∃aG:Addr,(P.a=Td aG/\0<=(D:Int)/\(D:Int)<((P.len:Nat):Int))/\∃aH:Int,∃aA:Bt,∃L:Sl,∃E:Sl,ze k (aG.add ((D:Int).toNat*4)) 0 [.int .i64 aH,.string aA,.slice L.a L.len L.cap,.slice E.a E.len E.cap]/\kU Tp aB #[.int .i64 aL] (λcd bO=>XC Tp cd bO k (λb7 S=>∃C:Sl,b7=.slice C.a C.len C.cap/\hZ S k ((aG.add ((D:Int).toNat*4)))/\hZ S k (zab ⟨zax j,0,Te⟩ 1)/\hZ S k (zab ⟨zax O,0,Te⟩ 3)/\hZ S k ((aD.add ((I:Int).toNat*4)))/\hZ S k (zab ⟨zax j,0,Te⟩ 0)/\hZ S k (zab ⟨zax ah,0,Te⟩ 3)/\hZ S k ⟨zax h,0,Te⟩/\XC Tp 65 #[.pointer aN,.slice C.a C.len C.cap,.agg #[.int .i64 aJ,.string aT,.slice J.a J.len J.cap,.slice F.a F.len F.cap],.agg #[.int .i64 aH,.string aA,.slice L.a L.len L.cap,.slice E.a E.len E.cap]] S (λcz bE=>cz=.tuple #[]/\(a6 (w6 (f+1)) bE/\bN (w6 (f+1)) bE<bN f j))))))))/\((decide ((f:Int)<((m4.len:Nat):Int)))=Tc->XC Tp 187 #[.slice B.a B.len B.cap] j (λcn M=>∃ai:Value,cn=ai/\∃(a8:FuncId) (bg:Array Value),ai=.func (.func a8) #[] bg/\zo Tp a8=Ta/\∀Z:i4,(∀{be aY:Value} {ba:zc} {bC:Value->zc->Prop},ba[(zax M+1)]?=Td (.loop (Z .ready Te))->lW Tp 94 (lZ (codeOf Tryz.f117)) (lJ (codeOf Tryz.f117)) Z (zax M+1) bC (putO (putO [(0,[],.pointer d0),(1,[],.slice l.a l.len l.cap),(2,[],.agg #[.int .i64 aQ,.string aC,.slice z.a z.len z.cap,.slice x.a x.len x.cap]),(3,[],.agg #[.int .i64 aI,.string aM,.slice u.a u.len u.cap,.slice w.a w.len w.cap]),(4,[],.slice m4.a m4.len m4.cap),(5,[],.pointer (Td ⟨zax h,0,Te⟩)),(6,[],.pointer (Td ⟨zax bn,0,Te⟩)),(7,[],.pointer (Td ⟨zax ah,0,Te⟩)),(8,[],.pointer (Td ⟨zax O,0,Te⟩)),(10,[],.pointer (Td ⟨zax az,0,Te⟩)),(11,[],.slice B.a B.len B.cap),(12,[],.slice y.a y.len y.cap),(19,[],.func (.func 186) #[] #[.pointer (Td ⟨zax bn,0,Te⟩)]),(20,[],.pointer (Td (zab ⟨zax ah,0,Te⟩ 3))),(21,[],.slice i.a i.len i.cap),(22,[],.int .i64 ((i.len:Nat):Int)),(23,[],.slice aU.a aU.len aU.cap),(24,[],.pointer (Td (zab ⟨zax O,0,Te⟩ 3))),(25,[],.slice e.a e.len e.cap),(26,[],.int .i64 ((e.len:Nat):Int)),(27,[],.slice y.a y.len y.cap),(28,[],.slice m4.a m4.len m4.cap),(29,[],.int .i64 ((m4.len:Nat):Int)),(30,[],.int .i64 f),(31,[],.bool (decide ((f:Int)<((m4.len:Nat):Int)))),(61,[],.slice B.a B.len B.cap),(62,[],ai)] (Td 63) [] be) (Td 64) [] aY) ba->YX Tp (zax M+1) #[be,aY] ba bC)->md Tp a8 (#[.func (.yield (zax M+1)) #[] #[]]++bg) (zdd (zdd M (.deferred (Td []))) (.loop (Z .ready Te))) λ_ b6=>sC Z (zax M+1) (λaE=>∃(ak:Int->zc->Prop) (aj:Int->zc->Nat),ak 0 aE/\∀b:Int,∀c:zc,ak b c->(((decide ((b:Int)<((y.len:Nat):Int)))=Ta->∃aZ:Addr,(y.a=Td aZ/\0<=(b:Int)/\(b:Int)<((y.len:Nat):Int))/\∃af:Bool,zd c (aZ.add ((b:Int).toNat*1))=Td (.bool af)/\((!af)=Ta->∃ar:Option Addr,zd c ⟨zax h,0,Te⟩=Td (.pointer ar)/\∃A:Sl,zd c (zab ⟨zax O,0,Te⟩ 3)=Td (.slice A.a A.len A.cap)/\∃aV:Addr,(A.a=Td aV/\0<=(b:Int)/\(b:Int)<((A.len:Nat):Int))/\∃an:Int,∃al:Bt,∃t:Sl,∃o:Sl,ze c (aV.add ((b:Int).toNat*4)) 0 [.int .i64 an,.string al,.slice t.a t.len t.cap,.slice o.a o.len o.cap]/\∃am:Value,zd c ⟨zax az,0,Te⟩=Td am/\XC Tp 90 #[.agg #[.int .i64 an,.string al,.slice t.a t.len t.cap,.slice o.a o.len o.cap]] c (λbQ ay=>∃ax:Int,∃au:Bt,∃q:Sl,∃r:Sl,bQ=.agg #[.int .i64 ax,.string au,.slice q.a q.len q.cap,.slice r.a r.len r.cap]/\hZ ay c ⟨zax az,0,Te⟩/\hZ ay c ⟨zax h,0,Te⟩/\kU Tp am #[.int .i64 b] (λbT bm=>XC Tp bT bm ay (λbS a7=>∃m:Sl,bS=.slice m.a m.len m.cap/\hZ a7 c ⟨zax h,0,Te⟩/\XC Tp 118 #[.pointer ar,.string (⟨#[97,100,100]⟩:Bt),.agg #[.int .i64 ax,.string au,.slice q.a q.len q.cap,.slice r.a r.len r.cap],.slice m.a m.len m.cap] a7 (λbP bi=>bP=.tuple #[]/\(ak (w6 (b+1)) bi/\aj (w6 (b+1)) bi<aj b c))))))/\((!af)=Tc->(ak (w6 (b+1)) c/\aj (w6 (b+1)) c<aj b c)))/\((decide ((b:Int)<((y.len:Nat):Int)))=Tc->(c)[zax M]?=Td (.deferred (Td []))/\R (.tuple #[]) (Array.setIfInBounds c (zax M) (.deferred Te))))) (λaE=>(aE)[zax M]?=Td (.deferred (Td []))/\R (.tuple #[]) (Array.setIfInBounds aE (zax M) (.deferred Te))) b6))));let bL:Sl->Sl->zc->Prop:=λ(ck:Sl) (bq:Sl) (cm:zc)=>(bF bq ck bq cm);let bB:Sl->Sl->zc->Prop:=λ(cu:Sl) (cC:Sl) (cc:zc)=>(qu Tp (zbp 192 (.int .i64 ((e.len:Nat):Int)) (.int .i64 ((e.len:Nat):Int))) cc (λcp bZ=>∃ab:Sl,cp=.slice ab.a ab.len ab.cap/\bF cu ab cC bZ));let bD:Sl->zc->Prop:=λ(bj:Sl) (bz:zc)=>((qu Tp (zbp 192 (.int .i64 ((e.len:Nat):Int)) (.int .i64 ((e.len:Nat):Int))) bz (λco ca=>∃ac:Sl,co=.slice ac.a ac.len ac.cap/\bL ac bj ca))/\(bB bj bj bz));let bG:Sl->zc->Prop:=λ(bV:Sl) (cg:zc)=>(qu Tp (zbp 192 (.int .i64 ((i.len:Nat):Int)) (.int .i64 ((i.len:Nat):Int))) cg (λcy b9=>∃Y:Sl,cy=.slice Y.a Y.len Y.cap/\bL bV Y b9));let br:zc->Prop:=λ(bA:zc)=>((qu Tp (zbp 192 (.int .i64 ((i.len:Nat):Int)) (.int .i64 ((i.len:Nat):Int))) bA (λcj bU=>∃T:Sl,cj=.slice T.a T.len T.cap/\bD T bU))/\(qu Tp (zbp 192 (.int .i64 ((e.len:Nat):Int)) (.int .i64 ((e.len:Nat):Int))) bA (λcq bY=>∃ae:Sl,cq=.slice ae.a ae.len ae.cap/\bG ae bY)));(hZ Q Q (zab ⟨zax O,0,Te⟩ 3)/\(qu Tp (zbp 192 (.int .i64 ((i.len:Nat):Int)) (.int .i64 ((i.len:Nat):Int))) Q (λcF aS=>∃G:Sl,cF=.slice G.a G.len G.cap/\hZ aS Q (zab ⟨zax O,0,Te⟩ 3)/\(bD G aS)/\(hZ aS Q (zab ⟨zax O,0,Te⟩ 3)/\bB G G aS)))/\(br Q))/\(hZ Q Q (zab ⟨zax ah,0,Te⟩ 3)/\(br Q)/\(qu Tp (zbp 192 (.int .i64 ((e.len:Nat):Int)) (.int .i64 ((e.len:Nat):Int))) Q (λcB bM=>∃V:Sl,cB=.slice V.a V.len V.cap/\hZ bM Q (zab ⟨zax ah,0,Te⟩ 3)/\bG V bM))))):
  XC Tp 117 #[.pointer d0,.slice l.a l.len l.cap,.agg #[.int .i64 aQ,.string aC,.slice z.a z.len z.cap,.slice x.a x.len x.cap],.agg #[.int .i64 aI,.string aM,.slice u.a u.len u.cap,.slice w.a w.len w.cap],.slice m4.a m4.len m4.cap] h R:=
 Hu Tryz.mixed [.pointer d0,.slice l.a l.len l.cap,.agg #[.int .i64 aQ,.string aC,.slice z.a z.len z.cap,.slice x.a x.len x.cap],.agg #[.int .i64 aI,.string aM,.slice u.a u.len u.cap,.slice w.a w.len w.cap],.slice m4.a m4.len m4.cap] (rs:=[]) (n:=94) Tryz.func117 (by kernel_rfl) (by kernel_rfl) (by kernel_rfl) (by kernel_rfl) H (pl:=[(4,[(30,.one (.int .i64))]),(15,[(75,.one (.int .i64))])]) (by kernel_rfl)
theorem XY(x0:Value)(x1:Value)(x2:Value)(x3:Value)(x4:Value)(q:Addr)(x6:Addr)(x7:Addr)(x8:Addr)(u:Addr)(G:Value)(P:Value)(F:Value)(J:Addr)(T:Value)(S:Value)(E:Value)(Z:Addr)(Q:Value)(L:Value)(V:Value)(N:Value)(U:Value)(M:Value)(I:Value)(O:Value)(Y:Value)(w:Int)(x:Bool)(rec:i4)(l:Nat)(K:Value->zc->Prop)(h:zc) (H:(h)[l]?=Td (.loop (rec .ready Te))/\let b:zc:=Array.setIfInBounds h l (.loop (rec .busy Te));((!x)=Ta->∃i:Option Addr,zd b q=Td (.pointer i)/\∃f:Value,zd b u=Td f/\let n:Sl->zc->Prop:=λ(k:Sl) (D:zc)=>(XC Tp 118 #[.pointer i,.string (⟨#[114,101,109,111,118,101]⟩:Bt),.agg #[.int .i64 0,.string (⟨#[]⟩:Bt),.slice Te 0 0,.slice Te 0 0],.slice k.a k.len k.cap] D (λy m=>y=.tuple #[]/\(m)[l]?=Td (.loop (rec .busy Te))/\K (.bool Ta) (Array.setIfInBounds m l (.loop (rec .ready Te)))));(hZ b b u/\hZ b b q/\kU Tp f #[.int .i64 w] (λC t=>XC Tp C t b (λB o=>∃c:Sl,B=.slice c.a c.len c.cap/\hZ o b q/\n c o)))/\(kU Tp f #[.int .i64 w] (λA r=>XC Tp A r b (λz j=>∃e:Sl,z=.slice e.a e.len e.cap/\hZ j b q/\hZ j b q/\n e j))))/\((!x)=Tc->(b)[l]?=Td (.loop (rec .busy Te))/\K (.bool Ta) (Array.setIfInBounds b l (.loop (rec .ready Te))))):
  lW Tp 94 (lZ (codeOf Tryz.f117)) (lJ (codeOf Tryz.f117)) rec l K [(64,[],.bool x),(63,[],.int .i64 w),(0,[],x0),(1,[],x1),(2,[],x2),(3,[],x3),(4,[],x4),(5,[],.pointer (Td q)),(6,[],.pointer (Td x6)),(7,[],.pointer (Td x7)),(8,[],.pointer (Td x8)),(10,[],.pointer (Td u)),(11,[],G),(12,[],P),(19,[],F),(20,[],.pointer (Td J)),(21,[],T),(22,[],S),(23,[],E),(24,[],.pointer (Td Z)),(25,[],Q),(26,[],L),(27,[],V),(28,[],N),(29,[],U),(30,[],M),(31,[],I),(61,[],O),(62,[],Y)] h:=
 Eq.mp (by kernel_rfl) H
end
section
open Go.Lib Go.RowKit
variable {lo db b:Nat} {M:Fr} {h g:zc} {so sp:Sl} {L:List cK} {bp:List Nat}
theorem Dn.kp{h g g2:zc}{na:DA}{X:Nat->Prop}(H:Dn lo M db h na so b L X g)(k:Keep g.size g g2):Dn lo M db h na so b L X g2:=by obtain⟨na',so',b',cs',D,T,e⟩:=H;have hz:=T.sz;have l:=k.size;exact⟨na',so',b',cs',D.keep k,⟨by omega,T.own,λj i f c=>(k.get j (by omega)).trans (T.fr j i f c)⟩,e⟩
theorem KT{x y:Value}(B:Blk g b #[x,y]){i j:Int}{K:zc->Prop}(f:∀g',(∀k,k≠b->g'[k]?=g[k]?)->g'.size=g.size->Blk g' b #[.int .i64 i,.int .i64 j]->K g'):
  XRunU Tp (zag 190 (.pointer (Td ⟨b,0,Te⟩)) (.agg #[.int .i64 i,.int .i64 j])) g K:=by
 refine Zg (vs:=[.int .i64 i,.int .i64 j]) (by kernel_rfl) B rfl (by kernel_rfl) (zac _) (λu c=>?_) λg' e l h=>f g' h l e;simp at c;rcases c with rfl|rfl <;> rfl
theorem Au{p:List Bt}(P:OPath h p bp sp):∀c∈bp,c<h.size:=λc b=>by obtain⟨_,_,_,f⟩:=P;rcases f with⟨_,rfl⟩|⟨b',cs',rfl,_,e,_⟩;exact nomatch b;rw[za6.1 b];exact e.lt
set_option maxHeartbeats 1000000 in
set_option maxRecDepth 100000 in
theorem Tu{gl:Fr}(hg:GL gl){lo db b bd G z i l:Nat}{p:List Bt}{m:List (Nat×Nat)}(hp:p.length<=900000)(hi:i<=1000000){h o g:zc}{na:DA}{cs:Array Value}(hM:Fr.le gl M)(D:Df lo M db h na so b cs)(H:Dn lo M db o na so b L iS g)(hs:h.size<=o.size)(Cd:Blk o bd #[.pointer (Td ⟨db,0,Te⟩)])(Ci:Blk o G #[.func (.func 186) #[] #[.pointer (Td ⟨z,0,Te⟩)]])(Cp:Blk o z #[aK sp])(P:OPath o p bp sp) (lc:∀j,j=bd\/j=G\/j=z\/j∈bp->j<h.size/\¬iq na so b j/\j≠db) (k:h.size<=l) (B:l<o.size) {rec:i4} (rc:o[l]?=Td (.loop (rec .ready Te))) (hN:na.length+(L++kV p m i).length<=1000000) {x0 x1 x2 x3 x4 ab ai aa Q ak Z aj N T O S af I ah an:Value} {x7 x8 ac Y:Addr} {K:Value->zc->Prop} (hK:∀g',Dn lo M db o na so b (L++kV p m i) iS g'->K (.bool Ta) g'):
  lW Tp 94 (lZ (codeOf Tryz.f117)) (lJ (codeOf Tryz.f117)) rec l K [(64,[],.bool ((m.map (·.1)).contains i)),(63,[],.int .i64 (i:Int)),(0,[],x0),(1,[],x1),(2,[],x2),(3,[],x3),(4,[],x4),(5,[],.pointer (Td ⟨bd,0,Te⟩)),(6,[],.pointer (Td ⟨z,0,Te⟩)),(7,[],.pointer (Td x7)),(8,[],.pointer (Td x8)),(10,[],.pointer (Td ⟨G,0,Te⟩)),(11,[],ab),(12,[],ai),(19,[],aa),(20,[],.pointer (Td ac)),(21,[],Q),(22,[],ak),(23,[],Z),(24,[],.pointer (Td Y)),(25,[],aj),(26,[],N),(27,[],T),(28,[],O),(29,[],S),(30,[],af),(31,[],I),(61,[],ah),(62,[],an)] g:=by
 apply XY;have hz:=H.sz;have al:g[l]?=Td (.loop (rec .ready Te)):=(H.old B (D.fresh k).2.2.1 (D.fresh k).2.2.2).trans rc;refine⟨al,?_⟩;intro f;have e2:∀j,j≠l->f[j]?=g[j]?:=λj y=>zq y;have l2:f[l]?=Td (.loop (rec .busy Te)):=set_self (by omega);have z2:f.size=g.size:=zbg;clear_value f;obtain⟨hB,F,zB,fB,lB⟩:=H.poke D k B z2 e2;have ne:∀{j},j<h.size->j≠l:=λy e=>by omega
 have q:∀{j},j=bd\/j=G\/j=z\/j∈bp->f[j]?=o[j]?:=λ {j} y=>by obtain⟨q1,q2,q3⟩:=lc j y;exact(F.old (by omega) q2 q3).trans (fB j (ne q1))
 have back:∀{L':List cK} {g':zc},Dn lo M db hB na so b L' iS g'->g'[l]?=Td (.loop (rec .busy Te))/\Dn lo M db o na so b L' iS (g'.setIfInBounds l (.loop (rec .ready Te))):=λ {L' g'} V=>by
  have ar:=V.sz;have rb:g'[l]?=Td (.loop (rec .busy Te)):=(V.old (by omega) (D.fresh k).2.2.1 (D.fresh k).2.2.2).trans (lB.trans l2);refine⟨rb,?_⟩;obtain⟨hC,HC,zC,fC,lC⟩:=V.poke D k (by omega) (g':=g'.setIfInBounds l (.loop (rec .ready Te))) zbg λj y=>zq y;have:hC=o:=by apply ze4;intro j;by_cases e:j=l;subst e;rw[lC,set_self (by omega)];exact rc.symm;exact(fC j e).trans (fB j e)
  rw[<-this];exact HC
 refine⟨λU=>?_,λU=>?_⟩;have x:kV p m i=[(⟨#[114,101,109,111,118,101]⟩,p++[J6 i],[],zT)]:=by unfold kV;rw[zv (by rw[Bool.not_eq_true];simpa using U)];rfl
 refine⟨_,(Cd.keep (q (.inl rfl))).cell rfl,_,(Ci.keep (q (.inr (.inl rfl)))).cell rfl,?_⟩;intro C;have P9:OPath f p bp sp:=P.frame λc n=>q (.inr (.inr (.inr n)));have C9:Blk f z #[aK sp]:=Cp.keep (q (.inr (.inr (.inl rfl))));have blt:bd<f.size:=(Cd.keep (q (.inl rfl))).lt;have fin:∀(t:zc) (r:Sl) (w:Nat),Keep f.size f t->f.size<=w->OPath t (p++[J6 i]) [w] r->C r t:=λt r w u A E=>by obtain⟨na',so',b',cs',D',e',am,_,ae⟩:=F.go u;refine rX (v:=zT) (bv:=[]) D' E (OT.zero t) (λc n=>?_) (by simp) ?_ _ λg2 H2=>⟨rfl,?_⟩;rcases n with n|n;rw[za6.1 n];exact am _ A;exact nomatch n;have:=congrArg zcf e';rw[zap,zah,zap]at this;rw[zah]at hN;omega;have J:=ae _ _ g2 (λc n=>by rcases n with n|n;rw[za6.1 n];omega;exact nomatch n) H2;rw[<-x]at J;exact⟨(back J).1,hK _ (back J).2⟩
 refine⟨⟨rfl,rfl,?_⟩,?_⟩;exact sT hg hM F.ag C9 P9 (by omega) hi λt r w u A E=>⟨r,rfl,u.get _ blt,fin t r w u A E⟩;exact sT hg hM F.ag C9 P9 (by omega) hi λt r w u A E=>⟨r,rfl,u.get _ blt,u.get _ blt,fin t r w u A E⟩;have x:kV p m i=[]:=by unfold kV;rw[zA (by simpa using U)]
 refine⟨l2,hK _ ?_⟩;rw[x,zbs];exact(back F).2
end
end Go.X
