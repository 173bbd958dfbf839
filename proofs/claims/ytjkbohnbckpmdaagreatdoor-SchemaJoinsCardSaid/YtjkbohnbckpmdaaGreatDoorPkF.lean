/- A part of the proof: nothing is stated here for its own sake. -/
import Derived.Test.YtjkbohnbckpmdaaGreatDoorPkE
open _root_.Go.Addr renaming add->zae
open _root_.Array renaming getElem?_push->zea,getElem?_toList->zb7,push->zb4,size->zax,size_push->zau
open _root_.Bool renaming and_eq_true->zan,and_true->zed,eq_iff_iff->za7,true_and->zcq
open _root_.Go.Builtin renaming append_->zav,firstCells->zc3
open _root_.ByteArray renaming empty->zeh
open _root_.Go.Instr renaming index->zes,storeAt->zag
open _root_.Int renaming toNat_natCast->zao
open _root_.Go.IntKind renaming wrap->zaa
open _root_.List renaming all_append->zei,all_cons->zcx,all_eq_true->zas,append_assoc->zcb,append_nil->zbj,drop_eq_getElem_cons->za9,drop_eq_nil_of_le->zci,drop_length->zdw,ext_getElem?->zbt,filter_cons->zc4,flatMap_cons->zb0,getD_eq_getElem?_getD->zdl,getElem?_append_left->zc1,getElem?_append_right->zcm,getElem?_eq_getElem->zaj,getElem?_eq_some_iff->za0,getElem?_map->zbu,getElem?_take->zba,getElem?_toArray->zc9,getElem_map->zdu,getElem_mem->zay,length->zdh,length_append->zat,length_cons->zbi,length_eq_zero_iff->zbq,length_map->zaw,length_pos_iff->zbo,length_take->zcr,map_append->zb9,map_cons->zbh,map_map->zb6,mem_append->zaz,mem_cons->zah,mem_cons_of_mem->zal,mem_cons_self->zaq,mem_filter->zde,mem_flatMap->zb5,mem_iff_getElem->zd8,mem_map->zb1,mem_of_getElem?->zbv,mem_range->zcd,mem_singleton->zbm,nil_append->zco,nodup_cons->zcv,not_mem_nil->zdx,range->zbk,take_append_drop->zce,take_length->zbw,take_of_length_le->zcn,take_succ_eq_append_getElem->zar,zip_cons_cons->zb8
open _root_.Nat renaming add_mul->zc5,add_zero->zen,eq_zero_or_pos->zdk,le_mul_of_pos_right->zdd,le_refl->zaf,le_trans->zbx,min_eq_left->zeg,mul_le_mul_right->za2,mul_one->zdc,zero_add->za5,zero_le->zbn
open _root_.Go.Value.slice renaming injEq->zbg
open _root_.Go.Value renaming string->za1
set_option linter.all false
set_option maxRecDepth 100000
namespace Go.X
end Go.X
namespace Go.Proofs
end Go.Proofs
open Go Go.X Go.Proofs
open _root_.Bool renaming true->Ta,false->Tb
open _root_.Option renaming some->Tc,none->Td
section
namespace Go.X
open Go Go.Lib
section
variable {s:Tr}
variable {same : Tr -> Tr -> Bool} {cmp : Tr -> Tr -> Int}
def mP:List (Bt×Tr)->Bt->Option Tr
 |[],_=>Td
 |p::l,q=>if p.1=q then Tc p.2 else mP l q
theorem KT(q:Bt):∀(l:List Bt) (i:Nat),idxFromS l q i=-1\/0<=idxFromS l q i
 |[],i=>.inl rfl
 |k::l,i=>by rw[idxFromS];split;exact .inr (by omega);exact KT q l (i+1)
theorem DW(q:Bt):∀(l:List Bt) (i:Nat),idxFromS l q (i+1)=if idxFromS l q i=-1 then -1 else idxFromS l q i+1
 |[],i=>rfl
 |k::l,i=>by rw[idxFromS,idxFromS];by_cases e:k=q;rw[zb e,zb e,za (by omega)];rfl;rw[za e,za e];exact DW q l (i+1)
theorem G5:∀(ks:List Bt) (xs:List Tr),ks.length=xs.length->∀q,mP (ks.zip xs) q=if 0<=idxOfS ks q then xs[(idxOfS ks q).toNat]? else Td
 |[],[],_,q=>by simp[mP,idxOfS]
 |[],_::_,h,_=>by simp at h
 |_::_,[],h,_=>by simp at h
 |k::ks,x::xs,h,q=>by
  have c:=G5 ks xs (by simpa using h) q;rw[zb8,mP,c];show _=if 0<=idxFromS (k::ks) q 0 then(x::xs)[(idxFromS (k::ks) q 0).toNat]? else Td;rw[idxFromS];by_cases e:k=q;rw[zb e,zb e];simp;rw[za e,za e];show(if 0<=idxFromS ks q 0 then _ else _)=_;have h1:=DW q ks 0;have f:(idxOfS ks q)=idxFromS ks q 0:=rfl;rw[f];rcases KT q ks 0 with b|b;rw[h1,zb b,b];simp;have i:¬idxFromS ks q 0=-1:=by omega
  have l:0<=idxFromS ks q 0+1:=by omega
  rw[h1,za i,zb b,zb l];have:(idxFromS ks q 0+1).toNat=(idxFromS ks q 0).toNat+1:=by omega
  rw[this,List.getElem?_cons_succ]
def iS(l:List (Bt×Tr)):List Bt->Nat
 |[]=>0
 |w::ws=>((mP l w).elim 0 bR)+iS l ws
def nV:List (Bt×Tr)->Nat
 |[]=>0
 |p::l=>bR p.2+nV l
theorem Ei:∀b,iS [] b=0
 |[]=>rfl
 |w::b=>by rw[iS,Ei b];rfl
theorem FY(p:Bt×Tr)(l:List (Bt×Tr)):∀b:List Bt,p.1∉b->iS (p::l) b=iS l b
 |[],_=>rfl
 |w::b,h=>by have h1:p.1≠w:=λe=>h (by simp[e]);rw[iS,iS,FY p l b (λe=>h (by simp[e])),mP,za h1]
theorem Hg(p:Bt×Tr)(l:List (Bt×Tr)):∀b:List Bt,b.Nodup->iS (p::l) b<=bR p.2+iS l b
 |[],_=>by simp[iS]
 |w::b,h=>by rw[zcv]at h;by_cases e:p.1=w;rw[iS,iS,FY p l b (by rw[e];exact h.1),mP,zb e];simp;have:=Hg p l b h.2;rw[iS,iS,mP,za e];omega
theorem Gc:∀(l:List (Bt×Tr)) (b:List Bt),b.Nodup->iS l b<=nV l
 |[],b,_=>by rw[Ei];exact zbn _
 |p::l,b,h=>by have:=Hg p l b h;have:=Gc l b h;rw[nV];omega
theorem G9:∀(ks:List Bt) (xs:List Tr),nV (ks.zip xs)<=Z0 xs
 |[],xs=>by simp[nV]
 |_::_,[]=>by simp[nV]
 |k::ks,x::xs=>by have:=G9 ks xs;rw[zb8,nV,Z0];show bR x+_<=_;omega
theorem LO(h:s.keys.length=s.items.length){b:List Bt}(e:b.Nodup):(b.map λw=>(jh s w).elim 0 bR).sum+1<=bR s:=by
 have h1:∀b:List Bt,(b.map λw=>(jh s w).elim 0 bR).sum=iS (s.keys.zip s.items) b:=by
  intro b;induction b with
  |nil=>rfl
  |cons w b c=>rw[zbh,List.sum_cons,c,iS,G5 _ _ h];rfl
 have f:=Gc (s.keys.zip s.items) b e;have i:=G9 s.keys s.items;rw[h1,Y9 s];omega
theorem sD{α β:Type}{f:α->List β}{g:α->Nat}:∀{l:List α},(∀x∈l,(f x).length<=g x)->(l.flatMap f).length<=(l.map g).sum
 |[],_=>by simp
 |x::l,h=>by have:=sD (f:=f) (g:=g) (l:=l) λy b=>h y (zal _ b);have:=h x zaq;rw[zb0,zat,zbh,List.sum_cons];omega
theorem yO{α:Type}(g:α->Nat)(c:Nat):∀l:List α,(l.map λx=>g x*c).sum=(l.map g).sum*c
 |[]=>by simp
 |x::l=>by rw[zbh,List.sum_cons,zbh,List.sum_cons,yO g c l,zc5]
theorem Ac{α:Type}(g:α->Nat)(c:Nat):∀l:List α,(l.map λx=>c*g x).sum=c*(l.map g).sum
 |[]=>by simp
 |x::l=>by rw[zbh,List.sum_cons,zbh,List.sum_cons,Ac g c l,Nat.mul_add]
theorem tG:∀l:List Tr,(l.map bR).sum=Z0 l
 |[]=>by simp[Z0]
 |x::l=>by rw[zbh,List.sum_cons,tG l,Z0]
theorem qpc(b:Bool)(p:List Bt)(w:Bs):(eR b p w).length<=1:=by unfold eR;split <;> simp
theorem T1(g:Tr->Nat)(l:List Tr):((zbk l.length).map λi=>l[i]?.elim 0 g).sum=(l.map g).sum:=by congr 1;apply zbt;intro i;by_cases h:i<l.length;simp[h];simp[h]
theorem DZ(g:Tr->Nat):∀(ks:List Bt) (xs:List Tr),((ks.zip xs).map λm=>g m.2).sum<=(xs.map g).sum
 |[],xs=>by simp
 |_::_,[]=>by simp
 |k::ks,x::xs=>by have:=DZ g ks xs;rw[zb8,zbh,List.sum_cons,zbh,List.sum_cons];show g x+_<=_;omega
theorem F1{fl:Tr->Tr->List Bt->List cR}{s x v:Tr}{w:Bs}{p:List Bt}(E:v.keys.length<=v.items.length)(h0:∀y∈v.items,∀p,(fl x y p).length<=bR x*bR y)
  (h1:∀z∈x.items,∀y∈v.items,∀p,(fl z y p).length<=bR z*bR y) (f:∀z∈x.items,∀p,(fl z v p).length<=bR z*bR v):(J7 same cmp fl s w x v p).length<=bR x*bR v:=by
 have px:=Ja x;have k:=Ja v;have one:1<=bR x*bR v:=Nat.mul_pos px k;have B:=Y9 v;have r:=Y9 x;have e:∀l:List Tr,l.length<=Z0 l:=λl=>by
  induction l with
  |nil=>simp
  |cons a l D=>have:=Ja a;rw[Z0,zbi];omega
 have C:=e x.items;have lv:=e v.items;have s1:∀b q u,(eR b q u).length<=bR x*bR v:=λb q u=>zbx (qpc b q u) one;have mx:∀n,n<=bR x->n<=bR x*bR v:=λn h=>zbx h (zdd _ k);have A:∀n,n<=bR v->n<=bR x*bR v:=λn h=>zbx h (Nat.le_mul_of_pos_left _ px);unfold J7;have key:∀{c:Prop} [Decidable c] {a b:List cR} {n:Nat},a.length<=n->b.length<=n->(if c then a else b).length<=n:=λ {c} _ {a b n} h1 f=>by split <;> assumption
 refine key (s1 _ _ _) (key (s1 _ _ _) (key (s1 _ _ _) (key (s1 _ _ _) (key (s1 _ _ _) (key (s1 _ _ _) (key (key ?_ (zbn _)) (key (key ?_ (zbn _)) (key (key ?_ (zbn _)) (key ?_ (key ?_ (key (s1 _ _ _) (s1 _ _ _))))))))))));rw[zaw];exact mx _ (zbx (List.length_filter_le _ _) (by omega));rw[zaw];exact A _ (zbx (List.length_filter_le _ _) (by omega));refine zbx (sD (g:=λi=>v.items[i]?.elim 0 λy=>bR x*bR y) λi hi=>?_) ?_;have hi:=zcd.1 hi;rw[zaj hi];exact h0 _ (zay hi) _;rw[T1 (λy=>bR x*bR y),Ac,tG];exact Nat.mul_le_mul_left _ (by omega);refine zbx (sD (g:=λm=>bR x*bR m.2) λm t=>?_) ?_;cases hk:jh x m.1 with
 |none=>exact zbn _
 |some y=>have o:=yf hk;refine zbx (h1 y o m.2 (oH t) _) (za2 _ ?_);have:=yl o;omega
 refine zbx (DZ (λy=>bR x*bR y) _ _) ?_;rw[Ac,tG];exact Nat.mul_le_mul_left _ (by omega);refine zbx (sD (g:=λz=>bR z*bR v) λz hz=>f z hz _) ?_;rw[yO,tG];exact za2 _ (by omega)
theorem ND:(sWords.map bl).Nodup:=by decide
theorem nz:∀(n:Nat) (s v:Tr) (p:List Bt),j7 zh s=Ta->j7 zh v=Ta->(zm same cmp n s v p).length<=bR s*bR v
 |0,s,v,p,_,_=>zbn _
 |n+1,s,v,p,hs,hv=>by
  have k:∀{u:Tr},zh u=Ta->u.keys.length<=u.items.length:=λ {u} h=>by by_cases b:u.kind=6;have:=(Z5 h b).2;omega;rw[oy h b];exact zbn _
  rw[zm];refine zbx (sD (g:=λw=>((jh s (bl w)).elim 0 bR)*bR v) λw m=>?_) ?_;cases f:jh s (bl w)with
  |none=>exact zbn _
  |some x=>have e:=zk hs (yf f);exact F1 (k (ye hv)) (λy c q=>nz n x y q e (zk hv c)) (λz hz y c q=>nz n z y q (zk e hz) (zk hv c)) λz hz q=>nz n z v q (zk e hz) hv
  rw[yO];refine za2 _ ?_;by_cases b:s.kind=6;have:=LO (Z5 (ye hs) b).2 ND;rw[zb6]at this;exact zbx (Nat.le_of_eq rfl) (Nat.le_of_succ_le this);have f:=oy (ye hs) b;have:∀l:List Bs,(l.map λw=>(jh s (bl w)).elim 0 bR).sum=0:=λl=>by
   induction l with
   |nil=>rfl
   |cons w l i=>rw[zbh,List.sum_cons,i];unfold jh;rw[f];rfl
  rw[this];exact zbn _
end
end Go.X
end
section
namespace Go.X
open Go Go.X Go.Proofs Go.Lib
section
variable {v:Tr} {q:Bs}
section
variable {gl : Fr}
theorem m4(s:Bt)(a:Array UInt8):(s.toList==(⟨a⟩:Bt).toList)=decide (lb s=a.toList):=by rw[za7];simp[ByteArray.toList_eq,lb]
theorem F7(s:Bt):∀(l:List Bs) (i:Nat),idxFromS (l.map bl) s i=if lb s∈l then((i+l.idxOf (lb s):Nat):Int)else -1
 |[],i=>by simp[idxFromS]
 |z::l,i=>by
  rw[zbh,idxFromS,F7 s l (i+1)];by_cases e:bl z=s;subst e;simp;have c:¬z=lb s:=λh=>e (by rw[h,jL]);rw[za e];by_cases b:lb s∈l;have f:(z==lb s)=Tb:=by simpa using c
  rw[zb b,zb (by simp[b]),List.idxOf_cons,f];simp;omega;rw[za b,za (by simp[b];exact λh=>c h.symm)]
theorem qdf(s:Bt):kW (lb s)=idxOfS (sKinds.map bl) s+1:=by show _=idxFromS (sKinds.map bl) s 0+1;rw[F7];unfold kW;split <;> simp
variable {r : Tr -> Bool}
theorem qg1:Yg r iK v=(decide (v.kind=4)&&decide (0<kW (lb v.text))):=by kernel_rfl
theorem Mh:Yg r jA v=decide (v.kind=5):=by kernel_rfl
theorem KN:Yg r xw v=decide (v.kind=3):=by kernel_rfl
theorem Ex:Yg r iF v=decide (v.kind=3):=by kernel_rfl
theorem Ff:Yg r xx v=(decide (v.kind=3)&&((ww v).2&&decide (0<=(ww v).1))):=by kernel_rfl
theorem Ib:Yg r jY v=(decide (v.kind=3)&&((ww v).2&&decide (0<=(ww v).1))):=by kernel_rfl
theorem Tu:Yg r jr v=(decide (v.kind=5)&&v.items.all λx=>decide (x.kind=4)):=by kernel_rfl
theorem z7b:Yg r jg v=decide (v.kind=2):=by kernel_rfl
theorem Ih:Yg r je v=r v:=by kernel_rfl
theorem GD:Yg r iY v=r v:=by kernel_rfl
theorem E8:Yg r zr v=(decide (v.kind=6)&&v.items.all r):=by kernel_rfl
theorem F6:Yg r hX v=(decide (v.kind=5)&&v.items.all r):=by kernel_rfl
theorem Fc:Yg r hO v=(decide (v.kind=5)&&v.items.all r):=by kernel_rfl
theorem OO(h:q∉sWords):Yg r q v=Tb:=by unfold sWords at h;simp only[zah,zdx,or_false,not_or]at h;obtain⟨h1,m,s,n,p,i,o,l,k,c,f,e,b⟩:=h;unfold Yg;rw[za h1,za m,za (by simp[s,n]),za (by simp[p,i]),za o,za l,za (by simp[k,b]),za c,za (by simp[f,e])]
theorem Mq(h1:q≠iK)(l:q≠jA)(p:q≠xw)(m:q≠iF)(o:q≠xx)(h:q≠jY)(n:q≠jr)(k:q≠jg)(i:q≠je)(c:q≠iY)(f:q≠zr)(e:q≠hX)(b:q≠hO):q∉sWords:=by unfold sWords;simp[*]
theorem qdk{p:Bt×Tr->Bool}{ks:List Bt}{xs:List Tr}{k:Nat}(h1:k<ks.length)(b:k<xs.length):((ks.take (k+1)).zip (xs.take (k+1))).all p=(((ks.take k).zip (xs.take k)).all p&&p (ks[k],xs[k])):=by rw[zar h1,zar b,List.zip_append (by simp;omega),zei];simp
end
end
end Go.X
end
section
namespace Go.X
open Go Go.Proofs Go.Shelf Go.RowKit
section
def PZ:Go.Shelf.Ren:=⟨fun|106=>321|213=>369|265=>385|n=>n,fun|9=>9|3=>3|n=>n,fun|n=>n⟩
theorem LW:Go.Proofs.Lays.n106 Tp PZ:=by constructor <;> intros <;> kernel_rfl
theorem LP(a b:Bt)(w:World): Calls Tp 321 #[.string a,.string b] w λe w'=>e=.returned (.int .i64 (Lib.compareBytes a.data.toList b.data.toList))/\w'=w:=Any.strings_Compare LW a b w
def TZ:Go.Shelf.Ren:=⟨fun|195=>276|n=>n,fun|9=>9|3=>3|0=>0|4=>4|n=>n,fun|n=>n⟩
theorem Ri:Go.Proofs.Lays.n195 Tp TZ:=by constructor <;> intros <;> kernel_rfl
theorem Xe(s:Bt)(w:World)(b:s.size<9223372036854775807): Calls Tp 276 #[.string s] w λe w'=>e=.returned (.int .i64 (Lib.runeCount s))/\∃pos,w'=w.iter s pos:=Any.utf8_RuneCountInString Ri s w b
def T0:Go.Shelf.Ren:=⟨fun|110=>56|109=>98|n=>n,fun|31=>22|9=>9|4=>4|3=>3|0=>0|n=>n,fun|n=>n⟩
theorem FM:Go.Proofs.Lays.n110 Tp T0:=by constructor <;> intros <;> kernel_rfl
open Go.Lib in
theorem Xf(b off n c:Nat)(f:List Bt)(x:Bt)(w:World)(hz:n<=f.length)(h:n<=9223372036854775807)(i:∀j,j<f.length->w.cell? ⟨b,off+j,Td⟩=Tc (.string (f.getD j zeh))): Calls Tp 56 #[.slice (Tc ⟨b,off,Td⟩) n c,.string x] w λe w'=>e=.returned (.bool (Lib.containsS (f.take n) x))/\w'=w:=Any.slices_Contains_string FM b off n c f x w hz h i
open Go.Lib in
theorem Q3(a:Option Addr)(c:Nat)(x:Bt)(w:World): Calls Tp 56 #[.slice a 0 c,.string x] w λe w'=>e=.returned (.bool Tb)/\w'=w:=Any.slices_Contains_string_empty FM a c x w
end
end Go.X
end
section
namespace Go.X
open Go Go.Lib
section
def ik(x y:Int):Int:=if x<y then -1 else if y<x then 1 else 0
def hH(n:Nm):Int:=if n.2.1=[]then 0 else if n.1=Ta then -1 else 1
def nM(a b:Nm):Int:=if ik (a.2.1.length+a.2.2) (b.2.1.length+b.2.2)=0 then gZ a.2.1 b.2.1 else ik (a.2.1.length+a.2.2) (b.2.1.length+b.2.2)
def pz(a b:Nm):Int:=
 if yg a=Ta then if yg b=Ta then(if ik (hH a) (hH b)≠0\/hH a=0 then ik (hH a) (hH b)else hH a*nM a b)else 1 else if yg b=Ta then -1 else 0
end
end Go.X
end
section
namespace Go.X
open Go Go.X Go.Proofs Go.Lib
section
variable {R:Int -> Prop}
section
variable {gl : Fr}
theorem C0{x y:Int}(h:R (ik x y)):PC Tp gl 320 [Arg.mk (.int .i64) x,Arg.mk (.int .i64) y] [.int .i64] R:=by
 apply Ph;apply Fw;apply Fw;have e:∀z:Int,(z != z)=Tb:=λz=>by simp
 rw[e,e];unfold ik at h;refine⟨λf=>(nomatch f),λ_=>⟨λf=>(nomatch f),λ_=>⟨λc=>?_,λc=>⟨λb=>?_,λb=>?_⟩⟩⟩⟩;rw[zb (by simpa using c)]at h;exact h;rw[za (by simpa using c),zb (by simpa using b)]at h;exact h;rw[za (by simpa using c),za (by simpa using b)]at h;exact h
def mD:List Int->Int
 |[]=>0
 |x::l=>if x≠0 then x else mD l
theorem Ep{l:List Int}(n:l.length<=1000000)(h:R (mD l)):PC Tp gl 319 [Arg.mk (.row (.int .i64)) l] [.int .i64] R:=by
 apply Nr;refine⟨λi=>∃k:Nat,i=k/\k<=l.length/\mD l=mD (l.drop k),λi=>l.length-i.toNat,⟨0,rfl,zbn _,rfl⟩,?_⟩;rintro i ⟨k,rfl,m,e⟩;refine⟨λf=>?_,λf=>?_⟩;have b:k<l.length:=by simp at f;omega
 rw[za9 b,mD]at e;refine⟨l[k],⟨by omega,by simp⟩,λc=>?_,λc=>?_⟩;rw[zb (by simpa using c)]at e;rw[e]at h;exact h;rw[za (by simpa using c)]at e;rw[Ze b (by omega)];exact⟨⟨k+1,rfl,by omega,e⟩,by simp only[zao];omega⟩;have b:k=l.length:=by simp at f;omega
 subst b;rw[zdw]at e;rw[e]at h;exact h
theorem Ia:∀a b:Bs,compareBytes a b=gZ a b
 |[],[]=>rfl
 |[],_::_=>rfl
 |_::_,[]=>rfl
 |a::l,b::m=>by
  have c:=Ia l m;unfold gZ at c ⊢;rw[compareBytes,hC,c];unfold lj;simp only[UInt8.lt_iff_toNat_lt];by_cases h1:a.toNat<b.toNat;simp[h1];by_cases e:b.toNat<a.toNat;have:a.toNat≠b.toNat:=by omega
  simp[h1,e,this];have:a.toNat=b.toNat:=by omega
  simp[this]
theorem ES{a b:Bt}(h:R (gZ (lb a) (lb b))):PC Tp gl 321 [Arg.mk .str a,Arg.mk .str b] [.int .i64] R:= PC.of_same rfl (λ_=>sX _ _) (by rw[<-Ia]at h;exact h) λw _=>LP a b w
theorem OS(s:Bs):((bl s).toList==(⟨#[]⟩:Bt).toList)=decide (s=[]):=by rw[za7];simp[ByteArray.toList_eq,bl]
theorem uD{n:Nm}(h:R (hH n)):PC Tp gl 366 [Arg.mk tN (ix n)] [.int .i64] R:=by apply zpg;unfold hH at h;rw[OS];refine⟨λc=>?_,λc=>⟨λb=>?_,λb=>?_⟩⟩;rw[zb (by simpa using c)]at h;exact h;rw[za (by simpa using c),zb b]at h;exact h;rw[za (by simpa using c),za (by rw[show n.1=Tb from b];exact Bool.false_ne_true)]at h;exact h
theorem IJ{n:Nm}(b:yg n=Ta):zaa .i64 ((((bl n.2.1).size:Nat):Int)+n.2.2)=(n.2.1.length:Int)+n.2.2:=by obtain⟨h1,e,c⟩:=C9 b;rw[zu,wrap64 (by omega) (by omega)]
theorem Mf{a b:Nm}(e:yg a=Ta)(c:yg b=Ta)(h:R (nM a b)):PC Tp gl 367 [Arg.mk tN (ix a),Arg.mk tN (ix b)] [.int .i64] R:=by
 apply YY;simp only[IJ e,IJ c];refine C0 (ES (Ep (by simp) ?_));rw[yo,yo];unfold nM at h;unfold mD mD mD;split;rename_i h1;rw[za h1]at h;exact h;rename_i h1;rw[zb (by simpa using h1)]at h;split;exact h;rename_i f;have:gZ a.2.1 b.2.1=0:=by simpa using f
 rw[this]at h;exact h
theorem Lk(n:Nm):hH n=-1\/hH n=0\/hH n=1:=by unfold hH;split <;> (try split) <;> simp
theorem Cf(x y:Int):ik x y=-1\/ik x y=0\/ik x y=1:=by unfold ik;split <;> (try split) <;> simp
theorem JB(a b:Nm):nM a b=-1\/nM a b=0\/nM a b=1:=by unfold nM;split;exact cmpS_is.rng _ _;exact Cf _ _
theorem Nf(a b:Nm):-1<=pz a b/\pz a b<=1:=by have h1:=Cf (hH a) (hH b);have c:=JB a b;have f:=Lk a;unfold pz;split;split;split;omega;rcases c with e|e|e <;> rcases f with e'|e'|e' <;> rw[e,e'] <;> omega;omega;split <;> omega
theorem QC{a b:Nm}(n:a.2.1.length<=4611686018427387904)(m:b.2.1.length<=4611686018427387904)(h:R (pz a b)):PC Tp gl 318 [Arg.mk tN (ix a),Arg.mk tN (ix b)] [.int .i64] R:=by
 apply NO;refine r8 n (r8 m ?_);unfold pz at h;cases h1:yg a with
 |false=>
  rw[h1]at h;cases h2:yg b with
  |false=>rw[h2]at h;exact⟨λ_=>by simpa using h,λc=>(nomatch c)⟩
  |true=>rw[h2]at h;exact⟨λc=>(nomatch c),λ_=>⟨λ_=>by simpa using h,λc=>(nomatch c)⟩⟩
 |true=>
  rw[h1]at h;cases h2:yg b with
  |false=>rw[h2]at h;exact⟨λc=>(nomatch c),λ_=>⟨λc=>(nomatch c),λ_=>⟨λ_=>by simpa using h,λc=>(nomatch c)⟩⟩⟩
  |true=>
   rw[h2,zb rfl,zb rfl]at h;refine⟨λc=>(nomatch c),λ_=>⟨λc=>(nomatch c),λ_=>⟨λc=>(nomatch c),λ_=>?_⟩⟩⟩;refine uD (uD (C0 ⟨λr=>r=hH a,λ_=>uD rfl,λx k=>⟨λc=>?_,λc=>?_⟩⟩));have q:ik (hH a) (hH b)≠0\/hH a=0:=by by_cases f:ik (hH a) (hH b)=0;have:=k (by simp[f]);simp[f]at c;exact .inr (by rw[<-this];exact c);exact .inl f
   rw[zb q]at h;exact h;have f:ik (hH a) (hH b)=0:=by by_cases f:ik (hH a) (hH b)=0;exact f;simp[f]at c
   have o:x=hH a:=k (by simp[f]);have p:hH a≠0:=by simp[f]at c;rw[<-o];exact c
   rw[za (by simp[f,p])]at h;refine uD (Mf h1 h2 ?_);have i:=Lk a;have l:=JB a b;rw[wrap64 (by rcases i with e|e|e <;> rcases l with e'|e'|e' <;> rw[e,e'] <;> omega) (by rcases i with e|e|e <;> rcases l with e'|e'|e' <;> rw[e,e'] <;> omega)];exact h
end
end
end Go.X
end
section
namespace Go.X
section
theorem Pr(h:zc)(R:Value->zc->Prop) (H:let a:=h.push (.cells #[.string (⟨#[]⟩:Bt),.string (⟨#[]⟩:Bt),.string (⟨#[]⟩:Bt),.string (⟨#[]⟩:Bt),.string (⟨#[]⟩:Bt),.string (⟨#[]⟩:Bt),.string (⟨#[]⟩:Bt),.string (⟨#[]⟩:Bt),.string (⟨#[]⟩:Bt),.string (⟨#[]⟩:Bt),.string (⟨#[]⟩:Bt),.string (⟨#[]⟩:Bt),.string (⟨#[]⟩:Bt)] 70);XRunU Tp (zag 70 (.pointer (Tc ⟨h.size,0,Td⟩)) (.agg #[.string (⟨#[116,121,112,101]⟩:Bt),.string (⟨#[101,110,117,109]⟩:Bt),.string (⟨#[108,101,97,115,116]⟩:Bt),.string (⟨#[109,111,115,116]⟩:Bt),.string (⟨#[115,104,111,114,116]⟩:Bt),.string (⟨#[108,111,110,103]⟩:Bt),.string (⟨#[110,101,101,100]⟩:Bt),.string (⟨#[99,108,111,115,101,100]⟩:Bt),.string (⟨#[105,116,101,109,115]⟩:Bt),.string (⟨#[109,101,109,98,101,114,115]⟩:Bt),.string (⟨#[97,108,108]⟩:Bt),.string (⟨#[97,110,121]⟩:Bt),.string (⟨#[110,111,116]⟩:Bt)])) a (λb=>∃c d e f g i j k l m n o p,zd b ⟨h.size,0,Td⟩ 0 [.string c,.string d,.string e,.string f,.string g,.string i,.string j,.string k,.string l,.string m,.string n,.string o,.string p]/\R (.agg #[.string c,.string d,.string e,.string f,.string g,.string i,.string j,.string k,.string l,.string m,.string n,.string o,.string p]) b)):
  XC Tp 55 #[] h R:=
 XF ⟨[],[],[]⟩ [.cell 0 70] 2 Tryz.func55 H
theorem XA(k:Option Addr)(i:Bt)(h:zc)(R:Value->zc->Prop) (H:((i.toList==(⟨#[116,121,112,101]⟩:Bt).toList)=Ta->R (.func (.func 151) #[.pointer k] #[]) h)/\((i.toList==(⟨#[116,121,112,101]⟩:Bt).toList)=Tb->((i.toList==(⟨#[101,110,117,109]⟩:Bt).toList)=Ta->R (.func (.func 152) #[.pointer k] #[]) h)/\((i.toList==(⟨#[101,110,117,109]⟩:Bt).toList)=Tb->∀a:Bool->zc->Prop,(∀b:Bool,∀c:zc,((b=Ta->R (.func (.func 153) #[.pointer k] #[]) c)/\(b=Tb->∀d:Bool->zc->Prop,(∀e:Bool,∀f:zc,((e=Ta->R (.func (.func 154) #[.pointer k] #[]) f)/\(e=Tb->((i.toList==(⟨#[110,101,101,100]⟩:Bt).toList)=Ta->R (.func (.func 155) #[.pointer k] #[]) f)/\((i.toList==(⟨#[110,101,101,100]⟩:Bt).toList)=Tb->((i.toList==(⟨#[99,108,111,115,101,100]⟩:Bt).toList)=Ta->R (.func (.func 156) #[.pointer k] #[]) f)/\((i.toList==(⟨#[99,108,111,115,101,100]⟩:Bt).toList)=Tb->((i.toList==(⟨#[105,116,101,109,115]⟩:Bt).toList)=Ta->R (.func (.func 157) #[.pointer k] #[]) f)/\((i.toList==(⟨#[105,116,101,109,115]⟩:Bt).toList)=Tb->((i.toList==(⟨#[109,101,109,98,101,114,115]⟩:Bt).toList)=Ta->R (.func (.func 158) #[.pointer k] #[]) f)/\((i.toList==(⟨#[109,101,109,98,101,114,115]⟩:Bt).toList)=Tb->((i.toList==(⟨#[97,108,108]⟩:Bt).toList)=Ta->R (.func (.func 159) #[.pointer k] #[]) f)/\((i.toList==(⟨#[97,108,108]⟩:Bt).toList)=Tb->((i.toList==(⟨#[97,110,121]⟩:Bt).toList)=Ta->R (.func (.func 160) #[.pointer k] #[]) f)/\((i.toList==(⟨#[97,110,121]⟩:Bt).toList)=Tb->R (.func (.func 161) #[.pointer k] #[]) f))))))))->d e f)->((i.toList==(⟨#[115,104,111,114,116]⟩:Bt).toList)=Ta->d (i.toList==(⟨#[115,104,111,114,116]⟩:Bt).toList) c)/\((i.toList==(⟨#[115,104,111,114,116]⟩:Bt).toList)=Tb->d (i.toList==(⟨#[108,111,110,103]⟩:Bt).toList) c)))->a b c)->((i.toList==(⟨#[108,101,97,115,116]⟩:Bt).toList)=Ta->a (i.toList==(⟨#[108,101,97,115,116]⟩:Bt).toList) h)/\((i.toList==(⟨#[108,101,97,115,116]⟩:Bt).toList)=Tb->a (i.toList==(⟨#[109,111,115,116]⟩:Bt).toList) h)))):
  XC Tp 91 #[.pointer k,.string i] h R:=
 XF ⟨[],[],[(8,[(14,.one (.bool))]),(11,[(19,.one (.bool))])]⟩ [.tmp 4] 50 Tryz.func91 H
theorem QI(q:Option Addr)(p:Bt)(b:Int)(c:Bt)(d:Sl)(e:Sl)(h:zc)(R:Value->zc->Prop) (H:let f:=h.push (.cells #[iV b,.string c,aK d,aK e] 25);∃g,q=Tc g/\∃i,zf f (zae (zae g 4) 0)=Tc (iV i)/\∃j,zf f (zae ⟨h.size,0,Td⟩ 1)=Tc (.string j)/\XC Tp 166 #[.string j] f (λk l=>∃m,k=iV m/\(l)[((zae (zae g 4) 0):Addr).block]?=(f)[((zae (zae g 4) 0):Addr).block]?/\XC Tp 218 #[.pointer q,.string p,.bool (i==m)] l (λn o=>n=.tuple #[]/\R (.tuple #[]) o))):
  XC Tp 151 #[.pointer q,.string p,.agg #[.int .i64 b,.string c,.slice d.a d.len d.cap,.slice e.a e.len e.cap]] h R:=
 XF ⟨[(1,8000)],[],[]⟩ [] 18 Tryz.func151 H
theorem zbd(q:Option Addr)(p:Bt)(b:Int)(c:Bt)(d:Sl)(e:Sl)(h:zc)(R:Value->zc->Prop) (H:let f:=h.push (.cells #[.pointer q] 118);let g:=f.push (.cells #[iV b,.string c,aK d,aK e] 25);∃i:Option Addr,zf g ⟨h.size,0,Td⟩=Tc (.pointer i)/\∃j,zf g (zae ⟨f.size,0,Td⟩ 3)=Tc (aK j)/\(g)[((zae ⟨f.size,0,Td⟩ 3):Addr).block]?=(g)[((zae ⟨f.size,0,Td⟩ 3):Addr).block]?/\(g)[(⟨h.size,0,Td⟩:Addr).block]?=(g)[(⟨h.size,0,Td⟩:Addr).block]?/\XC Tp 99 #[aK j,.func (.func 219) #[] #[.pointer (Tc ⟨h.size,0,Td⟩)]] g (λk l=>∃m,k=.bool m/\(l)[(⟨h.size,0,Td⟩:Addr).block]?=(g)[(⟨h.size,0,Td⟩:Addr).block]?/\XC Tp 218 #[.pointer i,.string p,.bool m] l (λn o=>n=.tuple #[]/\R (.tuple #[]) o))):
  XC Tp 152 #[.pointer q,.string p,.agg #[.int .i64 b,.string c,.slice d.a d.len d.cap,.slice e.a e.len e.cap]] h R:=
 XF ⟨[(1,8000)],[],[]⟩ [] 13 Tryz.func152 H
theorem RB(B:Option Addr)(A:Bt)(b:Int)(c:Bt)(d:Sl)(e:Sl)(h:zc)(R:Value->zc->Prop) (H:let f:=h.push (.cells #[iV b,.string c,aK d,aK e] 25);∃g,B=Tc g/\∃i j k l,zd f (zae g 4) 0 (tL i j k l)/\∃m n o p,zd f ⟨h.size,0,Td⟩ 0 (tL m n o p)/\XC Tp 197 #[tA i j k l,tA m n o p] f (λq r=>∃s,q=iV s/\∀t:Int->zc->Prop,(∀u:Int,∀v:zc,(∃w,B=Tc w/\∃x,zf v (zae (zae w 4) 0)=Tc (iV x)/\XC Tp 218 #[.pointer B,.string A,.bool (bif (x != 3)then Ta else(decide (u>=0)))] v (λy z=>y=.tuple #[]/\R (.tuple #[]) z))->t u v)->((A.toList==(⟨#[109,111,115,116]⟩:Bt).toList)=Ta->t (zaa .i64 (0-s)) r)/\((A.toList==(⟨#[109,111,115,116]⟩:Bt).toList)=Tb->t s r))):
  XC Tp 153 #[.pointer B,.string A,.agg #[.int .i64 b,.string c,.slice d.a d.len d.cap,.slice e.a e.len e.cap]] h R:=
 XF ⟨[(1,8000)],[],[(4,[(6,.one (.int .i64))])]⟩ [] 30 Tryz.func153 H
theorem Xg(B:Option Addr)(A:Bt)(b:Int)(c:Bt)(d:Sl)(e:Sl)(h:zc)(R:Value->zc->Prop) (H:let f:=h.push (.cells #[iV b,.string c,aK d,aK e] 25);∃g i j k,zd f ⟨h.size,0,Td⟩ 0 (tL g i j k)/\XC Tp 167 #[tA g i j k] f (λl m=>∃n o,l=.tuple #[iV n,.bool o]/\∃p,B=Tc p/\∃q r s t,zd m (zae p 4) 0 (tL q r s t)/\XC Tp 220 #[tA q r s t] m (λu v=>∃w x,u=.tuple #[iV w,.bool x]/\XC Tp 218 #[.pointer B,.string A,.bool (bif (bif (!x)then Ta else(w==n))then Ta else(decide (w>n)==(A.toList==(⟨#[115,104,111,114,116]⟩:Bt).toList)))] v (λy z=>y=.tuple #[]/\R (.tuple #[]) z)))):
  XC Tp 154 #[.pointer B,.string A,.agg #[.int .i64 b,.string c,.slice d.a d.len d.cap,.slice e.a e.len e.cap]] h R:=
 XF ⟨[],[],[]⟩ [] 41 Tryz.func154 H
theorem zbe(G:Option Addr)(F:Bt)(b:Int)(c:Bt)(d:Sl)(e:Sl)(h:zc)(R:Value->zc->Prop) (H:let f:=h.push (.cells #[iV b,.string c,aK d,aK e] 25);∃g,G=Tc g/\∃i,zf f (zae (zae g 4) 0)=Tc (iV i)/\((i != 6)=Ta->R (.tuple #[]) f)/\((i != 6)=Tb->∃j,zf f (zae ⟨h.size,0,Td⟩ 3)=Tc (aK j)/\∃(k:Int->zc->Prop) (l:Int->zc->Nat),k 0 f/\∀m:Int,∀n:zc,k m n->((decide (m<j.len)=Ta->∃o,(j.a=Tc o/\0<=m/\m<j.len)/\∃p q r s,zd n (o.add (m.toNat*4)) 0 (tL p q r s)/\let t:=n.push (.cells tC 25);XRunU Tp (zag 25 (.pointer (Tc ⟨n.size,0,Td⟩)) (tA p q r s)) t (λu=>∃v,G=Tc v/\∃w,zf u (zae (zae v 4) 2)=Tc (aK w)/\∃x,zf u (zae ⟨n.size,0,Td⟩ 1)=Tc (.string x)/\XC Tp 56 #[aK w,.string x] u (λy z=>∃A,y=.bool A/\((!A)=Ta->∃B,zf z (zae ⟨n.size,0,Td⟩ 1)=Tc (.string B)/\let C:=z.push (.cells #[.string B] 9);XC Tp 221 #[.pointer G,.string F,.slice (Tc ⟨z.size,0,Td⟩) 1 1] C (λD E=>D=.tuple #[]/\(k (zaa .i64 (m+1)) E/\l (zaa .i64 (m+1)) E<l m n)))/\((!A)=Tb->(k (zaa .i64 (m+1)) z/\l (zaa .i64 (m+1)) z<l m n)))))/\(decide (m<j.len)=Tb->R (.tuple #[]) n)))):
  XC Tp 155 #[.pointer G,.string F,.agg #[.int .i64 b,.string c,.slice d.a d.len d.cap,.slice e.a e.len e.cap]] h R:=
 XF ⟨[(5,8000)],[(3,[(17,.one (.int .i64))])],[]⟩ [] 37 Tryz.func155 H
theorem Xh(Y:Option Addr)(V:Bt)(b:Int)(c:Bt)(d:Sl)(e:Sl)(h:zc)(R:Value->zc->Prop) (H:let f:=h.push (.cells #[iV b,.string c,aK d,aK e] 25);∃g,Y=Tc g/\∃i j k l,zd f (zae g 0) 0 (tL i j k l)/\XC Tp 90 #[tA i j k l,.string (⟨#[109,101,109,98,101,114,115]⟩:Bt)] f (λm n=>∃o p q r s,m=.tuple #[tA o p q r,.bool s]/\let t:=n.push (.cells tC 25);XRunU Tp (zag 25 (.pointer (Tc ⟨n.size,0,Td⟩)) (tA o p q r)) t (λu=>∃v,Y=Tc v/\∃w,zf u (zae (zae v 4) 2)=Tc (aK w)/\∃(x:Int->zc->Prop) (y:Int->zc->Nat),x 0 u/\∀z:Int,∀A:zc,x z A->((decide (z<w.len)=Ta->∃B,(w.a=Tc B/\0<=z/\z<w.len)/\∃C,zf A (B.add (z.toNat*1))=Tc (.string C)/\∃D,zf A (zae ⟨h.size,0,Td⟩ 1)=Tc (.string D)/\∃E,((D.toList==(⟨#[116,114,117,101]⟩:Bt).toList)=Ta->zf A (zae ⟨n.size,0,Td⟩ 2)=Tc (aK E))/\∃F:Value->zc->Prop,((D.toList==(⟨#[116,114,117,101]⟩:Bt).toList)=Ta->XC Tp 56 #[aK E,.string C] A (λG I=>∃J,G=.bool J/\F (.bool J) I))/\((D.toList==(⟨#[116,114,117,101]⟩:Bt).toList)=Tb->∃L,F (.bool L) A)/\((D.toList==(⟨#[116,114,117,101]⟩:Bt).toList)=Ta->∀M N,F M N->∃O,M=.bool O)/\∀P:Bool,∀Q,F (.bool P) Q->((bif (D.toList==(⟨#[116,114,117,101]⟩:Bt).toList)then(!P)else Tb)=Ta->let S:=Q.push (.cells #[.string C] 9);XC Tp 221 #[.pointer Y,.string V,.slice (Tc ⟨Q.size,0,Td⟩) 1 1] S (λT U=>T=.tuple #[]/\(x (zaa .i64 (z+1)) U/\y (zaa .i64 (z+1)) U<y z A)))/\((bif (D.toList==(⟨#[116,114,117,101]⟩:Bt).toList)then(!P)else Tb)=Tb->(x (zaa .i64 (z+1)) Q/\y (zaa .i64 (z+1)) Q<y z A)))/\(decide (z<w.len)=Tb->R (.tuple #[]) A))))):
  XC Tp 156 #[.pointer Y,.string V,.agg #[.int .i64 b,.string c,.slice d.a d.len d.cap,.slice e.a e.len e.cap]] h R:=
 XF ⟨[],[(3,[(24,.one (.int .i64))])],[]⟩ [] 44 Tryz.func156 H
theorem Nb(M:Option Addr)(N:Bt)(b:Int)(c:Bt)(d:Sl)(e:Sl)(h:zc)(R:Value->zc->Prop) (H:let f:=h.push (.cells #[iV b,.string c,aK d,aK e] 25);∃g,M=Tc g/\∃i,zf f (zae (zae g 4) 0)=Tc (iV i)/\((i != 5)=Ta->R (.tuple #[]) f)/\((i != 5)=Tb->∃j,M=Tc j/\∃k,zf f (zae (zae j 4) 3)=Tc (aK k)/\∃(l:Int->zc->Prop) (m:Int->zc->Nat),l 0 f/\∀n:Int,∀o:zc,l n o->((decide (n<k.len)=Ta->∃p,(k.a=Tc p/\0<=n/\n<k.len)/\∃q r s t,zd o (p.add (n.toNat*4)) 0 (tL q r s t)/\let u:=o.push (.cells tC 25);XRunU Tp (zag 25 (.pointer (Tc ⟨o.size,0,Td⟩)) (tA q r s t)) u (λv=>∃w x y z,zd v ⟨h.size,0,Td⟩ 0 (tL w x y z)/\∃A B C D,zd v ⟨o.size,0,Td⟩ 0 (tL A B C D)/\XC Tp 106 #[iV n] v (λE F=>∃G,E=.string G/\(F)[(⟨o.size,0,Td⟩:Addr).block]?=(v)[(⟨o.size,0,Td⟩:Addr).block]?/\(F)[(⟨h.size,0,Td⟩:Addr).block]?=(v)[(⟨h.size,0,Td⟩:Addr).block]?/\let I:=F.push (.cells #[.string G] 9);(I)[(⟨o.size,0,Td⟩:Addr).block]?=(v)[(⟨o.size,0,Td⟩:Addr).block]?/\(I)[(⟨h.size,0,Td⟩:Addr).block]?=(v)[(⟨h.size,0,Td⟩:Addr).block]?/\XC Tp 222 #[.pointer M,tA w x y z,tA A B C D,.slice (Tc ⟨F.size,0,Td⟩) 1 1] I (λJ L=>J=.tuple #[]/\(l (zaa .i64 (n+1)) L/\m (zaa .i64 (n+1)) L<m n o)))))/\(decide (n<k.len)=Tb->R (.tuple #[]) o)))):
  XC Tp 157 #[.pointer M,.string N,.agg #[.int .i64 b,.string c,.slice d.a d.len d.cap,.slice e.a e.len e.cap]] h R:=
 XF ⟨[(5,8000)],[(3,[(20,.one (.int .i64))])],[]⟩ [] 33 Tryz.func157 H
theorem Wg(U:Option Addr)(V:Bt)(b:Int)(c:Bt)(d:Sl)(e:Sl)(h:zc)(R:Value->zc->Prop) (H:let f:=h.push (.cells #[iV b,.string c,aK d,aK e] 25);∃g,U=Tc g/\∃i,zf f (zae (zae g 4) 2)=Tc (aK i)/\∃(j:Int->zc->Prop) (k:Int->zc->Nat),j 0 f/\∀l:Int,∀m:zc,j l m->((decide (l<i.len)=Ta->∃n,(i.a=Tc n/\0<=l/\l<i.len)/\∃o,zf m (n.add (l.toNat*1))=Tc (.string o)/\∃p q r s,zd m ⟨h.size,0,Td⟩ 0 (tL p q r s)/\XC Tp 90 #[tA p q r s,.string o] m (λt u=>∃v w x y z,t=.tuple #[tA v w x y,.bool z]/\let A:=u.push (.cells tC 25);XRunU Tp (zag 25 (.pointer (Tc ⟨u.size,0,Td⟩)) (tA v w x y)) A (λB=>(z=Ta->∃C D E F,zd B ⟨u.size,0,Td⟩ 0 (tL C D E F)/\∃G,U=Tc G/\∃I,zf B (zae (zae G 4) 3)=Tc (aK I)/\∃J,(I.a=Tc J/\0<=l/\l<I.len)/\∃L M N O,zd B (J.add (l.toNat*4)) 0 (tL L M N O)/\let P:=B.push (.cells #[.string o] 9);(P)[((J.add (l.toNat*4)):Addr).block]?=(B)[((J.add (l.toNat*4)):Addr).block]?/\(P)[((zae (zae G 4) 3):Addr).block]?=(B)[((zae (zae G 4) 3):Addr).block]?/\(P)[(⟨u.size,0,Td⟩:Addr).block]?=(B)[(⟨u.size,0,Td⟩:Addr).block]?/\XC Tp 222 #[.pointer U,tA C D E F,tA L M N O,.slice (Tc ⟨B.size,0,Td⟩) 1 1] P (λQ S=>Q=.tuple #[]/\(j (zaa .i64 (l+1)) S/\k (zaa .i64 (l+1)) S<k l m)))/\(z=Tb->(j (zaa .i64 (l+1)) B/\k (zaa .i64 (l+1)) B<k l m)))))/\(decide (l<i.len)=Tb->R (.tuple #[]) m))):
  XC Tp 158 #[.pointer U,.string V,.agg #[.int .i64 b,.string c,.slice d.a d.len d.cap,.slice e.a e.len e.cap]] h R:=
 XF ⟨[(6,8000)],[(2,[(16,.one (.int .i64))])],[]⟩ [] 42 Tryz.func158 H
theorem zch(E:Option Addr)(F:Bt)(b:Int)(c:Bt)(d:Sl)(e:Sl)(h:zc)(R:Value->zc->Prop) (H:let f:=h.push (.cells #[iV b,.string c,aK d,aK e] 25);∃g,zf f (zae ⟨h.size,0,Td⟩ 3)=Tc (aK g)/\∃(i:Int->zc->Prop) (j:Int->zc->Nat),i 0 f/\∀k:Int,∀l:zc,i k l->((decide (k<g.len)=Ta->∃m,(g.a=Tc m/\0<=k/\k<g.len)/\∃n o p q,zd l (m.add (k.toNat*4)) 0 (tL n o p q)/\let r:=l.push (.cells tC 25);XRunU Tp (zag 25 (.pointer (Tc ⟨l.size,0,Td⟩)) (tA n o p q)) r (λs=>∃t u v w,zd s ⟨l.size,0,Td⟩ 0 (tL t u v w)/\∃x,E=Tc x/\∃y z A B,zd s (zae x 4) 0 (tL y z A B)/\XC Tp 222 #[.pointer E,tA t u v w,tA y z A B,.slice Td 0 0] s (λC D=>C=.tuple #[]/\(i (zaa .i64 (k+1)) D/\j (zaa .i64 (k+1)) D<j k l))))/\(decide (k<g.len)=Tb->R (.tuple #[]) l))):
  XC Tp 159 #[.pointer E,.string F,.agg #[.int .i64 b,.string c,.slice d.a d.len d.cap,.slice e.a e.len e.cap]] h R:=
 XF ⟨[(4,8000)],[(2,[(11,.one (.int .i64))])],[]⟩ [] 23 Tryz.func159 H
theorem ZO(q:Option Addr)(p:Bt)(b:Int)(c:Bt)(d:Sl)(e:Sl)(h:zc)(R:Value->zc->Prop) (H:let f:=h.push (.cells #[.pointer q] 118);let g:=f.push (.cells #[iV b,.string c,aK d,aK e] 25);∃i:Option Addr,zf g ⟨h.size,0,Td⟩=Tc (.pointer i)/\∃j,zf g (zae ⟨f.size,0,Td⟩ 3)=Tc (aK j)/\(g)[((zae ⟨f.size,0,Td⟩ 3):Addr).block]?=(g)[((zae ⟨f.size,0,Td⟩ 3):Addr).block]?/\(g)[(⟨h.size,0,Td⟩:Addr).block]?=(g)[(⟨h.size,0,Td⟩:Addr).block]?/\XC Tp 99 #[aK j,.func (.func 223) #[] #[.pointer (Tc ⟨h.size,0,Td⟩)]] g (λk l=>∃m,k=.bool m/\(l)[(⟨h.size,0,Td⟩:Addr).block]?=(g)[(⟨h.size,0,Td⟩:Addr).block]?/\XC Tp 218 #[.pointer i,.string p,.bool m] l (λn o=>n=.tuple #[]/\R (.tuple #[]) o))):
  XC Tp 160 #[.pointer q,.string p,.agg #[.int .i64 b,.string c,.slice d.a d.len d.cap,.slice e.a e.len e.cap]] h R:=
 XF ⟨[(1,8000)],[],[]⟩ [] 13 Tryz.func160 H
theorem Uw(x:Option Addr)(w:Bt)(b:Int)(c:Bt)(d:Sl)(e:Sl)(h:zc)(R:Value->zc->Prop) (H:let f:=h.push (.cells #[iV b,.string c,aK d,aK e] 25);∃g i j k,zd f ⟨h.size,0,Td⟩ 0 (tL g i j k)/\∃l,x=Tc l/\∃m n o p,zd f (zae l 4) 0 (tL m n o p)/\XC Tp 49 #[tA g i j k,tA m n o p,.slice Td 0 0] f (λq r=>∃s,q=aK s/\XC Tp 218 #[.pointer x,.string w,.bool (decide ((s.len:Int)>0))] r (λt u=>t=.tuple #[]/\R (.tuple #[]) u))):
  XC Tp 161 #[.pointer x,.string w,.agg #[.int .i64 b,.string c,.slice d.a d.len d.cap,.slice e.a e.len e.cap]] h R:=
 XF ⟨[(1,8000)],[],[]⟩ [] 17 Tryz.func161 H
theorem V5(s:Bt)(h:zc)(R:Value->zc->Prop) (H:XC Tp 228 #[] h (λa b=>∃c d e f g i j,a=.agg #[.string c,.string d,.string e,.string f,.string g,.string i,.string j]/\let k:=b.push (.cells #[.string (⟨#[]⟩:Bt),.string (⟨#[]⟩:Bt),.string (⟨#[]⟩:Bt),.string (⟨#[]⟩:Bt),.string (⟨#[]⟩:Bt),.string (⟨#[]⟩:Bt),.string (⟨#[]⟩:Bt)] 224);XRunU Tp (zag 224 (.pointer (Tc ⟨b.size,0,Td⟩)) (.agg #[.string c,.string d,.string e,.string f,.string g,.string i,.string j])) k (λl=>∃(m:Int->zc->Prop) (n:Int->zc->Nat),m 0 l/\∀o:Int,∀p:zc,m o p->((decide (o<7)=Ta->∃q,(decide (o>0)=Ta->(Tc (⟨b.size,0,Td⟩:Addr)=Tc q/\0<=o/\o<((7:Nat):Int)))/\∃r,(decide (o>0)=Ta->zf p (q.add (o.toNat*1))=Tc (.string r))/\((bif (decide (o>0))then(r.toList==s.toList)else Tb)=Ta->R (iV o) p)/\((bif (decide (o>0))then(r.toList==s.toList)else Tb)=Tb->(m (zaa .i64 (o+1)) p/\n (zaa .i64 (o+1)) p<n o p)))/\(decide (o<7)=Tb->R (iV 0) p))))):
  XC Tp 166 #[.string s] h R:=
 XF ⟨[],[(3,[(6,.one (.int .i64))])],[]⟩ [.tmp 2] 20 Tryz.func166 H
theorem Ps(b:Int)(c:Bt)(d:Sl)(e:Sl)(h:zc)(R:Value->zc->Prop) (H:let f:=h.push (.cells #[iV b,.string c,aK d,aK e] 25);∃g,zf f (zae ⟨h.size,0,Td⟩ 3)=Tc (aK g)/\XC Tp 99 #[aK g,.func (.func 229) #[] #[]] f (λi j=>∃k,i=.bool k/\R (.bool (!k)) j)):
  XC Tp 168 #[.agg #[.int .i64 b,.string c,.slice d.a d.len d.cap,.slice e.a e.len e.cap]] h R:=
 XF ⟨[],[],[]⟩ [.tmp 2] 7 Tryz.func168 H
theorem PE(b:Int)(c:Bt)(d:Sl)(e:Sl)(h:zc)(R:Value->zc->Prop) (H:let f:=h.push (.cells #[iV b,.string c,aK d,aK e] 25);∃g,zf f (zae ⟨h.size,0,Td⟩ 3)=Tc (aK g)/\XC Tp 99 #[aK g,.func (.func 230) #[] #[]] f (λi j=>∃k,i=.bool k/\R (.bool (!k)) j)):
  XC Tp 169 #[.agg #[.int .i64 b,.string c,.slice d.a d.len d.cap,.slice e.a e.len e.cap]] h R:=
 XF ⟨[],[],[]⟩ [.tmp 2] 7 Tryz.func169 H
theorem YW(f:Option Addr)(c:Bt)(e:Bool)(h:zc)(R:Value->zc->Prop) (H:((!e)=Ta->XC Tp 221 #[.pointer f,.string c,.slice Td 0 0] h (λa b=>a=.tuple #[]/\R (.tuple #[]) b))/\((!e)=Tb->R (.tuple #[]) h)):
  XC Tp 218 #[.pointer f,.string c,.bool e] h R:=
 XF ⟨[],[],[]⟩ [] 11 Tryz.func218 H
theorem Xi(b:Int)(c:Bt)(d:Sl)(e:Sl)(u:Addr)(h:zc)(R:Value->zc->Prop) (H:let f:=h.push (.cells #[iV b,.string c,aK d,aK e] 25);∃g i j k,zd f ⟨h.size,0,Td⟩ 0 (tL g i j k)/\∃l:Option Addr,zf f u=Tc (.pointer l)/\∃m,l=Tc m/\∃n o p q,zd f (zae m 4) 0 (tL n o p q)/\XC Tp 198 #[tA g i j k,tA n o p q] f (λr s=>∃t,r=.bool t/\R (.bool t) s)):
  XC Tp 219 #[.agg #[.int .i64 b,.string c,.slice d.a d.len d.cap,.slice e.a e.len e.cap],.pointer (Tc u)] h R:=
 XF ⟨[(1,8000)],[],[]⟩ [.tmp 3] 10 Tryz.func219 H
theorem TF(s:Option Addr)(r:Bt)(q:Sl)(h:zc)(R:Value->zc->Prop) (H:∃b,s=Tc b/\∃c,zf h (zae b 9)=Tc (aK c)/\∃d,s=Tc d/\∃e,zf h (zae d 8)=Tc (aK e)/\let f:=h.push (.cells #[aK e,aK q] 22);(f)[((zae b 9):Addr).block]?=(h)[((zae b 9):Addr).block]?/\XC Tp 277 #[.slice (Tc ⟨h.size,0,Td⟩) 2 2] f (λg i=>∃j,g=aK j/\(i)[((zae b 9):Addr).block]?=(h)[((zae b 9):Addr).block]?/\(i)[((zae b 9):Addr).block]?=(h)[((zae b 9):Addr).block]?/\let k:=i.push (.cells #[aK j,.string r] 35);(k)[((zae b 9):Addr).block]?=(h)[((zae b 9):Addr).block]?/\Qa Tp (zav #[29,29] 29 #[aK c,.slice (Tc ⟨i.size,0,Td⟩) 1 1]) k (λl m=>∃n,l=aK n/\∃o,s=Tc o/\XRunU Tp (zag 29 (.pointer (Tc (zae o 9))) (aK n)) m (λp=>R (.tuple #[]) p)))):
  XC Tp 221 #[.pointer s,.string r,.slice q.a q.len q.cap] h R:=
 XF ⟨[(0,8000)],[],[]⟩ [] 24 Tryz.func221 H
theorem Wh(N:Option Addr)(b:Int)(c:Bt)(d:Sl)(e:Sl)(f:Int)(g:Bt)(i:Sl)(j:Sl)(M:Sl)(h:zc)(R:Value->zc->Prop) (H:let k:=h.push (.cells #[iV b,.string c,aK d,aK e] 25);let l:=k.push (.cells #[iV f,.string g,aK i,aK j] 25);∃m,N=Tc m/\∃n,zf l (zae m 9)=Tc (aK n)/\∃o p q r,zd l ⟨h.size,0,Td⟩ 0 (tL o p q r)/\∃s t u v,zd l ⟨k.size,0,Td⟩ 0 (tL s t u v)/\∃w,N=Tc w/\∃x,zf l (zae w 8)=Tc (aK x)/\let y:=l.push (.cells #[aK x,aK M] 22);(y)[(⟨k.size,0,Td⟩:Addr).block]?=(l)[(⟨k.size,0,Td⟩:Addr).block]?/\(y)[(⟨h.size,0,Td⟩:Addr).block]?=(l)[(⟨h.size,0,Td⟩:Addr).block]?/\(y)[((zae m 9):Addr).block]?=(l)[((zae m 9):Addr).block]?/\XC Tp 277 #[.slice (Tc ⟨l.size,0,Td⟩) 2 2] y (λz A=>∃B,z=aK B/\(A)[(⟨k.size,0,Td⟩:Addr).block]?=(l)[(⟨k.size,0,Td⟩:Addr).block]?/\(A)[(⟨h.size,0,Td⟩:Addr).block]?=(l)[(⟨h.size,0,Td⟩:Addr).block]?/\(A)[((zae m 9):Addr).block]?=(l)[((zae m 9):Addr).block]?/\XC Tp 49 #[tA o p q r,tA s t u v,aK B] A (λC D=>∃E,C=aK E/\(D)[((zae m 9):Addr).block]?=(l)[((zae m 9):Addr).block]?/\Qa Tp (zav #[29,29] 29 #[aK n,aK E]) D (λF G=>∃I,F=aK I/\∃J,N=Tc J/\XRunU Tp (zag 29 (.pointer (Tc (zae J 9))) (aK I)) G (λL=>R (.tuple #[]) L))))):
  XC Tp 222 #[.pointer N,.agg #[.int .i64 b,.string c,.slice d.a d.len d.cap,.slice e.a e.len e.cap],.agg #[.int .i64 f,.string g,.slice i.a i.len i.cap,.slice j.a j.len j.cap],.slice M.a M.len M.cap] h R:=
 XF ⟨[(1,8000)],[],[]⟩ [] 26 Tryz.func222 H
theorem O8(b:Int)(c:Bt)(d:Sl)(e:Sl)(u:Addr)(h:zc)(R:Value->zc->Prop) (H:let f:=h.push (.cells #[iV b,.string c,aK d,aK e] 25);∃g i j k,zd f ⟨h.size,0,Td⟩ 0 (tL g i j k)/\∃l:Option Addr,zf f u=Tc (.pointer l)/\∃m,l=Tc m/\∃n o p q,zd f (zae m 4) 0 (tL n o p q)/\XC Tp 49 #[tA g i j k,tA n o p q,.slice Td 0 0] f (λr s=>∃t,r=aK t/\R (.bool ((t.len:Int)==0)) s)):
  XC Tp 223 #[.agg #[.int .i64 b,.string c,.slice d.a d.len d.cap,.slice e.a e.len e.cap],.pointer (Tc u)] h R:=
 XF ⟨[(1,8000)],[],[]⟩ [.tmp 3] 12 Tryz.func223 H
theorem zod(h:zc)(R:Value->zc->Prop) (H:let a:=h.push (.cells #[.string (⟨#[]⟩:Bt),.string (⟨#[]⟩:Bt),.string (⟨#[]⟩:Bt),.string (⟨#[]⟩:Bt),.string (⟨#[]⟩:Bt),.string (⟨#[]⟩:Bt),.string (⟨#[]⟩:Bt)] 224);XRunU Tp (zag 224 (.pointer (Tc ⟨h.size,0,Td⟩)) (.agg #[.string (⟨#[]⟩:Bt),.string (⟨#[110,117,108,108]⟩:Bt),.string (⟨#[98,111,111,108]⟩:Bt),.string (⟨#[110,117,109,98,101,114]⟩:Bt),.string (⟨#[115,116,114,105,110,103]⟩:Bt),.string (⟨#[97,114,114,97,121]⟩:Bt),.string (⟨#[111,98,106,101,99,116]⟩:Bt)])) a (λb=>∃c d e f g i j,zd b ⟨h.size,0,Td⟩ 0 [.string c,.string d,.string e,.string f,.string g,.string i,.string j]/\R (.agg #[.string c,.string d,.string e,.string f,.string g,.string i,.string j]) b)):
  XC Tp 228 #[] h R:=
 XF ⟨[],[],[]⟩ [.cell 0 224] 2 Tryz.func228 H
theorem VL(b:Int)(c:Bt)(d:Sl)(e:Sl)(f:Int)(g:Bt)(i:Sl)(j:Sl)(h:zc)(R:Value->zc->Prop) (H:let k:=h.push (.cells #[iV b,.string c,aK d,aK e] 25);let l:=k.push (.cells #[iV f,.string g,aK i,aK j] 25);∃m,zf l (zae ⟨h.size,0,Td⟩ 0)=Tc (iV m)/\∃n,((m==3)=Ta->zf l (zae ⟨k.size,0,Td⟩ 0)=Tc (iV n))/\((bif (m==3)then(n==3)else Tb)=Ta->∃o,zf l (zae ⟨h.size,0,Td⟩ 1)=Tc (.string o)/\XC Tp 102 #[.string o] l (λp q=>∃r s t u,p=.tuple #[.agg #[.bool r,.string s,iV t],.bool u]/\let v:=q.push (.cells #[.bool Tb,.string (⟨#[]⟩:Bt),iV 0] 78);XRunU Tp (zag 78 (.pointer (Tc ⟨q.size,0,Td⟩)) (.agg #[.bool r,.string s,iV t])) v (λw=>∃x,zf w (zae ⟨k.size,0,Td⟩ 1)=Tc (.string x)/\XC Tp 102 #[.string x] w (λy z=>∃A B C D,y=.tuple #[.agg #[.bool A,.string B,iV C],.bool D]/\let E:=z.push (.cells #[.bool Tb,.string (⟨#[]⟩:Bt),iV 0] 78);XRunU Tp (zag 78 (.pointer (Tc ⟨z.size,0,Td⟩)) (.agg #[.bool A,.string B,iV C])) E (λF=>∃G I J,zd F ⟨q.size,0,Td⟩ 0 [.bool G,.string I,iV J]/\∃L M N,zd F ⟨z.size,0,Td⟩ 0 [.bool L,.string M,iV N]/\XC Tp 318 #[.agg #[.bool G,.string I,iV J],.agg #[.bool L,.string M,iV N]] F (λO P=>∃Q,O=iV Q/\R (iV Q) P))))))/\((bif (m==3)then(n==3)else Tb)=Tb->∃S,zf l (zae ⟨h.size,0,Td⟩ 0)=Tc (iV S)/\∃T,zf l (zae ⟨k.size,0,Td⟩ 0)=Tc (iV T)/\∃U,zf l (zae ⟨h.size,0,Td⟩ 1)=Tc (.string U)/\∃V,zf l (zae ⟨k.size,0,Td⟩ 1)=Tc (.string V)/\∃W,zf l (zae ⟨h.size,0,Td⟩ 2)=Tc (aK W)/\∃X,zf l (zae ⟨k.size,0,Td⟩ 2)=Tc (aK X)/\XC Tp 320 #[iV S,iV T] l (λY Z=>∃aa,Y=iV aa/\(Z)[((zae ⟨k.size,0,Td⟩ 2):Addr).block]?=(l)[((zae ⟨k.size,0,Td⟩ 2):Addr).block]?/\(Z)[((zae ⟨h.size,0,Td⟩ 2):Addr).block]?=(l)[((zae ⟨h.size,0,Td⟩ 2):Addr).block]?/\(Z)[((zae ⟨k.size,0,Td⟩ 1):Addr).block]?=(l)[((zae ⟨k.size,0,Td⟩ 1):Addr).block]?/\(Z)[((zae ⟨h.size,0,Td⟩ 1):Addr).block]?=(l)[((zae ⟨h.size,0,Td⟩ 1):Addr).block]?/\XC Tp 321 #[.string U,.string V] Z (λab ac=>∃ad,ab=iV ad/\(ac)[((zae ⟨k.size,0,Td⟩ 2):Addr).block]?=(l)[((zae ⟨k.size,0,Td⟩ 2):Addr).block]?/\(ac)[((zae ⟨h.size,0,Td⟩ 2):Addr).block]?=(l)[((zae ⟨h.size,0,Td⟩ 2):Addr).block]?/\XC Tp 322 #[aK W,aK X,.func (.func 321) #[] #[]] ac (λae af=>∃ag,ae=iV ag/\let ah:=af.push (.cells #[iV aa,iV ad,iV ag] 3);XC Tp 319 #[.slice (Tc ⟨af.size,0,Td⟩) 3 3] ah (λai aj=>∃ak,ai=iV ak/\((ak != 0)=Ta->R (iV ak) aj)/\((ak != 0)=Tb->∃al,zf aj (zae ⟨h.size,0,Td⟩ 3)=Tc (aK al)/\∃am,zf aj (zae ⟨k.size,0,Td⟩ 3)=Tc (aK am)/\XC Tp 323 #[aK al,aK am,.func (.func 264) #[] #[]] aj (λan ao=>∃ap,an=iV ap/\R (iV ap) ao)))))))):
  XC Tp 264 #[.agg #[.int .i64 b,.string c,.slice d.a d.len d.cap,.slice e.a e.len e.cap],.agg #[.int .i64 f,.string g,.slice i.a i.len i.cap,.slice j.a j.len j.cap]] h R:=
 XF ⟨[(5,8000)],[],[]⟩ [.tmp 4] 58 Tryz.func264 H
theorem zdq(a0:Sl)(k:Sl)(e:FuncId)(f:Array Value)(i:Array Value)(h:zc)(R:Value->zc->Prop) (H:XC Tp 370 #[aK a0,aK k,.func (.func e) f i] h (λb c=>∃d,b=iV d/\R (iV d) c)):
  XC Tp 322 #[.slice a0.a a0.len a0.cap,.slice k.a k.len k.cap,.func (.func e) f i] h R:=
 XF ⟨[],[],[]⟩ [.tmp 6] 11 Tryz.func322 H
theorem ji(n:Sl)(o:Sl)(p:FuncId)(r:Array Value)(q:Array Value)(h:zc)(R:Value->zc->Prop) (H:∃(b:Int->zc->Prop) (c:Int->zc->Nat),b 0 h/\∀d:Int,∀e:zc,b d e->((decide (d<n.len)=Ta->∃f,(n.a=Tc f/\0<=d/\d<n.len)/\∃g,zf e (f.add (d.toNat*1))=Tc (.string g)/\(decide (d>=o.len)=Ta->R (iV 1) e)/\(decide (d>=o.len)=Tb->∃i,(o.a=Tc i/\0<=d/\d<o.len)/\∃j,zf e (i.add (d.toNat*1))=Tc (.string j)/\zo Tp p=Ta/\XC Tp p (r++#[.string g,.string j]++q) e (λk l=>∃m,k=iV m/\((m != 0)=Ta->R (iV m) l)/\((m != 0)=Tb->(b (zaa .i64 (d+1)) l/\c (zaa .i64 (d+1)) l<c d e)))))/\(decide (d<n.len)=Tb->(decide ((n.len:Int)<(o.len:Int))=Ta->R (iV (-1)) e)/\(decide ((n.len:Int)<(o.len:Int))=Tb->R (iV 0) e)))):
  XC Tp 370 #[.slice n.a n.len n.cap,.slice o.a o.len o.cap,.func (.func p) r q] h R:=
 XF ⟨[],[(2,[(13,.one (.int .i64))])],[]⟩ [.tmp 6] 39 Tryz.func370 H
theorem Q4(w:Sl)(h:zc)(R:Value->zc->Prop) (H:∃(b:Int->Int->zc->Prop) (c:Int->Int->zc->Nat),b 0 0 h/\∀d e:Int,∀f:zc,b d e f->((decide (e<w.len)=Ta->∃g,(w.a=Tc g/\0<=e/\e<w.len)/\∃i,zf f (g.add (e.toNat*1))=Tc (aK i)/\((decide ((zaa .i64 (d+(i.len:Int)))<0))=Ta->False)/\((decide ((zaa .i64 (d+(i.len:Int)))<0))=Tb->(b (zaa .i64 (d+(i.len:Int))) (zaa .i64 (e+1)) f/\c (zaa .i64 (d+(i.len:Int))) (zaa .i64 (e+1)) f<c d e f)))/\(decide (e<w.len)=Tb->XC Tp 337 #[.slice Td 0 0,iV d] f (λj k=>∃l,j=aK l/\∃(m:Sl->Int->zc->Prop) (n:Sl->Int->zc->Nat),m l 0 k/\∀o:Sl,∀p:Int,∀q:zc,m o p q->((decide (p<w.len)=Ta->∃r,(w.a=Tc r/\0<=p/\p<w.len)/\∃s,zf q (r.add (p.toNat*1))=Tc (aK s)/\Qa Tp (zav #[22,22] 22 #[aK o,aK s]) q (λt u=>∃v,t=aK v/\(m v (zaa .i64 (p+1)) u/\n v (zaa .i64 (p+1)) u<n o p q)))/\(decide (p<w.len)=Tb->R (aK o) q)))))):
  XC Tp 277 #[.slice w.a w.len w.cap] h R:=
 XF ⟨[],[(3,[(3,.one (.int .i64)),(11,.one (.int .i64))]),(11,[(6,.one (.sl)),(27,.one (.int .i64))])],[]⟩ [.tmp 2] 36 Tryz.func277 H
theorem Yq(i:Sl)(k:Int)(h:zc)(R:Value->zc->Prop) (H:∀b:zc->Prop,(∀c:zc,(((decide ((zaa .i64 (k-(zaa .i64 ((i.cap:Int)-(i.len:Int)))):Int)>0))=Ta->((Td:Option Value)=Td\/∃v,(Tc (iV (i.cap:Int)):Option Value)=Tc v)/\(0<=(0:Int)/\(0:Int)<=(i.cap:Int)/\(i.cap:Int)<=(i.cap:Int)/\(i.cap:Int)<=(i.cap:Int))/\Qa Tp (zav #[22,3] 22 #[.slice (iD i.a 1 ((0:Int).toNat) ((i.cap:Int).toNat)) ((i.cap:Int).toNat-(0:Int).toNat) ((i.cap:Int).toNat-(0:Int).toNat),iV (zaa .i64 (k-(zaa .i64 ((i.cap:Int)-(i.len:Int)))))]) c (λd e=>∃f,d=aK f/\((Td:Option Value)=Td\/∃v,(Tc (iV (i.len:Int)):Option Value)=Tc v)/\(0<=(0:Int)/\(0:Int)<=(i.len:Int)/\(i.len:Int)<=(f.cap:Int)/\(f.cap:Int)<=(f.cap:Int))/\R (.slice (iD f.a 1 ((0:Int).toNat) ((f.cap:Int).toNat)) ((i.len:Int).toNat-(0:Int).toNat) ((f.cap:Int).toNat-(0:Int).toNat)) e))/\((decide ((zaa .i64 (k-(zaa .i64 ((i.cap:Int)-(i.len:Int)))):Int)>0))=Tb->R (aK i) c))->b c)->(decide (k<0)=Ta->False)/\(decide (k<0)=Tb->b h)):
  XC Tp 337 #[.slice i.a i.len i.cap,.int .i64 k] h R:=
 XF ⟨[],[],[(3,[])]⟩ [.tmp 4] 27 Tryz.func337 H
theorem YU(b:Int)(c:Bt)(d:Sl)(e:Sl)(h:zc)(R:Value->zc->Prop) (H:let f:=h.push (.cells #[iV b,.string c,aK d,aK e] 25);∃g i j k,zd f ⟨h.size,0,Td⟩ 0 (tL g i j k)/\XC Tp 17 #[tA g i j k] f (λl m=>∃n,l=.bool n/\((!n)=Ta->R (.slice Td 0 0) m)/\((!n)=Tb->XC Tp 55 #[] m (λo p=>∃q r s t u v w x y z A B C,o=.agg #[.string q,.string r,.string s,.string t,.string u,.string v,.string w,.string x,.string y,.string z,.string A,.string B,.string C]/\∃(D:Sl->Int->zc->Prop) (E:Sl->Int->zc->Nat),D (⟨Td,0,0⟩:Sl) 0 p/\∀F:Sl,∀G:Int,∀I:zc,D F G I->((decide (G<13)=Ta->∃J,(∀L:zc,QExec Tp (zes 70 (.agg #[.string q,.string r,.string s,.string t,.string u,.string v,.string w,.string x,.string y,.string z,.string A,.string B,.string C]) (iV G)) L (.string J))/\∃M,zf I (zae ⟨h.size,0,Td⟩ 2)=Tc (aK M)/\XC Tp 56 #[aK M,.string J] I (λN O=>∃P,N=.bool P/\(P=Ta->let Q:=O.push (.cells #[.string J] 9);Qa Tp (zav #[22,22] 22 #[aK F,.slice (Tc ⟨O.size,0,Td⟩) 1 1]) Q (λS T=>∃U,S=aK U/\(D U (zaa .i64 (G+1)) T/\E U (zaa .i64 (G+1)) T<E F G I)))/\(P=Tb->(D F (zaa .i64 (G+1)) O/\E F (zaa .i64 (G+1)) O<E F G I))))/\(decide (G<13)=Tb->R (aK F) I)))))):
  XC Tp 22 #[.agg #[.int .i64 b,.string c,.slice d.a d.len d.cap,.slice e.a e.len e.cap]] h R:=
 XF ⟨[],[(5,[(3,.one (.sl)),(10,.one (.int .i64))])],[]⟩ [.tmp 2] 23 Tryz.func22 H
theorem XW(b:Int)(c:Bt)(d:Sl)(e:Sl)(f:Int)(g:Bt)(i:Sl)(j:Sl)(ax:Sl)(h:zc)(R:Value->zc->Prop) (H:let k:=h.push (.cells #[iV b,.string c,aK d,aK e] 25);let l:=k.push (.cells #[iV f,.string g,aK i,aK j] 25);∃m n o p,zd l ⟨h.size,0,Td⟩ 0 (tL m n o p)/\∃q r s t,zd l ⟨k.size,0,Td⟩ 0 (tL q r s t)/\let u:=l.push (.cells #[iV m,.string n,aK o,aK p,iV q,.string r,aK s,aK t,aK ax,.slice Td 0 0] 120);XC Tp 55 #[] u (λv w=>∃x y z A B C D E F G I J L,v=.agg #[.string x,.string y,.string z,.string A,.string B,.string C,.string D,.string E,.string F,.string G,.string I,.string J,.string L]/\∃(M:Int->zc->Prop) (N:Int->zc->Nat),M 0 w/\∀O:Int,∀P:zc,M O P->((decide (O<13)=Ta->∃Q,(∀S:zc,QExec Tp (zes 70 (.agg #[.string x,.string y,.string z,.string A,.string B,.string C,.string D,.string E,.string F,.string G,.string I,.string J,.string L]) (iV O)) S (.string Q))/\∃T U V W,zd P ⟨h.size,0,Td⟩ 0 (tL T U V W)/\XC Tp 90 #[tA T U V W,.string Q] P (λX Y=>∃Z aa ab ac ad,X=.tuple #[tA Z aa ab ac,.bool ad]/\let ae:=Y.push (.cells tC 25);XRunU Tp (zag 25 (.pointer (Tc ⟨Y.size,0,Td⟩)) (tA Z aa ab ac)) ae (λaf=>(ad=Ta->∃ag ah ai aj,zd af ⟨Y.size,0,Td⟩ 0 (tL ag ah ai aj)/\XC Tp 91 #[.pointer (Tc ⟨l.size,0,Td⟩),.string Q] af (λak al=>∃am:Value,ak=am/\(al)[(⟨Y.size,0,Td⟩:Addr).block]?=(af)[(⟨Y.size,0,Td⟩:Addr).block]?/\po Tp am #[.string Q,tA ag ah ai aj] (λan ao=>XC Tp an ao al (λap aq=>ap=.tuple #[]/\(M (zaa .i64 (O+1)) aq/\N (zaa .i64 (O+1)) aq<N O P)))))/\(ad=Tb->(M (zaa .i64 (O+1)) af/\N (zaa .i64 (O+1)) af<N O P)))))/\(decide (O<13)=Tb->∃ar:Addr,Tc ⟨l.size,0,Td⟩=Tc ar/\∃au,zf P (zae ar 9)=Tc (aK au)/\R (aK au) P)))):
  XC Tp 49 #[.agg #[.int .i64 b,.string c,.slice d.a d.len d.cap,.slice e.a e.len e.cap],.agg #[.int .i64 f,.string g,.slice i.a i.len i.cap,.slice j.a j.len j.cap],.slice ax.a ax.len ax.cap] h R:=
 XF ⟨[(7,8000)],[(3,[(18,.one (.int .i64))])],[]⟩ [.tmp 6] 39 Tryz.func49 H
end
end Go.X
end
section
namespace Go.X
open Go Go.Lib
section
theorem Vs{l:List Bt}{q:Bt}(h:q∉l):idxOfS l q<0:=by rcases oV q l 0 with⟨h1,_⟩|⟨k,_,b,c⟩;show idxFromS l q 0<0;omega;obtain⟨_,e⟩:=za0.1 c;exact absurd (e ▸ zay b) h
theorem UK{b:List Bt}{ys:List Tr}(m:b.Nodup)(e:b.length=ys.length)(q:Tr->Tr->Bool)(k:Bt)(x:Tr):kP b ys q k x=mj b ys q k x:=by
 unfold kP mj;by_cases h:k∈b;obtain⟨j,f,i,rfl,l,_⟩:=vV k b ys e h;rw[l,BZ m f];simp[h,i];have:=Vs h;have c:¬0<=idxOfS b k:=by omega
 simp only[h,decide_false,Bool.false_and];split <;> simp[c]
theorem KW{α:Type}{p q:α->Bool}{l:List α}(h:∀x∈l,p x=q x):l.all p=l.all q:=Z7 h
theorem AW:∀(n:Nat) (a b:Tr),bR a<=n->j7 zh a=Ta->j7 zh b=Ta->zj a b=iM a b
 |0,a,b,h,_,_=>by have:=Ja a;omega
 |n+1,a,b,hs,oa,ob=>by
  have na:=ye oa;have nb:=ye ob;rw[qC];by_cases h:a.kind=b.kind/\a.text=b.text/\a.items.length=b.items.length;obtain⟨h1,e,c⟩:=h;simp only[h1,e,c,decide_true,zcq];by_cases m:b.kind=6;have f:a.kind=6:=by omega
  rw[zb m];obtain⟨w,s⟩:=Z5 na f;obtain⟨t,lb⟩:=Z5 nb m;rw[Cw b _ _ s,za7,uT,<-Nk na nb f h1 e c];rw[KW (q:=λp=>mj b.keys b.items iM p.1 p.2)];intro p i;rw[UK t lb];unfold mj;by_cases o:p.1∈b.keys;obtain⟨j,x,u,y,r,_⟩:=vV p.1 b.keys b.items lb o;rw[r,AW n p.2 b.items[j] (by have:=yl (List.of_mem_zip (a:=p.1) (b:=p.2) i).2;omega) (zk oa (List.of_mem_zip (a:=p.1) (b:=p.2) i).2) (zk ob (zay u))];simp[o];rw[za m,Be _ _ c,za7,uT,<-NG (by omega) h1 e c];rw[KW (q:=λp=>iM p.1 p.2)];intro p i;have l:=List.of_mem_zip (a:=p.1) (b:=p.2) i;exact AW n p.1 p.2 (by have:=yl l.1;omega) (zk oa l.1) (zk ob l.2);have k:ze a≠ze b:=ZI na nb (by by_cases h1:a.kind=b.kind;by_cases e:a.text=b.text;exact .inr (.inr λc=>h ⟨h1,e,c⟩);exact .inr (.inl e);exact .inl h1);rw[qpa k];by_cases h1:a.kind=b.kind;by_cases e:a.text=b.text;have c:a.items.length≠b.items.length:=λc=>h ⟨h1,e,c⟩;simp[c];simp[e];simp[h1]
end
end Go.X
end
section
namespace Go.X
open Go Go.X Go.Proofs Go.Lib
section
variable {v:Tr} {M:Fr} {b:Nat}
def qu(v x:Tr):Int:=pz (zw (lb v.text)).1 (zw (lb x.text)).1
section
variable {gl : Fr}
theorem vD(h:jw v=Ta):bR v<=4096/\j7 zh v=Ta:=by unfold jw Z1 at h;simp only[zan,zA]at h;exact⟨h.1.1,h.2⟩
theorem FR(f:Sm v)(k:jw v=Ta){R:Tr->Prop}(h:R (ze v)):PC Tp gl 66 [Arg.mk .tree v] [.tree] R:=by
 intro c M vs m ag i
 match vs,i with
 |[u],⟨hu,_⟩=>have l:=vD k;exact PX.of ((zS (bR v) v (by omega) (zaf _) l.2 f c M u ag hu).go λw h' M' q L b e=>⟨M',q,L,b,by rw[e];exact h⟩)
theorem Cz(b:Sm v):(lb v.text).length<=1152921504606846976:=by have:=b.text;omega
theorem GJ{s:Bs}(b:s.length<=1152921504606846976):(iy s).1.2.1.length<=4611686018427387904:=Zn s b
theorem FE{r:(Bool×Bt×Int)×Bool}{w:Value}(h:Jl M [.pair .bool (.pair .str (.int .i64)),.bool] r w):w=.tuple #[.agg #[.bool r.1.1,.string r.1.2.1,.int .i64 r.1.2.2],.bool r.2]:=by
 obtain⟨vs,⟨n,rest,rfl,f,k,rfl,b⟩,rfl⟩:=h;have b:k=.bool r.2:=by have:=(W0 rfl).1 b;simpa[Rd]using this
 subst b;unfold RdV at f;simp only[gO,if_true]at f;obtain⟨cs,rfl,m,c2,rfl,h1,i,l,rfl,c,e⟩:=f;have h1:m=[.bool r.1.1]:=h1;have c:i=[.string r.1.2.1]:=c;have e:l=[.int .i64 r.1.2.2]:=e;subst h1 c e;rfl
theorem Hu(n:Bool×Bt×Int):RdV M (.pair .bool (.pair .str (.int .i64))) n (.agg #[.bool n.1,.string n.2.1,.int .i64 n.2.2]):=by unfold RdV;simp only[gO,if_true];exact⟨[.bool n.1,.string n.2.1,.int .i64 n.2.2],rfl,[.bool n.1],_,rfl,rfl,[.string n.2.1],_,rfl,rfl,rfl⟩
theorem Ha{h:zc}{cs:Array Value}(H:Blk h b cs)(f:cs.size=3)(x:Bool)(s:Bt)(i:Int){K:zc->Prop}
  (l:∀h':zc,Blk h' b #[.bool x,.string s,.int .i64 i]->h'.size=h.size->(∀j,j≠b->h'[j]?=h[j]?)->K h'):XRunU Tp (zag 78 (.pointer (Tc ⟨b,0,Td⟩)) (.agg #[.bool x,.string s,.int .i64 i])) h K:=
 Qz (vs:=[.bool x,.string s,.int .i64 i]) XM H rfl Rm (by rw[f];exact zaf _) (by intro u e;simp at e;rcases e with rfl|rfl|rfl <;> rfl) λh' c m k=>l h' (by rw[ue (by rw[f];rfl)]at c;exact c) m k
theorem qsg(x y z:Int):Rd (Mx M b #[.int .i64 x,.int .i64 y,.int .i64 z]) (.row (.int .i64)) [x,y,z] [aK ⟨Tc ⟨b,0,Td⟩,3,3⟩]:=by exact RowC.rd (t:=.int .i64) (xs:=[x,y,z]) (cells:=jJ [x,y,z]) (b:=b) (o:=0) (c:=3) (cs:=#[.int .i64 x,.int .i64 y,.int .i64 z]) (HJ _ [x,y,z]) (Y6 _ _ _) rfl ⟨by simp,by simp⟩
set_option maxHeartbeats 2000000 in
theorem Rj(hg:GL gl){a b:Tr}(ha:Sm a)(hb:Sm b)(kb:b.kind=3)(hk:b.keys=[]){R:Int->Prop}(h3:a.kind=3->R (qu a b))(aa:a.kind≠3->∀r,-1<=r->r<=1->R r):PC Tp gl 264 [Arg.mk .tree a,Arg.mk .tree b] [.int .i64] R:=by
 intro h M vs H ag B
 match vs,B with
 |[u1,u2],⟨E,u,_⟩=>
 have E:RdV M .tree a u1:=E;have u:RdV M .tree b u2:=u;obtain⟨sk,si,rfl,rk,ri⟩:=yj E;obtain⟨tk,ti,rfl,aj,aE⟩:=yj u;apply PX.of;apply VL a.kind a.text sk si b.kind b.text tk ti;intro h1 h2;obtain⟨k1,z1,B1⟩:=wq (g:=h1) rfl;obtain⟨k2,z2,Y⟩:=wq (g:=h2) rfl;clear_value h2;clear_value h1;have n:=B1.ofKeep k2;have I:Later h M h2 M:=Later.same ag (k1.trans k2 (by omega));refine⟨a.kind,n.cellAdd rfl,b.kind,λ_=>Y.cellAdd rfl,λA=>?_,λA=>?_⟩;have ka:a.kind=3:=by by_cases e:a.kind=3;exact e;simp[e]at A
 have ta:=Cz ha;have tb:=Cz hb;have d1:=Jb hg (s:=lb a.text) (R:=λr=>r=(ix (iy (lb a.text)).1,(iy (lb a.text)).2)) ta rfl;have d2:=Jb hg (s:=lb b.text) (R:=λr=>r=(ix (iy (lb b.text)).1,(iy (lb b.text)).2)) tb rfl;rw[jL]at d1 d2;refine⟨a.text,n.cellAdd rfl,d1.go (vs:=[.string a.text]) (H.trans I.le) I.ag (zi (rdStr _) zq) λw h7 M7 r L7 c o=>?_⟩;subst o;refine⟨_,_,_,_,FE c,?_⟩;intro Q;obtain⟨ax,aN,az⟩:=wq (g:=Q) rfl;clear_value Q;have z7:=L7.keep.size;refine Ha az rfl _ _ _ λt ai aB aA=>?_;have N:Keep h7.size h7 t:=⟨by omega,λj hj=>by rw[aA j (by omega)];exact ax.get j hj⟩;have G:Later h M t M7:=(I.trans L7).trans (Later.same L7.ag N);have ab:Blk t h1.size _:=(Y.keep (L7.keep.get h1.size (by omega))).keep (N.get _ (by omega));refine⟨b.text,ab.cellAdd rfl,d2.go (vs:=[.string b.text]) (H.trans G.le) G.ag (zi (rdStr _) zq) λw J au r p c o=>?_⟩;subst o;refine⟨_,_,_,_,FE c,?_⟩;intro S;obtain⟨ay,aG,ak⟩:=wq (g:=S) rfl;clear_value S;have aC:=p.keep.size;refine Ha ak rfl _ _ _ λD ae aJ an=>?_;have V:Keep J.size J D:=⟨by omega,λj hj=>by rw[an j (by omega)];exact ay.get j hj⟩;have F:Later h M D au:=(G.trans p).trans (Later.same p.ag V);have P:Blk D h7.size _:=(ai.keep (p.keep.get h7.size (by omega))).keep (V.get _ (by omega));refine⟨_,_,_,P.ld (cs:=[_,_,_]),_,_,_,ae.ld (cs:=[_,_,_]),?_⟩;refine(QC (gl:=gl) (a:=(iy (lb a.text)).1) (b:=(iy (lb b.text)).1) (GJ ta) (GJ tb) (R:=λr=>r=qu a b) rfl).go (H.trans F.le) F.ag (zi (Hu (ix (iy (lb a.text)).1)) (zi (Hu (ix (iy (lb b.text)).1)) zq)) λw aM ap r af c o=>?_;subst o;exact⟨_,lh c,ap,_,F.trans af,Y5.2 (Yb _ _),h3 ka⟩
 ·have ka:a.kind≠3:=λe=>by rw[e,kb]at A;cases A
  refine⟨a.kind,n.cellAdd rfl,b.kind,Y.cellAdd rfl,a.text,n.cellAdd rfl,b.text,Y.cellAdd rfl,sk,n.cellAdd rfl,tk,Y.cellAdd rfl,?_⟩;refine(C0 (gl:=gl) (x:=a.kind) (y:=b.kind) (R:=λr=>r=ik a.kind b.kind) rfl).go (H.trans I.le) I.ag (zi (Yb _ _) (zi (Yb _ _) zq)) λw aH aI r f c o=>?_;subst o;refine⟨_,lh c,f.keep.get _ (by show h1.size<_;omega),f.keep.get _ (by show h.size<_;omega),f.keep.get _ (by show h1.size<_;omega),f.keep.get _ (by show h.size<_;omega),?_⟩;have LA:=I.trans f;refine(ES (gl:=gl) (a:=a.text) (b:=b.text) (R:=λr=>r=gZ (lb a.text) (lb b.text)) rfl).go (H.trans LA.le) LA.ag (zi (rdStr _) (zi (rdStr _) zq)) λw k U r q c o=>?_;subst o;have aF:=f.keep.size;refine⟨_,lh c,(q.keep.get _ (by show h1.size<_;omega)).trans (f.keep.get _ (by show h1.size<_;omega)),(q.keep.get _ (by show h.size<_;omega)).trans (f.keep.get _ (by show h.size<_;omega)),?_⟩;have LB:=LA.trans q;apply zdq;apply ji;have lt:tk.len=0:=by have:=(rowLen aj).1;rw[hk]at this;exact this
  have m:ik a.kind b.kind≠0:=by unfold ik;split <;> (try split) <;> omega
  have aL:¬((0:Int)<((tk.len:Nat):Int)):=by rw[lt];omega
  have rg:=Cf a.kind b.kind;have fin:∀Z:Int,(let z:zc:=zb4 k (.cells #[.int .i64 (ik a.kind b.kind),.int .i64 (gZ (lb a.text) (lb b.text)),.int .i64 Z] 3);∀K:Value->zc->Prop,(∀M' g,Later h M g M'->K (.int .i64 (ik a.kind b.kind)) g)->XC Tp 319 #[.slice (Tc ⟨zax k,0,Td⟩) 3 3] z K):=λZ=>by intro z K hK;have LC:Later k U z (Mx U k.size #[.int .i64 (ik a.kind b.kind),.int .i64 (gZ (lb a.text) (lb b.text)),.int .i64 Z]):=Later.frz q.ag _ _;have LD:=LB.trans LC;refine(Ep (gl:=gl) (l:=[ik a.kind b.kind,gZ (lb a.text) (lb b.text),Z]) (by simp) (R:=λr=>r=ik a.kind b.kind) (by unfold mD;rw[zb m])).go (vs:=[aK ⟨Tc ⟨k.size,0,Td⟩,3,3⟩]) (H.trans LD.le) LD.ag (zi ((W0 rfl).2 (qsg _ _ _)) zq) λw ar ah r am c o=>?_;subst o;rw[lh c];exact hK ah ar (LD.trans am)
  have last:∀M' g,Later h M g M'->∃M' r,Later h M g M'/\Jl M' [.int .i64] r (.int .i64 (ik a.kind b.kind))/\R r:=λM' g L=>⟨M',_,L,Y5.2 (Yb _ _),aa ka _ (by omega) (by omega)⟩;refine⟨λi g=>i=0/\g=k,λ_ _=>0,⟨rfl,rfl⟩,?_⟩;rintro i g ⟨rfl,rfl⟩;refine⟨λA=>?_,λA=>⟨λC=>absurd (zB C) (by rw[lt];omega),λ_=>⟨0,rfl,0,rfl,fin 0 _ λM' g L=>⟨_,rfl,λ_=>last M' g L,λC=>by simp[m]at C⟩⟩⟩⟩;have O:0<a.keys.length:=by have:=(rowLen rk).1;simp at A;omega
  refine mJ LB.ag (Rd.mono LB.le rk) O rfl rfl ⟨λ_=>⟨1,rfl,1,rfl,fin 1 _ λM' g L=>⟨_,rfl,λ_=>last M' g L,λC=>by simp[m]at C⟩⟩,λC=>by simp[lt]at C⟩
end
end
end Go.X
end
section
namespace Go.X
section
abbrev km:Ty:=.pair (.row .str) .str
def fE(f:cR):El km:=(f.1,bl f.2)
abbrev FA:=List (cR×Sl)
def fC(p:cR×Sl):List Value:=[aK p.2,.string (bl p.1.2)]
theorem Tl:ElemT Tp 29 35 (.agg #[.slice Td 0 0,.string ⟨#[]⟩]) 2 40:=⟨by kernel_rfl,⟨Tryz.t35,by kernel_rfl,by kernel_rfl,by kernel_rfl,by kernel_rfl⟩,rfl,by omega⟩
def PB(lo:Nat)(h:zc)(M:Fr)(x:cR×Sl):Prop:=x.1.1≠[]->∃b,x.2.a=Tc ⟨b,0,Td⟩/\lo<=b/\M b≠Td/\∃cs,Blk h b cs
theorem PB.mono{lo f:Nat}{h h':zc}{M M':Fr}{x:cR×Sl}(H:PB lo h M x)(n:f<=lo)(le:Fr.le M M')(g:∀b cs,lo<=b->M b≠Td->Blk h b cs->h'[b]?=h[b]?):PB f h' M' x:=λe=>by
 obtain⟨b,l,m,k,cs,B⟩:=H e;refine⟨b,l,by omega,λi=>?_,cs,B.keep (g b cs m k B)⟩;cases e4:M b with
 |none=>exact k e4
 |some c=>rw[le _ _ e4]at i;cases i
structure FS (lo:Nat) (h:zc) (M:Fr) (na:FA) (sl:Sl):Prop where
 own:Owns h lo 35 2 sl (na.flatMap fC)
 fr:∀p,sl.a=Tc p->M p.block=Td
 nd:∀x∈na,Rd M (.row .str) x.1.1 [aK x.2]/\PB lo h M x
section
variable {lo : Nat} {h h' : zc} {M M' : Fr} {na nb : FA} {sl src : Sl}
theorem AQ:∀na:FA,(na.flatMap fC).length=na.length*2
 |[]=>rfl
 |p::na=>by rw[zb0,zat,AQ na,zbi];simp[fC];omega
theorem OQ:∀na:FA,∀u∈na.flatMap fC,u.oneCell'=Ta:=λna u b=>by obtain⟨p,_,h⟩:=zb5.1 b;simp[fC]at h;rcases h with rfl|rfl <;> rfl
theorem FF:∀(na:FA) (i:Nat) (hi:i<na.length) (q:Nat),q<2->(na.flatMap fC)[i*2+q]?=(fC na[i])[q]?
 |[],i,hi,_,_=>by simp at hi
 |p::na,0,hi,q,hq=>by rw[zb0,zc1 (by simp[fC];omega)];simp
 |p::na,i+1,hi,q,hq=>by rw[zb0,zcm (by simp[fC];omega),List.getElem_cons_succ,<-FF na i (by simpa using hi) q hq];congr 1;simp[fC];omega
theorem FS.len(H:FS lo h M na sl):sl.len=na.length:=by have:=H.own.length;rw[AQ]at this;omega
theorem FS.nil:FS lo h M [] ⟨Td,0,0⟩:=⟨Owns.nil _ _ _ _,λp b=>(nomatch b),λx c=>(nomatch c)⟩
theorem FS.frame(H:FS lo h M na sl)(f:∀p,sl.a=Tc p->h'[p.block]?=h[p.block]?)(le:Fr.le M M')(e:∀p,sl.a=Tc p->M' p.block=Td)(g:∀b cs,lo<=b->M b≠Td->Blk h b cs->h'[b]?=h[b]?):FS lo h' M' na sl:= ⟨H.own.keep f,e,λx c=>⟨Rd.mono le (H.nd x c).1,(H.nd x c).2.mono (zaf _) le g⟩⟩
theorem FS.call(H:FS lo h M na sl)(L:Later h M h' M'):FS lo h' M' na sl:= H.frame (λp c=>L.keep.get _ (H.own.base_le p c).2) L.le (λp c=>by rw[L.old _ (H.own.base_le p c).2];exact H.fr p c) λb cs _ _ B=>L.keep.get b B.lt
theorem FS.app{ty:TypeId}(H:FS lo h M na sl){n:Nat}(C:Arr n h src.a (nb.flatMap fC))(z:src.len=nb.length)(k:∀x∈nb,Rd M (.row .str) x.1.1 [aK x.2]/\PB lo h M x)(ag:AgM M h)(s:lo<=h.size)(F:na.length+nb.length<=1000000000){K:Value->zc->Prop} (w:∀(s':Sl) (h':zc),FS lo h' M (na++nb) s'->AgM M h'->h.size<=h'.size->(∀j,j<h.size->(∀p,sl.a=Tc p->j≠p.block)->h'[j]?=h[j]?)->(∀l,s'.a=Tc l->(∃p,sl.a=Tc p/\l.block=p.block)\/l.block=h.size)->K (.slice s'.a s'.len s'.cap) h'):
  Qa Tp (zav #[29,29] ty #[.slice sl.a sl.len sl.cap,.slice src.a src.len src.cap]) h K:=by
 have A:=H.len;refine Zk Tl H.own C (by rw[AQ,z]) (OQ nb) (by omega) (by omega) s λs' h' G y r E t=>?_;have q:AgM M h':=λb c e=>by obtain⟨T,m,e'⟩:=ag b c e;exact⟨T,m,by rw[r b (ag.lt e) λp i u=>by rw[u,H.fr p i]at e;cases e];exact e'⟩
 refine w s' h' ⟨by rw[List.flatMap_append];exact y,λl o=>?_,λx f=>?_⟩ q E r t;rcases t l o with⟨p,i,e⟩|e;rw[e];exact H.fr p i;rw[e];exact ag.none (zaf _);have st:∀b cs,lo<=b->M b≠Td->Blk h b cs->h'[b]?=h[b]?:=λb cs _ D B=>r b B.lt λp i e=>D (by rw[e];exact H.fr p i)
 rcases zaz.1 f with f|f;exact⟨(H.nd x f).1,(H.nd x f).2.mono (zaf _) (Fr.le.refl _) st⟩;exact⟨(k x f).1,(k x f).2.mono (zaf _) (Fr.le.refl _) st⟩
theorem FS.arr(H:FS lo h M na sl):Arr h.size h sl.a (na.flatMap fC):=H.own.arr
theorem FS.rd(H:FS lo h M na sl)(ag:AgM M h)(A:na.length<=1000000000):∃bs:List Nat,(∀b∈bs,lo<=b/\b<h.size)/\Rd (MxL M h bs) (.row km) (na.map λx=>fE x.1) [aK sl]:=by
 have o:=H.len;by_cases h0:na=[];subst h0;refine⟨[],λb m=>(nomatch m),_,rfl,sl.a,sl.cap,by rw[aK,o];rfl,⟨by simp,by simp⟩,.inl rfl⟩;have z:=zbo.2 h0;rcases H.own.2 with⟨n,hz⟩|⟨g,cap,c,n,l,t,y,p,s,f⟩;omega;simp only[zbg]at n;obtain⟨w,C,B⟩:=n;have r:Blk h g c:=⟨_,t⟩;refine⟨[g],λb m=>by rw[zbm.1 m];exact⟨l,r.lt⟩,_,rfl,sl.a,sl.cap,by rw[aK,o,zaw],⟨by rw[zaw];omega,by rw[zaw];omega⟩,.inr ⟨g,0,c,w,MxL.at (by simp) r,λi hi=>?_⟩⟩;have k:i<na.length:=by simpa using hi
 have p:na[i]∈na:=zay k;rw[za5,zdu];have e:cut c (i*sz km) (sz km)=fC na[i]:=by show cut c (i*2) 2=_;refine pU (by simp[fC]) λq u=>?_;rw[<-FF na i k q u,<-f,zba,zb (by omega)]
 rw[e];exact⟨[aK na[i].2],[.string (bl na[i].1.2)],rfl,Rd.mono (lN ag [g]) (H.nd _ p).1,rfl⟩
end
end
end Go.X
end
section
namespace Go.X
open Go Go.X Go.Proofs Go.Lib
section
variable {v x:Tr} {n:Nat}
structure Ok (v:Tr):Prop where
 s:Sm v
 o:jw v=Ta
section
variable {gl : Fr}
theorem Ok.sz(h:Ok v):bR v<=4096:=(vD h.o).1
theorem Ok.nd(h:Ok v):j7 zh v=Ta:=(vD h.o).2
theorem Ok.dp(h:Ok v):bK v<=32:=by have h:=h.o;unfold jw Z1 at h;simp only[zan,zA]at h;exact h.1.2
theorem Ok.item(h:Ok v)(b:x∈v.items):Ok x:=by refine⟨h.s.item b,?_⟩;have h1:=yl b;have e:=xm b;have c:=zk h.nd b;have f:=h.sz;have i:=h.dp;unfold jw Z1;simp only[zan,zA];exact⟨⟨by omega,by omega⟩,c⟩
theorem Ok.items(h:Ok v):v.items.length<=4096:=by have h1:=h.sz;have b:=J4 v.items;rw[Y9]at h1;omega
theorem Ok.keys(h:Ok v):v.keys.length<=v.items.length:=by have c:=ye h.nd;by_cases b:v.kind=6;have:=(Z5 c b).2;omega;rw[oy c b];exact zbn _
theorem sP(b:Sm v)(h:zy v=Ta):Ok v:=⟨b,Qq h⟩
theorem yA{y u:Tr}{p:List Bt}(c:Ok y)(b:Ok u):(zm zj qu n y u p).length<=16777216:=by have:=nz (same:=zj) (cmp:=qu) n y u p c.nd b.nd;have:bR y*bR u<=4096*4096:=Nat.mul_le_mul c.sz b.sz;omega
theorem FN{s x v:Tr}{w:Bs}{p:List Bt}(c:Ok x)(b:Ok v):(J7 zj qu (zm zj qu n) s w x v p).length<=16777216:=by have:=F1 (same:=zj) (cmp:=qu) (fl:=zm zj qu n) (s:=s) (w:=w) (p:=p) b.keys (λy e p=>nz n x y p c.nd (b.item e).nd) (λz hz y e p=>nz n z y p (c.item hz).nd (b.item e).nd) (λz hz p=>nz n z v p (c.item hz).nd b.nd);have:bR x*bR v<=4096*4096:=Nat.mul_le_mul c.sz b.sz;omega
end
end
section
variable {α:Type} {k:Nat}
section
variable {gl : Fr}
theorem I7{l:List α}(h:k<l.length):l.take (k+1)=l.take k++[l[k]]:=zar h
theorem Xj{f:α->List cR}{l:List α}(h:k<l.length):(l.take (k+1)).flatMap f=(l.take k).flatMap f++f l[k]:=by rw[I7 h,List.flatMap_append];simp
theorem NR{f:α->List cR}{l:List α}(e:∀x∈l,(f x).length<=16777216):∀k,((l.take k).flatMap f).length<=k*16777216:=λk=>by
 have:∀m:List α,(∀x∈m,(f x).length<=16777216)->(m.flatMap f).length<=m.length*16777216:=λm=>by
  induction m with
  |nil=>simp
  |cons a m i=>intro h;have h1:=i λx b=>h x (zal _ b);have c:=h a zaq;rw[zb0,zat,zbi];omega
 have h1:=this (l.take k) λx b=>e x (List.mem_of_mem_take b);have c:(l.take k).length<=k:=by rw[zcr];exact Nat.min_le_left _ _
 exact zbx h1 (za2 _ c)
theorem Xk{p:α->Bool}{l:List α}(h:k<l.length):(l.take (k+1)).filter p=(l.take k).filter p++(if p l[k]=Ta then [l[k]]else []):=by rw[I7 h,List.filter_append];congr 1;simp only[zc4,List.filter_nil]
theorem wM{p:α->Bool}{l:List α}(k:Nat):((l.take k).filter p).length<=k:=zbx (List.length_filter_le _ _) (by simp;omega)
end
end
section
variable {s v:Tr} {w:Bt} {n k:Nat}
section
variable {gl : Fr}
theorem UC(c:Ok s)(h:0<=idxOfS s.keys w):∃(b:(idxOfS s.keys w).toNat<s.items.length),jh s w=Tc s.items[(idxOfS s.keys w).toNat]:=by
 have b:(idxOfS s.keys w).toNat<s.items.length:=by
  have:=c.keys;have e:idxOfS s.keys w=(((idxOfS s.keys w).toNat:Nat):Int):=by omega
  have:=(za0.1 (Ez e)).1;omega
 refine⟨b,?_⟩;unfold jh;rw[zb h,zaj b]
theorem ZW(h:¬0<=idxOfS s.keys w):jh s w=Td:=by unfold jh;rw[za h]
def gW(n:Nat)(s v:Tr)(p:List Bt)(k:Nat):List cR:=(sWords.take k).flatMap λw=>(jh s (bl w)).elim [] λx=>J7 zj qu (zm zj qu n) s w x v p
theorem SS{s v x:Tr}{p:List Bt}(b:k<sWords.length)(h:jh s (bl sWords[k])=Tc x):gW n s v p (k+1)=gW n s v p k++J7 zj qu (zm zj qu n) s sWords[k] x v p:=by unfold gW;rw[Xj b,h];rfl
theorem Sq{p:List Bt}(b:k<sWords.length)(h:jh s (bl sWords[k])=Td):gW n s v p (k+1)=gW n s v p k:=by unfold gW;rw[Xj b,h];simp
theorem Rl{p:List Bt}(c:Ok s)(b:Ok v)(k:Nat):(gW n s v p k).length<=k*16777216:=
 NR (λw e=>by
  cases hk:jh s (bl w)with
  |none=>exact zbn _
  |some x=>exact FN (c.item (yf hk)) b) k
def gU(s v:Tr):List cR×Int:=if Yp s=Ta/\zy v=Ta then(zm zj qu (bK s) s v [],0)else([],1)
theorem wx(s v:Tr):fitsT zj qu s v=(decide ((gU s v).2=0)&&decide ((gU s v).1.length=0)):=by unfold fitsT gU;by_cases h1:Yp s=Ta;by_cases b:zy v=Ta;rw[zb ⟨h1,b⟩,h1,b];cases zm zj qu (bK s) s v [] <;> simp;rw[za (λe=>b e.2)];simp[b];rw[za (λe=>h1 e.1)];simp[h1]
end
end
end Go.X
end
section
namespace Go.X
open Go Go.X Go.Proofs Go.Lib Go.RowKit
section
variable {R:Bool -> Prop} {s:Bt} {v:Tr} {h:zc}
section
variable {gl : Fr}
theorem Dg{xs:List Bt}{x:Bt}(h:R (decide (0<=idxOfS xs x))):PC Tp gl 56 [Arg.mk (.row .str) xs,Arg.mk .str x] [.bool] R:=by
 intro l M vs y ag k
 match vs,k with
 |[u,v],⟨h1,h2,_⟩=>
  have i:Rd M (.row .str) xs [u]:=by simpa[RdV,gO]using h1
  have c:v=.string x:=by simpa[RdV,gO,Rd]using h2
  subst c;obtain⟨s,rfl,f,A,cells,t,k⟩:=Rd.rowC ag i;have:=CZ t;subst this;have key:∀w:World,w.heap=l->Calls Tp 56 #[aK s,.string x] w λe w'=>e=.returned (.bool (decide (0<=idxOfS xs x)))/\w'=w:=by
   intro w n;rcases k with h0|⟨b,o,q,z,r⟩;have p:xs=[]:=by simpa using h0
   subst p;have:=Q3 s.a s.cap x w;simp only[aK,f];exact this;have:=Xf b o s.len s.cap xs x w (by omega) (by omega) (λj m=>by have:=r j (.string (xs.getD j zeh)) (by rw[zbu,zaj m,zdl,zaj m];rfl);rw[<-n]at this;exact this);rw[f,zbw]at this;simp only[aK,q,f];exact this
  refine XC.of_calls λB d=>(key (mk B d l) rfl).mono ?_;rintro e w' ⟨rfl,rfl⟩;exact⟨_,rfl,rfl,rfl,rfl,Keep.refl _ _,M,_,Fr.le.refl _,λ_ _=>rfl,ag,v6 _,h⟩
theorem NI(w:World)(s:Bt)(p:Nat):Below w.heap.size w (w.iter s p):=⟨rfl,rfl,rfl,by show w.heap.size<=(w.heap.push _).size;rw[zau];exact Nat.le_succ _,λi hi=>by show(w.heap.push _)[i]?=_;rw[zea,za (by omega)]⟩
theorem Rx(f:s.size<9223372036854775807){R:Int->Prop}(h:R (runeCount s)):PC Tp gl 276 [Arg.mk .str s] [.int .i64] R:= PC.of_scal rfl (λ_=>sX _ _) h λw i=>(Xe s w f).mono λe w' ⟨c,p,b⟩=>⟨c,b ▸ NI w s p⟩
theorem xS(f:Ok v){key:Bt}{R:Tr×Bool->Prop}(h:R ((jh v key).getD (.mk 0 ⟨#[]⟩ [] []),(jh v key).isSome)):PC Tp gl 90 [Arg.mk .tree v,Arg.mk .str key] [.tree,.bool] R:=by apply OE;simp only[xb];refine IU ⟨λb=>?_,λb=>?_⟩;have b:idxOfS v.keys key<0:=zB b;rw[ZW (by omega)]at h;exact h;have b:¬idxOfS v.keys key<0:=zC b;obtain⟨c,e⟩:=UC f (w:=key) (by omega);rw[e]at h;exact⟨v.items[(idxOfS v.keys key).toNat],⟨by omega,zaj c⟩,h⟩
theorem Mc(c:Ok v)(b:v.kind=3):(zw (lb v.text)).2=0:=by have:=ye c.nd;unfold zh at this;simp[b,iy]at this;exact this.1.1.1
def tg(v:Tr):Int×Bool:=if v.kind=3 then((ww v).1,(ww v).2&&decide (0<=(ww v).1))else(0,Tb)
theorem IK(n:GL gl)(l:Ok v){R:Int×Bool->Prop}(h:R (tg v)):PC Tp gl 167 [Arg.mk .tree v] [.int .i64,.bool] R:=by
 apply VW;have k:=Cz l.s;have i:=sN (gl:=gl) (s:=lb v.text) k (R:=λr=>r=(ix (zw (lb v.text)).1,(zw (lb v.text)).2)) rfl;rw[jL]at i;refine i.mono λr m=>?_;subst m;unfold tg at h;by_cases c:v.kind=3;rw[zb c]at h;rw[Mc l c,c];refine⟨λf=>(nomatch f),λ_=>EB n (Zn _ k) ?_⟩;have e:∀b:Bool,(bif b then(decide ((oD (zw (lb v.text)).1).1>=0))else Tb)=(b&&decide (0<=(oD (zw (lb v.text)).1).1)):=λb=>by cases b <;> rfl
 rw[e];exact h;rw[za c]at h;have e:(v.kind != 3)=Ta:=by simpa using c
 rw[e];exact⟨λ_=>h,λf=>(nomatch f)⟩
theorem MH(m:Sm v){R:Int×Bool->Prop}(h:R (if wy v<0 then(0,Tb)else(wy v,Ta))):PC Tp gl 220 [Arg.mk .tree v] [.int .i64,.bool] R:=by
 apply MU;have l:=m.text;rw[qB]at l;unfold wy at h;simp only[jH];refine⟨λe=>Rx (by omega) ?_,λe=>?_⟩;have e:v.kind=4:=zB e;have b:¬(v.kind=5\/v.kind=6):=by omega
 simp only[za b,zb e]at h;rw[za (by omega)]at h;exact h;have e:¬v.kind=4:=zC e;intro K i;refine⟨λc=>i _ ⟨λ_=>?_,λk=>by rw[k]at c;cases c⟩,λc=>i _ ⟨λf=>?_,λf=>?_⟩⟩;have c:v.kind=5:=zB c;have b:v.kind=5\/v.kind=6:=.inl c;simp only[zb b]at h;rw[za (by omega)]at h;exact h;have f:v.kind=6:=zB f;have b:v.kind=5\/v.kind=6:=.inr f;simp only[zb b]at h;rw[za (by omega)]at h;exact h;have c:¬v.kind=5:=zC c;have f:¬v.kind=6:=zC f;have b:¬(v.kind=5\/v.kind=6):=by omega
 simp only[za b,za e]at h;rw[zb (by omega)]at h;exact h
def kindC:List Value:=((⟨#[]⟩:Bt)::sKinds.map bl).map za1
theorem Rv:qo Tp 224=Ta:=by kernel_rfl
theorem ZC:ya Tp 224=7:=by kernel_rfl
theorem Dq{b:Nat}{cs:Array Value}(H:Blk h b cs)(f:cs.size=7){K:zc->Prop}
  (k:∀h':zc,Blk h' b kindC.toArray->h'.size=h.size->(∀j,j≠b->h'[j]?=h[j]?)->K h'):XRunU Tp (zag 224 (.pointer (Tc ⟨b,0,Td⟩)) (.agg kindC.toArray)) h K:=
 Qz (vs:=kindC) Rv H rfl ZC (by rw[f];exact zaf _) (by intro u e;simp[kindC,sKinds]at e;rcases e with rfl|rfl|rfl|rfl|rfl|rfl|rfl <;> rfl) λh' c l i=>k h' (by rw[ue (by rw[f];rfl)]at c;exact c) l i
theorem qmc{K:Value->zc->Prop}(i:∀g,Keep h.size h g->K (.agg kindC.toArray) g):XC Tp 228 #[] h K:=by apply zod;intro h1;obtain⟨e,n,l⟩:=wq (g:=h1) rfl;clear_value h1;refine Dq l rfl λb k m c=>?_;have k2:Keep h.size h b:=⟨by omega,λj f=>by rw[c j (by omega)];exact e.get j f⟩;exact⟨_,_,_,_,_,_,_,k.ld (cs:=[_,_,_,_,_,_,_]),i b k2⟩
theorem EI{R:Int->Prop}(h:R (kW (lb s))):PC Tp gl 166 [Arg.mk .str s] [.int .i64] R:=by
 intro p M vs O ag L
 match vs,L with
 |[u],⟨h1,_⟩=>
  have D:=Za h1;subst D;apply PX.of;apply V5 s;refine qmc λg t=>⟨_,_,_,_,_,_,_,rfl,?_⟩;intro o;obtain⟨x,H,B⟩:=wq (g:=o) rfl;clear_value o;refine Dq B rfl λf C N z=>?_;have w:Keep p.size p f:=⟨by have:=t.size;omega,λj J=>by have:=t.size;rw[z j (by omega)];exact(x.get j (by omega)).trans (t.get j J)⟩;have y:Later p M f M:=Later.same ag w;rw[qdf]at h;have I:(sKinds.map bl).length=6:=rfl;have E:∀k (A:k<(sKinds.map bl).length),kindC.toArray[0+(k+1)*1]?=Tc (.string (sKinds.map bl)[k]):=λk A=>by rw[za5,zdc,zc9];unfold kindC;rw[zbh,List.getElem?_cons_succ,zbu,zaj A];rfl
  generalize sKinds.map bl=l at h I E;have fin:∀i:Int,i=idxOfS l s+1->∃M' r,Later p M f M'/\Jl M' [.int .i64] r (.int .i64 i)/\R r:=λi hi=>⟨M,_,y,Y5.2 (Yb _ _),by rw[hi];exact h⟩;refine⟨λi g'=>∃k:Nat,i=k/\k<=7/\g'=f/\(k=0\/idxOfS l s=idxFromS (l.drop (k-1)) s (k-1)),λi _=>7-i.toNat,⟨0,rfl,zbn _,rfl,.inl rfl⟩,?_⟩;rintro i g' ⟨k,rfl,A,rfl,e⟩;refine⟨λm=>?_,λm=>?_⟩;have c:k<7:=by simp at m;omega
  rcases zdk k with rfl|G;refine⟨⟨0,0,Td⟩,λb=>by simp at b,⟨#[]⟩,λb=>by simp at b,λb=>by simp at b,λ_=>?_⟩;rw[Ze c (by omega)];exact⟨⟨1,rfl,by omega,rfl,.inr rfl⟩,by simp only[zao];omega⟩;obtain⟨q,rfl⟩:∃q,k=q+1:=⟨k-1,by omega⟩;have F:q<l.length:=by omega
  have e:idxOfS l s=idxFromS (l.drop q) s q:=by rcases e with e|e;omega;simpa using e
  rw[To F]at e;have n:decide (((q+1:Nat):Int)>0)=Ta:=zD (by omega);refine⟨⟨g.size,0,Td⟩,λ_=>⟨rfl,by omega,by omega⟩,l[q],λ_=>?_,λb=>?_,λb=>?_⟩;rw[zao,qy];exact C.cell (E q F);rw[n,AP]at b;rw[zb (by simpa using b)]at e;exact fin _ (by rw[e];omega);rw[n,AP]at b;rw[za (by simpa using b)]at e;rw[Ze c (by omega)];exact⟨⟨q+2,rfl,by omega,rfl,.inr (by simpa using e)⟩,by simp only[zao];omega⟩;have c:k=7:=by simp at m;omega
  subst c;refine fin _ ?_;rcases e with e|e;omega;have e:idxOfS l s=idxFromS (l.drop 6) s 6:=e;rw[zci (by omega),idxFromS]at e;omega
theorem PP(h:R (v.items.all λx=>decide (x.kind=4))):PC Tp gl 168 [Arg.mk .tree v] [.bool] R:=by
 intro l M vs m ag r
 match vs,r with
 |[u],⟨e,_⟩=>
  have e:RdV M .tree v u:=e;obtain⟨sk,si,rfl,B,q⟩:=yj e;apply PX.of;apply Ps v.kind v.text sk si;intro h1;obtain⟨k,z,n⟩:=wq (g:=h1) rfl;clear_value h1;have i:Later l M h1 M:=Later.same ag k;refine⟨si,n.cellAdd rfl,?_⟩;refine(sy (gl:=gl) (A:=#[]) (C:=#[]) i.ag q (p:=λx=>!decide (x.kind=4)) (λx t=>⟨by kernel_rfl,λh' M' u L e=>?_⟩)).go λw y s b o c f=>⟨b,dK c,s,_,i.trans o,Y5.2 (rdBool _),?_⟩;refine PC.px (gl:=gl) (args:=[Arg.mk .tree x]) (vs:=[u]) (Su gl x _ ?_) (m.trans L.le) L.ag (zi e zq);show(x.kind != 4)=!decide (x.kind=4);rw[bne,jH];have f:b=v.items.any λx=>!decide (x.kind=4):=f;rw[f];have:(!v.items.any λx=>!decide (x.kind=4))=v.items.all λx=>decide (x.kind=4):=by rw[List.all_eq_not_any_not]
  rw[this];exact h
variable {r : Tr -> Bool}
theorem yS(n:∀x∈v.items,∀{R:Bool->Prop},R (r x)->PC Tp gl 52 [Arg.mk .tree x] [.bool] R)(h:R (v.items.all r)):PC Tp gl 169 [Arg.mk .tree v] [.bool] R:=by
 intro l M vs m ag y
 match vs,y with
 |[u],⟨e,_⟩=>
  have e:RdV M .tree v u:=e;obtain⟨sk,si,rfl,E,t⟩:=yj e;apply PX.of;apply PE v.kind v.text sk si;intro h1;obtain⟨k,D,o⟩:=wq (g:=h1) rfl;clear_value h1;have i:Later l M h1 M:=Later.same ag k;refine⟨si,o.cellAdd rfl,?_⟩;refine(sy (gl:=gl) (A:=#[]) (C:=#[]) i.ag t (p:=λx=>!r x) (λx q=>⟨by kernel_rfl,λh' M' u L e=>?_⟩)).go λw B z b s c f=>⟨b,dK c,z,_,i.trans s,Y5.2 (rdBool _),?_⟩;refine PC.px (gl:=gl) (args:=[Arg.mk .tree x]) (vs:=[u]) (zfy gl x _ ?_) (m.trans L.le) L.ag (zi e zq);rw[xb];exact n x q rfl;have f:b=v.items.any λx=>!r x:=f;rw[f];have:(!v.items.any λx=>!r x)=v.items.all r:=by rw[List.all_eq_not_any_not]
  rw[this];exact h
theorem Si(hg:GL gl)(hv:Ok v)(L:∀{R:Bool->Prop},R (r v)->PC Tp gl 52 [Arg.mk .tree v] [.bool] R)
  (N:∀x∈v.items,∀{R:Bool->Prop},R (r x)->PC Tp gl 52 [Arg.mk .tree x] [.bool] R) {q:Bt} (h:R (Yg r (lb q) v)):PC Tp gl 96 [Arg.mk .str q,Arg.mk .tree v] [.bool] R:=by
 apply RS;simp only[m4,xb];have l:∀{k:Int} {f:FuncId} {b:Bool},(∀{R:Bool->Prop},R b->PC Tp gl f [Arg.mk .tree v] [.bool] R)->R (decide (v.kind=k)&&b)->∃J:Bool->Prop,((v.kind==k)=Ta->PC Tp gl f [Arg.mk .tree v] [.bool] J)/\∀x:Bool,((v.kind==k)=Ta->J x)->R (bif (v.kind==k)then x else Tb):=λ {k f b} hf Z=>by refine⟨λx=>x=b,λ_=>hf rfl,λx y=>?_⟩;rw[jH]at y ⊢;by_cases e:v.kind=k;have:=y (by simpa using e);rw[this];simpa[e]using Z;simpa[e]using Z
 refine⟨λQ=>?_,λV=>⟨λu=>?_,λY=>?_⟩⟩;have Q:lb q=iK:=zB Q;rw[Q,qg1]at h;refine⟨λx=>x=kW (lb v.text),λ_=>EI rfl,λx y=>?_⟩;rw[jH]at y ⊢;by_cases e:v.kind=4;rw[y (by simpa using e)];simpa[e]using h;simpa[e]using h;have u:lb q=jA:=zB u;rw[u,Mh]at h;rw[jH];exact h;intro K c;have V:lb q≠iK:=zC V;have Y:lb q≠jA:=zC Y;have yes:(lb q=xw\/lb q=iF)->R (v.kind==3):=λe=>by rw[jH];rcases e with e|e;rw[e,KN]at h;exact h;rw[e,Ex]at h;exact h
 refine⟨λS=>c _ ⟨λ_=>yes (.inl (zB S)),λf=>by rw[f]at S;cases S⟩,λD=>c _ ⟨λe4=>yes (.inr (zB e4)),λF=>?_⟩⟩;have D:lb q≠xw:=zC D;have F:lb q≠iF:=zC F;intro K c;have yes:(lb q=xx\/lb q=jY)->PC Tp gl 167 [Arg.mk .tree v] [.int .i64,.bool] (λU:Int×Bool=>R U.2):=λe=>by
  refine IK hg hv ?_;have u:Yg r (lb q) v=(decide (v.kind=3)&&((ww v).2&&decide (0<=(ww v).1))):=by rcases e with e|e;rw[e,Ff];rw[e,Ib]
  rw[u]at h;unfold tg;by_cases z:v.kind=3;rw[zb z];simpa[z]using h;rw[za z];simpa[z]using h
 refine⟨λA=>c _ ⟨λ_=>yes (.inl (zB A)),λf=>by rw[f]at A;cases A⟩,λB=>c _ ⟨λe6=>yes (.inr (zB e6)),λI=>?_⟩⟩;have B:lb q≠xx:=zC B;have I:lb q≠jY:=zC I;refine⟨λC=>?_,λM=>⟨λO=>?_,λP=>?_⟩⟩;have C:lb q=jr:=zB C;rw[C,Tu]at h;exact l (λ {R} h=>PP h) h;have O:lb q=jg:=zB O;rw[O,z7b]at h;rw[jH];exact h;have M:lb q≠jr:=zC M;have P:lb q≠jg:=zC P;intro K c;have yes:(lb q=je\/lb q=iY)->PC Tp gl 52 [Arg.mk .tree v] [.bool] (λw:Bool=>R w):=λe=>by refine L ?_;rcases e with e|e;rw[e,Ih]at h;exact h;rw[e,GD]at h;exact h
 refine⟨λE=>c _ ⟨λ_=>yes (.inl (zB E)),λf=>by rw[f]at E;cases E⟩,λG=>c _ ⟨λH=>yes (.inr (zB H)),λn=>?_⟩⟩;have G:lb q≠je:=zC G;have n:lb q≠iY:=zC n;refine⟨λm=>?_,λp=>?_⟩;have m:lb q=zr:=zB m;rw[m,E8]at h;exact l (λ {R} h=>yS N h) h;have p:lb q≠zr:=zC p;intro K c;refine⟨λi=>c _ ⟨λ_=>?_,λf=>by rw[f]at i;cases i⟩,λs=>c _ ⟨λo=>?_,λt=>?_⟩⟩;have i:lb q=hX:=zB i;rw[i,F6]at h;exact l (λ {R} h=>yS N h) h;have o:lb q=hO:=zB o;rw[o,Fc]at h;exact l (λ {R} h=>yS N h) h;have s:lb q≠hX:=zC s;have t:lb q≠hO:=zC t;rw[OO (Mq V Y D F B I M P G n p s t)]at h;exact h
theorem Bb(q:GL gl):∀(n:Nat) (v:Tr),bK v<=n->Ok v->∀{R:Bool->Prop},R (qb n v)->PC Tp gl 52 [Arg.mk .tree v] [.bool] R
 |0,v,hd,_,_,_=>by have:=W8 v;omega
 |n+1,v,hd,hv,R,h=>by
  apply Nu;have m:=hv.keys;have x:=hv.items;rw[qb]at h;refine⟨λi=>∃k:Nat,i=k/\k<=v.keys.length/\((v.keys.take k).zip (v.items.take k)).all (λp=>Yg (qb n) (lb p.1) p.2)=Ta,λi=>v.keys.length-i.toNat,⟨0,rfl,by omega,by simp⟩,?_⟩;rintro i ⟨k,rfl,w,f⟩;refine⟨λt=>?_,λt=>?_⟩;have b:k<v.keys.length:=by simp at t;omega
  have c:k<v.items.length:=by omega
  refine⟨v.keys[k],⟨by omega,by simp⟩,v.items[k],⟨by omega,tj c⟩,?_⟩;rw[xb];have l:v.items[k]∈v.items:=zay c;have o:bK v.items[k]<=n:=by have:=xm l;omega
  refine Si (r:=qb n) q (hv.item l) (λ {R} h=>Bb q n _ o (hv.item l) h) (λy u {R} h=>Bb q n y (by have:=xm u;omega) ((hv.item l).item u) h) ⟨λs=>?_,λs=>?_⟩;have hz:(v.keys.zip v.items).all (λp=>Yg (qb n) (lb p.1) p.2)=Tb:=by rw[List.all_eq_false];exact⟨(v.keys[k],v.items[k]),zd8.2 ⟨k,by simp;omega,by simp⟩,by simpa using s⟩
  rw[hz,Bool.and_false]at h;exact h;rw[Ze b (by omega)];refine⟨⟨k+1,rfl,by omega,?_⟩,by grind⟩;rw[qdk b c,f,zcq];simpa using s;have b:k=v.keys.length:=by simp at t;omega
  subst b;have e:(v.keys.take v.keys.length).zip (v.items.take v.keys.length)=v.keys.zip v.items:=by rw[@List.zip_eq_zip_take_min _ _ v.keys v.items,zeg m,zbw]
  rw[e]at f;rw[f,zed]at h;rw[jH];exact h
theorem td(b:GL gl)(c:Sm v)(h:R (Yp v)):PC Tp gl 17 [Arg.mk .tree v] [.bool] R:=by
 apply zn6;rw[xb];unfold Yp at h;refine vu b c ⟨λr=>r=qb (bK v) v,λh1=>Bb b _ v (zaf _) (sP c h1) rfl,λx e=>?_⟩;cases h1:zy v with
 |false=>rw[h1]at h;exact h
 |true=>rw[h1]at h e;rw[e rfl];exact h
end
end
section
variable {h:zc} {K:Value -> zc -> Prop}
theorem XQ{n:Nat}(A:n<=2000000)
  (t:∀(g:zc) (s':Sl),Keep h.size h g->s'.len=0->Owns g h.size 9 1 s' []->K (aK s') g):XC Tp 337 #[.slice Td 0 0,.int .i64 (n:Int)] h K:=by
 apply Yq ⟨Td,0,0⟩ (n:Int);intro z p;have x:zaa .i64 (((0:Nat):Int)-((0:Nat):Int))=0:=by rw[wrap64 (by omega) (by omega)];rfl
 have y:zaa .i64 ((n:Int)-0)=(n:Int):=by rw[wrap64 (by omega) (by omega)];omega
 refine⟨λl=>absurd (zB l) (by omega),λ_=>p h ?_⟩;show(decide (zaa .i64 ((n:Int)-zaa .i64 (((0:Nat):Int)-((0:Nat):Int)))>0)=Ta->_)/\(decide (zaa .i64 ((n:Int)-zaa .i64 (((0:Nat):Int)-((0:Nat):Int)))>0)=Tb->_);rw[x,y];refine⟨λl=>?_,λl=>t h ⟨Td,0,0⟩ (Keep.refl _ _) rfl (Owns.nil _ _ _ _)⟩;have h0:0<n:=by have:=zB l;omega
 refine⟨.inl rfl,⟨by omega,by omega,by omega,by omega⟩,?_⟩;intro B d;obtain⟨i,hi,hz,e,f⟩:=elemStr.info;have b:(zc3 i.size 0 (.slice Td 0 0)).run Tp (mk B d h).drew=.ok (([]:List Value)).toArray (mk B d h).drew:=by rw[e];exact Qx (s:=⟨Td,0,0⟩) (n:=h.size) (.inl rfl) rfl (by omega) B (d+1)
 have u:=Lib.run_append_grow_zeros (P:=Tp) (mk B d h) 22 3 22 9 i _ .i64 .i64 elemStr.slice (by kernel_rfl) hi hz Td 0 0 [] b n h0 (by rw[e];omega) (by omega) (by omega) (by rw[f];omega) (by rw[f];exact growslice_fits (by omega) (by omega));have w:=grownCap_ge (mk B d h) (0+n) 0 9;have r:=grownCap_le_maxLen (mk B d h) (0+n) 0 9 (by unfold maxLen;omega);generalize grownCap (mk B d h) (0+n) 0 9=c at *;have k:∀m,(Builtin.zeroCells (za1 ⟨#[]⟩).cells m).size=m*1:=λm=>by rw[size_zeroCells,elemStr.zero]
 generalize q:([]:List Value).toArray++Builtin.zeroCells (za1 ⟨#[]⟩).cells n++Builtin.zeroCells (za1 ⟨#[]⟩).cells (c-(0+n))=blk at u;have o:blk.size=c*1:=by rw[<-q,Array.size_append,Array.size_append,k,k];simp;omega
 refine⟨_,d+1,_,u,⟨Tc ⟨h.size,0,Td⟩,0+n,c⟩,rfl,.inl rfl,⟨by omega,by omega,by show((0:Nat):Int)<=((c:Nat):Int);omega,by omega⟩,?_⟩;show K (.slice (iD (Tc ⟨h.size,0,Td⟩) 1 0 c) 0 (c-0)) _;rw[Me,Nat.sub_zero];exact t _ ⟨Tc ⟨h.size,0,Td⟩,0,c⟩ (Keep.push _ _ (zaf _)) rfl ⟨rfl,.inr ⟨h.size,c,blk,rfl,zaf _,w8 _ _,zbn _,r,o,by simp⟩⟩
set_option maxHeartbeats 1000000 in
theorem DR{M:Fr}(ag:AgM M h){p st:List Bt}{sp ss:Sl}(A:Rd M (.row .str) p [aK sp])(rs:Arr h.size h ss.a (st.map za1))(J:ss.len=st.length)(hl:p.length+st.length<=1000000){b:Nat}(B:Blk h b #[aK sp,aK ss])
  (hK:∀(g:zc) (s':Sl),Keep h.size h g->s'.len=p.length+st.length->Owns g h.size 9 1 s' ((p++st).map za1)->K (aK s') g):XC Tp 277 #[.slice (Tc ⟨b,0,Td⟩) 2 2] h K:=by
 obtain⟨O,aa,Y⟩:=rowLen A;have L:=B.lt;have I:Arr h.size h sp.a (p.map za1):=by
  by_cases h0:p=[];exact .inl (by rw[h0];rfl);have hp:=zbo.2 h0;obtain⟨Z,o,cs,y,r,z⟩:=Go.X.rowAt A hp;refine .inr ⟨Z,o,y,ag.lt r,λi v hv=>?_⟩;obtain⟨hi,rfl⟩:=za0.1 hv;have D:i<p.length:=by simpa using hi
  obtain⟨b2,o2,U,N,S,G⟩:=Go.X.rowAt A D;rw[y]at N;cases N;rw[r]at S;cases S;have G:cut cs (o+i*1) 1=[.string p[i]]:=G;have:=wO ag r G;rw[zdc]at this;rw[zdu];exact this
 apply Q4 ⟨Tc ⟨b,0,Td⟩,2,2⟩;have P:∀{g:zc},Keep h.size h g->zf g ((⟨b,0,Td⟩:Addr).add 0)=Tc (aK sp):=λk=>(B.keep (k.get b L)).cellAdd rfl;have Q:∀{g:zc},Keep h.size h g->zf g ((⟨b,0,Td⟩:Addr).add 1)=Tc (aK ss):=λk=>(B.keep (k.get b L)).cellAdd rfl;refine⟨λsz i g=>h=g/\((i=0/\sz=0)\/(i=1/\sz=(p.length:Int))\/(i=2/\sz=((p.length+st.length:Nat):Int))),λ_ i _=>2-i.toNat,⟨rfl,.inl ⟨rfl,rfl⟩⟩,?_⟩;rintro sz i g ⟨rfl,hi⟩;refine⟨λw=>?_,λw=>?_⟩;have n:i<2:=zB w;rcases hi with⟨rfl,rfl⟩|⟨rfl,rfl⟩|⟨rfl,_⟩;refine⟨⟨b,0,Td⟩,⟨rfl,by omega,by omega⟩,sp,P (Keep.refl _ _),?_⟩;rw[O,show zaa .i64 (0+((p.length:Nat):Int))=(p.length:Int)by rw[wrap64 (by omega) (by omega)];omega,show zaa .i64 (0+1)=1 from rfl];exact⟨λE=>absurd (zB E) (by omega),λ_=>⟨⟨rfl,.inr (.inl ⟨rfl,rfl⟩)⟩,by show 2-(1:Int).toNat<2-(0:Int).toNat;decide⟩⟩;refine⟨⟨b,0,Td⟩,⟨rfl,by omega,by omega⟩,ss,Q (Keep.refl _ _),?_⟩;rw[J,show zaa .i64 ((p.length:Int)+((st.length:Nat):Int))=((p.length+st.length:Nat):Int)by rw[wrap64 (by omega) (by omega)];omega,show zaa .i64 (1+1)=2 from rfl];exact⟨λE=>absurd (zB E) (by omega),λ_=>⟨⟨rfl,.inr (.inr ⟨rfl,rfl⟩)⟩,by show 2-(2:Int).toNat<2-(1:Int).toNat;decide⟩⟩;omega;have n:¬i<2:=zC w;rcases hi with⟨rfl,rfl⟩|⟨rfl,rfl⟩|⟨rfl,rfl⟩;omega;omega;refine XQ (by omega) λg9 s9 k9 l9 o9=>⟨s9,rfl,?_⟩
 refine⟨λf i g=>Keep h.size h g/\((i=0/\f.len=0/\Owns g h.size 9 1 f [])\/(i=1/\f.len=p.length/\Owns g h.size 9 1 f (p.map za1))\/(i=2/\f.len=p.length+st.length/\Owns g h.size 9 1 f ((p++st).map za1))),λ_ i _=>2-i.toNat,⟨k9,.inl ⟨rfl,l9,o9⟩⟩,?_⟩;rintro f i g ⟨c,hi⟩;have m:∀l:List Bt,∀u∈l.map za1,u.oneCell'=Ta:=λl u hu=>by obtain⟨x,_,rfl⟩:=zb1.1 hu;rfl
 refine⟨λw=>?_,λw=>?_⟩;have n:i<2:=zB w;rcases hi with⟨rfl,H,s⟩|⟨rfl,H,s⟩|⟨rfl,_,_⟩;refine⟨⟨b,0,Td⟩,⟨rfl,by omega,by omega⟩,sp,P c,?_⟩;refine Zk elemStr s (src:=sp) (I.keep c) (by simp[O]) (m p) (by omega) (by omega) c.size λs' g' y r z e4 V=>⟨s',rfl,?_⟩
 have t:Keep h.size h g':=⟨by have:=c.size;omega,λj F=>by rw[z j (by have:=c.size;omega) λq C e=>by have:=(s.base_le q C).1;omega];exact c.get j F⟩;rw[show zaa .i64 (0+1)=1 from rfl];exact⟨⟨t,.inr (.inl ⟨rfl,by omega,by simpa using r⟩)⟩,by show 2-(1:Int).toNat<2-(0:Int).toNat;decide⟩;refine⟨⟨b,0,Td⟩,⟨rfl,by omega,by omega⟩,ss,Q c,?_⟩;refine Zk elemStr s (src:=ss) (rs.keep c) (by simp[J]) (m st) (by omega) (by omega) c.size λs' g' y r z e4 V=>⟨s',rfl,?_⟩;have t:Keep h.size h g':=⟨by have:=c.size;omega,λj F=>by rw[z j (by have:=c.size;omega) λq C e=>by have:=(s.base_le q C).1;omega];exact c.get j F⟩;rw[show zaa .i64 (1+1)=2 from rfl];exact⟨⟨t,.inr (.inr ⟨rfl,by omega,by rw[zb9];exact r⟩)⟩,by show 2-(2:Int).toNat<2-(1:Int).toNat;decide⟩;omega;have n:¬i<2:=zC w;rcases hi with⟨rfl,_⟩|⟨rfl,_⟩|⟨rfl,H,s⟩;omega;omega;exact hK g f c H s
end
section
variable {M:Fr} {h g:zc} {sk si vk vi sp s' ss:Sl} {K:Value -> zc -> Prop} {w:Bt} {st:List Bt}
theorem H9{h h':zc}{b:Nat}(ag:AgM M h)(i:M b=Td)(f:∀j,j≠b->h'[j]?=h[j]?):AgM M h':=λc cs e=>by obtain⟨T,m,k⟩:=ag c cs e;exact⟨T,m,by rw[f c (λe'=>by rw[e',i]at e;cases e)];exact k⟩
def xU(s v:Tr)(sk si vk vi sp sl:Sl):List Value:=[.int .i64 s.kind,.string s.text,aK sk,aK si,.int .i64 v.kind,.string v.text,aK vk,aK vi,aK sp,aK sl]
structure CB (lo:Nat) (h:zc) (M:Fr) (c:Nat) (s v:Tr) (p:List Bt) (na:FA) (sk si vk vi sp sl:Sl):Prop where
 blk:Blk h c (xU s v sk si vk vi sp sl).toArray
 rsk:Rd M (.row .str) s.keys [aK sk]
 rsi:Rd M (.row .tree) s.items [aK si]
 rvk:Rd M (.row .str) v.keys [aK vk]
 rvi:Rd M (.row .tree) v.items [aK vi]
 rp:Rd M (.row .str) p [aK sp]
 fs:FS lo h M na sl
 nq:∀q,sl.a=Tc q->q.block≠c
structure CK (h0:zc) (M0:Fr) (c:Nat) (s v:Tr) (p:List Bt) (h:zc) (M:Fr) (na:FA):Prop where
 L:Later h0 M0 h M
 lo:h0.size<=c
 nc:M c=Td
 box:∃sk si vk vi sp sl,CB h0.size h M c s v p na sk si vk vi sp sl
section
variable {gl : Fr} {h0 h h' : zc} {M0 M M' : Fr} {c : Nat} {s v : Tr} {p : List Bt} {na : FA}
theorem CB.later{lo:Nat}{sk si vk vi sp sl:Sl}(H:CB lo h M c s v p na sk si vk vi sp sl)(L:Later h M h' M'):CB lo h' M' c s v p na sk si vk vi sp sl:= ⟨H.blk.keep (L.keep.get c H.blk.lt),Rd.mono L.le H.rsk,Rd.mono L.le H.rsi,Rd.mono L.le H.rvk,Rd.mono L.le H.rvi,Rd.mono L.le H.rp,H.fs.call L,H.nq⟩
theorem CK.later(H:CK h0 M0 c s v p h M na)(L:Later h M h' M'):CK h0 M0 c s v p h' M' na:=by obtain⟨sk,si,vk,vi,sp,sl,B⟩:=H.box;exact⟨H.L.trans L,H.lo,by rw[L.old c B.blk.lt];exact H.nc,sk,si,vk,vi,sp,sl,B.later L⟩
def Out(h0:zc)(M0:Fr)(c:Nat)(s v:Tr)(p:List Bt)(M:Fr)(na:FA)(l:List cR)(K:Value->zc->Prop):Prop:=
 ∀(g:zc) (M':Fr) (nb:FA),CK h0 M0 c s v p g M' (na++nb)->nb.map (·.1)=l->Fr.le M M'->K (.tuple #[]) g
theorem ownRd(ag:AgM M h)(k:Keep h.size h g){lo:Nat}(y:h.size<=lo){xs:List Bt}(H:Owns g lo 9 1 s' (xs.map za1))(p:s'.len=xs.length)(D:xs.length<=1000000):∃M',Later h M g M'/\Rd M' (.row .str) xs [aK s']/\(xs≠[]->∃b,s'.a=Tc ⟨b,0,Td⟩/\lo<=b/\M' b≠Td/\∃cs,Blk g b cs):=by
 by_cases h0:xs=[];subst h0;exact⟨M,Later.same ag k,⟨_,rfl,s'.a,s'.cap,by rw[aK,p],⟨by simp,by simp⟩,.inl rfl⟩,λe=>absurd rfl e⟩;have C:=zbo.2 h0;rcases H.2 with⟨n,hz⟩|⟨b,cap,c,n,m,t,z,E,u,f⟩;omega;simp only[zbg]at n;obtain⟨s,B,F⟩:=n;have o:Blk g b c:=⟨_,t⟩;refine⟨MxL M g [b],MxL.later ag k λx w=>by rw[zbm.1 w];omega,⟨_,rfl,s'.a,s'.cap,by rw[aK,p],⟨by omega,by omega⟩,.inr ⟨b,0,c,s,MxL.at (by simp) o,λi hi=>?_⟩⟩,λ_=>⟨b,s,m,(by rw[MxL.at (by simp) o];simp),c,o⟩⟩;have e:cut c (0+i*sz Ty.str) (sz Ty.str)=[.string xs[i]]:=by
  show cut c (0+i*1) 1=_;refine pU rfl λq A=>?_;have l:q=0:=by omega
  subst l;have r:(xs.map za1)[i]?=Tc (.string xs[i]):=by rw[zbu,zaj hi];rfl
  rw[<-f,zba,zb (by omega)]at r;rw[za5,zdc,zen,r];rfl
 rw[e];rfl
theorem Rh:qo Tp 29=Ta:=by kernel_rfl
theorem Tv:ya Tp 29=1:=by kernel_rfl
theorem CB.put{lo:Nat}{sk si vk vi sp sl:Sl}(H:CB lo h M c s v p na sk si vk vi sp sl){nb:FA}{M':Fr}(f:Fr.le M M')(B:Blk g c (xU s v sk si vk vi sp sl).toArray)(F:FS lo g M' nb s')(i:∀q,s'.a=Tc q->q.block≠c)(r:M' c=Td){K:zc->Prop}
  (o:∀g':zc,CB lo g' M' c s v p nb sk si vk vi sp s'->g'.size=g.size->(∀j,j≠c->g'[j]?=g[j]?)->K g'):XRunU Tp (zag 29 (.pointer (Tc ((⟨c,0,Td⟩:Addr).add 9))) (aK s')) g K:=by
 rw[qy];refine j5 Rh Tv B (by show 0+9<10;omega) (by rfl) λg' k l f'=>o g' ⟨k,Rd.mono f H.rsk,Rd.mono f H.rsi,Rd.mono f H.rvk,Rd.mono f H.rvi,Rd.mono f H.rp,F.frame (λq n=>f' _ (i q n)) (Fr.le.refl _) F.fr λb cs _ m _=>f' b λe=>m (e ▸ r),i⟩ l f'
set_option maxHeartbeats 1000000 in
theorem C7(H:CK h0 M0 c s v p h M na)(rs:Arr h.size h ss.a (st.map za1))(ls:ss.len=st.length)(hl:p.length+st.length<=900000)(hn:na.length<=900000000)(hK:Out h0 M0 c s v p M na [(p++st,lb w)] K):
  XC Tp 221 #[.pointer (Tc ⟨c,0,Td⟩),.string w,aK ss] h K:=by
 obtain⟨sk,si,vk,vi,sp,sl,B⟩:=H.box;have hc:=B.blk.lt;apply TF (Tc ⟨c,0,Td⟩) w ss;refine⟨_,rfl,sl,B.blk.cellAdd (by rfl),_,rfl,sp,B.blk.cellAdd (by rfl),?_⟩;intro V;obtain⟨J,z5,B5⟩:=wq (g:=V) rfl;clear_value V;have I:Later h M V M:=Later.same H.L.ag J;refine⟨J.get _ (by show c<_;omega),?_⟩;refine DR I.ag (Rd.mono I.le B.rp) ((rs.keep J).mono (by omega)) ls (by omega) B5 λF r Q l7 o7=>⟨r,rfl,?_⟩;have K7:Keep h.size h F:=J.trans Q (by omega);obtain⟨m,P,r7,af⟩:=ownRd I.ag Q (zaf _) o7 (by rw[l7,zat]) (by rw[zat];omega);have U:Later h M F m:=I.trans P;have z7:=Q.size;refine⟨K7.get _ (by show c<_;omega),K7.get _ (by show c<_;omega),?_⟩;intro n;obtain⟨k9,z9,B9⟩:=wq (g:=n) rfl;clear_value n;have f:Later h M n m:=U.trans (Later.same U.ag k9);refine⟨f.keep.get _ (by show c<_;omega),?_⟩;have t:=B.later f;have Y:∀x∈[(((p++st,lb w),r):cR×Sl)],Rd m (.row .str) x.1.1 [aK x.2]/\PB h0.size n m x:=λx hx=>by rw[zbm.1 hx];refine⟨r7,λe=>?_⟩;obtain⟨b,e1,e2,e3,cs,Bk⟩:=af e;exact⟨b,e1,by have:=H.L.keep.size;omega,e3,cs,Bk.keep (k9.get b Bk.lt)⟩
 have y:Arr n.size n (Tc ⟨F.size,0,Td⟩) ([(((p++st,lb w),r):cR×Sl)].flatMap fC):=.inr ⟨F.size,0,rfl,by omega,λi u hu=>B9.cell (by
  rw[za5,<-zb7];have e:[(((p++st,lb w),r):cR×Sl)].flatMap fC=[aK r,.string w]:=by simp[fC]
  rw[e]at hu;exact hu)⟩
 have aj:=H.L.keep.size;refine FS.app (src:=⟨Tc ⟨F.size,0,Td⟩,1,1⟩) t.fs y rfl Y f.ag (by have:=f.keep.size;omega) (by simp;omega) λo aa N z ak G O=>⟨o,rfl,_,rfl,?_⟩;have ab:c<n.size:=by have:=f.keep.size;omega
 have Z:Blk aa c _:=t.blk.keep (G c ab λq D=>(t.nq q D).symm);have A:∀q,o.a=Tc q->q.block≠c:=λq D=>by rcases O q D with⟨q',ah,e⟩|e;rw[e];exact t.nq q' ah;omega
 have l:m c=Td:=by rw[U.old c hc];exact H.nc
 refine t.put (Fr.le.refl _) Z N A l λk ae ai C=>?_;have E:AgM m k:=H9 z l C;have S:Keep h0.size h0 k:=⟨by have:=f.keep.size;omega,λj hj=>by have:=f.keep.size;rw[C j (by have:=H.lo;omega),G j (by omega) λq D e=>by have:=(t.fs.own.base_le q D).1;omega];exact(f.keep.get j (by omega)).trans (H.L.keep.get j hj)⟩;exact hK k m [((p++st,lb w),r)] ⟨⟨S,H.L.le.trans f.le,λj hj=>by rw[f.old j (by omega)];exact H.L.old j hj,E⟩,H.lo,l,sk,si,vk,vi,sp,o,ae⟩ rfl f.le
theorem pB(H:CK h0 M0 c s v p h M na){b:Bool}(k:p.length<=900000)(l:na.length<=900000000)(i:Out h0 M0 c s v p M na (eR b p (lb w)) K):
  XC Tp 218 #[.pointer (Tc ⟨c,0,Td⟩),.string w,.bool b] h K:=by
 apply YW (Tc ⟨c,0,Td⟩) w b;refine⟨λf=>?_,λf=>?_⟩;have f:b=Tb:=by simpa using f
 subst f;refine C7 H (st:=[]) (ss:=⟨Td,0,0⟩) (.inl rfl) rfl (by simpa using k) l λg M' nb C e le=>⟨rfl,i g M' nb C ?_ le⟩;rw[e,zbj];rfl;have f:b=Ta:=by simpa using f
 subst f;exact i h M [] (by rw[zbj];exact H) rfl (Fr.le.refl _)
def FlX(gl:Fr)(n:Nat)(y u:Tr):Prop:=∀(p:List Bt),p.length+bK u<=1000->∀(h:zc) (M:Fr),Fr.le gl M->AgM M h->∀(b c:Value),RdV M .tree y b->RdV M .tree u c->∀sp:Sl,Rd M (.row .str) p [aK sp]->∀K:Value->zc->Prop,
 (∀(g:zc) (M':Fr) (nb:FA) (sl:Sl),Later h M g M'->FS h.size g M' nb sl->nb.map (·.1)=zm zj qu n y u p->K (aK sl) g)->XC Tp 49 #[b,c,aK sp] h K
set_option maxHeartbeats 1000000 in
theorem BH(H:CK h0 M0 c s v p h M na)(hM:Fr.le gl M){n:Nat}{y u:Tr}(hy:Ok y)(hu:Ok u)(F:FlX gl n y u){P Z J ui:Sl}(am:Rd M (.row .str) y.keys [aK P])(aj:Rd M (.row .tree) y.items [aK Z])(an:Rd M (.row .str) u.keys [aK J])(aF:Rd M (.row .tree) u.items [aK ui])(rs:Arr h.size h ss.a (st.map za1))(ls:ss.len=st.length)(hl:p.length+st.length+bK u<=1000)(hn:na.length<=900000000)(hK:Out h0 M0 c s v p M na (zm zj qu n y u (p++st)) K):
  XC Tp 222 #[.pointer (Tc ⟨c,0,Td⟩),.agg #[.int .i64 y.kind,.string y.text,aK P,aK Z],.agg #[.int .i64 u.kind,.string u.text,aK J,aK ui],aK ss] h K:=by
 obtain⟨sk,si,vk,vi,sp,sl,B⟩:=H.box;have hc:=B.blk.lt;apply Wh (Tc ⟨c,0,Td⟩) y.kind y.text P Z u.kind u.text J ui ss;intro h1 I;obtain⟨k1,z1,B1⟩:=wq (g:=h1) rfl;obtain⟨k2,z2,B2⟩:=wq (g:=I) rfl;clear_value I;clear_value h1;have aE:=B1.ofKeep k2;have L2:Later h M I M:=Later.same H.L.ag (k1.trans k2 (by omega));have C2:=B.later L2;refine⟨_,rfl,sl,C2.blk.cellAdd (by rfl),y.kind,y.text,P,Z,aE.ld (cs:=[_,_,aK P,aK Z]),u.kind,u.text,J,ui,B2.ld (cs:=[_,_,aK J,aK ui]),_,rfl,sp,C2.blk.cellAdd (by rfl),?_⟩;intro r;obtain⟨m,aM,aC⟩:=wq (g:=r) rfl;clear_value r;have o:Later I M r M:=Later.same L2.ag m;have ah:=C2.later o;refine⟨m.get _ (by show h1.size<_;omega),m.get _ (by show h.size<_;omega),m.get _ (by show c<_;omega),?_⟩;have kk:Keep h.size h r:=(L2.trans o).keep;refine DR o.ag ah.rp ((rs.keep kk).mono (by omega)) ls (by omega) aC λD Y E ax au=>⟨Y,rfl,?_⟩;have aJ:=E.size;have t:Keep I.size I D:=m.trans E (by omega);refine⟨t.get _ (by show h1.size<_;omega),t.get _ (by show h.size<_;omega),t.get _ (by show c<_;omega),?_⟩;obtain⟨N,ae,aB,aG⟩:=ownRd o.ag E (zaf _) au (by rw[ax,zat]) (by rw[zat];omega);have f:Later h M D N:=(L2.trans o).trans ae;refine F (p++st) (by rw[zat];omega) D N (hM.trans f.le) f.ag _ _ (zn (Rd.mono f.le am) (Rd.mono f.le aj)) (zn (Rd.mono f.le an) (Rd.mono f.le aF)) Y aB _ λA i nb z l w Q=>⟨z,rfl,?_⟩;have b:Later h M A i:=f.trans l;have aO:=l.keep.size;refine⟨(l.keep.get _ (by show c<_;omega)).trans (t.get _ (by show c<_;omega)),?_⟩;have k:=B.later b;have aL:nb.length<=16777216:=by have:=congrArg zdh Q;rw[zaw]at this;rw[this];exact yA hy hu
 have aH:=H.L.keep.size;have U:∀x∈nb,Rd i (.row .str) x.1.1 [aK x.2]/\PB h0.size A i x:=λx hx=>⟨(w.nd x hx).1,(w.nd x hx).2.mono (by omega) (Fr.le.refl _) λ_ _ _ _ _=>rfl⟩;refine FS.app (src:=z) k.fs w.arr w.len U b.ag (by have:=b.keep.size;omega) (by omega) λG aA az aa aN S ai=>⟨G,rfl,_,rfl,?_⟩;have O:c<A.size:=by have:=b.keep.size;omega
 have ap:Blk aA c _:=k.blk.keep (S c O λq hq=>(k.nq q hq).symm);have af:∀q,G.a=Tc q->q.block≠c:=λq hq=>by rcases ai q hq with⟨q',ay,e⟩|e;rw[e];exact k.nq q' ay;omega
 have nc:i c=Td:=by rw[b.old c hc];exact H.nc
 refine k.put (Fr.le.refl _) ap az af nc λC ar aI ab=>?_;have V:AgM i C:=H9 aa nc ab;have ak:Keep h0.size h0 C:=⟨by have:=b.keep.size;omega,λj hj=>by have:=b.keep.size;rw[ab j (by have:=H.lo;omega),S j (by omega) λq hq e=>by have:=(k.fs.own.base_le q hq).1;omega];exact(b.keep.get j (by omega)).trans (H.L.keep.get j hj)⟩;exact hK C i nb ⟨⟨ak,H.L.le.trans b.le,λj hj=>by rw[b.old j (by omega)];exact H.L.old j hj,V⟩,H.lo,nc,sk,si,vk,vi,sp,G,ar⟩ Q b.le
end
end
section
variable {M:Fr} {lo n:Nat} {sk si vk vi sp:Sl}
section
variable {gl : Fr} {h0 h h' : zc} {M0 M M' : Fr} {c : Nat} {s v x : Tr} {p : List Bt} {na : FA} {xk xi : Sl} {w : Bt} {K : Value -> zc -> Prop}
theorem NK(f:GL gl)(b:Ok v)(c:Ok x)(p:x.kind=3){R:Int->Prop}(h:∀r,(v.kind=3->r=qu v x)->-1<=r->r<=1->R r):PC Tp gl 197 [Arg.mk .tree v,Arg.mk .tree x] [.int .i64] R:=by apply SI;simp only[xb];have m:=ye c.nd;have l:=ye b.nd;have q:ze x=x:=Ji m (by omega) (by omega);refine oq f b.s (oq f c.s ?_);rw[b.o,c.o];refine⟨λ_=>FR b.s b.o (FR c.s c.o ?_),λt=>(nomatch t)⟩;rw[q];have S:=J6 l;refine Rj f (by have e:=Kf b.s;unfold Yf at e;rw[zb b.o]at e;exact e) c.s p (oy m (by omega)) (λi=>?_) λi r h1 n=>h r (λe=>absurd (S.k.trans e) i) h1 n;have u:v.kind=3:=S.k ▸ i;have sv:ze v=v:=Ji l (by omega) (by omega);rw[sv];have:=Nf (zw (lb v.text)).1 (zw (lb x.text)).1;exact h _ (λ_=>rfl) this.1 this.2
theorem Kh{r:Int×Bool}{w:Value}(h:Jl M [.int .i64,.bool] r w):w=.tuple #[.int .i64 r.1,.bool r.2]:=by
 obtain⟨vs,⟨f,rest,rfl,e,c,rfl,b⟩,rfl⟩:=h;have b:c=.bool r.2:=by have:=(W0 rfl).1 b;simpa[Rd]using this
 rw[jq e,b];rfl
theorem Out.mono{l:List cR}(h:Out h0 M0 c s v p M na l K)(le:Fr.le M M'):Out h0 M0 c s v p M' na l λv g=>v=.tuple #[]/\K (.tuple #[]) g:=λg f nb C e b=>⟨rfl,h g f nb C e (le.trans b)⟩
theorem CB.cel{sk si vk vi sp sl:Sl}(B:CB lo h M c s v p na sk si vk vi sp sl){o i:Nat}{u:Value}(e:(xU s v sk si vk vi sp sl)[o+i]?=Tc u):zf h (((⟨c,0,Td⟩:Addr).add o).add i)=Tc u:=by rw[qy,qy,za5];exact B.blk.cell (by rw[zc9];exact e)
theorem CB.ldv{sk si vk vi sp sl:Sl}(B:CB lo h M c s v p na sk si vk vi sp sl):zd h ((⟨c,0,Td⟩:Addr).add 4) 0 [.int .i64 v.kind,.string v.text,aK vk,aK vi]:= ⟨B.cel rfl,B.cel rfl,B.cel rfl,B.cel rfl,trivial⟩
theorem CB.lds{sk si vk vi sp sl:Sl}(B:CB lo h M c s v p na sk si vk vi sp sl):zd h ((⟨c,0,Td⟩:Addr).add 0) 0 [.int .i64 s.kind,.string s.text,aK sk,aK si]:= ⟨B.cel rfl,B.cel rfl,B.cel rfl,B.cel rfl,trivial⟩
theorem WN(H:CK h0 M0 c s v p h M na)(m:Fr.le gl M)(A:p.length<=1000)(q:na.length<=900000000)(n:Out h0 M0 c s v p M na (eR (decide (v.kind=kW (lb x.text))) p (lb w)) K):
  XC Tp 151 #[.pointer (Tc ⟨c,0,Td⟩),.string w,.agg #[.int .i64 x.kind,.string x.text,aK xk,aK xi]] h K:=by
 apply QI (Tc ⟨c,0,Td⟩) w x.kind x.text xk xi;intro h1;obtain⟨l,y,o⟩:=wq (g:=h1) rfl;clear_value h1;have e:Later h M h1 M:=Later.same H.L.ag l;obtain⟨sk,si,vk,vi,sp,sl,B⟩:=(H.later e).box;have t:=B.blk.lt;refine⟨_,rfl,v.kind,B.cel rfl,x.text,o.cellAdd rfl,?_⟩;refine(EI (gl:=gl) (s:=x.text) (R:=λr=>r=kW (lb x.text)) rfl).go (vs:=[.string x.text]) (m.trans e.le) e.ag (zi (rdStr _) zq) λu C z r i b f=>?_;have f:r=kW (lb x.text):=f;have k:=e.trans i;refine⟨r,lh b,i.keep.get _ t,?_⟩;rw[f,jH];exact pB (H.later k) (by omega) q (n.mono k.le)
theorem HH(P:GL gl)(H:CK h0 M0 c s v p h M na)(C:Fr.le gl M)(J:Ok v)(I:Ok x)(A:x.kind=3)(D:Rd M (.row .str) x.keys [aK xk])(Z:Rd M (.row .tree) x.items [aK xi])(hl:p.length<=1000)(Y:na.length<=900000000) (S:Out h0 M0 c s v p M na (eR (decide (v.kind≠3)||if lb w=iF then decide (qu v x<=0)else decide (0<=qu v x)) p (lb w)) K):
  XC Tp 153 #[.pointer (Tc ⟨c,0,Td⟩),.string w,.agg #[.int .i64 x.kind,.string x.text,aK xk,aK xi]] h K:=by
 apply RB (Tc ⟨c,0,Td⟩) w x.kind x.text xk xi;intro h1;obtain⟨N,z1,F⟩:=wq (g:=h1) rfl;clear_value h1;have n:Later h M h1 M:=Later.same H.L.ag N;obtain⟨sk,si,vk,vi,sp,sl,B⟩:=(H.later n).box;refine⟨_,rfl,v.kind,v.text,vk,vi,B.ldv,x.kind,x.text,xk,xi,F.ld (cs:=[_,_,aK xk,aK xi]),?_⟩;refine(NK (gl:=gl) P J I A (R:=λr=>(v.kind=3->r=qu v x)/\-1<=r/\r<=1) λr a b d=>⟨a,b,d⟩).go (C.trans n.le) n.ag (zi (zn B.rvk B.rvi) (zi (zn D Z) zq)) λu i G r t k q=>?_;obtain⟨q,r1,r2⟩:=q;have z:=n.trans t;refine⟨r,lh k,?_⟩;intro y m;have l:=H.later z;obtain⟨Q,aa,V,U,ae,ab,O⟩:=l.box;have go:∀o:Int,(decide (v.kind≠3)||decide (o>=0))=(decide (v.kind≠3)||if lb w=iF then decide (qu v x<=0)else decide (0<=qu v x))->y o i:=λo E=>m o i ⟨_,rfl,v.kind,O.cel rfl,by
  have e:(bif (v.kind != 3)then Ta else(decide ((o:Int)>=0)))=(decide (v.kind≠3)||decide (o>=0)):=by by_cases f:v.kind=3;simp[f];simp[f]
  rw[e,E];exact pB l (by omega) Y (S.mono z.le)⟩
 rw[m4];refine⟨λe=>go _ ?_,λe=>go _ ?_⟩;have e:lb w=iF:=zB e;rw[zb e,wrap64 (by omega) (by omega)];by_cases f:v.kind=3;have:=q f;rw[<-this];congr 1;rw[decide_eq_decide];omega;simp[f];have e:lb w≠iF:=zC e;rw[za e];by_cases f:v.kind=3;rw[<-q f];simp[f]
theorem G7(y:GL gl)(H:CK h0 M0 c s v p h M na)(n:Fr.le gl M)(Q:Ok v)(N:Ok x)(t:x.kind=3)(U:(ww x).2=Ta)(S:0<=(ww x).1)(E:Rd M (.row .str) x.keys [aK xk])(P:Rd M (.row .tree) x.items [aK xi])(hl:p.length<=1000)(O:na.length<=900000000) (D:Out h0 M0 c s v p M na (eR (if lb w=xx then decide (wy v<0)||decide ((ww x).1<=wy v)else decide (wy v<=(ww x).1)) p (lb w)) K):
  XC Tp 154 #[.pointer (Tc ⟨c,0,Td⟩),.string w,.agg #[.int .i64 x.kind,.string x.text,aK xk,aK xi]] h K:=by
 apply Xg (Tc ⟨c,0,Td⟩) w x.kind x.text xk xi;intro h1;obtain⟨q,V,J⟩:=wq (g:=h1) rfl;clear_value h1;have l:Later h M h1 M:=Later.same H.L.ag q;refine⟨x.kind,x.text,xk,xi,J.ld (cs:=[_,_,aK xk,aK xi]),?_⟩;have C:tg x=((ww x).1,Ta):=by unfold tg;rw[zb t,U,zD S];rfl
 refine(IK (gl:=gl) y N (R:=λr=>r=((ww x).1,Ta)) C).go (n.trans l.le) l.ag (zi (zn E P) zq) λu Z Y r A b f=>?_;have f:r=_:=f;subst f;have i:=l.trans A;obtain⟨sk,si,vk,vi,sp,sl,B⟩:=(H.later i).box;refine⟨_,_,Kh b,_,rfl,v.kind,v.text,vk,vi,B.ldv,?_⟩;refine(MH (gl:=gl) Q.s (R:=λr=>r=if wy v<0 then(0,Tb)else(wy v,Ta)) rfl).go (n.trans i.le) i.ag (zi (zn B.rvk B.rvi) zq) λu F G r k b f=>?_;have f:r=_:=f;subst f;have o:=i.trans k;refine⟨_,_,Kh b,?_⟩;rw[m4];have e:(bif (bif (!(if wy v<0 then((0:Int),Tb)else(wy v,Ta)).2)then Ta else((if wy v<0 then((0:Int),Tb)else(wy v,Ta)).1==(ww x).1))then Ta else((decide ((if wy v<0 then((0:Int),Tb)else(wy v,Ta)).1>(ww x).1))==decide (lb w=(#[115,104,111,114,116]:Array UInt8).toList)))=(if lb w=xx then decide (wy v<0)||decide ((ww x).1<=wy v)else decide (wy v<=(ww x).1)):=by show(bif (bif (!(if wy v<0 then((0:Int),Tb)else(wy v,Ta)).2)then Ta else((if wy v<0 then((0:Int),Tb)else(wy v,Ta)).1==(ww x).1))then Ta else((decide ((if wy v<0 then((0:Int),Tb)else(wy v,Ta)).1>(ww x).1))==decide (lb w=xx)))=_;generalize wy v=z at *;generalize (ww x).1=m at *;by_cases I:lb w=xx <;> by_cases hz:z<0 <;> simp only[I,hz,if_true,if_false,decide_true,decide_false] <;> rw[za7] <;> simp <;> omega
 rw[e];exact pB (H.later o) (by omega) O (D.mono o.le)
theorem UY(Q:GL gl)(H:CK h0 M0 c s v p h M na)(P:Fr.le gl M)(J:Ok v)(I:Ok x)(rk:Rd M (.row .str) x.keys [aK xk])(U:Rd M (.row .tree) x.items [aK xi])(hl:p.length<=1000)(hn:na.length<=900000000) (V:Out h0 M0 c s v p M na (eR (x.items.any λy=>zj y v) p (lb w)) K):
  XC Tp 152 #[.pointer (Tc ⟨c,0,Td⟩),.string w,.agg #[.int .i64 x.kind,.string x.text,aK xk,aK xi]] h K:=by
 apply zbd (Tc ⟨c,0,Td⟩) w x.kind x.text xk xi;intro h1 q;obtain⟨N,z1,Z⟩:=wq (g:=h1) rfl;obtain⟨k2,z2,B2⟩:=wq (g:=q) rfl;clear_value q;clear_value h1;have i:=Z.ofKeep k2;have n:Later h M q M:=Later.same H.L.ag (N.trans k2 (by omega));have H2:=H.later n;refine⟨Tc ⟨c,0,Td⟩,i.cell rfl,xi,B2.cellAdd rfl,rfl,rfl,?_⟩;refine(sy (gl:=gl) (A:=#[]) (C:=#[.pointer (Tc ⟨h.size,0,Td⟩)]) n.ag U (p:=λy=>zj y v) (λy G=>⟨by kernel_rfl,λh' M' u L m=>?_⟩)).go λu h6 M6 b F e t=>?_;have m:RdV M' .tree y u:=m;obtain⟨D,E,rfl,aa,Y⟩:=yj m;apply PX.of;apply Xi y.kind y.text D E ⟨h.size,0,Td⟩;intro z;obtain⟨S,y1,O⟩:=wq (g:=z) rfl;clear_value z;have k:Later h' M' z M':=Later.same L.ag S;have f:=L.trans k;have Bc:=i.keep (f.keep.get h.size (by omega));obtain⟨sk,si,vk,vi,sp,sl,B⟩:=(H2.later f).box;refine⟨y.kind,y.text,D,E,O.ld (cs:=[_,_,aK D,aK E]),Tc ⟨c,0,Td⟩,Bc.cell rfl,_,rfl,v.kind,v.text,vk,vi,B.ldv,?_⟩;refine(V4 (gl:=gl) Q (I.item G).s J.s (R:=λr=>r=(jw y&&(jw v&&zj y v))) rfl).go (P.trans (n.trans f).le) f.ag (zi m (zi (zn B.rvk B.rvi) zq)) λu9 h9 M9 r L9 e l=>?_;have l:r=_:=l;rw[(I.item G).o,J.o,zcq,zcq]at l;exact⟨r,dK e,M9,_,k.trans L9,Y5.2 (rdBool _),l⟩;have t:b=x.items.any λy=>zj y v:=t;refine⟨b,dK e,F.keep.get _ (by show h.size<_;omega),?_⟩;rw[t];have f:=n.trans F;exact pB (H.later f) (by omega) hn (V.mono f.le)
theorem t6:Rd M (.row .str) [] [aK ⟨Td,0,0⟩]:=⟨_,rfl,Td,0,rfl,⟨by simp,by simp⟩,.inl rfl⟩
theorem FlX.nil{y u:Tr}(F:FlX gl n y u)(o:bK u<=32){h:zc}(f:Fr.le gl M)(ag:AgM M h){c b:Value}(k:RdV M .tree y c)(l:RdV M .tree u b){K:Value->zc->Prop}(m:∀(g:zc) (M':Fr) (sl:Sl),Later h M g M'->sl.len=(zm zj qu n y u []).length->K (aK sl) g):
  XC Tp 49 #[c,b,.slice Td 0 0] h K:=
 F [] (by simp;omega) h M f ag c b k l ⟨Td,0,0⟩ t6 K λg M' nb sl L i e=>m g M' sl L (by rw[i.len,<-e,zaw])
theorem U7(H:CK h0 M0 c s v p h M na)(N:Fr.le gl M)(hv:Ok v)(hx:Ok x)(F:∀y∈x.items,FlX gl n y v)(rk:Rd M (.row .str) x.keys [aK xk])(ri:Rd M (.row .tree) x.items [aK xi])(hl:p.length<=1000)(Y:na.length<=900000000) (Q:Out h0 M0 c s v p M na (eR (x.items.any λy=>(zm zj qu n y v []).isEmpty) p (lb w)) K):
  XC Tp 160 #[.pointer (Tc ⟨c,0,Td⟩),.string w,.agg #[.int .i64 x.kind,.string x.text,aK xk,aK xi]] h K:=by
 apply ZO (Tc ⟨c,0,Td⟩) w x.kind x.text xk xi;intro h1 q;obtain⟨I,z1,V⟩:=wq (g:=h1) rfl;obtain⟨k2,z2,B2⟩:=wq (g:=q) rfl;clear_value q;clear_value h1;have i:=V.ofKeep k2;have o:Later h M q M:=Later.same H.L.ag (I.trans k2 (by omega));have Z:=H.later o;refine⟨Tc ⟨c,0,Td⟩,i.cell rfl,xi,B2.cellAdd rfl,rfl,rfl,?_⟩;refine(sy (gl:=gl) (A:=#[]) (C:=#[.pointer (Tc ⟨h.size,0,Td⟩)]) o.ag ri (p:=λy=>(zm zj qu n y v []).isEmpty) (λy S=>⟨by kernel_rfl,λh' M' u L m=>?_⟩)).go λu h6 M6 b E f r=>?_;have m:RdV M' .tree y u:=m;obtain⟨z,D,rfl,aa,U⟩:=yj m;apply PX.of;apply O8 y.kind y.text z D ⟨h.size,0,Td⟩;intro t;obtain⟨P,y1,J⟩:=wq (g:=t) rfl;clear_value t;have k:Later h' M' t M':=Later.same L.ag P;have e:=L.trans k;have Bc:=i.keep (e.keep.get h.size (by omega));obtain⟨sk,si,vk,vi,sp,sl,B⟩:=(Z.later e).box;refine⟨y.kind,y.text,z,D,J.ld (cs:=[_,_,aK z,aK D]),Tc ⟨c,0,Td⟩,Bc.cell rfl,_,rfl,v.kind,v.text,vk,vi,B.ldv,?_⟩;refine(F y S).nil hv.dp (N.trans (o.trans e).le) e.ag m (zn B.rvk B.rvi) λg9 M9 G L9 O=>⟨G,rfl,M9,_,k.trans L9,Y5.2 (rdBool _),?_⟩;show((((G.len:Nat):Int))==0)=(zm zj qu n y v []).isEmpty;rw[O];cases zm zj qu n y v []with
 |nil=>rfl
 |cons a l=>simp;omega
 have r:b=x.items.any λy=>(zm zj qu n y v []).isEmpty:=r;refine⟨b,dK f,E.keep.get _ (by show h.size<_;omega),?_⟩;rw[r];have e:=o.trans E;exact pB (H.later e) (by omega) Y (Q.mono e.le)
theorem Rq(H:CK h0 M0 c s v p h M na)(m:Fr.le gl M)(z:Ok v)(F:FlX gl n x v)(r:Rd M (.row .str) x.keys [aK xk])(y:Rd M (.row .tree) x.items [aK xi])(E:p.length<=1000)(u:na.length<=900000000) (q:Out h0 M0 c s v p M na (eR (!(zm zj qu n x v []).isEmpty) p (lb w)) K):
  XC Tp 161 #[.pointer (Tc ⟨c,0,Td⟩),.string w,.agg #[.int .i64 x.kind,.string x.text,aK xk,aK xi]] h K:=by
 apply Uw (Tc ⟨c,0,Td⟩) w x.kind x.text xk xi;intro h1;obtain⟨k,D,t⟩:=wq (g:=h1) rfl;clear_value h1;have b:Later h M h1 M:=Later.same H.L.ag k;obtain⟨sk,si,vk,vi,sp,sl,B⟩:=(H.later b).box;refine⟨x.kind,x.text,xk,xi,t.ld (cs:=[_,_,aK xk,aK xi]),_,rfl,v.kind,v.text,vk,vi,B.ldv,?_⟩;refine F.nil z.dp (m.trans b.le) b.ag (zn r y) (zn B.rvk B.rvi) λC G f A o=>⟨f,rfl,?_⟩;have e:decide ((((f.len:Nat):Int))>0)=!(zm zj qu n x v []).isEmpty:=by
  rw[o];cases zm zj qu n x v []with
  |nil=>rfl
  |cons a l=>simp
 rw[e];have i:=b.trans A;exact pB (H.later i) (by omega) u (q.mono i.le)
end
end
section
variable {M M1 M2:Fr} {g:zc} {b k N n:Nat}
section
variable {gl : Fr} {h0 h h' : zc} {M0 M M' : Fr} {c : Nat} {s v x : Tr} {p : List Bt} {na : FA} {xk xi : Sl} {w : Bt} {K : Value -> zc -> Prop}
theorem r9(ag:AgM M g){cs:List Value}(e:M b=Tc cs.toArray):zd g ⟨b,0,Td⟩ 0 cs:=mS ag e (o:=0) (i:=0) (by unfold X.cut;simp)
theorem BO(ag:AgM M g){cs:Array Value}{u:Value}(e:M b=Tc cs)(c:cs[0+k]?=Tc u):zf g ((⟨b,0,Td⟩:Addr).add k)=Tc u:=by rw[qy];exact ag.cell e c
theorem RI{α:Type}{f:α->List cR}(l:List α)(k:Nat):((l.take k).flatMap f).length<=(l.flatMap f).length:=by
 have e:l.flatMap f=(l.take k).flatMap f++(l.drop k).flatMap f:=by rw[<-List.flatMap_append,zce]
 rw[e,zat];omega
def Lp(h0:zc)(M0:Fr)(c:Nat)(s v:Tr)(p:List Bt)(M1:Fr)(na:FA)(G:Nat->List cR)(N:Nat)(i:Int)(g:zc):Prop:=
 ∃(k:Nat) (M':Fr) (nb:FA),i=k/\k<=N/\CK h0 M0 c s v p g M' (na++nb)/\Fr.le M1 M'/\nb.map (·.1)=G k
theorem Lp.start{G:Nat->List cR}(H:CK h0 M0 c s v p g M1 na)(e:G 0=[]):Lp h0 M0 c s v p M1 na G N 0 g:=⟨0,M1,[],rfl,zbn _,by rw[zbj];exact H,Fr.le.refl _,by rw[e];rfl⟩
theorem Lp.next{G:Nat->List cR}{nb:FA}{l:List cR}(h:k<N)(o:N<=1000000000)(le:Fr.le M1 M2)(e:nb.map (·.1)=G k)(i:G (k+1)=G k++l):Out h0 M0 c s v p M2 (na++nb) l λu g=>u=.tuple #[]/\(Lp h0 M0 c s v p M1 na G N (zaa .i64 ((k:Int)+1)) g/\N-(zaa .i64 ((k:Int)+1)).toNat<N-((k:Int)).toNat):=λg M' b C m f=>by rw[Ze (n:=N) h (by omega)];exact⟨rfl,⟨k+1,M',nb++b,rfl,h,by rw[<-zcb];exact C,le.trans f,by rw[zb9,e,m,i]⟩,by simp only[zao];omega⟩
theorem Lp.skip{G:Nat->List cR}{nb:FA}(b:k<N)(h:N<=1000000000)(C:CK h0 M0 c s v p g M2 (na++nb))(le:Fr.le M1 M2)(e:nb.map (·.1)=G k)(f:G (k+1)=G k):Lp h0 M0 c s v p M1 na G N (zaa .i64 ((k:Int)+1)) g/\N-(zaa .i64 ((k:Int)+1)).toNat<N-((k:Int)).toNat:=by rw[Ze (n:=N) b (by omega)];exact⟨⟨k+1,M2,nb,rfl,b,C,le,by rw[e,f]⟩,by simp only[zao];omega⟩
theorem Lp.len{nb:FA}{l:List cR}(e:nb.map (·.1)=l):nb.length=l.length:=by rw[<-e,zaw]
theorem PQ(H:CK h0 M0 c s v p h M na)(I:Fr.le gl M)(V:Ok v)(u:Ok x)(F:∀y∈x.items,FlX gl n y v)(A:Rd M (.row .tree) x.items [aK xi])(Q:p.length+bK v<=1000)(hn:na.length<=300000000) (J:∀k,((x.items.take k).flatMap λy=>zm zj qu n y v p).length<=16777216) (P:Out h0 M0 c s v p M na (x.items.flatMap λy=>zm zj qu n y v p) K):
  XC Tp 159 #[.pointer (Tc ⟨c,0,Td⟩),.string w,.agg #[.int .i64 x.kind,.string x.text,aK xk,aK xi]] h K:=by
 apply zch (Tc ⟨c,0,Td⟩) w x.kind x.text xk xi;intro h1;obtain⟨D,z1,S⟩:=wq (g:=h1) rfl;clear_value h1;have Y:Later h M h1 M:=Later.same H.L.ag D;obtain⟨li,_,_⟩:=rowLen A;have il:=u.items;refine⟨xi,S.cellAdd rfl,Lp h0 M0 c s v p M na (λk=>(x.items.take k).flatMap λy=>zm zj qu n y v p) x.items.length,λi _=>x.items.length-i.toNat,Lp.start (H.later Y) rfl,?_⟩;rintro i g ⟨k,M',nb,rfl,hk,C,le,e⟩;refine⟨λt=>?_,λt=>?_⟩;have b:k<x.items.length:=by have:=zB t;omega
 obtain⟨a,m,r,ea,l,G,U⟩:=lF C.L.ag (Rd.mono le A) b;refine⟨a,⟨ea,by omega,by omega⟩,x.items[k].kind,x.items[k].text,m,r,by rw[zao];exact l,?_⟩;intro O;refine Z6 C.L.ag λE q N o=>⟨x.items[k].kind,x.items[k].text,m,r,o.ld (cs:=[_,_,aK m,aK r]),_,rfl,?_⟩;have f:=C.later q;obtain⟨sk,si,vk,vi,sp,sl,B⟩:=f.box;have z:=zay b;have Z:nb.length<=16777216:=by rw[Lp.len e];exact J k
 refine⟨v.kind,v.text,vk,vi,B.ldv,BH f (I.trans le) (u.item z) V (F _ z) G U B.rvk B.rvi (st:=[]) (ss:=⟨Td,0,0⟩) (.inl rfl) rfl (by simpa using Q) (by rw[zat];omega) ?_⟩;rw[zbj];exact Lp.next b (by omega) le e (Xj b);have b:k=x.items.length:=by have:=zC t;omega
 subst b;simp only[zbw]at e;exact P g M' nb C e le
theorem UP(hg:GL gl)(H:CK h0 M0 c s v p h M na)(hM:Fr.le gl M)(hv:Ok v)(hx:Ok x)(F:∀u∈v.items,FlX gl n x u)(rk:Rd M (.row .str) x.keys [aK xk])(ri:Rd M (.row .tree) x.items [aK xi])(hl:p.length+bK v<=1000)(hn:na.length<=300000000) (hb:v.kind=5->∀k,(((zbk v.items.length).take k).flatMap λ(i:Nat)=>v.items[i]?.elim [] λy=>zm zj qu n x y (p++[bl (Lib.itoa i)])).length<=16777216) (G:Out h0 M0 c s v p M na (if v.kind=5 then(zbk v.items.length).flatMap λ(i:Nat)=>v.items[i]?.elim [] λy=>zm zj qu n x y (p++[bl (Lib.itoa i)])else []) K):
  XC Tp 157 #[.pointer (Tc ⟨c,0,Td⟩),.string w,.agg #[.int .i64 x.kind,.string x.text,aK xk,aK xi]] h K:=by
 apply Nb (Tc ⟨c,0,Td⟩) w x.kind x.text xk xi;intro h1;have A:Later h M h1 (Mx M h.size #[.int .i64 x.kind,.string x.text,aK xk,aK xi]):=Later.frz H.L.ag _ _;have V:(Mx M h.size #[.int .i64 x.kind,.string x.text,aK xk,aK xi]) h.size=Tc #[.int .i64 x.kind,.string x.text,aK xk,aK xi]:=Y6 _ _ _;generalize Mx M h.size #[.int .i64 x.kind,.string x.text,aK xk,aK xi]=M1 at A V;clear_value h1;have P:=H.later A;obtain⟨ap,ae,au,N,ak,an,m⟩:=P.box;refine⟨_,rfl,v.kind,m.cel rfl,λz=>?_,λz=>?_⟩;have I:v.kind≠5:=by simpa using z
 rw[za I]at G;exact G h1 M1 [] (by rw[zbj];exact P) rfl A.le;have I:v.kind=5:=by simpa using z
 rw[zb I]at G;obtain⟨li,_,_⟩:=rowLen m.rvi;have il:=hv.items;refine⟨_,rfl,N,m.cel rfl,Lp h0 M0 c s v p M1 na (λk=>((zbk v.items.length).take k).flatMap λ(i:Nat)=>v.items[i]?.elim [] λy=>zm zj qu n x y (p++[bl (Lib.itoa i)])) v.items.length,λi _=>v.items.length-i.toNat,Lp.start P rfl,?_⟩;rintro i g ⟨k,M',nb,rfl,hk,C,le,e⟩;refine⟨λz=>?_,λz=>?_⟩;have b:k<v.items.length:=by have:=zB z;omega
 obtain⟨a,U,Y,ea,S,r1,r2⟩:=lF C.L.ag (Rd.mono le m.rvi) b;refine⟨a,⟨ea,by omega,by omega⟩,v.items[k].kind,v.items[k].text,U,Y,by rw[zao];exact S,?_⟩;intro ah;refine Z6 C.L.ag λai t ar J=>⟨x.kind,x.text,xk,xi,r9 t.ag (cs:=[_,_,aK xk,aK xi]) (le _ _ V),v.items[k].kind,v.items[k].text,U,Y,J.ld (cs:=[_,_,aK U,aK Y]),?_⟩;have aj:h.size<g.size:=C.L.ag.lt (le _ _ V);refine(Af (gl:=gl) hg.pow (n:=(k:Int)) (by omega) (by omega) (R:=λr=>r=bl (Lib.itoa k)) rfl).go (hM.trans (A.le.trans le)) t.ag (zi (Yb _ _) zq) λu E af r f B Q=>?_;have Q:r=bl (Lib.itoa k):=Q;subst Q;have o:=t.trans f;have ay:=f.keep.size;refine⟨_,mZ B,f.keep.get _ (by show g.size<_;omega),f.keep.get _ (by show h.size<_;omega),?_⟩;intro D;obtain⟨q,am,aa⟩:=wq (g:=D) rfl;clear_value D;have l:=o.trans (Later.same o.ag q);refine⟨(q.get _ (by show g.size<_;omega)).trans (f.keep.get _ (by show g.size<_;omega)),(q.get _ (by show h.size<_;omega)).trans (f.keep.get _ (by show h.size<_;omega)),?_⟩;have ab:=C.later l;have Z:=zay b;have hd:=xm Z;have ax:nb.length<=16777216:=by rw[Lp.len e];exact hb I k
 have O:=(A.le.trans le).trans l.le;refine BH ab (hM.trans O) hx (hv.item Z) (F _ Z) (Rd.mono O rk) (Rd.mono O ri) (Rd.mono l.le r1) (Rd.mono l.le r2) (st:=[bl (Lib.itoa k)]) (ss:=⟨Tc ⟨E.size,0,Td⟩,1,1⟩) (.inr ⟨E.size,0,rfl,by omega,λj u hu=>aa.cell (by rw[za5,<-zb7];exact hu)⟩) rfl (by simp;omega) (by rw[zat];omega) ?_;refine Lp.next b (by omega) (le.trans l.le) e ?_;rw[Xj (by simpa using b),List.getElem_range,zaj b];rfl;have b:k=v.items.length:=by have:=zC z;omega
 subst b;have e2:(zbk v.items.length).take v.items.length=zbk v.items.length:=by rw[zcn (by simp)]
 simp only[e2]at e;exact G g M' nb C e (A.le.trans le)
end
end
section
variable {n:Nat}
section
variable {gl : Fr} {h0 h h' : zc} {M0 M M' : Fr} {c : Nat} {s v x : Tr} {p : List Bt} {na : FA} {xk xi : Sl} {w : Bt} {K : Value -> zc -> Prop}
theorem De{M:Fr}{r:Tr×Bool}{w:Value}(h:Jl M [.tree,.bool] r w):∃sk si:Sl,w=.tuple #[.agg #[.int .i64 r.1.kind,.string r.1.text,aK sk,aK si],.bool r.2]/\Rd M (.row .str) r.1.keys [aK sk]/\Rd M (.row .tree) r.1.items [aK si]:=by
 obtain⟨vs,⟨i,rest,rfl,f,e,rfl,b⟩,rfl⟩:=h;obtain⟨sk,si,rfl,h1,c⟩:=yj f;have b:e=.bool r.2:=by have:=(W0 rfl).1 b;simpa[Rd]using this
 subst b;exact⟨sk,si,rfl,h1,c⟩
theorem uf{h:zc}{b:Nat}{q:Bt}(B:Blk h b #[.string q])(e:b<n):Arr n h (Tc ⟨b,0,Td⟩) ([q].map za1):=.inr ⟨b,0,rfl,e,λj u c=>B.cell (by rw[za5,<-zb7];exact c)⟩
theorem Mv(H:CK h0 M0 c s v p h M na)(hM:Fr.le gl M)(hv:Ok v)(hx:Ok x)(F:∀y∈x.items,∀u∈v.items,FlX gl n y u)(rk:Rd M (.row .str) x.keys [aK xk])(ri:Rd M (.row .tree) x.items [aK xi])(hl:p.length+bK v<=1000)(hn:na.length<=300000000) (hb:∀k,(((v.keys.zip v.items).take k).flatMap λm=>(jh x m.1).elim [] λy=>zm zj qu n y m.2 (p++[m.1])).length<=16777216) (hK:Out h0 M0 c s v p M na ((v.keys.zip v.items).flatMap λm=>(jh x m.1).elim [] λy=>zm zj qu n y m.2 (p++[m.1])) K):
  XC Tp 158 #[.pointer (Tc ⟨c,0,Td⟩),.string w,.agg #[.int .i64 x.kind,.string x.text,aK xk,aK xi]] h K:=by
 apply Wg (Tc ⟨c,0,Td⟩) w x.kind x.text xk xi;intro h1;have U:Later h M h1 (Mx M h.size #[.int .i64 x.kind,.string x.text,aK xk,aK xi]):=Later.frz H.L.ag _ _;have eX:(Mx M h.size #[.int .i64 x.kind,.string x.text,aK xk,aK xi]) h.size=Tc #[.int .i64 x.kind,.string x.text,aK xk,aK xi]:=Y6 _ _ _;generalize Mx M h.size #[.int .i64 x.kind,.string x.text,aK xk,aK xi]=M1 at U eX;clear_value h1;have H1:=H.later U;obtain⟨aE,am,ah,aA,aC,ap,A⟩:=H1.box;obtain⟨lk,_,_⟩:=rowLen A.rvk;have az:=hv.keys;have il:=hv.items;have zl:(v.keys.zip v.items).length=v.keys.length:=by rw[List.length_zip];omega
 refine⟨_,rfl,ah,A.cel rfl,Lp h0 M0 c s v p M1 na (λk=>((v.keys.zip v.items).take k).flatMap λm=>(jh x m.1).elim [] λy=>zm zj qu n y m.2 (p++[m.1])) v.keys.length,λi _=>v.keys.length-i.toNat,Lp.start H1 rfl,?_⟩;rintro i g ⟨k,M',nb,rfl,hk,C,le,e⟩;refine⟨λhc=>?_,λhc=>?_⟩;have f:k<v.keys.length:=by have:=zB hc;omega
 have z:k<v.items.length:=by omega
 have O:k<(v.keys.zip v.items).length:=by omega
 have hz:(v.keys.zip v.items)[k]=(v.keys[k],v.items[k]):=by simp
 refine mJ C.L.ag (Rd.mono le A.rvk) f rfl rfl ?_;refine⟨x.kind,x.text,xk,xi,r9 C.L.ag (cs:=[_,_,aK xk,aK xi]) (le _ _ eX),?_⟩;have Y:=U.le.trans le;refine(xS (gl:=gl) hx (key:=v.keys[k]) (R:=λr=>r=((jh x v.keys[k]).getD (.mk 0 ⟨#[]⟩ [] []),(jh x v.keys[k]).isSome)) rfl).go (hM.trans Y) C.L.ag (zi (zn (Rd.mono Y rk) (Rd.mono Y ri)) (zi (rdStr _) zq)) λau aa t r E P hr=>?_;have hr:r=_:=hr;subst hr;obtain⟨yk,yi,rfl,N,J⟩:=De P;have o:=C.later E;refine⟨_,_,yk,yi,_,rfl,?_⟩;intro aB;refine Z6 o.L.ag λD S ax I=>⟨λV=>?_,λV=>?_⟩;obtain⟨y,hy⟩:=Option.isSome_iff_exists.1 V;rw[hy]at I N J;have G:=yf hy;have b:=o.later S;obtain⟨sk,si,vk,vi,sp,sl,B⟩:=b.box;obtain⟨a,uk,ui,ea,ae,r1,r2⟩:=lF b.L.ag B.rvi z;obtain⟨an,_,_⟩:=rowLen B.rvi;have hm:=zay z;have hd:=xm hm;have ab:(a.add ((k:Int).toNat*4)).block<D.size:=by obtain⟨b',o',cs',e1,e2,_⟩:=Go.X.rowAt B.rvi z;rw[ea]at e1;cases e1;rw[qy];exact b.L.ag.lt e2
 refine⟨y.kind,y.text,yk,yi,I.ld (cs:=[_,_,aK yk,aK yi]),_,rfl,vi,B.cel rfl,a,⟨ea,by omega,by omega⟩,v.items[k].kind,v.items[k].text,uk,ui,by rw[zao];exact ae,?_⟩;intro q;obtain⟨l,ay,ai⟩:=wq (g:=q) rfl;clear_value q;have af:Later D t q t:=Later.same b.L.ag l;have aj:=B.blk.lt;refine⟨l.get _ ab,l.get _ aj,l.get _ (by show aa.size<_;omega),?_⟩;have ak:=b.later af;have ar:nb.length<=16777216:=by rw[Lp.len e];exact hb k
 have Q:Fr.le M' t:=E.le;refine BH ak (hM.trans (Y.trans Q)) (hx.item G) (hv.item hm) (F y G _ hm) N J r1 r2 (st:=[v.keys[k]]) (ss:=⟨Tc ⟨D.size,0,Td⟩,1,1⟩) (uf ai (by omega)) rfl (by simp;omega) (by rw[zat];omega) ?_;refine Lp.next f (by omega) (le.trans Q) e ?_;show((v.keys.zip v.items).take (k+1)).flatMap _=_;rw[Xj O,hz];show _++((jh x v.keys[k]).elim [] λy=>zm zj qu n y v.items[k] (p++[v.keys[k]]))=_;rw[hy];rfl;have Z:jh x v.keys[k]=Td:=by
  cases hk2:jh x v.keys[k]with
  |none=>rfl
  |some y=>rw[hk2]at V;cases V
 refine Lp.skip f (by omega) (o.later S) (le.trans E.le) e ?_;show((v.keys.zip v.items).take (k+1)).flatMap _=_;rw[Xj O,hz];show _++((jh x v.keys[k]).elim [] λy=>zm zj qu n y v.items[k] (p++[v.keys[k]]))=_;rw[Z];simp;have f:k=v.keys.length:=by have:=zC hc;omega
 subst f;have e2:(v.keys.zip v.items).take v.keys.length=v.keys.zip v.items:=zcn (by omega);simp only[e2]at e;exact hK g M' nb C e (U.le.trans le)
theorem Vj(H:CK h0 M0 c s v p h M na)(hM:Fr.le gl M)(hv:Ok v)(hx:Ok x)(Y:Rd M (.row .tree) x.items [aK xi])(hl:p.length<=1000)(hn:na.length<=300000000) (D:Out h0 M0 c s v p M na (if v.kind=6 then(x.items.filter λy=>decide (idxOfS v.keys y.text<0)).map λy=>(p++[y.text],lb w)else []) K):
  XC Tp 155 #[.pointer (Tc ⟨c,0,Td⟩),.string w,.agg #[.int .i64 x.kind,.string x.text,aK xk,aK xi]] h K:=by
 apply zbe (Tc ⟨c,0,Td⟩) w x.kind x.text xk xi;intro h1;obtain⟨Z,z1,B1⟩:=wq (g:=h1) rfl;clear_value h1;have L1:Later h M h1 M:=Later.same H.L.ag Z;have J:=H.later L1;obtain⟨an,ab,ap,ai,ak,am,G⟩:=J.box;have il:=hx.items;obtain⟨li,_,_⟩:=rowLen Y;refine⟨_,rfl,v.kind,G.cel rfl,λo=>?_,λo=>?_⟩;have Q:v.kind≠6:=by simpa using o
 rw[za Q]at D;exact D h1 M [] (by rw[zbj];exact J) rfl (Fr.le.refl _);have Q:v.kind=6:=by simpa using o
 rw[zb Q]at D;refine⟨xi,B1.cellAdd rfl,Lp h0 M0 c s v p M na (λk=>((x.items.take k).filter λy=>decide (idxOfS v.keys y.text<0)).map λy=>(p++[y.text],lb w)) x.items.length,λi _=>x.items.length-i.toNat,Lp.start J rfl,?_⟩;rintro i g ⟨k,M',nb,rfl,hk,C,le,e⟩;refine⟨λo=>?_,λo=>?_⟩;have b:k<x.items.length:=by have:=zB o;omega
 obtain⟨a,yk,yi,ea,O,r1,r2⟩:=lF C.L.ag (Rd.mono le Y) b;refine⟨a,⟨ea,by omega,by omega⟩,x.items[k].kind,x.items[k].text,yk,yi,by rw[zao];exact O,?_⟩;intro aa;refine Z6 C.L.ag λaf E ae t=>?_;have l:=C.later E;obtain⟨sk,si,vk,vi,sp,sl,B⟩:=l.box;refine⟨_,rfl,vk,B.cel rfl,x.items[k].text,t.cellAdd rfl,?_⟩;refine(Dg (gl:=gl) (xs:=v.keys) (x:=x.items[k].text) (R:=λr=>r=decide (0<=idxOfS v.keys x.items[k].text)) rfl).go (vs:=[aK vk,.string x.items[k].text]) (hM.trans le) l.L.ag (zi ((W0 rfl).2 B.rvk) (zi (rdStr _) zq)) λu I F r f q N=>?_;have N:r=_:=N;subst N;have m:=l.later f;have aj:=f.keep.size;have z:Fr.le M' F:=f.le;have ar:nb.length<=4096:=by rw[Lp.len e,zaw];exact zbx (wM k) (by omega)
 refine⟨_,dK q,λn=>?_,λn=>?_⟩;have n:idxOfS v.keys x.items[k].text<0:=by simp at n;omega
 have S:=t.keep (f.keep.get g.size (by omega));refine⟨x.items[k].text,S.cellAdd rfl,?_⟩;intro A;obtain⟨P,ah,V⟩:=wq (g:=A) rfl;clear_value A;have U:=m.later (Later.same m.L.ag P);refine C7 U (st:=[x.items[k].text]) (ss:=⟨Tc ⟨I.size,0,Td⟩,1,1⟩) (uf V (by omega)) rfl (by simp;omega) (by rw[zat];omega) ?_;refine Lp.next b (by omega) (le.trans z) e ?_;rw[Xk b,zb (zD n),zb9];rfl;have n:¬idxOfS v.keys x.items[k].text<0:=by simp at n;omega
 refine Lp.skip b (by omega) m (le.trans z) e ?_;rw[Xk b,za (by simpa using n),zbj];have b:k=x.items.length:=by have:=zC o;omega
 subst b;simp only[zbw]at e;exact D g M' nb C e le
end
end
section
variable {h:zc}
section
variable {gl : Fr} {h0 h h' : zc} {M0 M M' : Fr} {c : Nat} {s v x : Tr} {p : List Bt} {na : FA} {xk xi : Sl} {w : Bt} {K : Value -> zc -> Prop}
theorem UO(H:CK h0 M0 c s v p h M na)(hM:Fr.le gl M)(hs:Ok s)(hv:Ok v)(hl:p.length<=1000)(hn:na.length<=300000000) (hK:Out h0 M0 c s v p M na (if lb x.text=[116,114,117,101]then(v.keys.filter λk=>decide (idxOfS (((jh s (bl zr)).map Tr.keys).getD []) k<0)).map λk=>(p++[k],lb w)else []) K):
  XC Tp 156 #[.pointer (Tc ⟨c,0,Td⟩),.string w,.agg #[.int .i64 x.kind,.string x.text,aK xk,aK xi]] h K:=by
 apply Xh (Tc ⟨c,0,Td⟩) w x.kind x.text xk xi;intro h1;have D:Later h M h1 (Mx M h.size #[.int .i64 x.kind,.string x.text,aK xk,aK xi]):=Later.frz H.L.ag _ _;have eX:(Mx M h.size #[.int .i64 x.kind,.string x.text,aK xk,aK xi]) h.size=Tc #[.int .i64 x.kind,.string x.text,aK xk,aK xi]:=Y6 _ _ _;generalize Mx M h.size #[.int .i64 x.kind,.string x.text,aK xk,aK xi]=M1 at D eX;clear_value h1;have H1:=H.later D;obtain⟨Z,Q,am,ax,ay,an,A⟩:=H1.box;refine⟨_,rfl,s.kind,s.text,Z,Q,A.lds,?_⟩;have em:(⟨#[109,101,109,98,101,114,115]⟩:Bt)=bl zr:=rfl;rw[em];refine(xS (gl:=gl) hs (key:=bl zr) (R:=λr=>r=((jh s (bl zr)).getD (.mk 0 ⟨#[]⟩ [] []),(jh s (bl zr)).isSome)) rfl).go (hM.trans D.le) D.ag (zi (zn A.rsk A.rsi) (zi (rdStr _) zq)) λu8 I P r O n B=>?_;have B:r=_:=B;subst B;obtain⟨J,yi,rfl,m,ak⟩:=De n;have ek:((jh s (bl zr)).getD (.mk 0 ⟨#[]⟩ [] [])).keys=((jh s (bl zr)).map Tr.keys).getD []:=by cases jh s (bl zr) <;> rfl
 refine⟨_,_,J,yi,_,rfl,?_⟩;intro aj;refine Z6 O.ag λq aa au ae=>?_;have l:Later I P q (MxL P q [I.size]):=MxL.later O.ag aa.keep λb hb=>by rw[zbm.1 hb];exact zaf _
 have eY:(MxL P q [I.size]) I.size=Tc #[.int .i64 ((jh s (bl zr)).getD (.mk 0 ⟨#[]⟩ [] []),(jh s (bl zr)).isSome).1.kind,.string ((jh s (bl zr)).getD (.mk 0 ⟨#[]⟩ [] []),(jh s (bl zr)).isSome).1.text,aK J,aK yi]:=MxL.at (by simp) ae;generalize MxL P q [I.size]=M15 at l eY;have F:=(H1.later O).later l;have o:Fr.le M1 M15:=O.le.trans l.le;obtain⟨sk,si,vk,vi,sp,sl,Bc⟩:=F.box;rw[ek]at m;have m:=Rd.mono l.le m;generalize ai:((jh s (bl zr)).map Tr.keys).getD []=kn at m hK;obtain⟨lk,_,_⟩:=rowLen Bc.rvk;have kl:=hv.keys;have il:=hv.items;refine⟨_,rfl,vk,Bc.cel rfl,Lp h0 M0 c s v p M15 na (λk=>if lb x.text=[116,114,117,101]then((v.keys.take k).filter λy=>decide (idxOfS kn y<0)).map λy=>(p++[y],lb w)else []) v.keys.length,λi _=>v.keys.length-i.toNat,Lp.start F (by simp),?_⟩;rintro i g ⟨k,M',nb,rfl,hk,C,le,e⟩;refine⟨λS=>?_,λS=>?_⟩;have f:k<v.keys.length:=by have:=zB S;omega
 refine mJ C.L.ag (Rd.mono le Bc.rvk) f rfl rfl ?_;refine⟨x.text,BO C.L.ag (le _ _ (o _ _ eX)) rfl,J,λ_=>BO C.L.ag (le _ _ eY) rfl,?_⟩;have lM:=D.le.trans (o.trans le);have ap:nb.length<=4096:=by rw[Lp.len e];split;rw[zaw];exact zbx (wM k) (by omega);exact zbn _
 rw[m4];by_cases z:lb x.text=[116,114,117,101];have et:decide (lb x.text=(#[116,114,117,101]:Array UInt8).toList)=Ta:=zD z;rw[et];refine⟨λu g'=>u=.bool (decide (0<=idxOfS kn v.keys[k]))/\∃M2,Later g M' g' M2,λ_=>?_,λG=>(nomatch G),λ_ u g' ⟨N,_⟩=>⟨_,N⟩,?_⟩;refine(Dg (gl:=gl) (xs:=kn) (x:=v.keys[k]) (R:=λr=>r=decide (0<=idxOfS kn v.keys[k])) rfl).go (vs:=[aK J,.string v.keys[k]]) (hM.trans lM) C.L.ag (zi ((W0 rfl).2 (Rd.mono le m)) (zi (rdStr _) zq)) λu az ab r Y n B=>?_;have B:r=_:=B;subst B;exact⟨_,dK n,rfl,ab,Y⟩;rintro b g2 ⟨N,M2,L2⟩;cases N;have V:=C.later L2;refine⟨λt=>?_,λt=>?_⟩;have t:idxOfS kn v.keys[k]<0:=by simp at t;omega
 intro E;obtain⟨U,ar,ah⟩:=wq (g:=E) rfl;clear_value E;have af:=V.later (Later.same V.L.ag U);refine C7 af (st:=[v.keys[k]]) (ss:=⟨Tc ⟨g2.size,0,Td⟩,1,1⟩) (uf ah (by omega)) rfl (by simp;omega) (by rw[zat];omega) ?_;refine Lp.next f (by omega) (le.trans L2.le) e ?_;rw[zb z,zb z,Xk f,zb (zD t),zb9];rfl;have t:¬idxOfS kn v.keys[k]<0:=by simp at t;omega
 refine Lp.skip f (by omega) V (le.trans L2.le) e ?_;rw[zb z,zb z,Xk f,za (by simpa using t),zbj];have et:decide (lb x.text=(#[116,114,117,101]:Array UInt8).toList)=Tb:=zF z;rw[et];refine⟨λu g'=>u=.bool Ta/\g'=g,λG=>(nomatch G),λ_=>⟨Ta,rfl,rfl⟩,λG=>(nomatch G),?_⟩;rintro b g2 ⟨N,rfl⟩;refine⟨λt=>(nomatch t),λ_=>?_⟩;refine Lp.skip f (by omega) C le e ?_;rw[za z,za z];have f:k=v.keys.length:=by have:=zC S;omega
 subst f;simp only[zbw]at e;exact hK g M' nb C e (D.le.trans (o.trans le))
def wordC:List Value:=(sWords.map bl).map za1
theorem Np:qo Tp 70=Ta:=by kernel_rfl
theorem qsn:ya Tp 70=13:=by kernel_rfl
theorem Oj{b:Nat}{cs:Array Value}(H:Blk h b cs)(f:cs.size=13){K:zc->Prop}
  (k:∀h':zc,Blk h' b wordC.toArray->h'.size=h.size->(∀j,j≠b->h'[j]?=h[j]?)->K h'):XRunU Tp (zag 70 (.pointer (Tc ⟨b,0,Td⟩)) (.agg wordC.toArray)) h K:=
 Qz (vs:=wordC) Np H rfl qsn (by rw[f];exact zaf _) (by intro u e;unfold wordC at e;obtain⟨y,_,rfl⟩:=zb1.1 e;rfl) λh' c l i=>k h' (by rw[ue (by rw[f];rfl)]at c;exact c) l i
theorem La{K:Value->zc->Prop}(i:∀g,Keep h.size h g->K (.agg wordC.toArray) g):XC Tp 55 #[] h K:=by apply Pr;intro h1;obtain⟨e,n,l⟩:=wq (g:=h1) rfl;clear_value h1;refine Oj l rfl λb k m c=>?_;have k2:Keep h.size h b:=⟨by omega,λj f=>by rw[c j (by omega)];exact e.get j f⟩;exact⟨_,_,_,_,_,_,_,_,_,_,_,_,_,k.ld (cs:=[_,_,_,_,_,_,_,_,_,_,_,_,_]),i b k2⟩
theorem Gn:∀{k:Nat} (b:k<sWords.length) (h:zc),QExec Tp (zes 70 (.agg wordC.toArray) (.int .i64 (k:Int))) h (.string (bl sWords[k]))
 |0,_,_=>λB d=>qm (by kernel_rfl) _
 |1,_,_=>λB d=>qm (by kernel_rfl) _
 |2,_,_=>λB d=>qm (by kernel_rfl) _
 |3,_,_=>λB d=>qm (by kernel_rfl) _
 |4,_,_=>λB d=>qm (by kernel_rfl) _
 |5,_,_=>λB d=>qm (by kernel_rfl) _
 |6,_,_=>λB d=>qm (by kernel_rfl) _
 |7,_,_=>λB d=>qm (by kernel_rfl) _
 |8,_,_=>λB d=>qm (by kernel_rfl) _
 |9,_,_=>λB d=>qm (by kernel_rfl) _
 |10,_,_=>λB d=>qm (by kernel_rfl) _
 |11,_,_=>λB d=>qm (by kernel_rfl) _
 |12,_,_=>λB d=>qm (by kernel_rfl) _
 |n+13,b,_=>absurd b (by show¬n+13<13;omega)
def mF(q:Bs):FuncId:=
 if q=iK then 151 else if q=jA then 152 else if q=xw\/q=iF then 153 else if q=xx\/q=jY then 154
 else if q=jr then 155 else if q=jg then 156 else if q=je then 157 else if q=zr then 158 else if q=hX then 159 else if q=hO then 160 else 161
theorem T2{a:Option Addr}(b:K (.func (.func (mF (lb w))) #[.pointer a] #[]) h):XC Tp 91 #[.pointer a,.string w] h K:=by apply XA a w;simp only[m4];unfold mF at b;refine⟨λH=>?_,λu=>⟨λN=>?_,λM=>?_⟩⟩;rw[zb (show lb w=iK from zB H)]at b;exact b;rw[za (show lb w≠iK from zC u),zb (show lb w=jA from zB N)]at b;exact b;rw[za (show lb w≠iK from zC u),za (show lb w≠jA from zC M)]at b;intro P i;refine⟨λr=>i _ h ⟨λ_=>?_,λf=>by rw[f]at r;cases r⟩,λE=>i _ h ⟨λJ=>?_,λG=>?_⟩⟩;rw[zb (.inl (show lb w=xw from zB r))]at b;exact b;rw[zb (.inr (show lb w=iF from zB J))]at b;exact b;have A:lb w≠xw:=zC E;have L:lb w≠iF:=zC G;rw[za (by simp[A,L])]at b;intro O m;refine⟨λo=>m _ h ⟨λ_=>?_,λf=>by rw[f]at o;cases o⟩,λz=>m _ h ⟨λI=>?_,λy=>?_⟩⟩;rw[zb (.inl (show lb w=xx from zB o))]at b;exact b;rw[zb (.inr (show lb w=jY from zB I))]at b;exact b;have D:lb w≠xx:=zC z;have x:lb w≠jY:=zC y;rw[za (by simp[D,x])]at b;refine⟨λB=>?_,λe=>⟨λC=>?_,λk=>⟨λF=>?_,λn=>⟨λs=>?_,λc=>⟨λp=>?_,λl=>⟨λt=>?_,λq=>?_⟩⟩⟩⟩⟩⟩;rw[zb (show lb w=jr from zB B)]at b;exact b;rw[za (show lb w≠jr from zC e),zb (show lb w=jg from zB C)]at b;exact b;rw[za (show lb w≠jr from zC e),za (show lb w≠jg from zC k),zb (show lb w=je from zB F)]at b;exact b;rw[za (show lb w≠jr from zC e),za (show lb w≠jg from zC k),za (show lb w≠je from zC n),zb (show lb w=zr from zB s)]at b;exact b;rw[za (show lb w≠jr from zC e),za (show lb w≠jg from zC k),za (show lb w≠je from zC n),za (show lb w≠zr from zC c),zb (show lb w=hX from zB p)]at b;exact b;rw[za (show lb w≠jr from zC e),za (show lb w≠jg from zC k),za (show lb w≠je from zC n),za (show lb w≠zr from zC c),za (show lb w≠hX from zC l),zb (show lb w=hO from zB t)]at b;exact b;rw[za (show lb w≠jr from zC e),za (show lb w≠jg from zC k),za (show lb w≠je from zC n),za (show lb w≠zr from zC c),za (show lb w≠hX from zC l),za (show lb w≠hO from zC q)]at b;exact b
theorem OY(q:Bs):zo Tp (mF q)=Ta:=by
 unfold mF;repeat' split
 all_goals kernel_rfl
set_option maxHeartbeats 1000000 in
theorem TS(D:GL gl){n:Nat}(H:CK h0 M0 c s v p h M na)(o:Fr.le gl M)(O:Ok s)(r:Ok v)(t:Ok x){q:Bs}(J:q∈sWords)(b:Yg (qb n) q x=Ta) (L:qb n x=Ta->∀u,(u=v\/u∈v.items)->FlX gl n x u) (G:∀y∈x.items,qb n y=Ta->∀u,(u=v\/u∈v.items)->FlX gl n y u) (A:Rd M (.row .str) x.keys [aK xk]) (z:Rd M (.row .tree) x.items [aK xi]) (F:p.length+bK v<=1000) (E:na.length<=300000000) (i:Out h0 M0 c s v p M na (J7 zj qu (zm zj qu n) s q x v p) K):
  XC Tp (mF q) #[.pointer (Tc ⟨c,0,Td⟩),.string (bl q),.agg #[.int .i64 x.kind,.string x.text,aK xk,aK xi]] h K:=by
 have e:p.length<=1000:=by omega
 have m:na.length<=900000000:=by omega
 have Q:lb (bl q)=q:=yo q;have pre:∀{α:Type} (l:List α) (f:α->List cR),(l.flatMap f).length<=16777216->∀k,((l.take k).flatMap f).length<=16777216:=λl f N k=>zbx (RI l k) N;have C:=FN (n:=n) (s:=s) (w:=q) (p:=p) t r;unfold sWords at J;simp only[zah,zdx,or_false]at J;rcases J with rfl|rfl|rfl|rfl|rfl|rfl|rfl|rfl|rfl|rfl|rfl|rfl|rfl;exact WN H o e m i;exact UY D H o r t A z e m i;rw[KN]at b;exact HH D H o r t (zB b) A z e m i;rw[Ex]at b;exact HH D H o r t (zB b) A z e m i;rw[Ff]at b;simp only[zan,zA]at b;exact G7 D H o r t b.1 b.2.1 b.2.2 A z e m i;rw[Ib]at b;simp only[zan,zA]at b;exact G7 D H o r t b.1 b.2.1 b.2.2 A z e m i;rw[J8]at i;exact Vj H o r t z e E i;rw[Zr]at i;exact UO H o O r e E i;rw[Ih]at b;rw[Q2]at i C;exact UP D H o r t (λu I=>L b u (.inr I)) A z F E (λP=>by rw[zb P]at C;exact pre _ _ C) i;rw[E8,zan,zas]at b;rw[wo]at i C;exact Mv H o r t (λy B u I=>G y B (b.2 y B) u (.inr I)) A z F E (pre _ _ C) i;rw[F6,zan,zas]at b;rw[mz]at i C;exact PQ H o r t (λy B=>G y B (b.2 y B) v (.inl rfl)) z F E (pre _ _ C) i;rw[Fc,zan,zas]at b;rw[nl]at i;exact U7 H o r t (λy B=>G y B (b.2 y B) v (.inl rfl)) A z e m i;rw[GD]at b;rw[nh]at i;exact Rq H o r (L b v (.inl rfl)) A z e m i
end
end
section
variable {s v:Tr}
section
variable {gl : Fr}
set_option maxHeartbeats 2000000 in
theorem EN(hg:GL gl):∀(n:Nat) (s v:Tr),bK s<=n->Ok s->Ok v->qb n s=Ta->FlX gl n s v
 |0,s,v,hd,_,_,_=>by have:=W8 s;omega
 |n+1,s,v,hd,hs,U,hrs=>λp hp h M hM ag yv uv ry ru sp rp K hK=>by
  obtain⟨sk,si,rfl,rsk,rsi⟩:=yj ry;obtain⟨vk,vi,rfl,rvk,rvi⟩:=yj ru;apply XW s.kind s.text sk si v.kind v.text vk vi sp;intro h1;have L1:Later h M h1 (Mx M h.size #[.int .i64 s.kind,.string s.text,aK sk,aK si]):=Later.frz ag _ _;have eS:(Mx M h.size #[.int .i64 s.kind,.string s.text,aK sk,aK si]) h.size=Tc #[.int .i64 s.kind,.string s.text,aK sk,aK si]:=Y6 _ _ _;have z1:h1.size=h.size+1:=zau _;generalize Mx M h.size #[.int .i64 s.kind,.string s.text,aK sk,aK si]=M1 at L1 eS;clear_value h1;intro D;obtain⟨k2,z2,B2⟩:=wq (g:=D) rfl;clear_value D;have Y:Later h M D M1:=L1.trans (Later.same L1.ag k2);refine⟨s.kind,s.text,sk,si,r9 Y.ag (cs:=[_,_,aK sk,aK si]) eS,v.kind,v.text,vk,vi,B2.ld (cs:=[_,_,aK vk,aK vi]),?_⟩;intro t;obtain⟨af,aC,ai⟩:=wq (g:=t) rfl;clear_value t;have b:Later h M t M1:=Y.trans (Later.same Y.ag af);have aa:CK h M D.size s v p t M1 []:=⟨b,by omega,Y.ag.none (zaf _),sk,si,vk,vi,sp,⟨Td,0,0⟩,⟨ai,Rd.mono b.le rsk,Rd.mono b.le rsi,Rd.mono b.le rvk,Rd.mono b.le rvi,Rd.mono b.le rp,FS.nil,λq hq=>(nomatch hq)⟩⟩;refine La λam ah=>⟨_,_,_,_,_,_,_,_,_,_,_,_,_,rfl,?_⟩;have aj:=aa.later (Later.same b.ag ah);have ak:sWords.length=13:=rfl;refine⟨Lp h M D.size s v p M1 [] (gW n s v p) 13,λi _=>13-i.toNat,Lp.start aj rfl,?_⟩;rintro i g ⟨k,M',nb,rfl,hk,C,le,e⟩;rw[zco]at C;refine⟨λhc=>?_,λhc=>?_⟩;have o:k<13:=by have:=zB hc;omega
  have l:k<sWords.length:=by omega
  refine⟨bl sWords[k],λg0=>Gn l g0,s.kind,s.text,sk,si,r9 C.L.ag (cs:=[_,_,aK sk,aK si]) (le _ _ eS),?_⟩;have S:=b.le.trans le;refine(xS (gl:=gl) hs (key:=bl sWords[k]) (R:=λr=>r=((jh s (bl sWords[k])).getD (.mk 0 ⟨#[]⟩ [] []),(jh s (bl sWords[k])).isSome)) rfl).go (hM.trans S) C.L.ag (zi (zn (Rd.mono S rsk) (Rd.mono S rsi)) (zi (rdStr _) zq)) λaz aA ae r m I w=>?_;have w:r=_:=w;subst w;obtain⟨yk,yi,rfl,H,F⟩:=De I;have x:=C.later m;refine⟨_,_,yk,yi,_,rfl,?_⟩;intro an;refine Z6 x.L.ag λap O aE J=>⟨λf=>?_,λf=>?_⟩;obtain⟨y,V⟩:=Option.isSome_iff_exists.1 f;rw[V]at J H F;have E:=yf V;have ay:=xm E;have A:=hs.item E;have ab:=x.later O;have Q:=Am hrs (ye hs.nd) V;refine⟨y.kind,y.text,yk,yi,J.ld (cs:=[_,_,aK yk,aK yi]),T2 ⟨_,rfl,rfl,?_⟩⟩;rw[yo];refine⟨OY _,?_⟩;have aF:nb.length<=218103808:=by rw[Lp.len e];have:=Rl (n:=n) (p:=p) hs U k;omega
  have ih:∀z,bK z<=n->Ok z->qb n z=Ta->∀u,(u=v\/u∈v.items)->FlX gl n z u:=λz hd ho w u hu=>EN hg n z u hd ho (by rcases hu with rfl|hu;exact U;exact U.item hu) w;refine TS hg (n:=n) ab (hM.trans (S.trans m.le)) hs U A (zay l) Q (λw=>ih y (by omega) A w) (λz hz w=>ih z (by have:=xm hz;omega) (A.item hz) w) H F hp (by omega) ?_;have nx:=Lp.next (h0:=h) (M0:=M) (c:=D.size) (s:=s) (v:=v) (p:=p) (na:=[]) (M1:=M1) (M2:=ae) (G:=gW n s v p) (N:=13) (nb:=nb) o (by omega) (le.trans m.le) e (SS l V);rw[zco]at nx;exact nx;have Z:jh s (bl sWords[k])=Td:=by
   cases hk2:jh s (bl sWords[k])with
   |none=>rfl
   |some y=>rw[hk2]at f;cases f
  exact Lp.skip o (by omega) (by rw[zco];exact x.later O) (le.trans m.le) e (Sq l Z);have o:k=13:=by have:=zC hc;omega
  subst o;obtain⟨ar,aB,ax,au,aG,P,B⟩:=C.box;exact⟨_,rfl,P,B.blk.cellAdd (by rfl),hK g M' nb P C.L B.fs e⟩
theorem Om(w:GL gl){n:Nat}(k:bK s<=n)(f:Ok s)(i:Ok v)(r:qb n s=Ta){p:List Bt}(l:p.length+bK v<=1000){R:List (List Bt×Bt)->Prop}(h:R ((zm zj qu n s v p).map fE)):PC Tp gl 49 [Arg.mk .tree s,Arg.mk .tree v,Arg.mk (.row .str) p] [.row km] R:=by
 intro h0 M vs o ag z
 match vs,z with
 |[u1,u2,u3],⟨h1,h2,h3,_⟩=>
  obtain⟨sp,rfl,m⟩:=oC h3;apply PX.of;refine EN w n s v k f i r p l h0 M o ag u1 u2 h1 h2 sp m _ λg M' nb sl L t e=>?_;have A:nb.length<=16777216:=by have:=congrArg zdh e;rw[zaw]at this;rw[this];exact yA f i
  obtain⟨bs,c,rd⟩:=t.rd L.ag (by omega);have q:(nb.map λx=>fE x.1)=(zm zj qu n s v p).map fE:=by rw[<-e,zb6];rfl
  rw[q]at rd;refine⟨MxL M' g bs,_,⟨L.keep,L.le.trans (lN L.ag bs),λb u=>?_,MxL.ag L.ag bs⟩,Y5.2 ((W0 rfl).2 rd),h⟩;unfold MxL;rw[za (λy=>by have:=(c b y).1;omega)];exact L.old b u
theorem qL(i:GL gl)(l:Sm s)(m:Sm v){R:List (List Bt×Bt)×Int->Prop}(h:R ((gU s v).1.map fE,(gU s v).2)):PC Tp gl 14 [Arg.mk .tree s,Arg.mk .tree v] [.row km,.int .i64] R:=by
 apply TD;simp only[xb];unfold gU at h;refine td i l ⟨λr=>r=zy v,λ_=>vu i m rfl,λn f=>?_⟩;by_cases h1:Yp s=Ta;have f:n=zy v:=f (by rw[h1];rfl);rw[h1,f];by_cases b:zy v=Ta;rw[zb ⟨h1,b⟩]at h;rw[b];have os:=sP l (jk h1);have k:=sP m b;have:=k.dp;exact⟨λc=>(nomatch c),λ_=>Om i (zaf _) os k (lX h1 (zaf _)) (by simp;omega) h⟩;rw[za (λe=>b e.2)]at h;have b:zy v=Tb:=by simpa using b
 rw[b];exact⟨λ_=>h,λc=>(nomatch c)⟩;rw[za (λe=>h1 e.1)]at h;have h1:Yp s=Tb:=by simpa using h1
 rw[h1];exact⟨λ_=>h,λc=>(nomatch c)⟩
theorem wz(b:GL gl)(c:Sm s)(f:Sm v){R:Bool->Prop}(h:R (fitsT zj qu s v)):PC Tp gl 19 [Arg.mk .tree s,Arg.mk .tree v] [.bool] R:=by
 apply WP;simp only[xb];refine qL b c f ?_;rw[wx]at h;have e:(bif ((gU s v).2==0)then((((zdh ((gU s v).1.map fE):Nat):Int))==0)else Tb)=(decide ((gU s v).2=0)&&decide ((gU s v).1.length=0)):=by
  rw[jH,jH,zaw];cases decide ((gU s v).2=0)with
  |false=>rfl
  |true=>simp
 rw[<-e]at h;exact h
end
end
section
variable {M:Fr}
def rV:Bs:=[123,34,109,101,109,98,101,114,115,34,58,123,34,98,34,58,123,34,108,101,97,115,116,34,58,51,125,125,44,34,116,121,112,101,34,58,34,111,98,106,101,99,116,34,44,34,110,101,101,100,34,58,91,34,97,34,93,125]
def sE:Bs:=[123,34,98,34,58,49,125]
def pX:Bs:=[123,34,97,110,121,34,58,91,123,34,116,121,112,101,34,58,34,110,117,108,108,34,125,44,123,34,101,110,117,109,34,58,91,49,93,125,93,125]
def nT(n:Bs):Tr:=.mk 3 (bl n) [] []
def sT(n:Bs):Tr:=.mk 4 (bl n) [] []
def smS30:Tr:=.mk 6 (bl []) [bl zr,bl iK,bl jr] [.mk 6 (bl []) [bl [98]] [.mk 6 (bl []) [bl xw] [nT [51]]],sT [111,98,106,101,99,116],.mk 5 (bl []) [] [sT [97]]]
def mE:Tr:=.mk 6 (bl []) [bl [98]] [nT [49]]
def smT30:Tr:=.mk 6 (bl []) [bl hO] [.mk 5 (bl []) [] [.mk 6 (bl []) [bl iK] [sT [110,117,108,108]],.mk 6 (bl []) [bl jA] [.mk 5 (bl []) [] [nT [49]]]]]
theorem Ln:((W9 rV).1,(W9 rV).2.2)=(smS30,0):=by kernel_rfl
theorem KQ:((W9 sE).1,(W9 sE).2.2)=(mE,0):=by kernel_rfl
theorem FT:((W9 pX).1,(W9 pX).2.2)=(smT30,0):=by kernel_rfl
theorem qt0:Yp smS30=Ta:=by kernel_rfl
theorem Pf:zy mE=Ta:=by kernel_rfl
theorem qt2:zm zj qu (bK smS30) smS30 mE []=[([bl [97]],jr),([bl [98]],xw)]:=by kernel_rfl
theorem QG:fitsT zj qu smT30 (nT [49])=Ta:=by kernel_rfl
theorem Vi:fitsT zj qu smT30 (nT [50])=Tb:=by kernel_rfl
theorem QM:t7 smS30=[bl iK,bl jr,bl zr]:=by kernel_rfl
section
variable {gl : Fr}
theorem zY{r:Tr×Int×Int}{w:Value}(h:Jl M [.tree,.int .i64,.int .i64] r w):∃sk si:Sl,w=.tuple #[.agg #[.int .i64 r.1.kind,.string r.1.text,aK sk,aK si],.int .i64 r.2.1,.int .i64 r.2.2]/\Rd M (.row .str) r.1.keys [aK sk]/\Rd M (.row .tree) r.1.items [aK si]:=by obtain⟨vs,⟨m,i,rfl,e,l,f,rfl,b,k,rfl,hz⟩,rfl⟩:=h;obtain⟨sk,si,rfl,h1,c⟩:=yj e;rw[jq b,jq hz];exact⟨sk,si,rfl,h1,c⟩
theorem QX{g:zc}(ag:AgM M g){lo:Nat}{s':Sl}{xs:List Bt}(H:Owns g lo 9 1 s' (xs.map za1))(l:s'.len=xs.length)(z:xs.length<=1000000):∃M',(Fr.le M M'/\(∀b,b<lo->M' b=M b)/\AgM M' g)/\Rd M' (.row .str) xs [aK s']/\True:=by
 by_cases h0:xs=[];subst h0;exact⟨M,⟨Fr.le.refl _,λ_ _=>rfl,ag⟩,⟨_,rfl,s'.a,s'.cap,by rw[aK,l],⟨by simp,by simp⟩,.inl rfl⟩,trivial⟩;have w:=zbo.2 h0;rcases H.2 with⟨h,hz⟩|⟨b,cap,c,h,o,r,t,n,p,f⟩;omega;simp only[zbg]at h;obtain⟨s,C,B⟩:=h;have u:Blk g b c:=⟨_,r⟩;refine⟨MxL M g [b],⟨lN ag [b],λx y=>?_,MxL.ag ag [b]⟩,⟨_,rfl,s'.a,s'.cap,by rw[aK,l],⟨by omega,by omega⟩,.inr ⟨b,0,c,s,MxL.at (by simp) u,λi hi=>?_⟩⟩,trivial⟩;unfold MxL;rw[za (λn=>by have:=zbm.1 n;omega)];have e:cut c (0+i*sz Ty.str) (sz Ty.str)=[.string xs[i]]:=by
  show cut c (0+i*1) 1=_;refine pU rfl λq A=>?_;have k:q=0:=by omega
  subst k;have m:(xs.map za1)[i]?=Tc (.string xs[i]):=by rw[zbu,zaj hi];rfl
  rw[<-f,zba,zb (by omega)]at m;rw[za5,zdc,zen,m];rfl
 rw[e];rfl
set_option maxHeartbeats 1000000 in
theorem TM(hg:GL gl){s:Tr}(hs:Sm s){R:List Bt->Prop}(h:R (t7 s)):PC Tp gl 22 [Arg.mk .tree s] [.row .str] R:=by
 intro h0 M vs hM ag ha
 match vs,ha with
 |[u],⟨Q,_⟩=>
  have Q:RdV M .tree s u:=Q;have ak:=Q;obtain⟨sk,si,rfl,rk,ri⟩:=yj Q;apply PX.of;apply YU s.kind s.text sk si;intro h1;have E:Later h0 M h1 (Mx M h0.size #[.int .i64 s.kind,.string s.text,aK sk,aK si]):=Later.frz ag _ _;have S:(Mx M h0.size #[.int .i64 s.kind,.string s.text,aK sk,aK si]) h0.size=Tc #[.int .i64 s.kind,.string s.text,aK sk,aK si]:=Y6 _ _ _;have z1:h1.size=h0.size+1:=zau _;generalize Mx M h0.size #[.int .i64 s.kind,.string s.text,aK sk,aK si]=M1 at E S;clear_value h1;refine⟨s.kind,s.text,sk,si,r9 E.ag (cs:=[_,_,aK sk,aK si]) S,?_⟩;refine(td (gl:=gl) hg hs (R:=λr=>r=Yp s) rfl).go (hM.trans E.le) E.ag (zi (zn (Rd.mono E.le rk) (Rd.mono E.le ri)) zq) λw7 h7 M7 r L7 y G=>?_;have G:r=Yp s:=G;subst G;have Y:=E.trans L7;unfold t7 at h;refine⟨_,dK y,λt=>?_,λt=>?_⟩;have t:¬Yp s=Ta:=by intro e;rw[e]at t;cases t
  rw[za t]at h;exact⟨M7,_,Y,Y5.2 ((W0 rfl).2 t6),h⟩;have t:Yp s=Ta:=by simpa using t
  rw[zb t]at h;refine La λai ab=>⟨_,_,_,_,_,_,_,_,_,_,_,_,_,rfl,?_⟩;have V:=Y.trans (Later.same Y.ag ab);have N:sWords.length=13:=rfl;refine⟨λo i g=>∃(k:Nat) (M':Fr),i=k/\k<=13/\Later h0 M g M'/\Fr.le M1 M'/\(∀q,o.a=Tc q->M' q.block=Td)/\o.len=((sWords.take k).filter λw=>decide (0<=idxOfS s.keys (bl w))).length/\Owns g h0.size 9 1 o ((((sWords.take k).filter λw=>decide (0<=idxOfS s.keys (bl w))).map bl).map za1),λ_ i _=>13-i.toNat,⟨0,M7,rfl,zbn _,V,L7.le,λq n=>(nomatch n),rfl,Owns.nil _ _ _ _⟩,?_⟩;rintro o i g ⟨k,M',rfl,hk,L,le,no,lo,P⟩;refine⟨λt=>?_,λt=>?_⟩;have C:k<13:=by have:=zB t;omega
  have F:k<sWords.length:=by omega
  have ah:o.len<=13:=by rw[lo];exact zbx (wM k) (by omega)
  refine⟨bl sWords[k],λg0=>Gn F g0,sk,BO L.ag (le _ _ S) rfl,?_⟩;refine(Dg (gl:=gl) (xs:=s.keys) (x:=bl sWords[k]) (R:=λr=>r=decide (0<=idxOfS s.keys (bl sWords[k]))) rfl).go (vs:=[aK sk,.string (bl sWords[k])]) (hM.trans L.le) L.ag (zi ((W0 rfl).2 (Rd.mono L.le rk)) (zi (rdStr _) zq)) λaj O D r z y G=>?_;have G:r=_:=G;subst G;have l:=L.trans z;have A:Owns O h0.size 9 1 o _:=P.keepN z.keep;have B:∀q,o.a=Tc q->D q.block=Td:=λq n=>by rw[z.old _ (P.base_le q n).2];exact no q n
  refine⟨_,dK y,λn=>?_,λn=>?_⟩;have n:0<=idxOfS s.keys (bl sWords[k]):=zB n;intro I;obtain⟨J,am,aa⟩:=wq (g:=I) rfl;clear_value I;have f:=l.trans (Later.same l.ag J);refine Zk elemStr (A.keepN J) (src:=⟨Tc ⟨O.size,0,Td⟩,1,1⟩) (uf aa (Nat.lt_succ_self _)) rfl (by simp[Value.oneCell']) (by simp only;omega) (by simp only;omega) f.keep.size λs' g' e1 e2 e3 e4 e5=>⟨s',rfl,?_⟩;have af:=f.keep.size;have Z:AgM D g':=λb c e=>by obtain⟨T,m,e'⟩:=f.ag b c e;exact⟨T,m,by rw[e3 b (f.ag.lt e) λp hp e6=>by rw[e6,B p hp]at e;cases e];exact e'⟩
  have kk:Keep h0.size h0 g':=⟨by omega,λj hj=>by rw[e3 j (by omega) λp hp e6=>by have:=(A.base_le p hp).1;omega];exact f.keep.get j hj⟩;rw[Ze C (by omega)];have H:((sWords.take (k+1)).filter λw=>decide (0<=idxOfS s.keys (bl w)))=((sWords.take k).filter λw=>decide (0<=idxOfS s.keys (bl w)))++[sWords[k]]:=by rw[Xk F,zb (zD n)]
  refine⟨⟨k+1,D,rfl,by omega,⟨kk,f.le,f.old,Z⟩,le.trans z.le,λq n=>?_,by rw[H,zat,e1,lo];rfl,by rw[H,zb9,zb9];exact e2⟩,by simp only[zao];omega⟩;rcases e5 q n with⟨q',ae,e⟩|e;rw[e];exact B q' ae;rw[e];exact l.ag.none (by omega);have n:¬0<=idxOfS s.keys (bl sWords[k]):=zC n;rw[Ze C (by omega)];have H:((sWords.take (k+1)).filter λw=>decide (0<=idxOfS s.keys (bl w)))=((sWords.take k).filter λw=>decide (0<=idxOfS s.keys (bl w))):=by rw[Xk F,za (by simpa using n),zbj]
  exact⟨⟨k+1,D,rfl,by omega,l,le.trans z.le,B,by rw[H];exact lo,by rw[H];exact A⟩,by simp only[zao];omega⟩;have C:k=13:=by have:=zC t;omega
  subst C;have U:sWords.take 13=sWords:=rfl;rw[U]at lo P;obtain⟨M2,L2,rd,_⟩:=QX L.ag P (by rw[zaw];exact lo) (by rw[zaw];exact zbx (List.length_filter_le _ _) (by rw[N];omega));exact⟨M2,_,⟨L.keep,L.le.trans L2.1,λb hb=>by rw[L2.2.1 b hb];exact L.old b hb,L2.2.2⟩,Y5.2 ((W0 rfl).2 rd),h⟩
end
end
end Go.X
end
section
namespace Go.X
section
theorem zf0(h:zc)(R:Value->zc->Prop) (H:XC Tp 48 #[.string (⟨#[123,34,109,101,109,98,101,114,115,34,58,123,34,98,34,58,123,34,108,101,97,115,116,34,58,51,125,125,44,34,116,121,112,101,34,58,34,111,98,106,101,99,116,34,44,34,110,101,101,100,34,58,91,34,97,34,93,125]⟩:Bt)] h (λb c=>∃d e f g i j,b=.tuple #[tA d e f g,iV i,iV j]/\let k:=c.push (.cells tC 25);XRunU Tp (zag 25 (.pointer (Tc ⟨c.size,0,Td⟩)) (tA d e f g)) k (λl=>XC Tp 48 #[.string (⟨#[123,34,98,34,58,49,125]⟩:Bt)] l (λm n=>∃o p q r s t,m=.tuple #[tA o p q r,iV s,iV t]/\let u:=n.push (.cells tC 25);XRunU Tp (zag 25 (.pointer (Tc ⟨n.size,0,Td⟩)) (tA o p q r)) u (λv=>∃w x y z,zd v ⟨c.size,0,Td⟩ 0 (tL w x y z)/\∃A B C D,zd v ⟨n.size,0,Td⟩ 0 (tL A B C D)/\XC Tp 14 #[tA w x y z,tA A B C D] v (λE F=>∃G I,E=.tuple #[aK G,iV I]/\XC Tp 48 #[.string (⟨#[123,34,97,110,121,34,58,91,123,34,116,121,112,101,34,58,34,110,117,108,108,34,125,44,123,34,101,110,117,109,34,58,91,49,93,125,93,125]⟩:Bt)] F (λJ L=>∃M N O P Q S,J=.tuple #[tA M N O P,iV Q,iV S]/\let T:=L.push (.cells tC 25);XRunU Tp (zag 25 (.pointer (Tc ⟨L.size,0,Td⟩)) (tA M N O P)) T (λU=>((bif (bif (bif (bif (j != 0)then Ta else(t != 0))then Ta else(I != 0))then Ta else(S != 0))then Ta else((G.len:Int) != 2))=Ta->R (.bool Tb) U)/\((bif (bif (bif (bif (j != 0)then Ta else(t != 0))then Ta else(I != 0))then Ta else(S != 0))then Ta else((G.len:Int) != 2))=Tb->∃V,(G.a=Tc V/\0<=(0:Int)/\(0:Int)<(G.len:Int))/\∃W,zf U (zae (V.add ((0:Int).toNat*2)) 1)=Tc (.string W)/\∃X,((W.toList==(⟨#[110,101,101,100]⟩:Bt).toList)=Ta->(G.a=Tc X/\0<=(0:Int)/\(0:Int)<(G.len:Int)))/\∃Y,((W.toList==(⟨#[110,101,101,100]⟩:Bt).toList)=Ta->zf U (zae (X.add ((0:Int).toNat*2)) 0)=Tc (aK Y))/\let Z:Sl->Sl->Bool->zc->Prop:=λ(aa:Sl) (ab:Sl) ac (ad:zc)=>(∃ae:Value->zc->Prop,(ac=Ta->XC Tp 21 #[aK ab,aK aa] ad (λaf ag=>∃ah,af=.bool ah/\ae (.bool ah) ag))/\(ac=Tb->∃ai,ae (.bool ai) ad)/\(ac=Ta->∀aj ak,ae aj ak->∃al,aj=.bool al)/\∀am:Bool,∀an,ae (.bool am) an->R (.bool (bif ac then am else Tb)) an);let ao:Sl->Int->Bt->Sl->Sl->Bool->zc->Prop:=λ(ap:Sl) aq ar (au:Sl) (av:Sl) aw (ax:zc)=>(∃ay:Value->zc->Prop,(aw=Ta->XC Tp 22 #[tA aq ar au av] ax (λaz aA=>∃aB,az=aK aB/\ay (aK aB) aA))/\(aw=Tb->∃aC,ay (aK aC) ax)/\(aw=Ta->∀aD aE,ay aD aE->∃aF,aD=aK aF)/\∀aG:Sl,∀aH,ay (aK aG) aH->Z ap aG aw aH);let aI:Int->Bt->Sl->Sl->Int->Bt->Sl->Sl->Bool->zc->Prop:=λaJ aL (aM:Sl) (aN:Sl) aO aP (aQ:Sl) (aS:Sl) aT (aU:zc)=>(∃aV:Value->zc->Prop,(aT=Ta->XC Tp 19 #[tA aO aP aQ aS,tA aJ aL aM aN] aU (λaW aX=>∃aY,aW=.bool aY/\aV (.bool aY) aX))/\(aT=Tb->∃aZ,aV (.bool aZ) aU)/\(aT=Ta->∀a0 a1,aV a0 a1->∃a2,a0=.bool a2)/\∀a3:Bool,∀a4,aV (.bool a3) a4->(∃a5 a6 a7 a8,((bif aT then(!a3)else Tb)=Ta->zd a4 ⟨c.size,0,Td⟩ 0 (tL a5 a6 a7 a8))/\(∃a9:Value->zc->Prop,((bif aT then(!a3)else Tb)=Ta->XC Tp 22 #[tA a5 a6 a7 a8] a4 (λba bb=>∃bc,ba=aK bc/\a9 (aK bc) bb))/\((bif aT then(!a3)else Tb)=Tb->∃bd,a9 (aK bd) a4)/\((bif aT then(!a3)else Tb)=Ta->∀be bf,a9 be bf->∃bg,be=aK bg)/\∀bh:Sl,∀bi,a9 (aK bh) bi->∃bj:Value->zc->Prop,((bif aT then(!a3)else Tb)=Ta->let bk:=bi.push (.cells #[.string (⟨#[116,121,112,101]⟩:Bt),.string (⟨#[110,101,101,100]⟩:Bt),.string (⟨#[109,101,109,98,101,114,115]⟩:Bt)] 9);bj (.slice (Tc ⟨bi.size,0,Td⟩) 3 3) bk)/\((bif aT then(!a3)else Tb)=Tb->∃bl,bj (aK bl) bi)/\((bif aT then(!a3)else Tb)=Ta->∀bm bn,bj bm bn->∃bo,bm=aK bo)/\∀bp:Sl,∀bq,bj (aK bp) bq->Z bp bh (bif aT then(!a3)else Tb) bq)/\(∃br:Value->zc->Prop,((bif aT then(!a3)else Tb)=Ta->let bs:=a4.push (.cells #[.string (⟨#[116,121,112,101]⟩:Bt),.string (⟨#[110,101,101,100]⟩:Bt),.string (⟨#[109,101,109,98,101,114,115]⟩:Bt)] 9);br (.slice (Tc ⟨a4.size,0,Td⟩) 3 3) bs)/\((bif aT then(!a3)else Tb)=Tb->∃bt,br (aK bt) a4)/\((bif aT then(!a3)else Tb)=Ta->∀bu bv,br bu bv->∃bw,bu=aK bw)/\∀bx:Sl,∀bz,br (aK bx) bz->ao bx a5 a6 a7 a8 (bif aT then(!a3)else Tb) bz))/\(∃bA:Value->zc->Prop,((bif aT then(!a3)else Tb)=Ta->let bB:=a4.push (.cells #[.string (⟨#[116,121,112,101]⟩:Bt),.string (⟨#[110,101,101,100]⟩:Bt),.string (⟨#[109,101,109,98,101,114,115]⟩:Bt)] 9);bA (.slice (Tc ⟨a4.size,0,Td⟩) 3 3) bB)/\((bif aT then(!a3)else Tb)=Tb->∃bC,bA (aK bC) a4)/\((bif aT then(!a3)else Tb)=Ta->∀bD bE,bA bD bE->∃bF,bD=aK bF)/\∀bG:Sl,∀bH,bA (aK bG) bH->∃bI bJ bL bM,((bif aT then(!a3)else Tb)=Ta->zd bH ⟨c.size,0,Td⟩ 0 (tL bI bJ bL bM))/\ao bG bI bJ bL bM (bif aT then(!a3)else Tb) bH));let bN:Int->Bt->Sl->Sl->Int->Bt->Sl->Sl->Bool->zc->Prop:=λbO bP (bQ:Sl) (bS:Sl) bT bU (bV:Sl) (bW:Sl) bX (bY:zc)=>(∃bZ:Value->zc->Prop,(bX=Ta->XC Tp 19 #[tA bT bU bV bW,tA bO bP bQ bS] bY (λb0 b1=>∃b2,b0=.bool b2/\bZ (.bool b2) b1))/\(bX=Tb->∃b3,bZ (.bool b3) bY)/\(bX=Ta->∀b4 b5,bZ b4 b5->∃b6,b4=.bool b6)/\∀b7:Bool,∀b8,bZ (.bool b7) b8->(∃b9 ca cb cc,((bif bX then b7 else Tb)=Ta->zd b8 ⟨L.size,0,Td⟩ 0 (tL b9 ca cb cc))/\∃cd:Value->zc->Prop,((bif bX then b7 else Tb)=Ta->XC Tp 30 #[iV 2] b8 (λce cf=>∃cg ch ci cj,ce=tA cg ch ci cj/\cd (tA cg ch ci cj) cf))/\((bif bX then b7 else Tb)=Tb->∃ck cl cm cn,cd (tA ck cl cm cn) b8)/\((bif bX then b7 else Tb)=Ta->∀co cp,cd co cp->∃cq cr cs ct,co=tA cq cr cs ct)/\∀cu:Int,∀cv:Bt,∀cw cx:Sl,∀cy,cd (tA cu cv cw cx) cy->aI cu cv cw cx b9 ca cb cc (bif bX then b7 else Tb) cy)/\(∃cz:Value->zc->Prop,((bif bX then b7 else Tb)=Ta->XC Tp 30 #[iV 2] b8 (λcA cB=>∃cC cD cE cF,cA=tA cC cD cE cF/\cz (tA cC cD cE cF) cB))/\((bif bX then b7 else Tb)=Tb->∃cG cH cI cJ,cz (tA cG cH cI cJ) b8)/\((bif bX then b7 else Tb)=Ta->∀cL cM,cz cL cM->∃cN cO cP cQ,cL=tA cN cO cP cQ)/\∀cS:Int,∀cT:Bt,∀cU cV:Sl,∀cW,cz (tA cS cT cU cV) cW->∃cX cY cZ c0,((bif bX then b7 else Tb)=Ta->zd cW ⟨L.size,0,Td⟩ 0 (tL cX cY cZ c0))/\aI cS cT cU cV cX cY cZ c0 (bif bX then b7 else Tb) cW));let c1:Sl->Sl->Bool->zc->Prop:=λ(c2:Sl) (c3:Sl) c4 (c5:zc)=>(∃c6:Value->zc->Prop,(c4=Ta->XC Tp 21 #[aK c3,aK c2] c5 (λc7 c8=>∃c9,c7=.bool c9/\c6 (.bool c9) c8))/\(c4=Tb->∃da,c6 (.bool da) c5)/\(c4=Ta->∀db dc,c6 db dc->∃dd,db=.bool dd)/\∀de:Bool,∀df,c6 (.bool de) df->(∃dg dh di dj,((bif c4 then de else Tb)=Ta->zd df ⟨L.size,0,Td⟩ 0 (tL dg dh di dj))/\∃dk:Value->zc->Prop,((bif c4 then de else Tb)=Ta->XC Tp 30 #[iV 1] df (λdl dm=>∃dn dp dq dr,dl=tA dn dp dq dr/\dk (tA dn dp dq dr) dm))/\((bif c4 then de else Tb)=Tb->∃ds dt du dv,dk (tA ds dt du dv) df)/\((bif c4 then de else Tb)=Ta->∀dw dx,dk dw dx->∃dy dz dA dB,dw=tA dy dz dA dB)/\∀dC:Int,∀dD:Bt,∀dE dF:Sl,∀dG,dk (tA dC dD dE dF) dG->bN dC dD dE dF dg dh di dj (bif c4 then de else Tb) dG)/\(∃dH:Value->zc->Prop,((bif c4 then de else Tb)=Ta->XC Tp 30 #[iV 1] df (λdI dJ=>∃dL dM dN dO,dI=tA dL dM dN dO/\dH (tA dL dM dN dO) dJ))/\((bif c4 then de else Tb)=Tb->∃dP dQ dS dT,dH (tA dP dQ dS dT) df)/\((bif c4 then de else Tb)=Ta->∀dU dV,dH dU dV->∃dW dX dY dZ,dU=tA dW dX dY dZ)/\∀d0:Int,∀d1:Bt,∀d2 d3:Sl,∀d4,dH (tA d0 d1 d2 d3) d4->∃d5 d6 d7 d8,((bif c4 then de else Tb)=Ta->zd d4 ⟨L.size,0,Td⟩ 0 (tL d5 d6 d7 d8))/\bN d0 d1 d2 d3 d5 d6 d7 d8 (bif c4 then de else Tb) d4));∃d9:Value->zc->Prop,((W.toList==(⟨#[110,101,101,100]⟩:Bt).toList)=Ta->let ea:=U.push (.cells #[.string (⟨#[97]⟩:Bt)] 9);d9 (.slice (Tc ⟨U.size,0,Td⟩) 1 1) ea)/\((W.toList==(⟨#[110,101,101,100]⟩:Bt).toList)=Tb->∃eb,d9 (aK eb) U)/\((W.toList==(⟨#[110,101,101,100]⟩:Bt).toList)=Ta->∀ec ed,d9 ec ed->∃ee,ec=aK ee)/\∀ef:Sl,∀eg,d9 (aK ef) eg->((W.toList==(⟨#[110,101,101,100]⟩:Bt).toList)=Ta->(eg)[((zae (X.add ((0:Int).toNat*2)) 0):Addr).block]?=(U)[((zae (X.add ((0:Int).toNat*2)) 0):Addr).block]?)/\∃eh:Value->zc->Prop,((W.toList==(⟨#[110,101,101,100]⟩:Bt).toList)=Ta->XC Tp 21 #[aK Y,aK ef] eg (λei ej=>∃ek,ei=.bool ek/\eh (.bool ek) ej))/\((W.toList==(⟨#[110,101,101,100]⟩:Bt).toList)=Tb->∃el,eh (.bool el) eg)/\((W.toList==(⟨#[110,101,101,100]⟩:Bt).toList)=Ta->∀em en,eh em en->∃eo,em=.bool eo)/\∀ep:Bool,∀eq,eh (.bool ep) eq->∃er,((bif (W.toList==(⟨#[110,101,101,100]⟩:Bt).toList)then ep else Tb)=Ta->(G.a=Tc er/\0<=(1:Int)/\(1:Int)<(G.len:Int)))/\∃es,((bif (W.toList==(⟨#[110,101,101,100]⟩:Bt).toList)then ep else Tb)=Ta->zf eq (zae (er.add ((1:Int).toNat*2)) 1)=Tc (.string es))/\∃et,((bif (bif (W.toList==(⟨#[110,101,101,100]⟩:Bt).toList)then ep else Tb)then(es.toList==(⟨#[108,101,97,115,116]⟩:Bt).toList)else Tb)=Ta->(G.a=Tc et/\0<=(1:Int)/\(1:Int)<(G.len:Int)))/\(∃eu,((bif (bif (W.toList==(⟨#[110,101,101,100]⟩:Bt).toList)then ep else Tb)then(es.toList==(⟨#[108,101,97,115,116]⟩:Bt).toList)else Tb)=Ta->zf eq (zae (et.add ((1:Int).toNat*2)) 0)=Tc (aK eu))/\∃ev:Value->zc->Prop,((bif (bif (W.toList==(⟨#[110,101,101,100]⟩:Bt).toList)then ep else Tb)then(es.toList==(⟨#[108,101,97,115,116]⟩:Bt).toList)else Tb)=Ta->let ew:=eq.push (.cells #[.string (⟨#[98]⟩:Bt)] 9);ev (.slice (Tc ⟨eq.size,0,Td⟩) 1 1) ew)/\((bif (bif (W.toList==(⟨#[110,101,101,100]⟩:Bt).toList)then ep else Tb)then(es.toList==(⟨#[108,101,97,115,116]⟩:Bt).toList)else Tb)=Tb->∃ex,ev (aK ex) eq)/\((bif (bif (W.toList==(⟨#[110,101,101,100]⟩:Bt).toList)then ep else Tb)then(es.toList==(⟨#[108,101,97,115,116]⟩:Bt).toList)else Tb)=Ta->∀ey ez,ev ey ez->∃eA,ey=aK eA)/\∀eB:Sl,∀eC,ev (aK eB) eC->c1 eB eu (bif (bif (W.toList==(⟨#[110,101,101,100]⟩:Bt).toList)then ep else Tb)then(es.toList==(⟨#[108,101,97,115,116]⟩:Bt).toList)else Tb) eC)/\(∃eD:Value->zc->Prop,((bif (bif (W.toList==(⟨#[110,101,101,100]⟩:Bt).toList)then ep else Tb)then(es.toList==(⟨#[108,101,97,115,116]⟩:Bt).toList)else Tb)=Ta->let eE:=eq.push (.cells #[.string (⟨#[98]⟩:Bt)] 9);eD (.slice (Tc ⟨eq.size,0,Td⟩) 1 1) eE)/\((bif (bif (W.toList==(⟨#[110,101,101,100]⟩:Bt).toList)then ep else Tb)then(es.toList==(⟨#[108,101,97,115,116]⟩:Bt).toList)else Tb)=Tb->∃eF,eD (aK eF) eq)/\((bif (bif (W.toList==(⟨#[110,101,101,100]⟩:Bt).toList)then ep else Tb)then(es.toList==(⟨#[108,101,97,115,116]⟩:Bt).toList)else Tb)=Ta->∀eG eH,eD eG eH->∃eI,eG=aK eI)/\∀eJ:Sl,∀eL,eD (aK eJ) eL->∃eM,((bif (bif (W.toList==(⟨#[110,101,101,100]⟩:Bt).toList)then ep else Tb)then(es.toList==(⟨#[108,101,97,115,116]⟩:Bt).toList)else Tb)=Ta->zf eL (zae (et.add ((1:Int).toNat*2)) 0)=Tc (aK eM))/\c1 eJ eM (bif (bif (W.toList==(⟨#[110,101,101,100]⟩:Bt).toList)then ep else Tb)then(es.toList==(⟨#[108,101,97,115,116]⟩:Bt).toList)else Tb) eL)))))))))):
  XC Tp 11 #[] h R:=
 XF ⟨[(7,7000)],[],[]⟩ [.tmp 0] 97 Tryz.func11 H
end
end Go.X
end
section
namespace Go.X
open Go Go.X Go.Proofs Go.Lib Go.RowKit
section
variable {h:zc} {M:Fr} {b:Nat} {s1:Bt}
section
variable {gl : Fr}
theorem Gd{f:FuncId}{args:Array Value}{g:Bool}(i:g=Ta){Kt:Sl->zc->Prop}(E:XC Tp f args h λv h'=>∃r,v=aK r/\Kt r h'):
  ∃J:Value->zc->Prop,(g=Ta->XC Tp f args h λv h'=>∃r:Sl,v=aK r/\J (aK r) h')/\(g=Tb->∃r:Sl,J (aK r) h)/\(g=Ta->∀v h',J v h'->∃r:Sl,v=aK r)/\∀r:Sl,∀h',J (aK r) h'->Kt r h':=by
 refine⟨λv h'=>∃r,v=aK r/\Kt r h',λ_=>XC.mono E λv h' ⟨r,e,H⟩=>⟨r,e,r,rfl,H⟩,λc=>(by rw[i]at c;cases c),λ_ v h' ⟨r,e,_⟩=>⟨r,e⟩,λr h' ⟨b,e,H⟩=>?_⟩;have:r=b:=by unfold aK at e;injection e with e1 e2 e3;cases r;cases b;simp_all
 subst this;exact H
theorem XR{r:List (El km)×Int}{w:Value}(h:Jl M [.row km,.int .i64] r w):∃s:Sl,w=.tuple #[aK s,.int .i64 r.2]/\Rd M (.row km) r.1 [aK s]:=by obtain⟨vs,⟨f,rest,rfl,c,e,rfl,b⟩,rfl⟩:=h;obtain⟨s,rfl,h1⟩:=oC c;rw[jq b];exact⟨s,rfl,h1⟩
theorem Ef{xs:List (El km)}{s:Sl}(H:Rd M (.row km) xs [aK s]){k:Nat}(l:k<xs.length):∃(a:Addr) (sp:Sl),s.a=Tc a/\Rd M (.row .str) xs[k].1 [aK sp]/\∀g,AgM M g->zf g ((a.add (k*2)).add 0)=Tc (aK sp)/\zf g ((a.add (k*2)).add 1)=Tc (.string xs[k].2)/\(a.add (k*2)).block<g.size:=by obtain⟨b,o,cs,m,h,n⟩:=Go.X.rowAt H l;obtain⟨p,c2,e,c,f⟩:=n;obtain⟨v,rfl,_⟩:=id c;obtain⟨sp,rfl,c⟩:=oC ((W0 rfl).2 c);have f:c2=[.string xs[k].2]:=f;subst f;refine⟨_,sp,m,c,λg ag=>?_⟩;have ld:=mS ag h (vs:=[aK sp,.string xs[k].2]) (o:=o+k*2) (i:=0) e;rw[qy];exact⟨ld.1,ld.2.1,ag.lt h⟩
theorem Rr{s1 s2 c:Bt}:Rd (Mx M b #[.string s1,.string s2,.string c]) (.row .str) [s1,s2,c] [aK ⟨Tc ⟨b,0,Td⟩,3,3⟩]:=by refine⟨_,rfl,_,_,rfl,by simp,.inr ⟨b,0,_,rfl,by unfold Mx;rw[zb rfl],λi hi=>?_⟩⟩;have hi:i<3:=hi;rcases(by omega:i=0\/i=1\/i=2)with rfl|rfl|rfl <;> rfl
theorem UZ:Rd (Mx M b #[.string s1]) (.row .str) [s1] [aK ⟨Tc ⟨b,0,Td⟩,1,1⟩]:=by
 refine⟨_,rfl,_,_,rfl,by simp,.inr ⟨b,0,_,rfl,by unfold Mx;rw[zb rfl],λi hi=>?_⟩⟩;have hi:i<1:=hi;have:i=0:=by omega
 subst this;rfl
structure St30 (h:zc) (M:Fr) (b1 b2:Nat) (sk si tk ti:Sl) (g:zc) (Mg:Fr):Prop where
 L:Later h M g Mg
 bs:Blk g b1 #[.int .i64 smS30.kind,.string smS30.text,aK sk,aK si]
 bt:Blk g b2 #[.int .i64 smT30.kind,.string smT30.text,aK tk,aK ti]
 rsk:Rd Mg (.row .str) smS30.keys [aK sk]
 rsi:Rd Mg (.row .tree) smS30.items [aK si]
 rtk:Rd Mg (.row .str) smT30.keys [aK tk]
 rti:Rd Mg (.row .tree) smT30.items [aK ti]
theorem St30.later{h g g':zc}{M Mg b:Fr}{e b2:Nat}{sk si tk c:Sl}(H:St30 h M e b2 sk si tk c g Mg)(L:Later g Mg g' b):St30 h M e b2 sk si tk c g' b:= ⟨H.L.trans L,H.bs.keep (L.keep.get _ H.bs.lt),H.bt.keep (L.keep.get _ H.bt.lt),Rd.mono L.le H.rsk,Rd.mono L.le H.rsi,Rd.mono L.le H.rtk,Rd.mono L.le H.rti⟩
theorem qM{v:Tr}(h:zy v=Ta)(b:iE 1048576 v):Sm v:=by have h:=Qq h;exact⟨by have:=(vD h).1;omega,b⟩
theorem DF:Sm smS30:=qM (by kernel_rfl) (by
 simp only[smS30,nT,sT,iE,i6,and_true];repeat' apply And.intro
 all_goals first|exact zB (by kernel_rfl)|(intro k b;simp at b)|trivial)
theorem qpz:Sm mE:=qM (by kernel_rfl) (by
 simp only[mE,nT,sT,iE,i6,and_true];repeat' apply And.intro
 all_goals first|exact zB (by kernel_rfl)|(intro k b;simp at b)|trivial)
theorem ER:Sm smT30:=qM (by kernel_rfl) (by
 simp only[smT30,nT,sT,iE,i6,and_true];repeat' apply And.intro
 all_goals first|exact zB (by kernel_rfl)|(intro k b;simp at b)|trivial)
theorem TH:Sm (nT [49]):=qM (by kernel_rfl) (by
 simp only[nT,iE,i6,and_true];repeat' apply And.intro
 all_goals first|exact zB (by kernel_rfl)|(intro k b;simp at b)|trivial)
theorem qsv:Sm (nT [50]):=qM (by kernel_rfl) (by
 simp only[nT,iE,i6,and_true];repeat' apply And.intro
 all_goals first|exact zB (by kernel_rfl)|(intro k b;simp at b)|trivial)
theorem Eg:(.mk 3 (bl (j0 (zw (Lib.itoa 1)).1)) [] []:Tr)=nT [49]:=by kernel_rfl
theorem JI:(.mk 3 (bl (j0 (zw (Lib.itoa 2)).1)) [] []:Tr)=nT [50]:=by kernel_rfl
theorem ZA:gU smS30 mE=([([bl [97]],jr),([bl [98]],xw)],0):=by unfold gU;rw[zb ⟨qt0,Pf⟩,qt2]
abbrev CL(g:zc):zc:=zb4 g (.cells #[.string (⟨#[116,121,112,101]⟩:Bt),.string (⟨#[110,101,101,100]⟩:Bt),.string (⟨#[109,101,109,98,101,114,115]⟩:Bt)] 9)
abbrev CO(q:Bt)(g:zc):zc:=zb4 g (.cells #[.string q] 9)
def mO:List Bt:=[bl iK,bl jr,bl zr]
set_option maxHeartbeats 4000000 in
theorem CE(hg:GL gl){R:Bool->Prop}(hR:R Ta):PC Tp gl 11 [] [.bool] R:=by
 intro h M vs U ag ha
 match vs,ha with
 |[],_=>
 apply PX.of;apply zf0;refine(x7 (gl:=gl) hg (s:=rV) (R:=λr=>r=W9 rV) rfl).go (vs:=[.string (bl rV)]) U ag (zi (rdStr _) zq) λw2 h2 M2 r L2 c i=>?_;obtain⟨sk,si,rfl,rsk,rsi⟩:=zY c;have e1:r.1=smS30:=by rw[i];exact congrArg Prod.fst Ln
 have e2:r.2.2=0:=by rw[i];exact congrArg Prod.snd Ln
 rw[e1]at rsk rsi;refine⟨_,_,sk,si,_,_,rfl,?_⟩;rw[e1,e2];intro h9;refine Z6 L2.ag λbq aT bo bh=>?_;have aB:=L2.trans aT;refine(x7 (gl:=gl) hg (s:=sE) (R:=λr=>r=W9 sE) rfl).go (vs:=[.string (bl sE)]) (U.trans aB.le) aB.ag (zi (rdStr _) zq) λbI bF bg r2 af aF aS=>?_;obtain⟨vk,vi,rfl,rvk,rvi⟩:=zY aF;have e3:r2.1=mE:=by rw[aS];exact congrArg Prod.fst KQ
 have e4:r2.2.2=0:=by rw[aS];exact congrArg Prod.snd KQ
 rw[e3]at rvk rvi;refine⟨_,_,vk,vi,_,_,rfl,?_⟩;rw[e3,e4];intro bE;refine Z6 af.ag λbr aI bz be=>?_;have ah:=(aB.trans af).trans aI;have ay:=bh.keep ((af.trans aI).keep.get h2.size (by omega));have E:Fr.le M2 bg:=aT.le.trans af.le;refine⟨_,_,sk,si,ay.ld (cs:=[_,_,aK sk,aK si]),_,_,vk,vi,be.ld (cs:=[_,_,aK vk,aK vi]),?_⟩;refine(qL (gl:=gl) hg DF qpz (R:=λr=>r=((gU smS30 mE).1.map fE,(gU smS30 mE).2)) rfl).go (U.trans ah.le) ah.ag (zi (zn (Rd.mono E rsk) (Rd.mono E rsi)) (zi (zn rvk rvi) zq)) λw30 bH bG Q an aL ai=>?_;obtain⟨fl,rfl,aZ⟩:=XR aL;rw[ZA]at ai;have ai:Q=([([bl [97]],bl jr),([bl [98]],bl xw)],0):=ai;subst ai;refine⟨fl,_,rfl,?_⟩;have a6:=ah.trans an;refine(x7 (gl:=gl) hg (s:=pX) (R:=λr=>r=W9 pX) rfl).go (vs:=[.string (bl pX)]) (U.trans a6.le) a6.ag (zi (rdStr _) zq) λbB y J r4 ae aE aP=>?_;obtain⟨tk,p,rfl,rtk,rti⟩:=zY aE;have e5:r4.1=smT30:=by rw[aP];exact congrArg Prod.fst FT
 have e6:r4.2.2=0:=by rw[aP];exact congrArg Prod.snd FT
 rw[e5]at rtk rti;refine⟨_,_,tk,p,_,_,rfl,?_⟩;rw[e5,e6];intro bu;refine Z6 ae.ag λB ba bC bm=>?_;have ab:=(an.trans ae).trans ba;have bn:=aI.keep.size;have bA:=af.keep.size;have O:St30 h M h2.size y.size sk si tk p B J:=⟨ah.trans ab,ay.keep (ab.keep.get _ (by omega)),bm,Rd.mono (E.trans (an.le.trans ae.le)) rsk,Rd.mono (E.trans (an.le.trans ae.le)) rsi,rtk,rti⟩;have C:Rd J (.row km) [([bl [97]],bl jr),([bl [98]],bl xw)] [aK fl]:=Rd.mono ae.le aZ;obtain⟨lf,_,_⟩:=rowLen C;have P:fl.len=2:=lf;obtain⟨a0,p0,aV,aH,c0⟩:=Ef C (k:=0) (by simp);obtain⟨a1,p1,aU,ap,c1⟩:=Ef C (k:=1) (by simp);have aH:Rd J (.row .str) [bl [97]] [aK p0]:=aH;have ap:Rd J (.row .str) [bl [98]] [aK p1]:=ap;refine⟨λhc=>?_,λ_=>?_⟩;rw[P]at hc;exact(nomatch hc);have fin:∀(b:Bool) (g:zc) (Mg:Fr),b=Ta->Later h M g Mg->∃M' r,Later h M g M'/\Jl M' [.bool] r (.bool b)/\R r:=λb g Mg hb L=>⟨Mg,b,L,Y5.2 (rdBool _),by rw[hb];exact hR⟩;refine⟨a0,⟨aV,by omega,by rw[P];omega⟩,bl jr,(c0 B O.L.ag).2.1,a0,λ_=>⟨aV,by omega,by rw[P];omega⟩,p0,λ_=>(c0 B O.L.ag).1,?_⟩;intro aO aQ aN a7 a8;have ax:∀(F y1:Sl) (l:Bool) (g:zc) (Mg:Fr),l=Ta->St30 h M h2.size y.size sk si tk p g Mg->Rd Mg (.row .str) mO [aK F]->Rd Mg (.row .str) mO [aK y1]->aO F y1 l g:=λF y1 l g Mg f S r0 Y=>by refine og f ?_;refine(BB (gl:=gl) (a:=mO) (b:=mO) (by simp[mO]) (R:=λr=>r=Ta) (λr i=>i.2 rfl)).go (vs:=[aK y1,aK F]) (U.trans S.L.le) S.L.ag (zi ((W0 rfl).2 Y) (zi ((W0 rfl).2 r0) zq)) λu g' M' r L c i=>⟨r,dK c,?_⟩;exact fin _ g' M' (by rw[f,i];rfl) (S.L.trans L)
 have D:∀(l:Bool) (g:zc) (Mg:Fr) (Kt:Sl->zc->Prop),l=Ta->St30 h M h2.size y.size sk si tk p g Mg->(∀(x:Sl) (g':zc) (M':Fr),Later g Mg g' M'->Rd M' (.row .str) mO [aK x]->Kt x g')->XC Tp 22 #[.agg #[.int .i64 smS30.kind,.string smS30.text,aK sk,aK si]] g λv h'=>∃r,v=aK r/\Kt r h':=λl g Mg Kt f S hK=>by refine(TM (gl:=gl) hg DF (R:=λr=>r=t7 smS30) rfl).go (U.trans S.L.le) S.L.ag (zi (zn S.rsk S.rsi) zq) λu g' M' r L c i=>?_;obtain⟨x,rfl,rx⟩:=oC (Y5.1 c);rw[i,QM]at rx;exact⟨x,rfl,hK x g' M' L rx⟩
 have Z:∀(g:zc) (Mg:Fr),AgM Mg g->∃M',Later g Mg (zb4 g (.cells #[.string (⟨#[116,121,112,101]⟩:Bt),.string (⟨#[110,101,101,100]⟩:Bt),.string (⟨#[109,101,109,98,101,114,115]⟩:Bt)] 9)) M'/\Rd M' (.row .str) mO [aK ⟨Tc ⟨g.size,0,Td⟩,3,3⟩]:=λg Mg ag=>⟨_,Later.frz ag _ _,Rr⟩;have N:∀(q:Bt) (g:zc) (Mg:Fr),AgM Mg g->∃M',Later g Mg (zb4 g (.cells #[.string q] 9)) M'/\Rd M' (.row .str) [q] [aK ⟨Tc ⟨g.size,0,Td⟩,1,1⟩]:=λq g Mg ag=>⟨_,Later.frz ag _ _,UZ⟩;have aA:∀(F:Sl) (l:Bool) (g:zc) (Mg:Fr),l=Ta->St30 h M h2.size y.size sk si tk p g Mg->Rd Mg (.row .str) mO [aK F]->aQ F smS30.kind smS30.text sk si l g:=λF l g Mg f S r0=>by refine Gd f (D l g Mg _ f S λx g' M' L rx=>?_);exact ax F x l g' M' f (S.later L) (Rd.mono L.le r0) rx
 have ar:∀(o m:Sl) (l:Bool) (g:zc) (Mg:Fr),l=Ta->St30 h M h2.size y.size sk si tk p g Mg->Rd Mg (.row .str) [] [aK o]->Rd Mg (.row .tree) [] [aK m]->aN 3 (bl [50]) o m smT30.kind smT30.text tk p l g:=λo m l g Mg f S aa V=>by
  refine og f ?_;refine(wz (gl:=gl) hg ER qsv (R:=λr=>r=fitsT zj qu smT30 (nT [50])) rfl).go (U.trans S.L.le) S.L.ag (zi (zn S.rtk S.rti) (zi (zn (v:=nT [50]) aa V) zq)) λu H M1 r L1 c i=>⟨r,dK c,?_⟩;have i:r=Tb:=by rw[i,Vi]
  subst i;subst f;have t:=S.later L1;have z:(bif Ta then(!Tb)else Tb)=Ta:=rfl;refine⟨⟨_,_,sk,si,λ_=>t.bs.ld (cs:=[_,_,aK sk,aK si]),?_,?_⟩,?_⟩;refine Gd z (D Ta H M1 _ rfl t λx g' M' L rx=>?_);have S2:=t.later L;obtain⟨M3,G,Q⟩:=Z g' M' S2.L.ag;exact pK (s:=⟨Tc ⟨g'.size,0,Td⟩,3,3⟩) (h1:=CL g') z (ax _ x _ _ M3 z (S2.later G) Q (Rd.mono G.le rx));obtain⟨M3,G,Q⟩:=Z H M1 t.L.ag;exact pK (s:=⟨Tc ⟨H.size,0,Td⟩,3,3⟩) (h1:=CL H) z (aA _ _ _ M3 z (t.later G) Q);obtain⟨M3,G,Q⟩:=Z H M1 t.L.ag;refine pK (s:=⟨Tc ⟨H.size,0,Td⟩,3,3⟩) (h1:=CL H) z ?_;have S3:=t.later G;exact⟨_,_,sk,si,λ_=>S3.bs.ld (cs:=[_,_,aK sk,aK si]),aA _ _ _ M3 z S3 Q⟩
 have am:∀(n:Int) (b:Bs) (l:Bool) (g:zc) (Mg:Fr) (Kt:Int->Bt->Sl->Sl->zc->Prop),(.mk 3 (bl (j0 (zw (Lib.itoa n)).1)) [] []:Tr)=nT b->-1000000<=n->n<=1000000->St30 h M h2.size y.size sk si tk p g Mg->(∀(o m:Sl) (g':zc) (M':Fr),Later g Mg g' M'->Rd M' (.row .str) [] [aK o]->Rd M' (.row .tree) [] [aK m]->Kt 3 (bl b) o m g')->XC Tp 30 #[.int .i64 n] g λv h'=>∃k s a b,v=ij k s a b/\Kt k s a b h':=λn b l g Mg Kt en n1 n2 S hK=>by refine(EH (gl:=gl) hg n1 n2 (R:=λr=>r=nT b) en).go (U.trans S.L.le) S.L.ag (zi (Yb _ _) zq) λu g' M' r L c i=>?_;have i:r=nT b:=i;subst i;obtain⟨o,m,rfl,aa,V⟩:=yj (Y5.1 c);exact⟨_,_,o,m,rfl,hK o m g' M' L aa V⟩
 have az:∀(o m:Sl) (l:Bool) (g:zc) (Mg:Fr),l=Ta->St30 h M h2.size y.size sk si tk p g Mg->Rd Mg (.row .str) [] [aK o]->Rd Mg (.row .tree) [] [aK m]->a7 3 (bl [49]) o m smT30.kind smT30.text tk p l g:=λo m l g Mg f S aa V=>by
  refine og f ?_;refine(wz (gl:=gl) hg ER TH (R:=λr=>r=fitsT zj qu smT30 (nT [49])) rfl).go (U.trans S.L.le) S.L.ag (zi (zn S.rtk S.rti) (zi (zn (v:=nT [49]) aa V) zq)) λu H M1 r L1 c i=>⟨r,dK c,?_⟩;have i:r=Ta:=by rw[i,QG]
  subst i;subst f;have t:=S.later L1;have z:(bif Ta then Ta else Tb)=Ta:=rfl;refine⟨⟨_,_,tk,p,λ_=>t.bt.ld (cs:=[_,_,aK tk,aK p]),?_⟩,?_⟩;refine mK z (am 2 [50] Ta H M1 _ JI (by omega) (by omega) t λo m g' M' L Y r2=>?_);exact ar o m _ g' M' z (t.later L) Y r2;refine mK z (am 2 [50] Ta H M1 _ JI (by omega) (by omega) t λo m g' M' L Y r2=>?_);have S2:=t.later L;exact⟨_,_,tk,p,λ_=>S2.bt.ld (cs:=[_,_,aK tk,aK p]),ar o m _ g' M' z S2 Y r2⟩
 have au:∀(F y1:Sl) (l:Bool) (g:zc) (Mg:Fr),l=Ta->St30 h M h2.size y.size sk si tk p g Mg->Rd Mg (.row .str) [bl [98]] [aK F]->Rd Mg (.row .str) [bl [98]] [aK y1]->a8 F y1 l g:=λF y1 l g Mg f S r0 Y=>by refine og f ?_;refine(BB (gl:=gl) (a:=[bl [98]]) (b:=[bl [98]]) (by simp) (R:=λr=>r=Ta) (λr i=>i.2 rfl)).go (vs:=[aK y1,aK F]) (U.trans S.L.le) S.L.ag (zi ((W0 rfl).2 Y) (zi ((W0 rfl).2 r0) zq)) λu H M1 r L1 c i=>⟨r,dK c,?_⟩;have i:r=Ta:=i;subst i;subst f;have t:=S.later L1;have z:(bif Ta then Ta else Tb)=Ta:=rfl;refine⟨⟨_,_,tk,p,λ_=>t.bt.ld (cs:=[_,_,aK tk,aK p]),?_⟩,?_⟩;refine mK z (am 1 [49] Ta H M1 _ Eg (by omega) (by omega) t λo m g' M' L Y r2=>?_);exact az o m _ g' M' z (t.later L) Y r2;refine mK z (am 1 [49] Ta H M1 _ Eg (by omega) (by omega) t λo m g' M' L Y r2=>?_);have S2:=t.later L;exact⟨_,_,tk,p,λ_=>S2.bt.ld (cs:=[_,_,aK tk,aK p]),az o m _ g' M' z S2 Y r2⟩
 have aJ:((bl jr).toList==(⟨#[110,101,101,100]⟩:Bt).toList)=Ta:=by rw[m4,yo];rfl
 obtain⟨bD,ak,bi⟩:=N ⟨#[97]⟩ B J O.L.ag;refine pK (s:=⟨Tc ⟨B.size,0,Td⟩,1,1⟩) (h1:=CO ⟨#[97]⟩ B) aJ ?_;have aG:=O.later ak;refine⟨λ_=>ak.keep.get _ (c0 B O.L.ag).2.2,?_⟩;refine og aJ ?_;refine(BB (gl:=gl) (a:=[bl [97]]) (b:=[bl [97]]) (by simp) (R:=λr=>r=Ta) (λr i=>i.2 rfl)).go (vs:=[aK p0,aK ⟨Tc ⟨B.size,0,Td⟩,1,1⟩]) (U.trans aG.L.le) aG.L.ag (zi ((W0 rfl).2 (Rd.mono ak.le aH)) (zi ((W0 rfl).2 bi) zq)) λu w aC aY aM c i=>⟨aY,dK c,?_⟩;have i:aY=Ta:=i;subst i;have I:=aG.later aM;have A:Fr.le J aC:=ak.le.trans aM.le;have bj:(bif ((bl jr).toList==(⟨#[110,101,101,100]⟩:Bt).toList)then Ta else Tb)=Ta:=by rw[aJ];rfl
 have aj:(bif (bif ((bl jr).toList==(⟨#[110,101,101,100]⟩:Bt).toList)then Ta else Tb)then((bl xw).toList==(⟨#[108,101,97,115,116]⟩:Bt).toList)else Tb)=Ta:=by rw[bj,m4,yo];rfl
 refine⟨a1,λ_=>⟨aU,by omega,by rw[P];omega⟩,bl xw,λ_=>(c1 w (λb cs e=>I.L.ag b cs (A b cs e))).2.1,a1,λ_=>⟨aU,by omega,by rw[P];omega⟩,?_⟩;refine⟨⟨p1,λ_=>(c1 w (λb cs e=>I.L.ag b cs (A b cs e))).1,?_⟩,?_⟩;obtain⟨M3,G,Q⟩:=N ⟨#[98]⟩ w aC I.L.ag;exact pK (s:=⟨Tc ⟨w.size,0,Td⟩,1,1⟩) (h1:=CO ⟨#[98]⟩ w) aj (au _ p1 _ _ M3 aj (I.later G) Q (Rd.mono (A.trans G.le) ap));obtain⟨M3,G,Q⟩:=N ⟨#[98]⟩ w aC I.L.ag;have S3:=I.later G;refine pK (s:=⟨Tc ⟨w.size,0,Td⟩,1,1⟩) (h1:=CO ⟨#[98]⟩ w) aj ⟨p1,λ_=>(c1 _ (λb cs e=>S3.L.ag b cs (G.le b cs (A b cs e)))).1,au _ p1 _ _ M3 aj S3 Q (Rd.mono (A.trans G.le) ap)⟩
end
end
end Go.X
end
section
namespace Go.X
open Go Go.Lib
section
variable {s v:Tr}
variable {same same' : Tr -> Tr -> Bool} {cmp : Tr -> Tr -> Int}
theorem Q5(H:∀y u,j7 zh y=Ta->j7 zh u=Ta->same y u=same' y u):∀(n:Nat) (s v:Tr) (p:List Bt),j7 zh s=Ta->j7 zh v=Ta->zm same cmp n s v p=zm same' cmp n s v p
 |0,_,_,_,_,_=>rfl
 |n+1,s,v,p,hs,hv=>by
  rw[zm,zm];refine qw λw _=>?_;cases e:jh s (bl w)with
  |none=>rfl
  |some x=>
   have b:=zk hs (yf e);show J7 same cmp (zm same cmp n) s w x v p=J7 same' cmp (zm same' cmp n) s w x v p;unfold J7;rw[Q5 H n x v [] b hv];rw[Z8 (l:=x.items) (p:=λy=>same y v) (q:=λy=>same' y v) λy c=>H y v (zk b c) hv];rw[Z8 (l:=x.items) (p:=λy=>(zm same cmp n y v []).isEmpty) (q:=λy=>(zm same' cmp n y v []).isEmpty) λy c=>by rw[Q5 H n y v [] (zk b c) hv]];rw[qw (l:=x.items) (p:=λy=>zm same cmp n y v p) (q:=λy=>zm same' cmp n y v p) λy c=>Q5 H n y v p (zk b c) hv];rw[qw (l:=v.keys.zip v.items) (p:=λm=>(jh x m.1).elim [] λy=>zm same cmp n y m.2 (p++[m.1])) (q:=λm=>(jh x m.1).elim [] λy=>zm same' cmp n y m.2 (p++[m.1])) λm f=>by
    cases e:jh x m.1 with
    |none=>rfl
    |some y=>exact Q5 H n y m.2 _ (zk b (yf e)) (zk hv (oH f))]
   rw[qw (l:=zbk v.items.length) (p:=λ(i:Nat)=>v.items[i]?.elim [] λy=>zm same cmp n x y (p++[bl (Lib.itoa i)])) (q:=λ(i:Nat)=>v.items[i]?.elim [] λy=>zm same' cmp n x y (p++[bl (Lib.itoa i)])) λi hi=>by
    cases e:v.items[i]? with
    |none=>rfl
    |some y=>exact Q5 H n x y _ b (zk hv (zbv e))]
theorem yJ:∀y u,j7 zh y=Ta->j7 zh u=Ta->zj y u=iM y u:=λy u c b=>AW (bR y) y u (zaf _) c b
theorem EE:∀y v,j7 zh y=Ta->iM (ze y) v=iM y v:=λy v b=>by unfold iM;rw[wS (bR y) y (zaf _) b]
theorem HL:∀y v,j7 zh v=Ta->iM y (ze v)=iM y v:=λy v b=>by unfold iM;rw[wS (bR v) v (zaf _) b]
theorem tI:fitsT zj cmp s v=fitsT iM cmp s v:=by
 unfold fitsT;cases h1:Yp s with
 |false=>rfl
 |true=>
  cases h2:zy v with
  |false=>rfl
  |true=>rw[Q5 yJ _ _ _ _ (jl (jk h1)) (jl h2)]
theorem YC(h:Yp s=Ta):fitsT zj cmp (ze s) v=fitsT zj cmp s v:=by rw[tI,tI];exact Nl EE h
theorem qmh(b:zy v=Ta):fitsT zj cmp s (ze v)=fitsT zj cmp s v:=by rw[tI,tI];exact z6y HL b
theorem C8(h:zy v=Ta):zy (ze v)=Ta:=by
 have e:Yf v=ze v:=by unfold Yf;rw[zb (Qq h)]
 rw[<-e,Um];exact h
theorem qsx(c:Yp s=Ta)(b:zy v=Ta):(zm zj cmp (bK (ze s)) (ze s) (ze v) []).length=(zm zj cmp (bK s) s v []).length:=by have rs:=jk c;rw[Q5 yJ _ _ _ _ (jl (C8 rs)) (jl (C8 b)),Q5 yJ _ _ _ _ (jl rs) (jl b)];exact SB EE HL c b
end
end Go.X
end
section
namespace Go.X
open Go Go.X Go.Proofs Go.Lib Go.RowKit
section
variable {s v:Tr} {R:Bool -> Prop}
section
variable {gl : Fr}
theorem uw(h:∀b,(b=Ta->iJ s<=120/\Sm s/\iJ v<=60/\Sm v)->R b):PC Tp gl 12 [Arg.mk .tree s,Arg.mk .tree v] [.bool] R:=by
 apply MW;simp only[xb];refine KH (by omega) λf h1=>⟨λr=>r=Ta->iJ v<=60/\Sm v,λ_=>KH (by omega) λb2 e c=>⟨by have:=(e c).1;omega,(e c).2⟩,λr i=>h _ λc=>?_⟩;cases f with
 |false=>cases c
 |true=>have c:r=Ta:=c;have a:=h1 rfl;have b:=i rfl c;exact⟨by have:=a.1;omega,a.2,b.1,b.2⟩
theorem yL(h:zy v=Ta):Yf v=ze v:=by unfold Yf;rw[zb (Qq h)]
theorem qmi:(.mk 3 (bl (j0 (zw (Lib.itoa 0)).1)) [] []:Tr)=jS:=by kernel_rfl
theorem EY(b:Sm v)(h:zy v=Ta):Sm (ze v):=by rw[<-yL h];exact Kf b
theorem Tn(c:Sm s)(h:bR s<=4000):Sm (Zh s):=⟨by rw[E4];omega,by have h1:=c.tx;unfold Zh Zq Xd mh jS;simp only[iE,i6,and_true];refine⟨⟨?_,?_,?_⟩,⟨⟨?_,?_,?_⟩,h1,?_,?_,?_⟩,⟨?_,?_,?_⟩,⟨?_,?_,?_⟩,⟨?_,?_,?_⟩,?_,?_,?_⟩;all_goals first|exact zB (by kernel_rfl)|(intro k b;cases b)⟩
set_option maxHeartbeats 2000000 in
theorem QU(e:GL gl)(q:R Ta):PC Tp gl 5 [Arg.mk .tree s,Arg.mk .tree v] [.bool] R:=by
 apply Jq;simp only[xb];refine CE e (uw λb J=>?_);cases b with
 |false=>refine⟨λ_=>True,λc=>(nomatch c),λH _=>⟨λ_=>True,λc=>(by simp at c),λx _=>⟨λ_=>True,λc=>(by simp at c),λw _=>⟨λ_=>q,λc=>(by simp at c)⟩⟩⟩⟩
 |true=>
 obtain⟨ts,ss,U,sv⟩:=J rfl;have S:=nt s;refine⟨λr=>r=Yp s,λ_=>td e ss rfl,λH z=>?_⟩;have z:H=Yp s:=z rfl;subst z;by_cases h:Yp s=Tb;rw[h];exact⟨λ_=>True,λc=>(by simp at c),λx _=>⟨λ_=>True,λc=>(by simp at c),λw _=>⟨λ_=>q,λc=>(by simp at c)⟩⟩⟩;have h:Yp s=Ta:=by simpa using h
 rw[h];refine⟨λr=>r=zy v,λ_=>vu e sv rfl,λx E=>?_⟩;have E:x=zy v:=E rfl;subst E;by_cases f:zy v=Tb;rw[f];exact⟨λ_=>True,λc=>(by simp at c),λw _=>⟨λ_=>q,λc=>(by simp at c)⟩⟩;have f:zy v=Ta:=by simpa using f
 rw[f];refine⟨λr=>r=(bK s:Int),λ_=>oZ s ss.sz rfl,λw A=>?_⟩;have A:w=(bK s:Int):=A rfl;subst A;refine⟨λ_=>q,λu=>?_⟩;have u:bK s<=28:=by have u:decide ((bK s:Int)>28)=Tb:=u;have:=zC u;omega
 have m:=jk h;have I:=yL m;have G:=yL f;refine wz e ss sv (vP (y7 (y7 (EH e (by omega) (by omega) (vP ?_)))));rw[qmi];have M:(Tr.mk 6 ⟨#[]⟩ [(⟨#[97,108,108]⟩:Bt),(⟨#[110,101,101,100]⟩:Bt),(⟨#[99,108,111,115,101,100]⟩:Bt),(⟨#[109,101,109,98,101,114,115]⟩:Bt),(⟨#[115,104,111,114,116]⟩:Bt)] [Tr.mk 5 ⟨#[]⟩ [] [s,Tr.mk 6 ⟨#[]⟩ [] []],Tr.mk 5 ⟨#[]⟩ [] [],Tr.mk 2 (⟨#[102,97,108,115,101]⟩:Bt) [] [],Tr.mk 6 ⟨#[]⟩ [] [],jS])=Zh s:=rfl;rw[M];have F:=Tn ss (by omega);refine qL e ss sv (vt e ss (vt e sv ?_));rw[I,G];have p:=EY ss m;have o:=EY sv f;refine qL e p o ?_;have L:fitsT zj qu (ze s) v=fitsT zj qu s v:=YC h;have N:fitsT zj qu s (ze v)=fitsT zj qu s v:=qmh f;have Q:fitsT zj qu (Zh s) v=fitsT zj qu s v:=Uz h (by omega) (by omega);have P:gU s v=(zm zj qu (bK s) s v [],0):=by unfold gU;rw[zb ⟨h,f⟩]
 have c2:gU (ze s) (ze v)=(zm zj qu (bK (ze s)) (ze s) (ze v) [],0):=by unfold gU;rw[zb ⟨by rw[KU m];exact h,C8 f⟩]
 have O:=qsx (cmp:=qu) h f;refine⟨λt=>t=ze s,λ_=>vt e ss I,λt i=>?_⟩;have i:t=ze s:=i rfl;subst i;refine⟨λr=>r=fitsT zj qu s v,λ_=>wz e p sv L,λD l=>?_⟩;have l:D=fitsT zj qu s v:=l rfl;subst l;have C:(bif Ta then(fitsT zj qu s v==fitsT zj qu s v)else Tb)=Ta:=by simp
 rw[C];refine⟨λt=>t=ze v,λ_=>vt e sv G,λt i=>?_⟩;have i:t=ze v:=i rfl;subst i;refine⟨λr=>r=fitsT zj qu s v,λ_=>wz e ss o N,λB n=>?_⟩;have n:B=fitsT zj qu s v:=n rfl;subst n;rw[C];refine⟨λr=>r=fitsT zj qu s v,λ_=>wz e F sv Q,λy k=>?_⟩;have k:y=fitsT zj qu s v:=k rfl;subst k;have fin:(bif (bif (bif (bif Ta then(fitsT zj qu s v==fitsT zj qu s v)else Tb)then((gU s v).2==0)else Tb)then((gU (ze s) (ze v)).2==0)else Tb)then((((zdh ((gU s v).1.map fE):Nat):Int))==(((zdh ((gU (ze s) (ze v)).1.map fE):Nat):Int)))else Tb)=Ta:=by rw[C,P,c2,zaw,zaw,O];simp
 rw[fin];exact q
end
end
end Go.X
end
section
namespace Go.X
open Go Go.Lib
section
theorem Iw:∀{l:Bs},l.all yq=Ta->gL l=Ta
 |[],_=>yB
 |c::l,h=>by rw[zcx,zan]at h;have:=ZK h.1;rw[QB (by omega)];exact Iw h.2
theorem P6(i:Nat):gL (lb (rQ i))=Ta:=by rw[JX];exact Iw (Jc i i (zaf _)).1
end
section
variable {same : Tr -> Tr -> Bool} {cmp : Tr -> Tr -> Int}
def lr(x:Bt):Prop:=gL (lb x)=Ta/\(lb x).length<=1048576
theorem Sr{i:Nat}(h:i<=1000000):lr (bl (Lib.itoa i)):=by refine⟨P6 i,?_⟩;rw[yo];have:=itoa_len (i:Int);omega
theorem HP{v:Tr}(b:zh v=Ta)(h:Sm v){k:Bt}(c:k∈v.keys):lr k:=by refine⟨?_,h.key c⟩;have f:=AR b c;unfold zh at b;simp[f]at b;have e:=b.1.1;unfold xn at e;rw[zan,zas]at e;exact e.1 k c
theorem uj{p:List Bt}{x:Bt}(b:∀y∈p,lr y)(e:lr x):∀y∈p++[x],lr y:=λy c=>by rcases zaz.1 c with h|h;exact b y h;rw[zbm.1 h];exact e
theorem GV:∀(n:Nat) (s v:Tr) (p:List Bt),qb n s=Ta->j7 zh s=Ta->j7 zh v=Ta->Sm s->Sm v->bR v<=1000000->(∀y∈p,lr y)->∀f∈zm same cmp n s v p,(∀y∈f.1,lr y)/\f.1.length<=p.length+bK v
 |0,_,_,_,_,_,_,_,_,_,_,f,h=>by cases h
 |n+1,s,v,p,hr,hs,hv,ss,sv,hz,hp,f,h=>by
  have G:=ye hv;have Q:=W8 v;rw[zm,zb5]at h;obtain⟨w,F,h⟩:=h;cases e:jh s (bl w)with
  |none=>rw[e]at h;cases h
  |some x=>
   rw[e]at h;have h:f∈J7 same cmp (zm same cmp n) s w x v p:=h;have r:=Am hr (ye hs) e;have C:=zk hs (yf e);have B:=ss.item (yf e);have l:∀{b:Bool} {u:Bs},f∈eR b p u->(∀y∈f.1,lr y)/\f.1.length<=p.length+bK v:=λ {b u} h=>by unfold eR at h;split at h;cases h;rw[zbm.1 h];exact⟨hp,Nat.le_add_right _ _⟩
   have o:∀(y u:Tr) (q:List Bt),qb n y=Ta->j7 zh y=Ta->Sm y->(∀z∈q,lr z)->j7 zh u=Ta->Sm u->bR u<=1000000->q.length+bK u<=p.length+bK v->f∈zm same cmp n y u q->(∀y∈f.1,lr y)/\f.1.length<=p.length+bK v:=λy u q h1 H J I N O M S P=>by have:=GV n y u q h1 H N J O M I f P;exact⟨this.1,by omega⟩
   simp only[sWords,zah,zdx,or_false]at F;rcases F with rfl|rfl|rfl|rfl|rfl|rfl|rfl|rfl|rfl|rfl|rfl|rfl|rfl;rw[oT]at h;exact l h;rw[o5]at h;exact l h;rw[Xb]at h;exact l h;rw[oI]at h;exact l h;rw[Jh]at h;exact l h;rw[pn]at h;exact l h;rw[J8]at h;have r:(decide (x.kind=5)&&x.items.all λx=>decide (x.kind=4))=Ta:=r;rw[zan,zas]at r;split at h;obtain⟨y,t,rfl⟩:=zb1.1 h;have t:=(zde.1 t).1;have L:y.kind=4:=zB (r.2 y t);have E:=ye (zk C t);unfold zh at E;simp[L]at E;exact⟨uj hp ⟨E.1.1,(B.item t).text⟩,by simp;omega⟩;cases h;rw[Zr]at h;split at h;obtain⟨k,D,rfl⟩:=zb1.1 h;exact⟨uj hp (HP G sv (zde.1 D).1),by simp;omega⟩;cases h;rw[Q2]at h;have r:qb n x=Ta:=r;split at h;obtain⟨i,hi,h⟩:=zb5.1 h;have hi:=zcd.1 hi;rw[zaj hi]at h;have c:=zay hi;have:=xm c;have:=yl c;have:=J4 v.items;have:=Y9 v;exact o x v.items[i] _ r C B (uj hp (Sr (by omega))) (zk hv c) (sv.item c) (by omega) (by simp;omega) h;cases h;rw[wo]at h;have r:(decide (x.kind=6)&&x.items.all (qb n))=Ta:=r;rw[zan,zas]at r;obtain⟨m,A,h⟩:=zb5.1 h;cases ek:jh x m.1 with
   |none=>rw[ek]at h;cases h
   |some y=>rw[ek]at h;have D:=(List.of_mem_zip (a:=m.1) (b:=m.2) A).1;have c:=oH A;have:=xm c;have:=yl c;exact o y m.2 _ (r.2 y (yf ek)) (zk C (yf ek)) (B.item (yf ek)) (uj hp (HP G sv D)) (zk hv c) (sv.item c) (by omega) (by simp;omega) h
   rw[mz]at h;have r:(decide (x.kind=5)&&x.items.all (qb n))=Ta:=r;rw[zan,zas]at r;obtain⟨y,t,h⟩:=zb5.1 h;exact o y v p (r.2 y t) (zk C t) (B.item t) hp hv sv hz (zaf _) h;rw[nl]at h;exact l h;rw[nh]at h;exact l h
end
end Go.X
end
section
namespace Go.X
open Go Go.X Go.Proofs Go.Lib Go.RowKit
section
variable {v:Tr}
section
variable {gl : Fr}
theorem GY(c:jw v=Ta){p:List Bt}(b:kE p=Ta):(p6 v p).2=(Qo v p).isSome/\∀x,Qo v p=Tc x->(p6 v p).1=x:=by
 unfold p6;rw[c,b];cases h:Qo v p with
 |none=>exact⟨rfl,λx e=>nomatch e⟩
 |some y=>exact⟨rfl,λx e=>by cases e;rfl⟩
set_option maxHeartbeats 2000000 in
theorem z0o(w:GL gl){s v:Tr}{R:Bool->Prop}(I:R Ta):PC Tp gl 6 [Arg.mk .tree s,Arg.mk .tree v] [.bool] R:=by
 apply Jr;simp only[xb];refine CE w (uw λb P=>?_);cases b with
 |false=>exact⟨λ_=>I,λc=>(nomatch c)⟩
 |true=>
 obtain⟨ts,ss,tv,sv⟩:=P rfl;refine⟨λc=>(nomatch c),λ_=>qL w ss sv ?_⟩;by_cases C:Yp s=Ta/\zy v=Ta;have z:gU s v=(zm zj qu (bK s) s v [],0):=by unfold gU;rw[zb C]
 have A:fitsT zj qu s v=decide ((gU s v).1.length=0):=by rw[wx,z];simp
 rw[z];refine⟨λc=>(nomatch c),λ_=>?_⟩;have m:=sP sv C.2;have os:=sP ss (jk C.1);have zs:=nt s;have zv:=nt v;have pl:=places (same:=zj) (cmp:=qu) (bK s) s v m.nd (by have:=m.sz;omega);have st:=GV (same:=zj) (cmp:=qu) (bK s) s v [] (lX C.1 (zaf _)) os.nd m.nd ss sv (by have:=m.sz;omega) (λy h=>nomatch h);have V:=yA (n:=bK s) (p:=[]) os m;have dv:=m.dp;rw[z]at A;generalize zm zj qu (bK s) s v []=l at pl st V A;refine⟨λi=>∃k:Nat,i=k/\k<=l.length,λi=>l.length-i.toNat,⟨0,rfl,zbn _⟩,?_⟩;rintro i ⟨k,rfl,hk⟩;rw[zaw];refine⟨λB=>?_,λB=>?_⟩;have q:k<l.length:=by have h1:(k:Int)<((l.length:Nat):Int):=zB B;omega
 have M:=zay q;have D:(l.map fE)[((k:Int)).toNat]?=Tc (fE l[k]):=by simp[q]
 have sp:=st _ M;have f:=pl _ M;have len:l[k].1.length<=32:=by have:=sp.2;simp at this;omega
 have rp:kE l[k].1=Ta:=by unfold kE;rw[zan,zas];exact⟨zD (by omega),λy h=>(sp.1 y h).1⟩
 have sl:SL l[k].1:=⟨by omega,λy h=>(sp.1 y h).2⟩;obtain⟨Q,f2⟩:=GY m.o rp;refine⟨fE l[k],⟨by omega,D⟩,GB w sv sl ⟨fE l[k],⟨by omega,D⟩,fE l[k],λ_=>⟨by omega,D⟩,?_⟩⟩;have G:((fE l[k]).2.toList==(⟨#[110,101,101,100]⟩:Bt).toList)=decide (l[k].2=jr):=by rw[m4,decide_eq_decide];have U:lb (fE l[k]).2=l[k].2:=yo _;rw[U];exact Iff.rfl
 rw[G,Q];have next:(∃J:Nat,zaa .i64 ((k:Int)+1)=J/\J<=l.length)/\l.length-(zaa .i64 ((k:Int)+1)).toNat<l.length-((k:Int)).toNat:=by rw[Ze q (by omega)];exact⟨⟨k+1,rfl,by omega⟩,by simp only[zao];omega⟩
 unfold We at f;show(_->_)/\(_->_);have Y:(fE l[k]).1=l[k].1:=rfl;rw[Y];by_cases u:l[k].2=jr;rw[zb u]at f;obtain⟨p1,O,x,E,Z⟩:=f;rw[O,zD u];have L:l[k].1.length≠0:=λe=>p1 (zbq.1 e);have N:(bif (bif (!Ta)then(!(Td:Option Tr).isSome)else Tb)then Ta else(bif Ta then(bif (Td:Option Tr).isSome then Ta else((((l[k].1.length:Nat)):Int)==0))else Tb))=Tb:=by
  have:((((l[k].1.length:Nat)):Int)==0)=Tb:=by rw[jH];exact zF (by omega)
  rw[this];rfl
 refine⟨λc=>(by rw[N]at c;cases c),λ_=>⟨fE l[k],⟨by omega,D⟩,λ_=>?_,λc=>(by rw[G,zD u]at c;cases c)⟩⟩;have w1:zaa .i64 ((((l[k].1.length:Nat)):Int)-1)=((l[k].1.length-1:Nat):Int):=by rw[wrap64 (by omega) (by omega)];omega
 have S:List.drop (0:Int).toNat (List.take (zaa .i64 ((((l[k].1.length:Nat)):Int)-1)).toNat l[k].1)=kq l[k].1:=by rw[w1,zao];rfl
 have F:kE (kq l[k].1)=Ta:=by unfold kE kq;rw[zan,zas];exact⟨zD (by simp;omega),λy h=>(sp.1 y (List.mem_of_mem_take h)).1⟩
 have H:SL (kq l[k].1):=⟨by unfold kq;simp;omega,λy h=>(sp.1 y (List.mem_of_mem_take h)).2⟩;obtain⟨g1,g2⟩:=GY m.o F;refine⟨⟨by omega,by rw[w1];omega,by rw[w1];omega⟩,?_⟩;rw[S];refine GB w sv H ?_;rw[g1,E,g2 x E,Z];exact⟨λc=>(nomatch c),λ_=>next⟩;rw[za u]at f;obtain⟨x,E⟩:=f;rw[E,zF u];exact⟨λc=>(nomatch c),λ_=>⟨fE l[k],⟨by omega,D⟩,λc=>(by rw[G,zF u]at c;cases c),λ_=>next⟩⟩;refine⟨λr=>r=fitsT zj qu s v,λ_=>wz w ss sv rfl,λr t=>?_⟩;have t:r=fitsT zj qu s v:=t rfl;rw[t,A];have:(bif Ta then(((((l.length:Nat)):Int)==0)==decide (l.length=0))else Tb)=Ta:=by
  rw[jH];have:decide ((((l.length:Nat)):Int)=0)=decide (l.length=0):=by rw[decide_eq_decide];omega
  rw[this];simp
 rw[this];exact I;have z:gU s v=([],1):=by unfold gU;rw[za C]
 have A:fitsT zj qu s v=Tb:=by rw[wx,z];rfl
 rw[z];refine⟨λ_=>⟨λr=>r=Tb,λ_=>wz w ss sv A,λr t=>?_⟩,λc=>(nomatch c)⟩;have t:r=Tb:=t rfl;rw[t];exact I
end
end
section
variable {b a:Sl} {Q:Bool -> Prop} {g0:Bool} {C:zc -> Prop} {av:Array Value} {x:Tr} {w:Bs} {l:List Tr}
theorem AF{M:Fr}{g:zc}(ag:AgM M g){b:Nat}{a:Tr}{sk si:Sl}(e:M b=Tc (zx a.kind a.text sk si).toArray):zd g ⟨b,0,Td⟩ 0 [.int .i64 a.kind,.string a.text,aK sk,aK si]:=mS (vs:=zx a.kind a.text sk si) ag e rfl
section
variable {gl : Fr} {f : FuncId} {args : List Arg} {g : zc} {Mg : Fr} {vs : List Value}
theorem iR{T:Tr}(P:PC Tp gl f args [.tree] (λr=>r=T))(i:Fr.le gl Mg)(ag:AgM Mg g)(l:J0 Mg args vs){K:Int->Bt->Sl->Sl->zc->Prop}
  (m:∀a b g' M',Later g Mg g' M'->RdV M' .tree T (ij T.kind T.text a b)->K T.kind T.text a b g'):XC Tp f vs.toArray g λv h'=>∃k:Int,∃s:Bt,∃a:Sl,∃b:Sl,v=ij k s a b/\K k s a b h':=by
 refine P.go i ag l λw g' M' r L c e=>?_;have e:r=T:=e;subst e;have h:=Y5.1 c;obtain⟨a,b,rfl,_⟩:=yj h;exact⟨_,_,a,b,rfl,m a b g' M' L h⟩
theorem iX(P:PC Tp gl f args [.bool] Q)(h:Fr.le gl Mg)(ag:AgM Mg g)(c:J0 Mg args vs){K:Bool->zc->Prop}
  (i:∀r g' M',Later g Mg g' M'->Q r->K r g'):XC Tp f vs.toArray g λv h'=>∃r:Bool,v=.bool r/\K r h':=
 P.go h ag c λw g' M' r L b e=>⟨r,dK b,i r g' M' L e⟩
theorem zW{Q:Int->Prop}(P:PC Tp gl f args [.int .i64] Q)(h:Fr.le gl Mg)(ag:AgM Mg g)(c:J0 Mg args vs){K:Int->zc->Prop}
  (i:∀r g' M',Later g Mg g' M'->Q r->K r g'):XC Tp f vs.toArray g λv h'=>∃r:Int,v=.int .i64 r/\K r h':=
 P.go h ag c λw g' M' r L b e=>⟨r,lh b,i r g' M' L e⟩
theorem vx(h:C g)(E:g0=Ta->XC Tp f av g λv h'=>∃r:Bool,v=.bool r/\(C h'/\Q r)){Kt:Bool->zc->Prop}(k:∀r h',C h'->(g0=Ta->Q r)->Kt r h'):
  ∃J:Value->zc->Prop,(g0=Ta->XC Tp f av g λv h'=>∃r:Bool,v=.bool r/\J (.bool r) h')/\(g0=Tb->∃r:Bool,J (.bool r) g)/\(g0=Ta->∀v h',J v h'->∃r:Bool,v=.bool r)/\∀r:Bool,∀h',J (.bool r) h'->Kt r h':=by
 refine⟨λv h'=>∃r,v=.bool r/\C h'/\(g0=Ta->Q r),λe=>XC.mono (E e) λv h' ⟨r,b,c,q⟩=>⟨r,b,r,rfl,c,λ_=>q⟩,λe=>⟨Tb,Tb,rfl,h,λe'=>by rw[e]at e';cases e'⟩,λ_ v h' ⟨r,e,_⟩=>⟨r,e⟩,λr h' ⟨i,e,c,q⟩=>?_⟩;cases e;exact k r h' c q
theorem Hl{Q:Int->Prop}(h:C g)(E:g0=Ta->XC Tp f av g λv h'=>∃r:Int,v=.int .i64 r/\(C h'/\Q r)){Kt:Int->zc->Prop}(k:∀r h',C h'->(g0=Ta->Q r)->Kt r h'):
  ∃J:Value->zc->Prop,(g0=Ta->XC Tp f av g λv h'=>∃r:Int,v=.int .i64 r/\J (.int .i64 r) h')/\(g0=Tb->∃r:Int,J (.int .i64 r) g)/\(g0=Ta->∀v h',J v h'->∃r:Int,v=.int .i64 r)/\∀r:Int,∀h',J (.int .i64 r) h'->Kt r h':=by
 refine⟨λv h'=>∃r,v=.int .i64 r/\C h'/\(g0=Ta->Q r),λe=>XC.mono (E e) λv h' ⟨r,b,c,q⟩=>⟨r,b,r,rfl,c,λ_=>q⟩,λe=>⟨0,0,rfl,h,λe'=>by rw[e]at e';cases e'⟩,λ_ v h' ⟨r,e,_⟩=>⟨r,e⟩,λr h' ⟨i,e,c,q⟩=>?_⟩;cases e;exact k r h' c q
theorem Gu(ag:AgM Mg g)(c:RdV Mg .tree x (ij x.kind x.text a b))(T:TypeId):
  ∃M',Later g Mg (g.push (.cells #[.int .i64 x.kind,.string x.text,aK a,aK b] T)) M'/\Rd M' (.row .tree) [x] [aK ⟨Tc ⟨g.size,0,Td⟩,1,1⟩]:=by
 refine⟨_,Later.frz ag _ T,?_⟩;refine⟨_,rfl,_,_,rfl,by simp,.inr ⟨g.size,0,_,rfl,by unfold Mx;rw[zb rfl],λi hi=>?_⟩⟩;have hi:i<1:=hi;obtain rfl:i=0:=by omega
 exact Rd.mono (Later.frz ag _ T).le (Aw c)
theorem G2(ag:AgM Mg g){x y:Tr}{a b c d:Sl}(h:RdV Mg .tree x (ij x.kind x.text a b))(f:RdV Mg .tree y (ij y.kind y.text c d))(T:TypeId):
  ∃M',Later g Mg (g.push (.cells #[.int .i64 x.kind,.string x.text,aK a,aK b,.int .i64 y.kind,.string y.text,aK c,aK d] T)) M'/\Rd M' (.row .tree) [x,y] [aK ⟨Tc ⟨g.size,0,Td⟩,2,2⟩]:=by
 refine⟨_,Later.frz ag _ T,SP (w1:=[_,_,_,_]) (w2:=[_,_,_,_]) ?_ (Aw h) (Aw f) rfl rfl⟩;cases e:Mg g.size with
 |none=>rfl
 |some cs=>have:=ag.lt e;omega
end
section
variable {gl : Fr}
theorem Wi{q:Bt}(e:q=bl w):PC Tp gl 27 [Arg.mk .str q,Arg.mk .tree x] [.tree] (λr=>r=qn w x):=by apply U2;simp only[xb];exact vP (by rw[e];rfl)
theorem sw:PC Tp gl 28 [Arg.mk (.row .tree) l] [.tree] (λr=>r=Zq l):=y7 rfl
theorem Lb:PC Tp gl 29 [Arg.mk (.row .str) [],Arg.mk (.row .tree) []] [.tree] (λr=>r=.mk 6 ⟨#[]⟩ [] []):=vP rfl
end
theorem Yr(f:Sm x)(h:bR x<=9000)(b:(bl w).size<=1048576):Sm (qn w x):=by
 refine⟨by rw[tU];omega,(mw _ _).2 ⟨⟨by show(0:Nat)<=_;omega,by show(1:Nat)<=_;omega,λk c=>?_⟩,ov.2 λy e=>?_⟩⟩;have:k=bl w:=by simpa[qn,Tr.keys]using c
 rw[this];exact b;have:y=x:=by simpa[qn,Tr.items]using e
 rw[this];exact f.tx
theorem wK(c:∀x∈l,Sm x)(h:Z0 l<=9000):Sm (Zq l):=by refine⟨by rw[zP];omega,(mw _ _).2 ⟨⟨by show(0:Nat)<=_;omega,by show(0:Nat)<=_;omega,λk b=>?_⟩,ov.2 λy e=>?_⟩⟩;simp[Zq,Tr.keys]at b;exact(c y (by simpa[Zq,Tr.items]using e)).tx
theorem Ss:Sm (.mk 6 ⟨#[]⟩ [] []):=by refine⟨by decide,(mw _ _).2 ⟨⟨by show(0:Nat)<=_;omega,by show(0:Nat)<=_;omega,λk b=>?_⟩,ov.2 λy c=>?_⟩⟩;simp[Tr.keys]at b;simp[Tr.items]at c
end
end Go.X
end
section
namespace Go.X
section
theorem Js(b:Int)(c:Bt)(d:Sl)(e:Sl)(f:Int)(g:Bt)(i:Sl)(j:Sl)(k:Int)(l:Bt)(m:Sl)(n:Sl)(h:zc)(R:Value->zc->Prop) (H:let o:=h.push (.cells #[iV b,.string c,aK d,aK e] 25);let p:=o.push (.cells #[iV f,.string g,aK i,aK j] 25);let q:=p.push (.cells #[iV k,.string l,aK m,aK n] 25);XC Tp 11 #[] q (λr s=>∃t,r=.bool t/\∃u v w x,zd s ⟨h.size,0,Td⟩ 0 (tL u v w x)/\∃y z A B,zd s ⟨p.size,0,Td⟩ 0 (tL y z A B)/\XC Tp 12 #[tA u v w x,tA y z A B] s (λC D=>∃E,C=.bool E/\∃F G I J,(E=Ta->zd D ⟨o.size,0,Td⟩ 0 (tL F G I J))/\∃L M N O,(E=Ta->zd D ⟨p.size,0,Td⟩ 0 (tL L M N O))/\∃P:Value->zc->Prop,(E=Ta->XC Tp 12 #[tA F G I J,tA L M N O] D (λQ S=>∃T,Q=.bool T/\P (.bool T) S))/\(E=Tb->∃U,P (.bool U) D)/\(E=Ta->∀V W,P V W->∃X,V=.bool X)/\∀Y:Bool,∀Z,P (.bool Y) Z->∃aa ab ac ad,((!(!(bif E then Y else Tb)))=Ta->zd Z ⟨h.size,0,Td⟩ 0 (tL aa ab ac ad))/\∃ae:Value->zc->Prop,((!(!(bif E then Y else Tb)))=Ta->XC Tp 17 #[tA aa ab ac ad] Z (λaf ag=>∃ah,af=.bool ah/\ae (.bool ah) ag))/\((!(!(bif E then Y else Tb)))=Tb->∃ai,ae (.bool ai) Z)/\((!(!(bif E then Y else Tb)))=Ta->∀aj ak,ae aj ak->∃al,aj=.bool al)/\∀am:Bool,∀an,ae (.bool am) an->∃ao ap aq ar,((!(bif (!(bif E then Y else Tb))then Ta else(!am)))=Ta->zd an ⟨o.size,0,Td⟩ 0 (tL ao ap aq ar))/\∃au:Value->zc->Prop,((!(bif (!(bif E then Y else Tb))then Ta else(!am)))=Ta->XC Tp 17 #[tA ao ap aq ar] an (λav aw=>∃ax,av=.bool ax/\au (.bool ax) aw))/\((!(bif (!(bif E then Y else Tb))then Ta else(!am)))=Tb->∃ay,au (.bool ay) an)/\((!(bif (!(bif E then Y else Tb))then Ta else(!am)))=Ta->∀az aA,au az aA->∃aB,az=.bool aB)/\∀aC:Bool,∀aD,au (.bool aC) aD->∃aE aF aG aH,((!(bif (bif (!(bif E then Y else Tb))then Ta else(!am))then Ta else(!aC)))=Ta->zd aD ⟨p.size,0,Td⟩ 0 (tL aE aF aG aH))/\∃aI:Value->zc->Prop,((!(bif (bif (!(bif E then Y else Tb))then Ta else(!am))then Ta else(!aC)))=Ta->XC Tp 25 #[tA aE aF aG aH] aD (λaJ aL=>∃aM,aJ=.bool aM/\aI (.bool aM) aL))/\((!(bif (bif (!(bif E then Y else Tb))then Ta else(!am))then Ta else(!aC)))=Tb->∃aN,aI (.bool aN) aD)/\((!(bif (bif (!(bif E then Y else Tb))then Ta else(!am))then Ta else(!aC)))=Ta->∀aO aP,aI aO aP->∃aQ,aO=.bool aQ)/\∀aS:Bool,∀aT,aI (.bool aS) aT->∃aU aV aW aX,((!(bif (bif (bif (!(bif E then Y else Tb))then Ta else(!am))then Ta else(!aC))then Ta else(!aS)))=Ta->zd aT ⟨h.size,0,Td⟩ 0 (tL aU aV aW aX))/\∃aY:Value->zc->Prop,((!(bif (bif (bif (!(bif E then Y else Tb))then Ta else(!am))then Ta else(!aC))then Ta else(!aS)))=Ta->XC Tp 26 #[tA aU aV aW aX] aT (λaZ a0=>∃a1,aZ=iV a1/\aY (iV a1) a0))/\((!(bif (bif (bif (!(bif E then Y else Tb))then Ta else(!am))then Ta else(!aC))then Ta else(!aS)))=Tb->∃a2,aY (iV a2) aT)/\((!(bif (bif (bif (!(bif E then Y else Tb))then Ta else(!am))then Ta else(!aC))then Ta else(!aS)))=Ta->∀a3 a4,aY a3 a4->∃a5,a3=iV a5)/\∀a6:Int,∀a7,aY (iV a6) a7->∃a8 a9 ba bb,((!(bif (bif (bif (bif (!(bif E then Y else Tb))then Ta else(!am))then Ta else(!aC))then Ta else(!aS))then Ta else(decide (a6>28))))=Ta->zd a7 ⟨o.size,0,Td⟩ 0 (tL a8 a9 ba bb))/\∃bc:Value->zc->Prop,((!(bif (bif (bif (bif (!(bif E then Y else Tb))then Ta else(!am))then Ta else(!aC))then Ta else(!aS))then Ta else(decide (a6>28))))=Ta->XC Tp 26 #[tA a8 a9 ba bb] a7 (λbd be=>∃bf,bd=iV bf/\bc (iV bf) be))/\((!(bif (bif (bif (bif (!(bif E then Y else Tb))then Ta else(!am))then Ta else(!aC))then Ta else(!aS))then Ta else(decide (a6>28))))=Tb->∃bg,bc (iV bg) a7)/\((!(bif (bif (bif (bif (!(bif E then Y else Tb))then Ta else(!am))then Ta else(!aC))then Ta else(!aS))then Ta else(decide (a6>28))))=Ta->∀bh bi,bc bh bi->∃bj,bh=iV bj)/\∀bk:Int,∀bl,bc (iV bk) bl->((bif (bif (bif (bif (bif (!(bif E then Y else Tb))then Ta else(!am))then Ta else(!aC))then Ta else(!aS))then Ta else(decide (a6>28)))then Ta else(decide (bk>28)))=Ta->R (.bool t) bl)/\((bif (bif (bif (bif (bif (!(bif E then Y else Tb))then Ta else(!am))then Ta else(!aC))then Ta else(!aS))then Ta else(decide (a6>28)))then Ta else(decide (bk>28)))=Tb->∃bm bn bo bp,zd bl ⟨h.size,0,Td⟩ 0 (tL bm bn bo bp)/\∃bq br bs bt,zd bl ⟨p.size,0,Td⟩ 0 (tL bq br bs bt)/\XC Tp 19 #[tA bm bn bo bp,tA bq br bs bt] bl (λbu bv=>∃bw,bu=.bool bw/\∃bx bz bA bB,zd bv ⟨o.size,0,Td⟩ 0 (tL bx bz bA bB)/\∃bC bD bE bF,zd bv ⟨p.size,0,Td⟩ 0 (tL bC bD bE bF)/\XC Tp 19 #[tA bx bz bA bB,tA bC bD bE bF] bv (λbG bH=>∃bI,bG=.bool bI/\∃bJ bL bM bN,zd bH ⟨h.size,0,Td⟩ 0 (tL bJ bL bM bN)/\∃bO bP bQ bS,zd bH ⟨o.size,0,Td⟩ 0 (tL bO bP bQ bS)/\∃bT bU bV bW,zd bH ⟨p.size,0,Td⟩ 0 (tL bT bU bV bW)/\let bX:=bH.push (.cells #[iV bJ,.string bL,aK bM,aK bN,iV bO,.string bP,aK bQ,aK bS] 25);(bX)[(⟨p.size,0,Td⟩:Addr).block]?=(bH)[(⟨p.size,0,Td⟩:Addr).block]?/\XC Tp 28 #[.slice (Tc ⟨bH.size,0,Td⟩) 2 2] bX (λbY bZ=>∃b0 b1 b2 b3,bY=tA b0 b1 b2 b3/\(bZ)[(⟨p.size,0,Td⟩:Addr).block]?=(bH)[(⟨p.size,0,Td⟩:Addr).block]?/\XC Tp 27 #[.string (⟨#[97,108,108]⟩:Bt),tA b0 b1 b2 b3] bZ (λb4 b5=>∃b6 b7 b8 b9,b4=tA b6 b7 b8 b9/\(b5)[(⟨p.size,0,Td⟩:Addr).block]?=(bH)[(⟨p.size,0,Td⟩:Addr).block]?/\XC Tp 19 #[tA b6 b7 b8 b9,tA bT bU bV bW] b5 (λca cb=>∃cc,ca=.bool cc/\∃cd ce cf cg,zd cb ⟨h.size,0,Td⟩ 0 (tL cd ce cf cg)/\∃ch ci cj ck,zd cb ⟨o.size,0,Td⟩ 0 (tL ch ci cj ck)/\∃cl cm cn co,zd cb ⟨p.size,0,Td⟩ 0 (tL cl cm cn co)/\let cp:=cb.push (.cells #[iV cd,.string ce,aK cf,aK cg,iV ch,.string ci,aK cj,aK ck] 25);(cp)[(⟨p.size,0,Td⟩:Addr).block]?=(cb)[(⟨p.size,0,Td⟩:Addr).block]?/\XC Tp 28 #[.slice (Tc ⟨cb.size,0,Td⟩) 2 2] cp (λcq cr=>∃cs ct cu cv,cq=tA cs ct cu cv/\(cr)[(⟨p.size,0,Td⟩:Addr).block]?=(cb)[(⟨p.size,0,Td⟩:Addr).block]?/\XC Tp 27 #[.string (⟨#[97,110,121]⟩:Bt),tA cs ct cu cv] cr (λcw cx=>∃cy cz cA cB,cw=tA cy cz cA cB/\(cx)[(⟨p.size,0,Td⟩:Addr).block]?=(cb)[(⟨p.size,0,Td⟩:Addr).block]?/\XC Tp 19 #[tA cy cz cA cB,tA cl cm cn co] cx (λcC cD=>∃cE,cC=.bool cE/\∃cF cG cH cI,zd cD ⟨p.size,0,Td⟩ 0 (tL cF cG cH cI)/\XC Tp 28 #[.slice Td 0 0] cD (λcJ cL=>∃cM cN cO cP,cJ=tA cM cN cO cP/\(cL)[(⟨p.size,0,Td⟩:Addr).block]?=(cD)[(⟨p.size,0,Td⟩:Addr).block]?/\XC Tp 27 #[.string (⟨#[97,110,121]⟩:Bt),tA cM cN cO cP] cL (λcQ cS=>∃cT cU cV cW,cQ=tA cT cU cV cW/\(cS)[(⟨p.size,0,Td⟩:Addr).block]?=(cD)[(⟨p.size,0,Td⟩:Addr).block]?/\XC Tp 19 #[tA cT cU cV cW,tA cF cG cH cI] cS (λcX cY=>∃cZ,cX=.bool cZ/\∃c0 c1 c2 c3,zd cY ⟨h.size,0,Td⟩ 0 (tL c0 c1 c2 c3)/\∃c4 c5 c6 c7,zd cY ⟨p.size,0,Td⟩ 0 (tL c4 c5 c6 c7)/\XC Tp 27 #[.string (⟨#[110,111,116]⟩:Bt),tA c0 c1 c2 c3] cY (λc8 c9=>∃da db dc dd,c8=tA da db dc dd/\(c9)[(⟨p.size,0,Td⟩:Addr).block]?=(cY)[(⟨p.size,0,Td⟩:Addr).block]?/\XC Tp 19 #[tA da db dc dd,tA c4 c5 c6 c7] c9 (λde df=>∃dg,de=.bool dg/\∀dh:Bool->zc->Prop,(∀di:Bool,∀dj:zc,(∃dk dl dm dn,zd dj ⟨h.size,0,Td⟩ 0 (tL dk dl dm dn)/\∃dp dq dr ds,zd dj ⟨p.size,0,Td⟩ 0 (tL dp dq dr ds)/\XC Tp 27 #[.string (⟨#[107]⟩:Bt),tA dk dl dm dn] dj (λdt du=>∃dv dw dx dy,dt=tA dv dw dx dy/\(du)[(⟨p.size,0,Td⟩:Addr).block]?=(dj)[(⟨p.size,0,Td⟩:Addr).block]?/\XC Tp 27 #[.string (⟨#[109,101,109,98,101,114,115]⟩:Bt),tA dv dw dx dy] du (λdz dA=>∃dB dC dD dE,dz=tA dB dC dD dE/\(dA)[(⟨p.size,0,Td⟩:Addr).block]?=(dj)[(⟨p.size,0,Td⟩:Addr).block]?/\XC Tp 27 #[.string (⟨#[107]⟩:Bt),tA dp dq dr ds] dA (λdF dG=>∃dH dI dJ dL,dF=tA dH dI dJ dL/\XC Tp 19 #[tA dB dC dD dE,tA dH dI dJ dL] dG (λdM dN=>∃dO,dM=.bool dO/\∃dP dQ dS dT,zd dN ⟨p.size,0,Td⟩ 0 (tL dP dQ dS dT)/\XC Tp 26 #[tA dP dQ dS dT] dN (λdU dV=>∃dW,dU=iV dW/\(decide (dW>28)=Ta->R (.bool (bif (bif (bif (bif t then(cc==(bif bw then bI else Tb))else Tb)then(cE==(bif bw then Ta else bI))else Tb)then(dg==(!bw))else Tb)then(!cZ)else Tb)) dV)/\(decide (dW>28)=Tb->let dX:Int->Bt->Sl->Sl->Int->Bt->Sl->Sl->Bool->zc->Prop:=λdY dZ (d0:Sl) (d1:Sl) d2 d3 (d4:Sl) (d5:Sl) d6 (d7:zc)=>(∃d8:Value->zc->Prop,(d6=Ta->XC Tp 19 #[tA d2 d3 d4 d5,tA dY dZ d0 d1] d7 (λd9 ea=>∃eb,d9=.bool eb/\d8 (.bool eb) ea))/\(d6=Tb->∃ec,d8 (.bool ec) d7)/\(d6=Ta->∀ed ee,d8 ed ee->∃ef,ed=.bool ef)/\∀eg:Bool,∀eh,d8 (.bool eg) eh->R (.bool (bif d6 then eg else Tb)) eh);∃ei ej ek el,((bif (bif (bif (bif (bif (bif t then(cc==(bif bw then bI else Tb))else Tb)then(cE==(bif bw then Ta else bI))else Tb)then(dg==(!bw))else Tb)then(!cZ)else Tb)then(di==bw)else Tb)then(dO==bw)else Tb)=Ta->zd dV ⟨h.size,0,Td⟩ 0 (tL ei ej ek el))/\∃em:Value->zc->Prop,((bif (bif (bif (bif (bif (bif t then(cc==(bif bw then bI else Tb))else Tb)then(cE==(bif bw then Ta else bI))else Tb)then(dg==(!bw))else Tb)then(!cZ)else Tb)then(di==bw)else Tb)then(dO==bw)else Tb)=Ta->XC Tp 27 #[.string (⟨#[105,116,101,109,115]⟩:Bt),tA ei ej ek el] dV (λen eo=>∃ep eq er es,en=tA ep eq er es/\em (tA ep eq er es) eo))/\((bif (bif (bif (bif (bif (bif t then(cc==(bif bw then bI else Tb))else Tb)then(cE==(bif bw then Ta else bI))else Tb)then(dg==(!bw))else Tb)then(!cZ)else Tb)then(di==bw)else Tb)then(dO==bw)else Tb)=Tb->∃et eu ev ew,em (tA et eu ev ew) dV)/\((bif (bif (bif (bif (bif (bif t then(cc==(bif bw then bI else Tb))else Tb)then(cE==(bif bw then Ta else bI))else Tb)then(dg==(!bw))else Tb)then(!cZ)else Tb)then(di==bw)else Tb)then(dO==bw)else Tb)=Ta->∀ex ey,em ex ey->∃ez eA eB eC,ex=tA ez eA eB eC)/\∀eD:Int,∀eE:Bt,∀eF eG:Sl,∀eH,em (tA eD eE eF eG) eH->∃eI:Value->zc->Prop,((bif (bif (bif (bif (bif (bif t then(cc==(bif bw then bI else Tb))else Tb)then(cE==(bif bw then Ta else bI))else Tb)then(dg==(!bw))else Tb)then(!cZ)else Tb)then(di==bw)else Tb)then(dO==bw)else Tb)=Ta->XC Tp 28 #[.slice Td 0 0] eH (λeJ eL=>∃eM eN eO eP,eJ=tA eM eN eO eP/\eI (tA eM eN eO eP) eL))/\((bif (bif (bif (bif (bif (bif t then(cc==(bif bw then bI else Tb))else Tb)then(cE==(bif bw then Ta else bI))else Tb)then(dg==(!bw))else Tb)then(!cZ)else Tb)then(di==bw)else Tb)then(dO==bw)else Tb)=Tb->∃eQ eS eT eU,eI (tA eQ eS eT eU) eH)/\((bif (bif (bif (bif (bif (bif t then(cc==(bif bw then bI else Tb))else Tb)then(cE==(bif bw then Ta else bI))else Tb)then(dg==(!bw))else Tb)then(!cZ)else Tb)then(di==bw)else Tb)then(dO==bw)else Tb)=Ta->∀eV eW,eI eV eW->∃eX eY eZ e0,eV=tA eX eY eZ e0)/\∀e1:Int,∀e2:Bt,∀e3 e4:Sl,∀e5,eI (tA e1 e2 e3 e4) e5->∃e6:Value->zc->Prop,((bif (bif (bif (bif (bif (bif t then(cc==(bif bw then bI else Tb))else Tb)then(cE==(bif bw then Ta else bI))else Tb)then(dg==(!bw))else Tb)then(!cZ)else Tb)then(di==bw)else Tb)then(dO==bw)else Tb)=Ta->XC Tp 19 #[tA eD eE eF eG,tA e1 e2 e3 e4] e5 (λe7 e8=>∃e9,e7=.bool e9/\e6 (.bool e9) e8))/\((bif (bif (bif (bif (bif (bif t then(cc==(bif bw then bI else Tb))else Tb)then(cE==(bif bw then Ta else bI))else Tb)then(dg==(!bw))else Tb)then(!cZ)else Tb)then(di==bw)else Tb)then(dO==bw)else Tb)=Tb->∃fa,e6 (.bool fa) e5)/\((bif (bif (bif (bif (bif (bif t then(cc==(bif bw then bI else Tb))else Tb)then(cE==(bif bw then Ta else bI))else Tb)then(dg==(!bw))else Tb)then(!cZ)else Tb)then(di==bw)else Tb)then(dO==bw)else Tb)=Ta->∀fb fc,e6 fb fc->∃fd,fb=.bool fd)/\∀fe:Bool,∀ff,e6 (.bool fe) ff->(∃fg:Value->zc->Prop,((bif (bif (bif (bif (bif (bif (bif t then(cc==(bif bw then bI else Tb))else Tb)then(cE==(bif bw then Ta else bI))else Tb)then(dg==(!bw))else Tb)then(!cZ)else Tb)then(di==bw)else Tb)then(dO==bw)else Tb)then fe else Tb)=Ta->XC Tp 29 #[.slice Td 0 0,.slice Td 0 0] ff (λfh fi=>∃fj fk fl fm,fh=tA fj fk fl fm/\fg (tA fj fk fl fm) fi))/\((bif (bif (bif (bif (bif (bif (bif t then(cc==(bif bw then bI else Tb))else Tb)then(cE==(bif bw then Ta else bI))else Tb)then(dg==(!bw))else Tb)then(!cZ)else Tb)then(di==bw)else Tb)then(dO==bw)else Tb)then fe else Tb)=Tb->∃fn fo fp fq,fg (tA fn fo fp fq) ff)/\((bif (bif (bif (bif (bif (bif (bif t then(cc==(bif bw then bI else Tb))else Tb)then(cE==(bif bw then Ta else bI))else Tb)then(dg==(!bw))else Tb)then(!cZ)else Tb)then(di==bw)else Tb)then(dO==bw)else Tb)then fe else Tb)=Ta->∀fr fs,fg fr fs->∃ft fu fv fw,fr=tA ft fu fv fw)/\∀fx:Int,∀fy:Bt,∀fz fA:Sl,∀fB,fg (tA fx fy fz fA) fB->∃fC fD fE fF,((bif (bif (bif (bif (bif (bif (bif t then(cc==(bif bw then bI else Tb))else Tb)then(cE==(bif bw then Ta else bI))else Tb)then(dg==(!bw))else Tb)then(!cZ)else Tb)then(di==bw)else Tb)then(dO==bw)else Tb)then fe else Tb)=Ta->zd fB ⟨p.size,0,Td⟩ 0 (tL fC fD fE fF))/\dX fC fD fE fF fx fy fz fA (bif (bif (bif (bif (bif (bif (bif t then(cc==(bif bw then bI else Tb))else Tb)then(cE==(bif bw then Ta else bI))else Tb)then(dg==(!bw))else Tb)then(!cZ)else Tb)then(di==bw)else Tb)then(dO==bw)else Tb)then fe else Tb) fB)/\(∃fG fH fI fJ,((bif (bif (bif (bif (bif (bif (bif t then(cc==(bif bw then bI else Tb))else Tb)then(cE==(bif bw then Ta else bI))else Tb)then(dg==(!bw))else Tb)then(!cZ)else Tb)then(di==bw)else Tb)then(dO==bw)else Tb)then fe else Tb)=Ta->zd ff ⟨p.size,0,Td⟩ 0 (tL fG fH fI fJ))/\∃fL:Value->zc->Prop,((bif (bif (bif (bif (bif (bif (bif t then(cc==(bif bw then bI else Tb))else Tb)then(cE==(bif bw then Ta else bI))else Tb)then(dg==(!bw))else Tb)then(!cZ)else Tb)then(di==bw)else Tb)then(dO==bw)else Tb)then fe else Tb)=Ta->XC Tp 29 #[.slice Td 0 0,.slice Td 0 0] ff (λfM fN=>∃fO fP fQ fS,fM=tA fO fP fQ fS/\fL (tA fO fP fQ fS) fN))/\((bif (bif (bif (bif (bif (bif (bif t then(cc==(bif bw then bI else Tb))else Tb)then(cE==(bif bw then Ta else bI))else Tb)then(dg==(!bw))else Tb)then(!cZ)else Tb)then(di==bw)else Tb)then(dO==bw)else Tb)then fe else Tb)=Tb->∃fT fU fV fW,fL (tA fT fU fV fW) ff)/\((bif (bif (bif (bif (bif (bif (bif t then(cc==(bif bw then bI else Tb))else Tb)then(cE==(bif bw then Ta else bI))else Tb)then(dg==(!bw))else Tb)then(!cZ)else Tb)then(di==bw)else Tb)then(dO==bw)else Tb)then fe else Tb)=Ta->∀fX fY,fL fX fY->∃fZ f0 f1 f2,fX=tA fZ f0 f1 f2)/\∀f3:Int,∀f4:Bt,∀f5 f6:Sl,∀f7,fL (tA f3 f4 f5 f6) f7->dX fG fH fI fJ f3 f4 f5 f6 (bif (bif (bif (bif (bif (bif (bif t then(cc==(bif bw then bI else Tb))else Tb)then(cE==(bif bw then Ta else bI))else Tb)then(dg==(!bw))else Tb)then(!cZ)else Tb)then(di==bw)else Tb)then(dO==bw)else Tb)then fe else Tb) f7))))))))->dh di dj)->∃f8 f9 ga gb,zd df ⟨h.size,0,Td⟩ 0 (tL f8 f9 ga gb)/\∃gc gd ge gf,zd df ⟨p.size,0,Td⟩ 0 (tL gc gd ge gf)/\let gg:Sl->Int->Bt->Sl->Sl->zc->Prop:=λ(gh:Sl) gi gj (gk:Sl) (gl:Sl) (gm:zc)=>(XC Tp 28 #[aK gh] gm (λgn go=>∃gp gq gr gs,gn=tA gp gq gr gs/\XC Tp 19 #[tA gi gj gk gl,tA gp gq gr gs] go (λgt gu=>∃gv,gt=.bool gv/\dh gv gu)));(XC Tp 27 #[.string (⟨#[105,116,101,109,115]⟩:Bt),tA f8 f9 ga gb] df (λgw gx=>∃gy gz gA gB,gw=tA gy gz gA gB/\(gx)[(⟨p.size,0,Td⟩:Addr).block]?=(df)[(⟨p.size,0,Td⟩:Addr).block]?/\let gC:=gx.push (.cells #[iV gc,.string gd,aK ge,aK gf] 25);gg (⟨Tc ⟨gx.size,0,Td⟩,1,1⟩:Sl) gy gz gA gB gC))/\(let gD:=df.push (.cells #[iV gc,.string gd,aK ge,aK gf] 25);(gD)[(⟨h.size,0,Td⟩:Addr).block]?=(df)[(⟨h.size,0,Td⟩:Addr).block]?/\XC Tp 27 #[.string (⟨#[105,116,101,109,115]⟩:Bt),tA f8 f9 ga gb] gD (λgE gF=>∃gG gH gI gJ,gE=tA gG gH gI gJ/\gg (⟨Tc ⟨df.size,0,Td⟩,1,1⟩:Sl) gG gH gI gJ gF))))))))))))))))))):
  XC Tp 4 #[.agg #[.int .i64 b,.string c,.slice d.a d.len d.cap,.slice e.a e.len e.cap],.agg #[.int .i64 f,.string g,.slice i.a i.len i.cap,.slice j.a j.len j.cap],.agg #[.int .i64 k,.string l,.slice m.a m.len m.cap,.slice n.a n.len n.cap]] h R:=
 XF ⟨[(7,8000),(8,8000),(9,8000),(10,8000),(12,8000),(15,7000),(11,8000)],[],[(12,[(15,.one (.bool))])]⟩ [.tmp 6] 172 Tryz.func4 H
end
end Go.X
end
section
namespace Go.X
open Go Go.X Go.Proofs Go.Lib Go.RowKit
section
variable {s t v:Tr}
structure Jn (s t v:Tr):Prop where
 jAll:fitsT zj qu (qn hX (Zq [s,t])) v=(fitsT zj qu s v&&fitsT zj qu t v)
 jAny:fitsT zj qu (qn hO (Zq [s,t])) v=(fitsT zj qu s v||fitsT zj qu t v)
 jNone:fitsT zj qu (qn hO (Zq [])) v=Tb
 jNot:fitsT zj qu (qn iY s) v=!fitsT zj qu s v
 jEmpty:fitsT zj qu (qn je s) (Zq [])=Ta
 jIdle:fitsT zj qu (.mk 6 ⟨#[]⟩ [] []) v=Ta
theorem Jn.of(e:Yp s=Ta)(k:Yp t=Ta)(c:zy v=Ta)(o:bR s<=120)(m:bR t<=120)(p:bK s<=28)(n:bK t<=28):Jn s t v:=by
 have i:∀x∈[s,t],Yp x=Ta:=λx b=>by rcases zah.1 b with rfl|b;exact e;rcases zah.1 b with rfl|b;exact k;cases b
 have h:Z0 [s,t]<=4000:=by simp only[Z0];omega
 have f:Jp [s,t]<=30:=by simp only[Jp];omega
 refine⟨?_,?_,?_,QT e (by omega) (by omega) c,?_,Ma [] rfl c⟩;rw[Df (.inl rfl) i h f c,zb rfl];simp;rw[Df (.inr rfl) i h f c,za (by decide)];simp;rw[Df (.inr rfl) (l:=[]) (λx b=>by cases b) (by simp[Z0]) (by simp[Jp]) c,za (by decide)];rfl;rw[Is e (by omega) (by omega) (λx b=>by cases b) (by simp[Z0]) (by simp[Jp])];rfl
set_option maxHeartbeats 8000000 in
set_option maxRecDepth 100000 in
theorem MZ{gl:Fr}(O:GL gl){R:Bool->Prop}(hR:R Ta):PC Tp gl 4 [Arg.mk .tree s,Arg.mk .tree t,Arg.mk .tree v] [.bool] R:=by
 intro h M vs hM ag ha;obtain⟨us,ut,uv,rfl,bB,aT,aY⟩:∃us ut uv,vs=[us,ut,uv]/\RdV M .tree s us/\RdV M .tree t ut/\RdV M .tree v uv:=by
  match vs,ha with
  |[a,b,c],⟨h1,h2,z,_⟩=>exact⟨a,b,c,rfl,h1,h2,z⟩
 have bq:=bB;have bi:=aT;have aO:=aY;obtain⟨sk,si,rfl,-,-⟩:=yj bB;obtain⟨tk,ti,rfl,-,-⟩:=yj aT;obtain⟨vk,vi,rfl,-,-⟩:=yj aY;apply PX.of;apply Js s.kind s.text sk si t.kind t.text tk ti v.kind v.text vk vi;intro h1 h2 z;obtain⟨A,V,ms,mt,mv⟩:∃A,Later h M z A/\A h.size=Tc (zx s.kind s.text sk si).toArray/\A h1.size=Tc (zx t.kind t.text tk ti).toArray/\A h2.size=Tc (zx v.kind v.text vk vi).toArray:=by have L1:Later h M h1 (Mx M h.size (zx s.kind s.text sk si).toArray):=Later.frz ag _ 25;have L2:Later h1 _ h2 (Mx _ h1.size (zx t.kind t.text tk ti).toArray):=Later.frz L1.ag _ 25;have L3:Later h2 _ z (Mx _ h2.size (zx v.kind v.text vk vi).toArray):=Later.frz L2.ag _ 25;exact⟨_,(L1.trans L2).trans L3,(L2.trans L3).le _ _ (Y6 ..),L3.le _ _ (Y6 ..),Y6 ..⟩
 clear_value z h2 h1;have aQ:=hM.trans V.le;have m:∀{g Mg},Later z A g Mg->zd g ⟨h.size,0,Td⟩ 0 [.int .i64 s.kind,.string s.text,aK sk,aK si]:=λL=>AF L.ag (L.le _ _ ms);have D:∀{g Mg},Later z A g Mg->zd g ⟨h1.size,0,Td⟩ 0 [.int .i64 t.kind,.string t.text,aK tk,aK ti]:=λL=>AF L.ag (L.le _ _ mt);have i:∀{g Mg},Later z A g Mg->zd g ⟨h2.size,0,Td⟩ 0 [.int .i64 v.kind,.string v.text,aK vk,aK vi]:=λL=>AF L.ag (L.le _ _ mv);have B:∀{g Mg},Later z A g Mg->RdV Mg .tree s (ij s.kind s.text sk si):=λL=>bq.mono (V.le.trans L.le);have U:∀{g Mg},Later z A g Mg->RdV Mg .tree t (ij t.kind t.text tk ti):=λL=>bi.mono (V.le.trans L.le);have o:∀{g Mg},Later z A g Mg->RdV Mg .tree v (ij v.kind v.text vk vi):=λL=>aO.mono (V.le.trans L.le);have bL:∀{g Mg},Later z A g Mg->h.size<g.size:=λL=>L.ag.lt (L.le _ _ ms);have u:∀{g Mg},Later z A g Mg->h2.size<g.size:=λL=>L.ag.lt (L.le _ _ mv);have fin:∀{g Mg},Later z A g Mg->∃M' r,Later h M g M'/\Jl M' [.bool] r (.bool Ta)/\R r:=λL=>⟨_,Ta,V.trans L,Y5.2 (rdBool Ta),hR⟩;have e:∀{g Mg},Later z A g Mg->Fr.le gl Mg:=λL=>aQ.trans L.le;refine iX (vs:=[]) (CE O (R:=λr=>r=Ta) rfl) aQ V.ag zq λr g4 M4 N f=>?_;have f:r=Ta:=f;subst f;refine⟨_,_,sk,si,m N,_,_,vk,vi,i N,?_⟩;refine iX (vs:=[_,_]) (uw (s:=s) (v:=v) (R:=λb=>b=Ta->iJ s<=120/\Sm s/\iJ v<=60/\Sm v) λb hb=>hb) (e N) N.ag (zi (B N) (zi (o N) zq)) λr1 g5 M5 H am=>?_
 replace H:=N.trans H
 refine⟨_,_,tk,ti,λ_=>D H,_,_,vk,vi,λ_=>i H,?_⟩;refine vx (C:=λg=>∃Mg,Later z A g Mg) (Q:=λb=>b=Ta->iJ t<=120/\Sm t/\iJ v<=60/\Sm v) ⟨_,H⟩ (λS=>?_) ?_;exact iX (vs:=[_,_]) (uw (s:=t) (v:=v) λb hb=>hb) (e H) H.ag (zi (U H) (zi (o H) zq)) λr g M L f=>⟨⟨_,H.trans L⟩,f⟩;rintro r2 g6 ⟨M6,L6⟩ an;have Y:r1=Ta/\r2=Ta->Sm s/\Sm t/\Sm v:=λ⟨e1,e2⟩=>⟨(am e1).2.1,(an e1 e2).2.1,(am e1).2.2.2⟩;refine⟨_,_,sk,si,λ_=>m L6,?_⟩;refine vx (C:=λg=>∃Mg,Later z A g Mg) (Q:=λb=>b=Yp s) ⟨_,L6⟩ (λS=>?_) ?_;have sm:=Y (by revert S;cases r1 <;> cases r2 <;> simp);exact iX (vs:=[_]) (td O sm.1 (R:=λr=>r=Yp s) rfl) (e L6) L6.ag (zi (B L6) zq) λr g M L f=>⟨⟨_,L6.trans L⟩,f⟩;rintro r3 g7 ⟨M7,L7⟩ aL;refine⟨_,_,tk,ti,λ_=>D L7,?_⟩;refine vx (C:=λg=>∃Mg,Later z A g Mg) (Q:=λb=>b=Yp t) ⟨_,L7⟩ (λS=>?_) ?_;have sm:=Y (by revert S;cases r1 <;> cases r2 <;> simp);exact iX (vs:=[_]) (td O sm.2.1 (R:=λr=>r=Yp t) rfl) (e L7) L7.ag (zi (U L7) zq) λr g M L f=>⟨⟨_,L7.trans L⟩,f⟩;rintro r4 g8 ⟨M8,L8⟩ a8;refine⟨_,_,vk,vi,λ_=>i L8,?_⟩;refine vx (C:=λg=>∃Mg,Later z A g Mg) (Q:=λb=>b=zy v) ⟨_,L8⟩ (λS=>?_) ?_;have sm:=Y (by revert S;cases r1 <;> cases r2 <;> simp);exact iX (vs:=[_]) (vu O sm.2.2 (R:=λr=>r=zy v) rfl) (e L8) L8.ag (zi (o L8) zq) λr g M L f=>⟨⟨_,L8.trans L⟩,f⟩;rintro r5 g9 ⟨M9,L9⟩ bD;refine⟨_,_,sk,si,λ_=>m L9,?_⟩;refine Hl (C:=λg=>∃Mg,Later z A g Mg) (Q:=λd=>d=(bK s:Int)) ⟨_,L9⟩ (λS=>?_) ?_;have sm:=Y (by revert S;cases r1 <;> cases r2 <;> simp);exact zW (vs:=[_]) (oZ s sm.1.sz (R:=λd=>d=(bK s:Int)) rfl) (e L9) L9.ag (zi (B L9) zq) λr g M L f=>⟨⟨_,L9.trans L⟩,f⟩;rintro d1 g10 ⟨cH,P⟩ aZ;refine⟨_,_,tk,ti,λ_=>D P,?_⟩;refine Hl (C:=λg=>∃Mg,Later z A g Mg) (Q:=λd=>d=(bK t:Int)) ⟨_,P⟩ (λS=>?_) ?_;have sm:=Y (by revert S;cases r1 <;> cases r2 <;> simp);exact zW (vs:=[_]) (oZ t sm.2.1.sz (R:=λd=>d=(bK t:Int)) rfl) (e P) P.ag (zi (U P) zq) λr g M L f=>⟨⟨_,P.trans L⟩,f⟩;rintro d2 g11 ⟨cB,J⟩ bm;refine⟨λ_=>fin J,λS=>?_⟩;obtain⟨rfl,rfl,rfl,rfl,rfl,c6,c7⟩:r1=Ta/\r2=Ta/\r3=Ta/\r4=Ta/\r5=Ta/\d1<=28/\d2<=28:=by revert S;cases r1 <;> cases r2 <;> cases r3 <;> cases r4 <;> cases r5 <;> simp
 have hs:Yp s=Ta:=(aL rfl).symm;have ht:Yp t=Ta:=(a8 rfl).symm;have hv:zy v=Ta:=(bD rfl).symm;obtain rfl:=aZ rfl;obtain rfl:=bm (by rw[zF (by omega)];rfl);obtain⟨ks,ss,kv,sv⟩:=am rfl;obtain⟨kt,st,-,-⟩:=an rfl rfl;clear S am an aL a8 bD aZ bm Y;have zs:=nt s;have zt:=nt t;have zv:=nt v;have jn:=Jn.of hs ht hv (by omega) (by omega) (by omega) (by omega);have z2:Z0 [s,t]<=8000:=by simp only[Z0];omega
 have aG:Sm (Zq [s,t]):=wK (λx E=>by rcases zah.1 E with rfl|E;exact ss;rcases zah.1 E with rfl|E;exact st;cases E) (by omega);have bg:Sm (Zq []):=wK (λx E=>by cases E) (by simp[Z0]);have cc:Sm (Zq [v]):=wK (λx E=>by rcases zah.1 E with rfl|E;exact sv;cases E) (by simp only[Z0];omega);have zR:bR (Zq [s,t])<=9000:=by rw[zP];omega
 have zE:bR (Zq [])<=9000:=by decide
 refine⟨_,_,sk,si,m J,_,_,vk,vi,i J,?_⟩;refine iX (vs:=[_,_]) (wz O ss sv (R:=λr=>r=fitsT zj qu s v) rfl) (e J) J.ag (zi (B J) (zi (o J) zq)) λr cT cn G f=>?_;have f:r=fitsT zj qu s v:=f;subst f
 replace G:=J.trans G
 refine⟨_,_,tk,ti,D G,_,_,vk,vi,i G,?_⟩;refine iX (vs:=[_,_]) (wz O st sv (R:=λr=>r=fitsT zj qu t v) rfl) (e G) G.ag (zi (U G) (zi (o G) zq)) λr aC bY p f=>?_;have f:r=fitsT zj qu t v:=f;subst f
 replace p:=G.trans p
 refine⟨_,_,sk,si,m p,_,_,tk,ti,D p,_,_,vk,vi,i p,?_⟩;intro aF;obtain⟨cQ,au,aJ⟩:∃M',Later aC bY aF M'/\Rd M' (.row .tree) [s,t] [aK ⟨Tc ⟨aC.size,0,Td⟩,2,2⟩]:=G2 p.ag (B p) (U p) 25;clear_value aF;have bI:=p.trans au;refine⟨au.keep.get _ (u p),?_⟩;refine iR (vs:=[aK ⟨Tc ⟨aC.size,0,Td⟩,2,2⟩]) sw (e bI) bI.ag (zi ((W0 rfl).2 aJ) zq) λa1 b1 cg cy ca be=>?_;have aA:=au.trans ca;have bh:=p.trans aA;refine⟨aA.keep.get _ (u p),?_⟩;refine iR (vs:=[_,_]) (Wi (w:=hX) (by kernel_rfl)) (e bh) bh.ag (zi (rdStr _) (zi be zq)) λa2 b2 cA cP bT aM=>?_;have bu:=aA.trans bT;have ae:=p.trans bu;refine⟨bu.keep.get _ (u p),?_⟩;refine iX (vs:=[_,_]) (wz O (Yr aG zR (by decide)) sv (R:=λr=>r=fitsT zj qu (qn hX (Zq [s,t])) v) rfl) (e ae) ae.ag (zi aM (zi (o ae) zq)) λr ap bN n f=>?_;have f:r=fitsT zj qu (qn hX (Zq [s,t])) v:=f;subst f
 replace n:=ae.trans n
 refine⟨_,_,sk,si,m n,_,_,tk,ti,D n,_,_,vk,vi,i n,?_⟩;intro bo;obtain⟨cM,ar,bG⟩:∃M',Later ap bN bo M'/\Rd M' (.row .tree) [s,t] [aK ⟨Tc ⟨ap.size,0,Td⟩,2,2⟩]:=G2 n.ag (B n) (U n) 25;clear_value bo;have bE:=n.trans ar;refine⟨ar.keep.get _ (u n),?_⟩;refine iR (vs:=[aK ⟨Tc ⟨ap.size,0,Td⟩,2,2⟩]) sw (e bE) bE.ag (zi ((W0 rfl).2 bG) zq) λa1 b1 co cC cb br=>?_;have az:=ar.trans cb;have ba:=n.trans az;refine⟨az.keep.get _ (u n),?_⟩;refine iR (vs:=[_,_]) (Wi (w:=hO) (by kernel_rfl)) (e ba) ba.ag (zi (rdStr _) (zi br zq)) λa2 b2 cu cq bU bF=>?_;have aP:=az.trans bU;have aj:=n.trans aP;refine⟨aP.keep.get _ (u n),?_⟩;refine iX (vs:=[_,_]) (wz O (Yr aG zR (by decide)) sv (R:=λr=>r=fitsT zj qu (qn hO (Zq [s,t])) v) rfl) (e aj) aj.ag (zi bF (zi (o aj) zq)) λr cp cJ F f=>?_;have f:r=fitsT zj qu (qn hO (Zq [s,t])) v:=f;subst f
 replace F:=aj.trans F
 refine⟨_,_,vk,vi,i F,?_⟩;refine iR (vs:=[aK ⟨Td,0,0⟩]) (sw (l:=[])) (e F) F.ag (zi ((W0 rfl).2 l6) zq) λa1 b1 cV cF aE aU=>?_;have aI:=F.trans aE;refine⟨aE.keep.get _ (u F),?_⟩;refine iR (vs:=[_,_]) (Wi (w:=hO) (by kernel_rfl)) (e aI) aI.ag (zi (rdStr _) (zi aU zq)) λa2 b2 ck cj bQ aH=>?_;have aN:=aE.trans bQ;have af:=F.trans aN;refine⟨aN.keep.get _ (u F),?_⟩;refine iX (vs:=[_,_]) (wz O (Yr bg zE (by decide)) sv (R:=λr=>r=fitsT zj qu (qn hO (Zq [])) v) rfl) (e af) af.ag (zi aH (zi (o af) zq)) λr cz cG I f=>?_;have f:r=fitsT zj qu (qn hO (Zq [])) v:=f;subst f
 replace I:=af.trans I
 refine⟨_,_,sk,si,m I,_,_,vk,vi,i I,?_⟩;refine iR (vs:=[_,_]) (Wi (w:=iY) (by kernel_rfl)) (e I) I.ag (zi (rdStr _) (zi (B I) zq)) λa1 b1 cm cL bn bz=>?_;have ai:=I.trans bn;refine⟨bn.keep.get _ (u I),?_⟩;refine iX (vs:=[_,_]) (wz O (Yr ss (by omega) (by decide)) sv (R:=λr=>r=fitsT zj qu (qn iY s) v) rfl) (e ai) ai.ag (zi bz (zi (o ai) zq)) λr bJ bV q f=>?_;have f:r=fitsT zj qu (qn iY s) v:=f;subst f
 replace q:=ai.trans q
 have e5:(bif (bif (bif (bif Ta then(fitsT zj qu (qn hX (Zq [s,t])) v==(bif fitsT zj qu s v then fitsT zj qu t v else Tb))else Tb)then(fitsT zj qu (qn hO (Zq [s,t])) v==(bif fitsT zj qu s v then Ta else fitsT zj qu t v))else Tb)then(fitsT zj qu (qn iY s) v==(!fitsT zj qu s v))else Tb)then(!fitsT zj qu (qn hO (Zq [])) v)else Tb)=Ta:=by rw[jn.jAll,jn.jAny,jn.jNot,jn.jNone];cases fitsT zj qu s v <;> cases fitsT zj qu t v <;> rfl
 intro K hK;have bH:∀{g Mg},Later z A g Mg->K (fitsT zj qu (qn je s) (Zq [v])) g:=by
  intro g Mg L;refine hK _ _ ?_;clear hK;refine⟨_,_,sk,si,m L,_,_,vk,vi,i L,?_⟩;refine iR (vs:=[_,_]) (Wi (w:=[107]) (by kernel_rfl)) (e L) L.ag (zi (rdStr _) (zi (B L) zq)) λa1 b1 g1 M1 L1 aB=>?_;have N1:=L.trans L1;refine⟨L1.keep.get _ (u L),?_⟩;refine iR (vs:=[_,_]) (Wi (w:=zr) (by kernel_rfl)) (e N1) N1.ag (zi (rdStr _) (zi aB zq)) λa2 b2 g2 M2 L2 bM=>?_;have P2:=L1.trans L2;have N2:=L.trans P2;refine⟨P2.keep.get _ (u L),?_⟩;refine iR (vs:=[_,_]) (Wi (w:=[107]) (by kernel_rfl)) (e N2) N2.ag (zi (rdStr _) (zi (o N2) zq)) λa3 b3 g3 cd L3 bP=>?_;have N3:=N2.trans L3;refine iX (vs:=[_,_]) (wz O (Yr (Yr ss (by omega) (by decide)) (by rw[tU];omega) (by decide)) (Yr sv (by omega) (by decide)) (R:=λr=>r=fitsT zj qu (qn zr (qn [107] s)) (qn [107] v)) rfl) (e N3) N3.ag (zi (bM.mono L3.le) (zi bP zq)) λr g4 M4 N f=>?_;have f:r=fitsT zj qu (qn zr (qn [107] s)) (qn [107] v):=f;subst f
  replace N:=N3.trans N
  refine⟨_,_,vk,vi,i N,?_⟩;refine zW (vs:=[_]) (oZ v sv.sz (R:=λd=>d=(bK v:Int)) rfl) (e N) N.ag (zi (o N) zq) λd g5 M5 H hd=>?_;have hd:d=(bK v:Int):=hd;subst hd
  replace H:=N.trans H
  refine⟨λ_=>?_,λhd=>?_⟩;rw[e5];exact fin H;have hd:=zC hd;have dv:bK v<=28:=by omega
  have f6:fitsT zj qu (qn je s) (Zq [v])=fitsT zj qu s v:=by rw[Is hs (by omega) (by omega) (λx E=>by rcases zah.1 E with rfl|E;exact hv;cases E) (by simp only[Z0];omega) (by simp only[Jp];omega)];simp
  have f7:fitsT zj qu (qn zr (qn [107] s)) (qn [107] v)=fitsT zj qu s v:=Pk hs (by omega) (by omega) hv (by omega) (by omega) (by kernel_rfl);intro Z;rw[e5,f6,f7];have e7:(bif (bif Ta then(fitsT zj qu s v==fitsT zj qu s v)else Tb)then(fitsT zj qu s v==fitsT zj qu s v)else Tb)=Ta:=by simp
  rw[e7];have zZ:∀{g Mg} {a b:Sl},Later z A g Mg->RdV Mg .tree (.mk 6 ⟨#[]⟩ [] []) (ij 6 ⟨#[]⟩ a b)->Z v.kind v.text vk vi 6 ⟨#[]⟩ a b (bif Ta then Ta else Tb) g:=by intro g Mg a b L E;refine og (g:=bif Ta then Ta else Tb) rfl (Kt:=λr g'=>_) ?_;refine iX (vs:=[_,_]) (wz O Ss sv (R:=λr=>r=Ta) jn.jIdle) (e L) L.ag (zi E (zi (o L) zq)) λr g' M' L' f=>?_;have f:r=Ta:=f;subst f;exact fin (L.trans L')
  refine⟨_,_,sk,si,λ_=>m H,?_⟩;refine mK rfl (Kt:=λk s a b g'=>_) ?_;refine iR (vs:=[_,_]) (Wi (w:=je) (by kernel_rfl)) (e H) H.ag (zi (rdStr _) (zi (B H) zq)) λa6 b6 g6 M6 L6 bZ=>?_;have N6:=H.trans L6;refine mK rfl (Kt:=λk s a b g'=>_) ?_;refine iR (vs:=[aK ⟨Td,0,0⟩]) (sw (l:=[])) (e N6) N6.ag (zi ((W0 rfl).2 l6) zq) λa7 b7 g7 M7 L7 b8=>?_;have N7:=N6.trans L7;refine og rfl (Kt:=λr g'=>_) ?_;refine iX (vs:=[_,_]) (wz O (Yr ss (by omega) (by decide)) bg (R:=λr=>r=Ta) jn.jEmpty) (e N7) N7.ag (zi (bZ.mono L7.le) (zi b8 zq)) λr g8 M8 L8 f=>?_;have f:r=Ta:=f;subst f;have N8:=N7.trans L8;refine⟨?_,?_⟩;refine mK (g:=bif Ta then Ta else Tb) rfl (Kt:=λk s a b g'=>_) ?_;refine iR (vs:=[aK ⟨Td,0,0⟩,aK ⟨Td,0,0⟩]) Lb (e N8) N8.ag (zi ((W0 rfl).2 t6) (zi ((W0 rfl).2 l6) zq)) λa9 b9 g9 M9 L9 ax=>?_;have N9:=N8.trans L9;exact⟨_,_,vk,vi,λ_=>i N9,zZ N9 ax⟩;refine⟨_,_,vk,vi,λ_=>i N8,?_⟩;refine mK (g:=bif Ta then Ta else Tb) rfl (Kt:=λk s a b g'=>_) ?_;refine iR (vs:=[aK ⟨Td,0,0⟩,aK ⟨Td,0,0⟩]) Lb (e N8) N8.ag (zi ((W0 rfl).2 t6) (zi ((W0 rfl).2 l6) zq)) λa9 b9 g9 M9 L9 ax=>?_;exact zZ (N8.trans L9) ax
 clear hK;refine⟨_,_,sk,si,m q,_,_,vk,vi,i q,?_⟩;intro Z;have zZ:∀{g Mg} {a b:Sl} {y:Sl},Later z A g Mg->Rd Mg (.row .tree) [v] [aK y]->RdV Mg .tree (qn je s) (ij (qn je s).kind (qn je s).text a b)->Z y (qn je s).kind (qn je s).text a b g:=by intro g Mg a b y L hy E;refine iR (vs:=[aK y]) sw (e L) L.ag (zi ((W0 rfl).2 hy) zq) λa1 b1 g1 M1 L1 aB=>?_;have N1:=L.trans L1;refine iX (vs:=[_,_]) (wz O (Yr ss (by omega) (by decide)) cc (R:=λr=>r=fitsT zj qu (qn je s) (Zq [v])) rfl) (e N1) N1.ag (zi (E.mono L1.le) (zi aB zq)) λr g2 M2 L2 f=>?_;have f:r=fitsT zj qu (qn je s) (Zq [v]):=f;subst f;exact bH (N1.trans L2)
 refine⟨?_,?_⟩;refine iR (vs:=[_,_]) (Wi (w:=je) (by kernel_rfl)) (e q) q.ag (zi (rdStr _) (zi (B q) zq)) λa1 b1 aS bO bj aV=>?_;have ay:=q.trans bj;refine⟨bj.keep.get _ (u q),?_⟩;intro ah;obtain⟨bS,aa,ab⟩:∃M',Later aS bO ah M'/\Rd M' (.row .tree) [v] [aK ⟨Tc ⟨aS.size,0,Td⟩,1,1⟩]:=Gu ay.ag (o ay) 25;exact zZ (ay.trans aa) ab (aV.mono aa.le);intro ah;obtain⟨bS,aa,ab⟩:∃M',Later bJ bV ah M'/\Rd M' (.row .tree) [v] [aK ⟨Tc ⟨bJ.size,0,Td⟩,1,1⟩]:=Gu q.ag (o q) 25;clear_value ah;have ak:=q.trans aa;refine⟨aa.keep.get _ (bL q),?_⟩;refine iR (vs:=[_,_]) (Wi (w:=je) (by kernel_rfl)) (e ak) ak.ag (zi (rdStr _) (zi (B ak) zq)) λa1 b1 cE cO bA bC=>?_;exact zZ (ak.trans bA) (ab.mono bA.le) bC
end
end Go.X
end
