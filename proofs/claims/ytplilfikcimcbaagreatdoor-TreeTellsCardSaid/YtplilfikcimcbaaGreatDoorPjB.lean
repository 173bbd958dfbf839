/- A part of the proof: nothing is stated here for its own sake. -/
import Derived.Test.YtplilfikcimcbaaGreatDoorPjA
import Derived.ProofKit
import Derived.OpenShut
import Derived.ShutString
import Derived.Shelf.Strings.Trim
import Derived.Shelf.Small.Bits
import Derived.Shelf.Small.Wraps
import Derived.Shelf.Strings.BuilderRune
import Derived.Shelf.Utf8.AppendRune
import Derived.Shelf.Utf8.AppendRunePlain
import Derived.Shelf.Strconv.Itoa3
import Derived.Shelf.Strconv.AtoiErr
import Derived.Shelf.Strconv.ErrVarAll
import Derived.Shelf.Strconv.ErrVarParseInt
import Derived.Shelf.Pu.ParseUintPublic10
import Derived.Shelf.Sort.Plain
import Derived.Shelf.Unicode.Decode
import Derived.Shelf.Strings.IndexAnyAll
import Derived.Shelf.Strings.Repeat
import Derived.Shelf.Unicode.DecodeLast
import Derived.Shelf.Strings.BuilderCap
import Derived.Shelf.Slices.Turned
import Derived.Shelf.Slices.Clone
import Derived.Shelf.Slices.In.SortNone
import Derived.Shelf.SlicesE.Clone
import Derived.Shelf.Utf8.RuneCount
import Derived.Shelf.Strings.Shaped
import Derived.Shelf.Strings.SplitShaped
import Derived.Shelf.Strings.RuneCount
import Derived.Shelf.Slices.Cells
import Derived.Shelf.Slices.Empties
import Derived.Shelf.Unicode.ValidAny
import Derived.Test.YtplilfikcimcbaaGreatDoorTie
import Derived.Test.YtplilfikcimcbaaGreatDoorCards
import Derived.PinnedBridge
import Derived.Lay
import Derived.HandedShaped
open _root_.Go.Addr renaming add->YH
open _root_.Array renaming getElem?_append_left->zca,getElem?_toList->zb4,size->ZK,size_push->YW
open _root_.BitVec renaming ofInt->za9
open _root_.Bool renaming and_eq_true->YR,cond_false_right->zbo,cond_true_left->zb1,eq_iff_iff->ZI,false_eq_true->zaq,false_or->zdu,or_eq_false_iff->zbs,or_eq_true->za1,true_and->zbb
open _root_.Go.Builtin renaming append_->YN
open _root_.Go.Code renaming cond->zdr,region->zdx
open _root_.Go.Instr renaming storeAt->YI
open _root_.Int renaming toNat_natCast->YL
open _root_.Go.IntKind renaming bits->zan,i64->zaw,signed->zdd,wrap->YG
open _root_.List renaming all_append->zcr,all_cons->zcu,all_eq_true->ZB,append_assoc->ZL,append_nil->ZY,cons_append->ZT,dropWhile_cons->zcv,drop_drop->zap,drop_eq_getElem_cons->ZG,drop_eq_nil_of_le->zao,drop_left->zdn,drop_zero->zbi,eq_nil_of_length_eq_zero->ZU,exists_cons_of_ne_nil->zag,getD_eq_getElem?_getD->zaf,getElem?_drop->zau,getElem?_eq_getElem->YS,getElem?_eq_some_iff->ZN,getElem?_take->zae,getElem_mem->YY,getElem_of_mem->zbm,length->za6,length_append->YM,length_cons->YU,length_drop->ZE,length_pos_iff->zaj,length_replicate->zb3,mapM_cons->zdo,mem_append->ZF,mem_append_left->YV,mem_append_right->ZH,mem_cons->YT,mem_cons_of_mem->ZA,mem_cons_self->ZD,mem_flatMap->zbz,mem_map->zab,mem_range->zaz,nil_append->zal,pairwise_cons->za4,range->zac,replicate->zay,take_left->zdp,take_length->ZX,take_of_length_le->za0,take_succ_cons->zcj,take_succ_eq_append_getElem->YP
open _root_.List.cons renaming injEq->za7
open _root_.Nat renaming add_zero->zc3,eq_of_beq_eq_true->ZJ,le_refl->YJ,le_trans->zbd,zero_add->ZO
open _root_.Option.some renaming inj->ZZ,injEq->YK
open _root_.Pure renaming pure->zc6
open _root_.Go.Proofs.Tryz renaming prog->ZM
open _root_.UInt8 renaming ofNat->ZR,toNat_inj->zcc
open _root_.Go.Utf8 renaming decode->zdy
open _root_.Go.Value renaming int->zad,string->ZS
open _root_.Go.Value.slice renaming injEq->zai
open _root_.Go renaming Program->EM,World->MN,TypeId->N4
open _root_.Nat renaming beq->gc
open _root_.Decidable renaming decide->hV
open _root_.Go.X.Arg renaming mk->qr
open _root_.Go.X.Bk renaming push->rg
open _root_.List renaming length->DB
set_option linter.all false
set_option maxRecDepth 1000000
set_option maxHeartbeats 20000000
open Go.Proofs.Tryz
namespace Go.X
end Go.X
namespace Go.Proofs
end Go.Proofs
open Go Go.X Go.Proofs
open _root_.Bool renaming true->Ta,false->Tc
open _root_.Option renaming some->Td,none->Te
namespace Go.X
section
section
variable {cs C R:CS} {γ:Gh} {h:zb} {i:Nat} {e:N4} {t:Ty}
variable {h0 : zb} {W : Nat -> Prop} {M0 : Fr}
inductive Shp where
 |dat (t:Ty)
 |own (e:N4) (t:Ty)
 deriving DecidableEq
@[reducible] def DS:Shp->Type
 |.dat t=>El t
 |.own _ t=>List (El t)
inductive SG where
 |one (s:Shp)
 |agg (l:List Shp)
structure Um where
 slots:List (Nat×SG)
 boxes:List (Nat×List Shp)
 ro:List Nat
 ids:List Nat
abbrev Dy:=(s:Shp)×DS s
@[reducible] def gU:List Shp->Type->Type
 |[],X=>X
 |s::l,X=>DS s->gU l X
def vu(s b:Shp)(x:DS s):Option (DS b):=if h:s=b then Td (h ▸ x)else Te
def pq{X:Type}:(l:List Shp)->gU l X->(List Dy->X->Prop)->Prop
 |[],f,k=>k [] f
 |s::l,f,k=>∀x:DS s,pq l (f x) λvs y=>k (⟨s,x⟩::vs) y
def ic{X:Type}:(l:List Shp)->List Dy->gU l X->Option X
 |[],[],f=>Td f
 |s::l,d::ds,f=>match vu d.1 s d.2 with
  |some x=>ic l ds (f x)
  |none=>Te
 |_,_,_=>Te
def oM{X:Type}:(l:List Shp)->(List Dy->X)->gU l X
 |[],f=>f []
 |s::l,f=>λx=>oM l λvs=>f (⟨s,x⟩::vs)
def ni{X Y:Type}:(l:List Shp)->gU l X->gU l Y->gU l (X×Y)
 |[],f,g=>(f,g)
 |_::l,f,g=>λx=>ni l (f x) (g x)
theorem DV{s b:Shp}{x:DS s}{y:DS b}(h:vu s b x=Td y):(⟨b,y⟩:Dy)=⟨s,x⟩:=by unfold vu at h;grind
def E5{X:Type}:∀{l:List Shp} {vs:List Dy} {f:gU l X} {x:X} {k:List Dy->X->Prop},ic l vs f=Td x->pq l f k->k vs x
 |[],[],f,x,k,h,g=>by have h:=ZZ h;subst h;exact g
 |[],_::_,f,x,k,h,g=>by simp[ic]at h
 |_::_,[],f,x,k,h,g=>by simp[ic]at h
 |s::l,d::ds,f,x,k,h,g=>by simp only[ic]at h;split at h;rename_i y b;have:=E5 h (g y);grind [DV];cases h
def Ha{X:Type}:∀{l:List Shp} {vs:List Dy} {f:List Dy->X} {x:X},ic l vs (oM l f)=Td x->x=f vs
 |[],[],f,x,h=>(ZZ h).symm
 |[],_::_,f,x,h=>by simp[ic]at h
 |_::_,[],f,x,h=>by simp[ic]at h
 |s::l,d::ds,f,x,h=>by simp only[ic,oM]at h;split at h;rename_i y b;have:=Ha h;grind [DV];cases h
def Dw{X:Type}:∀{l:List Shp} {f:List Dy->X} {k:List Dy->X->Prop},(∀vs,k vs (f vs))->pq l (oM l f) k
 |[],_,_,h=>h []
 |_::_,_,_,h=>λ_=>Dw λ_=>h _
structure Pl where
 id:Nat
 s:Shp
 a:AA
def ke(base:Nat):List Shp->List AA->Option (List Pl)
 |[],[]=>Td []
 |s::ss,a::as1=>match ke (base+1) ss as1 with
  |some l=>Td (⟨base,s,a⟩::l)
  |none=>Te
 |_,_=>Te
def nY(e:j7):List (Nat×SG)->Option (List Pl)
 |[]=>Td []
 |(i,sg)::l=>match jt e i,nY e l with
  |some ([],.g x),some r=>match sg,x with
   |.one s,.a a=>Td (⟨100000+64*i,s,a⟩::r)
   |.agg ss,.agg as1=>match ke (100000+64*i) ss as1 with
    |some q=>Td (q++r)
    |none=>Te
   |_,_=>Te
  |_,_=>Te
def nE(C:CS):List (Nat×List Shp)->Option (List Pl)
 |[]=>Td []
 |(c,ss)::l=>match Wk C c,nE C l with
  |some (.box as1),some r=>match ke (1000000+64*c) ss as1 with
   |some q=>Td (q++r)
   |none=>Te
  |_,_=>Te
def UA:SG->List Shp
 |.one s=>[s]
 |.agg l=>l
def Fx:List (Nat×SG)->List Shp
 |[]=>[]
 |(_,sg)::l=>UA sg++Fx l
def FB:List (Nat×List Shp)->List Shp
 |[]=>[]
 |(_,ss)::l=>ss++FB l
def gn(J:Um):List Shp:=Fx J.slots++FB J.boxes
def mU:List Pl->List Nat
 |[]=>[]
 |⟨_,.dat _,.own c⟩::l=>c::mU l
 |_::l=>mU l
def nu(c:Nat):List Pl->Bool
 |[]=>Tc
 |p::l=>bif (bif gc p.id c then Ta else kq c p.a)then Ta else nu c l
def jM(R:CS):List Pl->CS->Option CS
 |[],C=>Td C
 |p::l,C=>match p.s with
  |.dat _=>jM R l C
  |.own e t=>bif nu p.id l then Te else(match p.a with
   |.own c=>match Wk C c with
    |some (.row e' t' xs)=>match Y8 (.row t') (.row t) xs with
     |some ys=>bif gc e e' then(bif gc c p.id then jM R l C else(bif Qs p.id R then jM R l ((p.id,.row e t ys)::ji p.id (fw c C))else Te))else Te
     |none=>Te
    |_=>Te
   |.v (.slice Te 0 0)=>bif Qs p.id R then jM R l ((p.id,.row e t [])::ji p.id C)else Te
   |_=>Te)
def Az(I:Inv h0 W M0 cs γ h){x y:Nat×Ch}(k:x∈cs)(f:y∈cs)(e:x≠y):∀b,blk γ x.1 x.2=Td b->blk γ y.1 y.2≠Td b:= @pA _ (λ(x y:Nat×Ch)=>∀b,blk γ x.1 x.2=Td b->blk γ y.1 y.2≠Td b) (λx y h b i c=>h b c i) _ I.apart _ _ k f e
theorem Inv.rename(I:Inv h0 W M0 (C++R) γ h){c i:Nat}(p:Qs i R=Ta){xs:List (El t)}(z:(c,Ch.row e t xs)∈C):Inv h0 W M0 ((i,.row e t xs)::ji i (fw c C)++R) (gt γ i (γ.σ c)) h:=by
 have f:(ji i (fw c C)++R).Sublist (C++R):=(((w9 i _).trans (Zi c C))).append_right R;have k:(c,Ch.row e t xs)∈C++R:=YV R z;have r:∀x∈ji i (fw c C)++R,∀b,blk γ c (.row e t xs)=Td b->blk γ x.1 x.2≠Td b:=by
  intro x l b m o;have n:x≠(c,Ch.row e t xs):=by rintro rfl;obtain l|l:=ZF.1 l;exact(Jl ((w9 i _).subset l)).2 rfl;have u:=I.apart;grind
  exact Az I (f.subset l) k n b o m
 have w:Inv h0 W M0 (ji i (fw c C)++R) (gt γ i (γ.σ c)) h:= I.rest f (Qt γ i _) (ly p) (λx l b m=>⟨rfl,(I.sep x (f.subset l) b m).2⟩) I.ag (λ_ _ _=>rfl) (YJ _) (λ_ _=>rfl);have⟨cells,h1,h2,y,q⟩:=I.den _ k;have s:∀b,blk (gt γ i (γ.σ c)) i (.row e t xs)=Td b->blk γ c (.row e t xs)=Td b:=λb m=>by simpa[blk,yn]using m
 refine w.cons ⟨cells,by rw[yn];exact h1,h2,y,by rw[yn];exact q⟩ (λb m=>I.sep _ k b (s b m)) (λb m x l e'=>?_);rw[lX (Qt γ i _) _ (ly p x l).1]at e';simp_all
theorem Inv.nilRow(I:Inv h0 W M0 (C++R) γ h)(l:Qs i R=Ta)(e:N4)(t:Ty):Inv h0 W M0 ((i,.row e t [])::ji i C++R) (gt γ i ⟨Te,0,0⟩) h:=by have c:=(w9 i C).append_right R;have k:Inv h0 W M0 (ji i C++R) (gt γ i ⟨Te,0,0⟩) h:= I.rest c (Qt γ i _) (ly l) (λx m b f=>⟨rfl,(I.sep x (c.subset m) b f).2⟩) I.ag (λ_ _ _=>rfl) (YJ _) (λ_ _=>rfl);refine k.cons ⟨[],by rw[yn];exact DP.nil _ _ _ _,Id.nil _ _,ξ,by rw[yn];rfl⟩ (λb f=>by simp[blk,yn]at f) (λb f=>by simp[blk,yn]at f)
def Es{c:Nat}:∀{l:List Pl},nu c l=Tc->∀p∈l,p.id≠c/\kq c p.a=Tc
 |[],_,p,b=>ε b
 |q::l,h,p,b=>by
  simp only[nu]at h;cases hq:(cond (gc q.id c) Ta (kq c q.a))with
  |true=>simp_all
  |false=>
   rw[hq]at h;obtain rfl|b:=YT.1 b;cases hb:gc p.id c with
   |true=>simp_all
   |false=>rw[hb]at hq;exact⟨λe=>θ,hq⟩
   exact Es h p b
def gQ:List Pl->List Nat
 |[]=>[]
 |p::l=>p.id::gQ l
def yt{R:CS}{h:zb}:∀{l:List Pl} {C r:CS} {γ:Gh},jM R l C=Td r->Inv h0 W M0 (C++R) γ h ->∃f,Inv h0 W M0 (r++R) f h/\GxS (gQ l) γ f/\(f.M=γ.M/\f.β=γ.β)/\∀p∈l,∀e t,p.s=.own e t->∀u,CD γ p.a u->CD f (.own p.id) u
 |[],C,r,γ,hn,I=>by simp only[jM,YK]at hn;grind [GxS.refl]
 |p::l,C,r,γ,hn,I=>by
  have P:∀{S:ab1} {a b:Gh},GxS (gQ l) a b->GxS (gQ (p::l)) a b:=λg=>g.mono λx hx=>ZA _ hx;have k:∀s,GxS (gQ (p::l)) γ (gt γ p.id s):=λs=>⟨Fr.le.refl _,λi hi=>(Qt γ p.id s).2 i (by simp only[gQ,YT,not_or]at hi;grind)⟩;simp only[jM]at hn;split at hn;rename_i t hs;have⟨f,H,B,D,h1⟩:=yt hn I;exact⟨f,H,P (S:=[]) B,D,λq z e t' A=>η⟩
  ·rename_i e t hs;cases hm:nu p.id l with
   |true=>simp_all
   |false=>
    rw[hm]at hn;simp only[zG]at hn;have w:=Es hm;have fin:∀{G:CS} {m:Gh},jM R l G=Td r->Inv h0 W M0 (G++R) m h->GxS (gQ (p::l)) γ m->(m.M=γ.M/\m.β=γ.β)->(∀i,i≠p.id->m.σ i=γ.σ i/\m.β i=γ.β i)->(∀u,CD γ p.a u->CD m (.own p.id) u) ->
     ∃f,Inv h0 W M0 (r++R) f h/\GxS (gQ (p::l)) γ f/\(f.M=γ.M/\f.β=γ.β)/\∀q∈p::l,∀e t,q.s=.own e t->∀u,CD γ q.a u->CD f (.own q.id) u:=by
     intro G m J Y V F L E;have⟨f,H,B,D,h1⟩:=yt J Y;refine⟨f,H,V.trans (P (S:=[]) B),⟨D.1.trans F.1,D.2.trans F.2⟩,λq z e' t' A u n=>?_⟩;obtain rfl|z:=YT.1 z;have h2:=E u n;have N:q.id∉gQ l:=by
      intro hi;have:∀{l:List Pl},q.id∈gQ l->∃p∈l,p.id=q.id:=by
       intro l;induction l with
       |nil=>intro h;cases h
       |cons x l ih=>intro h;simp only[gQ,YT]at h;grind
      have⟨y,Z,e⟩:=this hi;exact(w y Z).1 e
     rw[show u=_ from h2];simp only[CD,(B.2 _ N).2];refine h1 q z e' t' A u ?_;have gx:Gx (Td p.id) γ m:=⟨by rw[F.1];exact Fr.le.refl _,λi hi=>η⟩;exact n.gx gx (w q z).2
    split at hn;rename_i c O;split at hn;rename_i e' t' xs hc;split at hn;rename_i ys o;have⟨e1,Q⟩:=Wr o;subst e1;simp only at Q;subst Q;cases hee:gc e e' with
    |false=>simp_all
    |true=>
     rw[hee]at hn;have:=ZJ hee;subst this;simp only[zF]at hn;cases hci:gc c p.id with
     |true=>rw[hci]at hn;simp only[zF]at hn;have U:=ZJ hci;exact fin hn I (GxS.refl _ _) ⟨rfl,rfl⟩ (λ_ _=>⟨rfl,rfl⟩) (λu n=>θ)
     |false=>
      rw[hci]at hn;simp only[zG]at hn;cases hR:Qs p.id R with
      |false=>simp_all
      |true=>rw[hR]at hn;simp only[zF]at hn;refine fin hn (I.rename hR (qm hc)) (k _) ⟨rfl,rfl⟩ (λi hi=>?_) (λu n=>?_);have:=(Qt γ p.id (γ.σ c)).2 i η;simp_all;rw[O]at n;rw[show u=_ from n];simp only[CD,yn]
    cases hn;cases hn;rename_i O;cases hR:Qs p.id R with
    |false=>simp_all
    |true=>rw[hR]at hn;simp only[zF]at hn;refine fin hn (I.nilRow hR e t) (k _) ⟨rfl,rfl⟩ (λi hi=>?_) (λu n=>?_);have:=(Qt γ p.id ⟨Te,0,0⟩).2 i η;simp_all;rw[O]at n;rw[show u=_ from n];simp only[CD,yn];rfl
    cases hn
def Em(b cs:CS)(p:Pl):Option Dy:=match p.s with
 |.dat t=>match i4 b t p.a with
  |some x=>Td ⟨.dat t,x⟩
  |none=>Te
 |.own e t=>match Wk cs p.id with
  |some (.row e' t' xs)=>match Y8 (.row t') (.row t) xs with
   |some ys=>bif gc e e' then Td ⟨.own e t,ys⟩else Te
   |none=>Te
  |_=>Te
def gJ(b cs:CS):List Pl->Option (List Dy)
 |[]=>Td []
 |p::l=>match Em b cs p,gJ b cs l with
  |some d,some v=>Td (d::v)
  |_,_=>Te
def rA(i:Nat):Dy->AA
 |⟨.dat t,x⟩=>match Wj t x with
  |[a]=>a
  |_=>.v undef
 |⟨.own _ _,_⟩=>.own i
def sY:Nat->List Dy->List AA
 |_,[]=>[]
 |i,d::l=>rA i d::sY (i+1) l
def mh(i:Nat):Dy->CS
 |⟨.own e t,xs⟩=>[(i,.row e t xs)]
 |_=>[]
def md:Nat->List Dy->CS
 |_,[]=>[]
 |i,d::l=>mh i d++md (i+1) l
def HE{x:El t}{u:Value}(h:Rd γ.M t x [u]):CD γ (rA i ⟨.dat t,x⟩) u:=by
 have b:=xz (γ:=γ) h;unfold rA
 match hx:Wj t x,b with
 |[a],b=>simp only[hx];exact b.1
 |[],b=>cases b
 |_::_::_,b=>exact b.2.elim
theorem MK{t':Ty}{xs:List (El t')}{ys:List (El t)}(h:Y8 (.row t') (.row t) xs=Td ys):Ch.row e t' xs=Ch.row e t ys:=by grind [Wr]
def AJ{b cs:CS}{p:Pl}{l:List Pl}{v:List Dy}(h:gJ b cs (p::l)=Td v):∃d w,v=d::w/\gJ b cs l=Td w /\((∃t x,p.s=.dat t/\d=⟨.dat t,x⟩/\i4 b t p.a=Td x)\/(∃e t xs,p.s=.own e t/\d=⟨.own e t,xs⟩/\(p.id,Ch.row e t xs)∈cs)):=by
 simp only[gJ]at h;split at h;rename_i d w h1 h2;have h:=ZZ h;refine⟨d,w,h.symm,h2,?_⟩;unfold Em at h1;split at h1;grind;rename_i e t c;split at h1;rename_i e' t' xs f;split at h1;rename_i ys i;cases he:gc e e' with
 |false=>simp_all
 |true=>rw[he]at h1;refine .inr ⟨e,t,ys,c,(ZZ (show Td (⟨.own e t,ys⟩:Dy)=Td d from h1)).symm,?_⟩;grind [qm,MK,ZJ]
 cases h1;cases h1;cases h
def Xj{b cs:CS}:∀{q r:List Pl} {v:List Dy},gJ b cs (q++r)=Td v->∃c e,v=c++e/\DB c=DB q/\gJ b cs q=Td c/\gJ b cs r=Td e
 |[],r,v,h=>⟨[],v,rfl,rfl,rfl,h⟩
 |p::q,r,v,h=>by simp only[ZT,gJ]at h;split at h;rename_i d w h1 h2;have h:=ZZ h;obtain⟨c,e,rfl,f,k,i⟩:=Xj h2;exact⟨d::c,e,by rw[<-h];rfl,ϑ f,by simp only[gJ,h1,k],i⟩;cases h
def Ff{base:Nat}:∀{ss:List Shp} {b:List AA} {l:List Pl},ke base ss b=Td l->DB l=DB ss/\∀{γ m:Gh} {c f:CS} {v:List Dy} {us:ab2},i8 γ c->m.M=γ.M->gJ c f l=Td v ->(∀p∈l,∀e t,p.s=.own e t->∀u,CD γ p.a u->CD m (.own p.id) u)->DA (CD γ) b us->DA (CD m) (sY base v) us/\∀x∈md base v,x∈f:=by
 intro ss;induction ss generalizing base with
 |nil=>
  intro b l h;cases b with
  |nil=>
   simp only[ke,YK]at h;subst h;refine⟨rfl,λo n k q i=>?_⟩;have k:=ZZ k;subst k;refine⟨?_,λx G=>ε G⟩;rename_i us;cases us with
   |nil=>trivial
   |cons _ _=>cases i
  |cons a b=>simp[ke]at h
 |cons s ss z=>
  intro b l h;cases b with
  |nil=>simp[ke]at h
  |cons a b=>
   simp only[ke]at h;split at h;rename_i L E;simp only[YK]at h;subst h;have⟨H,z⟩:=z E;refine⟨ϑ H,λ {γ m c f v us} o n k q i=>?_⟩;obtain⟨d,w,rfl,h2,F⟩:=AJ k;cases us with
   |nil=>cases i
   |cons u us=>have⟨B,C⟩:=z o n h2 (λp D=>q p (ZA _ D)) i.2;obtain⟨t,x,A,rfl,I⟩|⟨e,t,xs,A,rfl,J⟩:=F;have:=wm o I i.1;rw[<-n]at this;refine⟨⟨HE this,B⟩,λy r=>C y ?_⟩;simpa[md,mh]using r;refine⟨⟨q _ ZD e t A u i.1,B⟩,λy r=>?_⟩;simp only[md,mh,ZT,zal,YT]at r;grind
   cases h
def kN:List (Nat×SG)->List Dy->j7
 |[],_=>[]
 |(i,.one _)::l,d::ds=>(i,[],.g (.a (rA (100000+64*i) d)))::kN l ds
 |(_,.one _)::_,[]=>[]
 |(i,.agg ss)::l,ds=>(i,[],.g (.agg (sY (100000+64*i) (ds.take ss.length))))::kN l (ds.drop ss.length)
def Xk:List (Nat×SG)->List Dy->CS
 |[],_=>[]
 |(i,.one _)::l,d::ds=>mh (100000+64*i) d++Xk l ds
 |(_,.one _)::_,[]=>[]
 |(i,.agg ss)::l,ds=>md (100000+64*i) (ds.take ss.length)++Xk l (ds.drop ss.length)
def qI:List (Nat×List Shp)->List Dy->CS
 |[],_=>[]
 |(c,ss)::l,ds=>(c,.box (sY (1000000+64*c) (ds.take ss.length)))::(md (1000000+64*c) (ds.take ss.length)++qI l (ds.drop ss.length))
def lB:List (Nat×SG)->Nat
 |[]=>0
 |(_,.one _)::l=>1+lB l
 |(_,.agg ss)::l=>ss.length+lB l
def jO(J:Um)(b:List Dy):j7:=kN J.slots b
def jV(J:Um)(b:List Dy):CS:=Xk J.slots b++qI J.boxes (b.drop (lB J.slots))
def Xl{e:j7}{n:Nat}{a:Act}:∀{ss:List (Nat×SG)} {l:List Pl},nY e ss=Td l->DB l=lB ss/\∀{γ B:Gh} {f k:CS} {v w:List Dy},Fn n e γ a->i8 γ f->B.M=γ.M->gJ f k l=Td v ->(∀p∈l,∀e t,p.s=.own e t->∀u,CD γ p.a u->CD B (.own p.id) u)->(∀x∈kN ss (v++w),jS B (qp a) x)/\∀x∈Xk ss (v++w),x∈k
 |[],l,h=>by simp only[nY,YK]at h;subst h;refine⟨rfl,λ_ _ _ m _=>?_⟩;have m:=ZZ m;subst m;exact⟨λx N=>(ε N),λx N=>(ε N)⟩
 |(i,sg)::ss,l,h=>by
  simp only[nY]at h;split at h;rename_i x r S U;split at h;rename_i s aa;simp only[YK]at h;subst h;have⟨O,P⟩:=Xl (n:=n) (a:=a) U;refine⟨by simp[O,lB];omega,λ {γ B f k v w} F D A m E=>?_⟩;obtain⟨d,v',rfl,h2,h3⟩:=AJ m;have⟨i1,Q⟩:=P (w:=w) F D A h2 (λp o=>E p (ZA _ o));have c:CD γ aa (qp a i):=(F.all _ (Qm S)).1 trivial;obtain⟨t,x,z,rfl,hc⟩|⟨e',t,xs,z,rfl,hm⟩:=h3;have:=wm D hc c;rw[<-A]at this;refine⟨λy b=>?_,λy b=>?_⟩;simp only[ZT,kN,YT]at b;obtain rfl|b:=b;exact⟨λ_=>HE this,λG=>absurd trivial G⟩;grind;simp only[ZT,Xk,mh,zal]at b;exact Q y b;refine⟨λy b=>?_,λy b=>?_⟩;simp only[ZT,kN,YT]at b;obtain rfl|b:=b;exact⟨λ_=>E _ ZD e' t z _ c,λG=>absurd trivial G⟩;grind;simp only[ZT,Xk,mh,zal,YT]at b;grind;rename_i C H;split at h;rename_i q Z;simp only[YK]at h;subst h;have⟨O,P⟩:=Xl (n:=n) (a:=a) U;have⟨J,o⟩:=Ff Z;refine⟨by simp[O,J,lB],λ {γ B f k v w} F D A m E=>?_⟩;obtain⟨I,L,rfl,Y,d1,d2⟩:=Xj m;have⟨i1,Q⟩:=P (w:=w) F D A d2 (λp o=>E p (ZH _ o));have⟨us,hu,c⟩:=(show ∃us,qp a i=.agg us.toArray/\DA (CD γ) H us from(F.all _ (Qm S)).1 trivial);have⟨p1,p2⟩:=o D A d1 (λp o=>E p (YV _ o)) c;have et:(I++L++w).take (DB C)=I:=by rw[<-J,<-Y,ZL,zdp]
  have V:(I++L++w).drop (DB C)=L++w:=by rw[<-J,<-Y,ZL,zdn]
  refine⟨λy b=>?_,λy b=>?_⟩;simp only[kN,et,V,YT]at b;obtain rfl|b:=b;exact⟨λ_=>⟨us,hu,p1⟩,λG=>absurd trivial G⟩;grind;simp only[Xk,et,V,ZF]at b;grind;cases h;cases h;cases h
def GI{z:CS}:∀{bs:List (Nat×List Shp)} {l:List Pl},nE z bs=Td l->∀{R:CS} {γ n:Gh} {i k:CS} {v:List Dy} {h:zb},Inv h0 W M0 (z++R) γ h->i8 γ i->n.M=γ.M->n.β=γ.β->gJ i k l=Td v->(∀p∈l,∀e t,p.s=.own e t->∀u,CD γ p.a u->CD n (.own p.id) u) ->∀x∈qI bs v,x∈k\/(SH h0.size n h x.1 x.2/\(∃f,(x.1,Ch.box f)∈z)/\(∃f,x.2=Ch.box f)/\∃ss,(x.1,ss)∈bs)
 |[],l,b,R,γ,n,i,k,v,h,I,hf,hM,hβ,hd,ho,x,m=>ε m
 |(c,ss)::bs,l,b,R,γ,n,i,k,v,h,I,hf,hM,hβ,hd,ho,x,m=>by
  simp only[nE]at b;split at b;rename_i f r D H;split at b;rename_i q E;simp only[YK]at b;subst b;have⟨B,w⟩:=Ff E;obtain⟨y,A,rfl,C,F,d2⟩:=Xj hd;have⟨us,P,o⟩:=I.den _ (YV R (qm D));have⟨G,N⟩:=w hf hM F (λp b=>ho p (YV _ b)) o;have et:(y++A).take (DB ss)=y:=by rw[<-B,<-C,zdp]
  have J:(y++A).drop (DB ss)=A:=by rw[<-B,<-C,zdn]
  simp only[qI,et,J,YT,ZF]at m;obtain rfl|m|m:=m;exact .inr ⟨⟨us,η,G⟩,⟨f,qm D⟩,⟨_,rfl⟩,ss,ZD⟩;simp_all;rcases GI H I hf hM hβ d2 (λp b=>ho p (ZH _ b)) x m with h1|⟨h1,h2,Q,L,O⟩;grind;grind;cases b;cases b
def oo(C:CS):List (Nat×List Shp)->Bool
 |[]=>Ta
 |(c,_)::l=>match Wk C c with
  |some (.box _)=>oo C l
  |_=>Tc
def F0{C:CS}:∀{l:List (Nat×List Shp)},oo C l=Ta->∀c ss,(c,ss)∈l->∃b,(c,Ch.box b)∈C
 |[],_,c,ss,h=>ε h
 |(c',ss')::l,hb,c,ss,h=>by simp only[oo]at hb;split at hb;rename_i b e;obtain h|h:=YT.1 h;grind [qm];exact F0 hb c ss h;cases hb
def mT:CS->Bool
 |[]=>Ta
 |(c,_)::l=>bif iJ c l then mT l else Tc
def CL:∀{l:CS},mT l=Ta->l.Pairwise λx y=>x.1≠y.1
 |[],_=>.nil
 |(c,k)::l,h=>by
  simp only[mT]at h;cases hn:iJ c l with
  |false=>simp_all
  |true=>rw[hn]at h;exact za4.2 ⟨λy b e=>mH hn y b e.symm,CL h⟩
def allIn(S:List Nat):List Nat->Bool
 |[]=>Ta
 |i::l=>bif eq S i then allIn S l else Tc
def KF{l:ab1}(h:eq l i=Ta):i∈l:=by
 induction l with
 |nil=>cases h
 |cons j l b=>simp only[eq]at h;grind [ZJ,ZD,ZA]
def Ik{S:ab1}:∀{l:ab1},allIn S l=Ta->∀i∈l,i∈S
 |[],_,i,h=>ε h
 |j::l,hl,i,h=>by
  simp only[allIn]at hl;cases hm:eq S j with
  |false=>simp_all
  |true=>rw[hm]at hl;obtain rfl|h:=YT.1 h;exact KF hm;exact Ik hl i h
theorem Inv.pick{C F R:CS}(I:Inv h0 W M0 (C++R) γ h)(hnd:mT F=Ta)(hsrc:∀x∈F,SH h0.size γ h x.1 x.2/\∃k,(x.1,k)∈C/\blk γ x.1 k=blk γ x.1 x.2):Inv h0 W M0 (F++R) γ h where
 ag:=I.ag
 frame:=I.frame
 size:=I.size
 old:=I.old
 le:=I.le
 den:=λx hx=>by obtain hx|hx:=ZF.1 hx;simp_all;exact I.den x (ZH _ hx)
 sep:=λx hx b hb=>by obtain hx|hx:=ZF.1 hx;have⟨_,k,hk,e⟩:=hsrc x hx;exact I.sep _ (YV _ hk) b η;exact I.sep x (ZH _ hx) b hb
 apart:=by have hI:=I.apart;rw[List.pairwise_append]at hI ⊢;refine⟨(CL hnd).imp_of_mem λ {x y} hx hy hne b hb hb'=>?_,hI.2.1,λx hx y hy b hb=>?_⟩;have⟨_,k,hk,e⟩:=hsrc x hx;have⟨_,k',a,e'⟩:=hsrc y hy;exact Az I (YV R hk) (YV R a) (λe2=>hne (Prod.mk.inj e2).1) b η η;grind
def qs(J:Um)(R:CS)(e:j7)(C:CS):Option (List Dy):=
 match nY e J.slots,nE C J.boxes with
 |some ps,some pb=>match nE (frzL (mU (ps++pb)) C) J.boxes with
  |some b=>match jM R (ps++b) (frzL (mU (ps++pb)) C)with
   |some c=>bif oo c J.boxes then(bif allIn J.ids (gQ (ps++b))then(match gJ (frzL (mU (ps++pb)) C++R) c (ps++b)with
    |some f=>bif mT (jV J f)then Td f else Te
    |none=>Te)else Te)else Te
   |none=>Te
  |none=>Te
 |_,_=>Te
def uh{J:Um}{e:j7}{l:List Dy}(b:qs J R e C=Td l){n:Nat}{a:Act}(hs:Fn n e γ a)(I:Inv h0 W M0 (C++R) γ h):∃c,Inv h0 W M0 (jV J l++R) c h/\GxS J.ids γ c/\∀x∈jO J l,jS c (qp a) x:=by
 unfold qs at b;split at b
 ·rename_i ps U B L;split at b
  ·rename_i o f;split at b
   ·rename_i Y D;cases hbi:oo Y J.boxes with
    |false=>simp_all
    |true=>
    rw[hbi]at b;cases hai:allIn J.ids (gQ (ps++o))with
    |false=>simp_all
    |true=>
    rw[hai]at b;simp only[zF]at b;split at b
    ·rename_i k q;cases hnd:mT (jV J k)with
     |false=>simp_all
     |true=>
     rw[hnd]at b;have b:=ZZ (show Td k=Td l from b);subst b;have⟨γ0,m,y⟩:=Inv.frzL (C:=C) (γ:=γ) (mU (ps++U)) I;have s:=hs.gx0 y;have⟨c,r,H,⟨E,V⟩,G⟩:=yt D m;obtain⟨S,A,rfl,l1,Q,d2⟩:=Xj q;have⟨e1,t⟩:=Xl (n:=n) (a:=a) B;have⟨O,f2⟩:=t (w:=A) s m.fz E Q (λp z=>G p (YV _ z));have u:=GI f m m.fz E V d2 (λp z=>G p (ZH _ z));have ed:(S++A).drop (lB J.slots)=A:=by rw[<-e1,<-l1,zdn]
     have M:GxS J.ids γ c:=⟨y.1.trans H.1,λi hi=>by have h2:=H.2 i (λhm=>hi (Ik hai i hm));have h1:=y.2 i ξ;simp_all⟩;refine⟨c,r.pick hnd λx b=>?_,M,O⟩;unfold jV at b;rw[ed]at b;obtain b|b:=ZF.1 b;have:=f2 x b;exact⟨r.den x (YV _ this),x.2,this,rfl⟩;obtain h1|⟨h1,_,⟨N,h2⟩,ss,Z⟩:=u x b;exact⟨r.den x (YV _ h1),x.2,h1,rfl⟩;have⟨F,P⟩:=F0 hbi _ _ Z;exact⟨h1,_,P,π h2⟩
    cases b
   cases b
  cases b
 cases b
def JS{α:Type}{R:α->α->Prop}(i:∀x y,R x y->R y x){l b:List α}(p:l.Perm b):l.Pairwise R->b.Pairwise R:=by
 induction p with
 |nil=>exact id
 |cons x p f=>intro h;rw[za4]at h ⊢;grind
 |swap x y l=>simp_all
 |trans _ _ c e=>simp_all
theorem Inv.perm{cs cs':CS}(I:Inv h0 W M0 cs γ h)(p:cs.Perm cs'):Inv h0 W M0 cs' γ h where
 ag:=I.ag
 frame:=I.frame
 size:=I.size
 old:=I.old
 le:=I.le
 den:=λx hx=>I.den x (p.symm.subset hx)
 sep:=λx hx=>I.sep x (p.symm.subset hx)
 apart:=JS (λx y h b hb a=>h b a hb) p I.apart
end
section
variable {P:EM} {gl:Fr}
variable {h0 : zb} {W : Nat -> Prop} {M0 : Fr}
def wN(P:EM)(gl:Fr)(o:Oper)(e:j7)(c:yb)(cs:CS)(K:AV->Prop):Prop:=
 match o.op with
 |.pick x a b=>sy e c x a b K
 |_=>match mA e c with
  |some g=>qA P gl o (gv e c) g cs K
  |none=>False
def ng(P:EM)(gl:Fr)(n:Nat)(ops:Array Oper)(cs:CS)(K:j7->Prop):List Oper->j7->Prop
 |[],e=>K e
 |o::rest,e=>match nq ops e o.guard with
  |some c=>bif xr n c o.dst then wN P gl o e c cs λv=>ng P gl n ops cs K rest (sA e o.dst c v)else False
  |none=>False
def PE(i:Fr.le gl M0){o:Oper}{e:j7}{c:yb}{cs:CS}{K:AV->Prop}(H:wN P gl o e c cs K):∃av,K av/\∀(n:Nat) (γ:Gh) (a:Act) (h:zb),Fn n e γ a->Inv h0 W M0 cs γ h->valid (qp a) c->∃v,DE γ av v/\At P (execOp a.eval o) h (.value v):=by unfold wN at H;split at H;rename_i x y z k;have⟨av,h1,h2⟩:=vE H;refine⟨av,h1,λn γ a h b I f=>?_⟩;have⟨t,l,q⟩:=h2 n γ a b f;refine⟨_,q,λB d=>?_⟩;simp only[execOp,k,l,asBool,Sem.run_bind,Sem.run_pure,Result.andThen_ok];split at H;rename_i g m;have⟨av,h1,h2⟩:=sV (h0:=h0) (W:=W) (M0:=M0) i H;exact⟨av,h1,λn γ a h b I f=>h2 (DC b m f) γ h a.eval I λx av p=>Qa b f p⟩;cases H
def uf{P:EM}{gl:Fr}(q:Fr.le gl M0){n:Nat}{ops:Array Oper}{cs:CS}{K:j7->Prop}{Q:Act->Prop}{γ:Gh}{h:zb}(I:Inv h0 W M0 cs γ h)(B:MN)(d:Nat):∀(l:List Oper) (e:j7) (a:Act),ng P gl n ops cs K l e->Fn n e γ a->(∀e' a',Fn n e' γ a'->Same (Zc l) a a'->K e'->Q a')->wpStill P ops (mk B d h) Q l a
 |[],e,a,H,hs,hQ=>hQ _ _ hs (Same.refl _ _) H
 |o::rest,e,a,H,hs,hQ=>by
  unfold ng at H;split at H;rename_i c A;cases hd:xr n c o.dst with
  |false=>rw[hd]at H;cases H
  |true=>
   rw[hd]at H;simp only[zF]at H;have s:=HN hs A;have m:∀i,o.dst=Td i->i∈Zc (o::rest):=λi hi=>by simp[Zc,hi]
   have k:∀x∈Zc rest,x∈Zc (o::rest):=λx r=>by unfold Zc;split;exact ZA _ r;exact r
   have⟨av,w,z⟩:=PE (h0:=h0) (W:=W) (M0:=M0) q H;have b:∀u,(valid (qp a) c->DE γ av u)->(¬valid (qp a) c->u=undef)->wpStill P ops (mk B d h) Q rest (a.put o.dst u):=λu h1 h2=>
    uf q I B d rest _ _ w (hs.putO hd h1 h2) λe' a' t C y=>hQ e' a' t ((Same.put a o.dst u m).trans (C.mono k)) y
   unfold wpStill;by_cases p:valid (qp a) c;rw[zi (s.2 p)];unfold Oper.still;have⟨v,h1,h2⟩:=z n γ a h hs I p;rw[h2 B d,Oper.stillUpon_value];exact b v (λ_=>h1) (λf=>absurd p f);rw[za (λr=>p (s.1 r))];exact b undef (λf=>absurd f p) (λ_=>rfl)
  cases H
abbrev m4:=List (Nat×Nat)
def vY(P:EM)(gl:Fr)(tr:N4)(n:Nat)(c:m4)(id:Nat)(ops:Array Oper)(b:Bool)(R:CS)(K:j7->CS->Prop)(e:j7)(C:CS):Prop:=
 bif b then(match yQ c id with
  |none=>bif Region.lexB .any ops then ng P gl n ops (C++R) (λe'=>K (km e') C) ops.toList e else False
  |some m=>bif Region.lexTailB .any ops m then ng P gl n ops (C++R) (λe'=>l7 P gl tr n ops R K (ops.toList.drop m) e' C) (ops.toList.take m) e else False)
 else l7 P gl tr n ops R K ops.toList e C
def RX(D:P.follows .mixedOrders=Ta)(f:Fr.le gl M0){tr:N4}{n:Nat}{E:m4}{id:Nat}{ops:Array Oper}{c:Bool}{R C:CS}{K:j7->CS->Prop}{e:j7} (H:vY P gl tr n E id ops c R K e C) {γ:Gh} {h:zb} (B:MN) (d:Nat) {a:Act} (u:Fn n e γ a) (I:Inv h0 W M0 (C++R) γ h) {Q:Exit->Act->MN->Prop}(q:∀e' A γ' a' M h',Fn n e' γ' a'->Inv h0 W M0 (A++R) γ' h'->Same (Zc ops.toList) a a'->GxS (Zc ops.toList) γ γ'->K e' A->Q .normal a' (mk B M h')):(zdx id ops c).wp P Q a (mk B d h):=by
 unfold vY at H;cases c with
 |false=>exact wp_region_list (ut f B _ _ _ _ _ _ _ H u I q)
 |true=>
  simp only[zF]at H;split at H;cases hB:Region.lexB .any ops with
  |false=>rw[hB]at H;cases H
  |true=>rw[hB]at H;refine wp_region_still D hB ?_;exact uf f I B (d+1) _ _ _ H u λe' a' r y s=>q _ _ _ _ _ _ r.clean I y (GxS.refl _ _) s
  rename_i m _;cases hB:Region.lexTailB .any ops m with
  |false=>rw[hB]at H;cases H
  |true=>
   rw[hB]at H;have b:Zc ops.toList=Zc (ops.toList.take m)++Zc (ops.toList.drop m):=by rw[<-Xd,List.take_append_drop]
   have:=wp_region_still_tail (id:=id) (Q:=Q) (a:=a) (w:=mk B d h) (l:=ops.toList) m D (ψ hB) (by simp only[Array.toArray_toList];refine uf f I B (d+1) _ _ _ H u λe' a' r y s=>?_;refine ut f B _ _ _ _ _ _ (d+1) s r I λo p z k t g L J G F N=>q o p z k t g L J ?_ ?_ N;rw[b];exact(y.mono λx i=>YV _ i).trans (G.mono λx i=>ZH _ i);rw[b];exact F.mono λx i=>ZH _ i);simpa using this
end
section
variable {h0 : zb} {W : Nat -> Prop} {M0 : Fr}
abbrev pJ:=List (Nat×Nat×List Nat×List Nat×List Nat)
def Fh:pJ->Nat->Option (Nat×List Nat×List Nat×List Nat)
 |[],_=>Te
 |(j,x)::l,i=>bif gc i j then Td x else Fh l i
def vx(P:EM)(gl:Fr)(tr:N4)(n:Nat)(c:m4)(f:pJ)(id:Nat)(ops:Array Oper)(b:Bool)(R:CS)(K:j7->CS->Prop)(e:j7)(C:CS):Prop:=
 match Fh f id with
 |none=>vY P gl tr n c id ops b R K e C
 |some _=>False
def N7{P:EM}(p:P.follows .mixedOrders=Ta){gl:Fr}(c:Fr.le gl M0){tr:N4}{n:Nat}{i:m4}{l:pJ}{id:Nat}{ops:Array Oper}{b:Bool}{R C:CS}{K:j7->CS->Prop}{e:j7} (H:vx P gl tr n i l id ops b R K e C) {γ:Gh} {h:zb} (B:MN) (d:Nat) {a:Act} (m:Fn n e γ a) (I:Inv h0 W M0 (C++R) γ h) {Q:Exit->Act->MN->Prop}(o:∀e' f γ' a' k h',Fn n e' γ' a'->Inv h0 W M0 (f++R) γ' h'->Same (Zc ops.toList) a a'->GxS (Zc ops.toList) γ γ'->K e' f->Q .normal a' (mk B k h')):(zdx id ops b).wp P Q a (mk B d h):=by unfold vx at H;split at H;exact RX p c H B d m I o;cases H
end
section
variable {S:List Nat} {γ γ':Gh} {u:Value} {C R:CS} {h:zb} {n:Nat} {a:Act} {P:EM} {f:FuncId}
variable {h0 : zb} {W : Nat -> Prop} {M0 : Fr}
structure PlanA where
 tails:m4
 draws:pJ
 loops:List (Nat×Um)
 joins:List (Nat×Um)
def m9:List (Nat×Um)->Option Nat->Option Um
 |[],_=>Te
 |(j,m)::l,some i=>bif gc i j then Td m else m9 l (Td i)
 |_,none=>Te
def lV:AA->List Nat
 |.box j _=>[j]
 |.own j=>[j]
 |.oelt j _ _ _=>[j]
 |_=>[]
def pz(S:List Nat):List AA->Bool
 |[]=>Ta
 |x::l=>bif (match lV x with
  |[]=>Ta
  |j::_=>!(eq S j))then pz S l else Tc
def sK(S:List Nat):AG->Bool
 |.a x=>pz S [x]
 |.agg l=>pz S l
def sO(S:List Nat):List AG->Bool
 |[]=>Ta
 |x::l=>bif sK S x then sO S l else Tc
def uS(S:List Nat):AV->Bool
 |.g x=>sK S x
 |.tup l=>sO S l
 |.nx _ _ _=>Ta
theorem CD.gxS(g:GxS S γ γ'){x:AA}(c:(match lV x with |[]=>Ta |j::_=>!(eq S j))=Ta)(h:CD γ x u):CD γ' x u:=by
 have key:∀j,eq S j=Tc->γ'.β j=γ.β j/\γ'.σ j=γ.σ j:=λj m=>g.2 j (Wc m);cases x with
 |v y=>exact h
 |d t y=>exact Rd.mono g.1 h
 |box j o=>rw[show u=_ from h];simp only[CD,(key j (by simpa[lV]using c)).1]
 |own j=>rw[show u=_ from h];simp only[CD,(key j (by simpa[lV]using c)).2]
 |oelt j z i o=>have⟨b,k,l⟩:=h;exact⟨b,by rw[(key j (by simpa[lV]using c)).2];exact k,l⟩
 |elt t y o=>have⟨b,f,cs,e,h1,h2⟩:=h;exact⟨b,f,cs,e,g.1 _ _ h1,Rd.mono g.1 h2⟩
 |dc t xs=>have⟨s,k,l,h⟩:=h;exact⟨s,k,l,Rd.mono g.1 h⟩
theorem DenL.gxS{S:ab1}{γ γ':Gh}(g:GxS S γ γ'):∀{l:List AA} {us:ab2},pz S l=Ta->DA (CD γ) l us->DA (CD γ') l us
 |[],[],_,_=>trivial
 |[],_::_,_,h=>h.elim
 |_::_,[],_,h=>h.elim
 |x::l,u::us,hm,h=>by
  simp only[pz]at hm;cases hx:(match lV x with
   |[]=>Ta
   |j::_=>!(eq S j))with
  |false=>simp_all
  |true=>rw[hx]at hm;exact⟨CD.gxS g hx h.1,DenL.gxS g hm h.2⟩
theorem MT.gxS(g:GxS S γ γ'){x:AG}(b:sK S x=Ta)(h:MT γ x u):MT γ' x u:=by
 cases x with
 |a x=>have:DA (CD γ') [x] [u]:=DenL.gxS g b (show DA (CD γ) [x] [u]from⟨h,trivial⟩);exact this.1
 |agg l=>have⟨us,e,h⟩:=h;exact⟨us,e,DenL.gxS g b h⟩
theorem DE.gxS(g:GxS S γ γ'){x:AV}(f:uS S x=Ta)(h:DE γ x u):DE γ' x u:=by
 cases x with
 |g x=>exact MT.gxS g f h
 |tup l=>
  have⟨us,e,h⟩:=h;refine⟨us,e,?_⟩;have:∀{l:List AG} {us:ab2},sO S l=Ta->DA (MT γ) l us->DA (MT γ') l us:=by
   intro l;induction l with
   |nil=>intro us _ h;cases us with
    |nil=>trivial
    |cons _ _=>cases h
   |cons x l i=>
    intro us f h;cases us with
    |nil=>cases h
    |cons u us=>
     simp only[sO]at f;cases hx:sK S x with
     |false=>simp_all
     |true=>rw[hx]at f;exact⟨MT.gxS g hx h.1,i f h.2⟩
  exact this f h
 |nx b p c=>exact h
def iE(ms S:List Nat):j7->j7
 |[]=>[]
 |(i,[],v)::e=>bif eq ms i then iE ms S e else(bif uS S v then(i,[],v)::iE ms S e else iE ms S e)
 |(_,_::_,_)::e=>iE ms S e
def Xm{ms S:ab1}{γ l:Gh}{a k:Act}(g:GxS S γ l)(b:Same ms a k):∀{e:j7},(∀x∈e,jS γ (qp a) x)->∀x∈iE ms S e,jS l (qp k) x
 |[],_,x,c=>ε c
 |(i,[],v)::e,h,x,c=>by
  have m:=Xm g b (e:=e) λx c=>h x (ZA _ c);simp only[iE]at c;cases hm:eq ms i with
  |true=>simp_all
  |false=>
   rw[hm]at c;simp only[zG]at c;cases hn:uS S v with
   |false=>simp_all
   |true=>rw[hn]at c;obtain rfl|c:=YT.1 c;refine⟨λ_=>?_,λf=>absurd trivial f⟩;have:=(h _ ZD).1 trivial;simp only at this ⊢;rw[b _ (Wc hm)];exact this.gxS g hn;grind
 |(_,_::_,_)::e,h,x,c=>Xm g b (e:=e) (λx c=>h x (ZA _ c)) x c
def gd(ro:List Nat):CS->CS
 |[]=>[]
 |(c,k)::l=>bif eq ro c then(c,k)::gd ro l else gd ro l
def kY(ro:List Nat):CS->CS
 |[]=>[]
 |(c,k)::l=>bif eq ro c then kY ro l else(c,k)::kY ro l
def Db(ro:ab1):∀C:CS,(kY ro C++gd ro C).Perm C
 |[]=>.nil
 |(c,k)::l=>by
  have b:=Db ro l;simp only[gd,kY];cases eq ro c with
  |true=>exact List.perm_middle.trans (b.cons _)
  |false=>exact b.cons _
theorem Inv.part(I:Inv h0 W M0 (C++R) γ h)(ro:ab1):Inv h0 W M0 (kY ro C++(gd ro C++R)) γ h:=by rw[<-ZL];exact I.perm ((Db ro C).symm.append_right R)
abbrev i9:=Exit->j7->CS->Prop
def Iw(K:j7->CS->Prop)(Q:i9):i9
 |.normal,e,C=>K e C
 |x,e,C=>Q x e C
def EY(id:Nat)(Q:i9):i9
 |.exit i,e,C=>bif gc i id then Q .normal e C else Q (.exit i) e C
 |x,e,C=>Q x e C
def AP(m:CS)(K:j7->CS->Prop)(Q:i9):i9
 |.normal,e,C=>K e C
 |x,e,C=>Q x e (C++m)
def fc(pl:PlanA):Code->List Nat
 |.region _ ops _=>Zc ops.toList
 |.seq a b=>fc pl a++(fc pl b++(match m9 pl.joins (jm b)with
  |some J=>J.ids
  |none=>[]))
 |.cond _ a b=>fc pl a++fc pl b
 |.block _ b=>fc pl b
 |.loop b=>fc pl b++(match m9 pl.loops (jm b)with
  |some J=>J.ids
  |none=>[])
 |_=>[]
def oK{X:Type}(J:Um)(R:CS)(F:gU (gn J) X)(e:j7)(C:CS)(k:X->Prop):Prop:=
 match qs J R e C with
 |some b=>match ic (gn J) b F with
  |some q=>k q
  |none=>False
 |none=>False
def wJ{X:Type}{J:Um}{F:gU (gn J) X}{e:j7}{k:X->Prop}(h:oK J R F e C k):∃b q,qs J R e C=Td b/\ic (gn J) b F=Td q/\k q:=by unfold oK at h;grind
def WA(P:EM)(gl:Fr)(tr:N4)(n:Nat)(pl:PlanA):Code->CS->i9->j7->CS->Prop
 |.skip,_,Q,e,C=>Q .normal e C
 |.ret,_,Q,e,C=>Q .ret e C
 |.exit id,_,Q,e,C=>Q (.exit id) e C
 |.label _,_,Q,e,C=>Q .normal e C
 |.goto l,_,Q,e,C=>Q (.goto l) e C
 |.region id ops draw,R,Q,e,C=>vx P gl tr n pl.tails pl.draws id ops draw R (λe C=>Q .normal e C) e C
 |.seq x y,R,Q,e,C=>match m9 pl.joins (jm y)with
  |none=>WA P gl tr n pl x R (Iw (λe C=>WA P gl tr n pl y R Q e C) Q) e C
  |some J=>∀K:gU (gn J) Prop,pq (gn J) K (λf q=>WA P gl tr n pl y R Q (jO J f++iE (xu x) (J.ids++fc pl x) e) (jV J f++gd J.ro C)->q) ->
    WA P gl tr n pl x (gd J.ro C++R) (AP (gd J.ro C) (λh i=>oK J (gd J.ro C++R) K h i λq=>q) Q) e (kY J.ro C)
 |.cond c x y,R,Q,e,C=>match gv e [] c with
  |some v=>match mo v with
   |some b=>(b=Ta->WA P gl tr n pl x R Q e C)/\(b=Tc->WA P gl tr n pl y R Q e C)
   |none=>False
  |none=>False
 |.block id x,R,Q,e,C=>WA P gl tr n pl x R (EY id Q) e C
 |.loop x,R,Q,e,C=>match m9 pl.loops (jm x)with
  |some J=>∃(I:gU (gn J) Prop) (μ:gU (gn J) Nat),oK J (gd J.ro C++R) (ni (gn J) I μ) e (kY J.ro C) (λp=>p.1) /\
    pq (gn J) (ni (gn J) I μ) λf p=>p.1->WA P gl tr n pl x (gd J.ro C++R) (AP (gd J.ro C) (λh i=>oK J (gd J.ro C++R) (ni (gn J) I μ) h i λq=>q.1/\q.2<p.2) Q)
     (jO J f++iE (xu x) (J.ids++fc pl x) e) (jV J f)
  |none=>False
 |_,_,_,_,_=>False
def IV(h0:zb)(W:Nat->Prop)(M0:Fr)(n:Nat)(B:MN)(ms S:List Nat)(c:Act)(b:Gh)(R:CS)(Q:i9):Exit->Act->MN->Prop:=
 λx a w=>∃e C γ d h,w=mk B d h/\Fn n e γ a/\Inv h0 W M0 (C++R) γ h/\Same ms c a/\GxS S b γ/\Q x e C
def Ti{e:j7}{i γ h:Gh}{a f:Act}(o:Fn n e i a){ms S ids:ab1}(l:f.defers=[])(p:f.tmps.size=n)(c:Same ms a f)(g:GxS S i γ)(m:GxS ids γ h){J:Um}{k:List Dy}(q:∀x∈jO J k,jS h (qp f) x):Fn n (jO J k++iE ms (ids++S) e) h f:=by refine⟨l,p,λx b=>?_⟩;obtain b|b:=ZF.1 b;grind;exact Xm ((g.mono λx b=>ZH _ b).trans (m.mono λx b=>YV _ b)) c o.all x b
def JM(hm:P.follows .mixedOrders=Ta){gl:Fr}(ap:Fr.le gl M0){tr:N4}{pl:PlanA}:∀(c:Code) (R:CS) (Q:i9) (e:j7) (C:CS),WA P gl tr n pl c R Q e C ->∀(γ:Gh) (h:zb) (B:MN) (d:Nat) (a:Act),Fn n e γ a->Inv h0 W M0 (C++R) γ h->c.wp P (IV h0 W M0 n B (xu c) (fc pl c) a γ R Q) a (mk B d h):=by
 intro c;induction c with
 |skip=>exact λR Q e C H γ h B d a f I=>wp_skip ⟨e,C,γ,d,h,rfl,f,I,Same.refl _ _,GxS.refl _ _,H⟩
 |ret=>exact λR Q e C H γ h B d a f I=>wp_ret ⟨e,C,γ,d,h,rfl,f,I,Same.refl _ _,GxS.refl _ _,H⟩
 |exit id=>exact λR Q e C H γ h B d a f I=>wp_exit ⟨e,C,γ,d,h,rfl,f,I,Same.refl _ _,GxS.refl _ _,H⟩
 |label l=>exact λR Q e C H γ h B d a f I=>wp_label ⟨e,C,γ,d,h,rfl,f,I,Same.refl _ _,GxS.refl _ _,H⟩
 |goto l=>exact λR Q e C H γ h B d a f I=>wp_goto ⟨e,C,γ,d,h,rfl,f,I,Same.refl _ _,GxS.refl _ _,H⟩
 |region id ops aF=>exact λR Q e C H γ h B d a f I=>N7 hm ap H B d f I λe' C' γ' a' d' h' r u q3 q4 q5=>⟨e',C',γ',d',h',rfl,r,u,q3,q4,q5⟩
 |seq x y M O=>
  intro R Q e C H γ h B d a f I;simp only[WA]at H;have hl:∀i∈xu x,i∈xu (x.seq y):=λi hi=>YV _ hi;have hr:∀i∈xu y,i∈xu (x.seq y):=λi hi=>ZH _ hi;have kl:∀i∈fc pl x,i∈fc pl (x.seq y):=λi hi=>YV _ hi;have kr:∀i∈fc pl y,i∈fc pl (x.seq y):=λi hi=>ZH _ (YV _ hi);split at H;refine wp_seq (wp_mono (M _ _ _ _ H γ h B d a f I) ?_);rintro ex w w1 ⟨V,Z,k,t,h1,rfl,s1,D,z,s,r⟩;cases ex with
  |normal=>refine wp_mono (O _ _ _ _ r k h1 B t w s1 D) ?_;rintro ex a2 w2 ⟨L,N,G,d2,h2,rfl,s2,S,A,E,u⟩;exact⟨L,N,G,d2,h2,rfl,s2,S,(z.mono hl).trans (A.mono hr),(s.mono kl).trans (E.mono kr),u⟩
  |_=>exact⟨V,Z,k,t,h1,rfl,s1,D,z.mono hl,s.mono kl,r⟩
  rename_i J hJ;have kJ:∀i∈J.ids,i∈fc pl (x.seq y):=λi hi=>by simp only[fc,hJ];simp_all
  have H':=H (oM (gn J) λF=>WA P gl tr n pl y R Q (jO J F++iE (xu x) (J.ids++fc pl x) e) (jV J F++gd J.ro C)) (Dw λF hq=>hq);refine wp_seq (wp_mono (M _ _ _ _ H' γ h B d a f (I.part J.ro)) ?_);rintro ex w w1 ⟨V,Z,k,t,h1,rfl,s1,D,z,s,r⟩;cases ex with
  |normal=>have⟨F,q,hv,hq,hk⟩:=wJ r;have am:=Ha hq;subst am;have⟨an,aa,ab,f1⟩:=uh hv s1 D;have ae:=Ti f s1.defers s1.size z s ab f1;rw[<-ZL]at aa;refine wp_mono (O _ _ _ _ hk an h1 B t w ae aa) ?_;rintro ex a2 w2 ⟨L,N,G,d2,h2,rfl,s2,S,A,E,u⟩;exact⟨L,N,G,d2,h2,rfl,s2,S,(z.mono hl).trans (A.mono hr),((s.mono kl).trans (ab.mono kJ)).trans (E.mono kr),u⟩
  |_=>exact⟨V,Z++gd J.ro C,k,t,h1,rfl,s1,θ,z.mono hl,s.mono kl,r⟩
 |cond c x y M O=>intro R Q e C H γ h B d a f I;simp only[WA]at H;have hl:∀i∈xu x,i∈xu (zdr c x y):=λi hi=>YV _ hi;have hr:∀i∈xu y,i∈xu (zdr c x y):=λi hi=>ZH _ hi;have kl:∀i∈fc pl x,i∈fc pl (zdr c x y):=λi hi=>YV _ hi;have kr:∀i∈fc pl y,i∈fc pl (zdr c x y):=λi hi=>ZH _ hi;split at H;rename_i v hv;split at H;rename_i b U;refine wp_cond_split (tK U (Qa f (c:=[]) trivial hv)) (λah=>?_) (λau=>?_);refine wp_mono (M _ _ _ _ (H.1 ah) γ h B d a f I) ?_;rintro ex a2 w2 ⟨L,N,G,d2,h2,rfl,s2,S,A,E,u⟩;exact⟨L,N,G,d2,h2,rfl,s2,S,A.mono hl,E.mono kl,u⟩;refine wp_mono (O _ _ _ _ (H.2 au) γ h B d a f I) ?_;rintro ex a2 w2 ⟨L,N,G,d2,h2,rfl,s2,S,A,E,u⟩;exact⟨L,N,G,d2,h2,rfl,s2,S,A.mono hr,E.mono kr,u⟩;cases H;cases H
 |block id x ih=>
  intro R Q e C H γ h B d a f I;refine wp_block (wp_mono (ih _ _ _ _ H γ h B d a f I) ?_);rintro ex w w1 ⟨V,Z,k,t,h1,rfl,s1,D,z,s,r⟩;cases ex with
  |exit i=>simp only[EY]at r;simp only[Exit.inBlock];by_cases U:gc i id=Ta;rw[zi (ZJ U)];simp only[U,zF]at r;exact⟨V,Z,k,t,h1,rfl,s1,D,z,s,r⟩;rw[za (λhe=>U (by rw[he];simp))];simp only[U,zG]at r;exact⟨V,Z,k,t,h1,rfl,s1,D,z,s,r⟩
  |_=>exact⟨V,Z,k,t,h1,rfl,s1,D,z,s,r⟩
 |loop x ih=>
  intro R Q e C H γ h B d a f I;simp only[WA]at H;split at H;rename_i J hJ;have kx:∀i∈fc pl x,i∈fc pl (Code.loop x):=λi hi=>YV _ hi;have kJ:∀i∈J.ids,i∈fc pl (Code.loop x):=λi hi=>by simp only[fc,hJ];simp_all
  have kS:∀i∈J.ids++fc pl x,i∈fc pl (Code.loop x):=λi hi=>η
  have⟨Iv,μ,ar,Y⟩:=H;have⟨af,p0,aB,aC,aA⟩:=wJ ar;have⟨γ0,I0,g0,f0⟩:=uh aB f (I.part J.ro);refine wp_loop_ghost (λm w w1=>∃t h1 k F p,w1=mk B t h1/\w.defers=[]/\w.tmps.size=n/\Same (xu x) a w/\GxS (J.ids++fc pl x) γ k/\Inv h0 W M0 (jV J F++(gd J.ro C++R)) k h1/\(∀y∈jO J F,jS k (qp w) y)/\ic (gn J) F (ni (gn J) Iv μ)=Td p/\p.1/\p.2=m) p0.2 ⟨d,h,γ0,af,p0,rfl,f.defers,f.size,Same.refl _ _,g0.mono λi hi=>YV _ hi,I0,f0,aC,aA,rfl⟩ ?_;rintro m w w1 ⟨t,h1,k,F,p,rfl,aj,az,o,s,D,f1,hp,aE,rfl⟩;have s1:Fn n (jO J F++iE (xu x) (J.ids++fc pl x) e) k w:=⟨aj,az,λy hy=>by obtain hy|hy:=ZF.1 hy;grind;exact Xm s o f.all y hy⟩;have U:=E5 hp Y aE;refine wp_mono (ih _ _ _ _ U k h1 B t w s1 D) ?_;rintro ex a2 w2 ⟨L,N,G,d2,h2,rfl,s2,S,A,E,u⟩;cases ex with
  |normal=>have⟨ai,q,ay,hq,ak,ax⟩:=wJ u;have⟨γ3,I3,g3,f3⟩:=uh ay s2 S;exact⟨q.2,ax,d2,h2,γ3,ai,q,rfl,s2.defers,s2.size,o.trans A,(s.trans (E.mono λi hi=>ZH _ hi)).trans (g3.mono λi hi=>YV _ hi),I3,f3,hq,ak,rfl⟩
  |_=>exact⟨L,N++gd J.ro C,G,d2,h2,rfl,s2,θ,o.trans A,(s.mono kS).trans (E.mono kx),u⟩
  cases H
 |_=>exact λR Q e C H=>H.elim
def k0:Nat->List Arg->j7
 |_,[]=>[]
 |i,a::l=>(i,[],.g (pg a.t a.x))::k0 (i+1) l
def sX(e:j7)(i:Nat):Option AV:=match jt e i with
 |some ([],v)=>Td v
 |_=>Te
def jA(P:EM)(cs:CS)(e:j7):List ResultVar->(List AV->Prop)->Prop
 |[],K=>K []
 |.tmp t::l,K=>match sX e t with
  |some v=>jA P cs e l λvs=>K (v::vs)
  |none=>False
 |.cell a t::l,K=>match sX e a with
  |some (.g (.a aa))=>mK P cs t aa Te λv=>jA P cs e l λvs=>K (v::vs)
  |_=>False
def js(cs:CS):(l:List Ty)->List AV->Option (eX l)
 |[],[]=>Td ()
 |[t],[v]=>m5 cs t v
 |t::t'::l,v::vs=>match m5 cs t v,js cs (t'::l) vs with
  |some x,some y=>Td (x,y)
  |_,_=>Te
 |_,_=>Te
def Ig{γ:Gh}{cs:CS}(b:i8 γ cs):∀{l:List Ty} {vs:List AV} {r:eX l} {us:ab2},js cs l vs=Td r->DA (DE γ) vs us->s5 γ.M l r us
 |[],[],r,[],_,_=>rfl
 |[],[],_,_::_,_,h=>h.elim
 |[t],[v],r,[u],h,hd=>⟨u,rfl,vH b (by simpa[js]using h) hd.1⟩
 |[t],[v],_,[],_,h=>h.elim
 |[t],[v],_,_::_::_,_,h=>h.2.elim
 |t::t'::l,v::vs,r,[],_,h=>h.elim
 |t::t'::l,v::vs,r,u::us,h,hd=>by simp only[js]at h;split at h;rename_i x y h1 h2;simp only[YK]at h;subst h;exact⟨u,us,rfl,vH b h1 hd.1,Ig b h2 hd.2⟩;cases h
 |[],_::_,_,_,h,_=>by simp[js]at h
 |[t],[],_,_,h,_=>by simp[js]at h
 |[t],_::_::_,_,_,h,_=>by simp[js]at h
 |t::t'::l,[],_,_,h,_=>by simp[js]at h
def xZ(P:EM)(rs:List ResultVar)(rt:List Ty)(R:eX rt->Prop):i9:=λx e C=>match x with
 |.normal=>jA P C e rs λvs=>match js (frzL (iK vs) C) rt vs with
  |some r=>R r
  |none=>False
 |.ret=>jA P C e rs λvs=>match js (frzL (iK vs) C) rt vs with
  |some r=>R r
  |none=>False
 |_=>False
def Ah{P:EM}{n:Nat}{C:CS}{e:j7}{γ:Gh}{a:Act}{h:zb}(E:Fn n e γ a)(I:Inv h0 W M0 C γ h):∀{l:List ResultVar} {K:List AV->Prop},jA P C e l K->∃vs us,K vs/\DA (DE γ) vs us/\DB us=DB l/\At P (l.mapM (lj a.tmps)) h us
 |[],K,H=>⟨[],[],H,trivial,rfl,λ_ _=>ξ⟩
 |.tmp t::l,K,H=>by
  simp only[jA]at H;split at H;rename_i v A;have⟨vs,us,h1,h2,G,F⟩:=Ah E I H;have m:DE γ v (qp a t):=by unfold sX at A;split at A;rename_i u r;simp only[YK]at A;subst A;exact(E.all _ (Qm r)).1 trivial;cases A
  refine⟨v::vs,qp a t::us,h1,⟨m,h2⟩,ϑ G,?_⟩;rw[zdo];exact At.bind (x:=qp a t) (At.pure _) (F.bind (At.pure _));cases H
 |.cell x t::l,K,H=>by
  simp only[jA]at H;split at H;rename_i q w;have⟨v,N,M⟩:=F2 (h0:=h0) (W:=W) (M0:=M0) H;have⟨vs,us,h1,h2,G,F⟩:=Ah E I N;have m:CD γ q (qp a x):=by unfold sX at w;split at w;rename_i u r;simp only[YK]at w;subst w;exact(E.all _ (Qm r)).1 trivial;cases w
  have⟨u,O,B⟩:=M trivial γ h _ I m;refine⟨v::vs,u::us,h1,⟨O,h2⟩,ϑ G,?_⟩;rw[zdo];refine At.bind (x:=u) ?_ (F.bind (At.pure _));have J:∃p,qp a x=.pointer (Td p):=by
   have D:∀q,(∀k,sS C k q=Te)->(∀c z i o,q≠.oelt c z i o)->CD γ q (qp a x)->mK P C t q Te (λv=>jA P C e l λvs=>K (v::vs))->False:=by intro q S L _ r;unfold mK at r;split at r;simp_all;exact r
   cases q with
   |box c o=>exact⟨_,m⟩
   |oelt c z i o=>have⟨g,_,e⟩:=m;grind
   |elt t y o=>have⟨b,f,cs,e,_⟩:=m;grind
   |v y=>exact(D _ (λ_=>rfl) ξ m H).elim
   |d t y=>exact(D _ (λ_=>rfl) ξ m H).elim
   |own c=>exact(D _ (λ_=>rfl) ξ m H).elim
   |dc t y=>exact(D _ (λ_=>rfl) ξ m H).elim
  have⟨p,s⟩:=J;rw[s]at B;have Q:a.tmps.getD x undef=.pointer (Td p):=s;simp only[lj,Q];exact B;cases H
def Uj{fn:Func}{rs:List ResultVar}(f:fn.results.toList=rs){us:ab2}(e:us.length=DB rs)(c:At P (rs.mapM (lj a.tmps)) h us):At P (results fn a.tmps) h (iN us):=by
 intro B d;have b:results fn a.tmps=(fn.results.mapM (lj a.tmps) >>= λvs=>zc6 (if h:vs.size=1 then vs[0]else .tuple vs)):=by unfold results;congr 1
 rw[b,Array.mapM_eq_mapM_toList,f,Sem.run_bind,Sem.run_map,c B d];simp only[Result.andThen_ok,Sem.run_pure]
 match us,e with
 |[],_=>rfl
 |[v],_=>rfl
 |v::u::vs,_=>simp[iN]
def BU{γ:Gh}{σ:Nat->Value}:∀{l:List Arg} {i:Nat} {us:ab2},iy γ.M l us->(∀j v,us[j]?=Td v->σ (i+j)=v)->∀x∈k0 i l,jS γ σ x
 |[],_,_,_,_,x,b=>ε b
 |a::l,i,[],h,_,x,b=>h.elim
 |a::l,i,u::us,h,hσ,x,b=>by simp only[k0,YT]at b;obtain rfl|b:=b;refine⟨λ_=>?_,λe=>absurd trivial e⟩;have:=hσ 0 u rfl;simp only at this ⊢;rw[show σ i=u from this];exact tD h.1;exact BU h.2 (λj v c=>by have:=hσ (j+1) v (ψ c);grind) x b
theorem VU(hm:P.follows .mixedOrders=Ta)(gl:Fr)(tr:N4)(pl:PlanA)(args:List Arg){fn:Func}{rs:List ResultVar}{rt:List Ty}(Z:P.funcs[f]?=Td fn)(y:Ys fn=Ta)(hr:fn.results.toList=rs)(hn:fn.ntmps=n)
 (Y:Nat.ble args.length n=Ta) {R:eX rt->Prop} (H:WA P gl tr n pl (codeOf fn) [] (xZ P rs rt R) (k0 0 args) []):PC P gl f args rt R:=by
 intro h M vs J t c B d;subst hn;have G:fn.body=Td (codeOf fn):=by unfold Ys at y;unfold codeOf;split at y;omega;cases y
 refine calls_of_wp Z G ?_;have p:vs.length=args.length:=(DA.length c).symm;have aa:vs.length<=fn.ntmps:=by rw[p];exact Nat.le_of_ble_eq_true Y
 let γ:Gh:=⟨M,λ_=>0,λ_=>⟨Te,0,0⟩⟩;have I:Inv h (λ_=>False) M ([]++[]) γ h:={ ag:=t,frame:=λ_ _ _=>rfl,size:=YJ _,old:=λ_ _=>rfl,le:=Fr.le.refl _,den:=λx F=>(ε F),sep:=λx F=>(ε F),apart:=List.Pairwise.nil };have hs:Fn fn.ntmps (k0 0 args) γ { tmps:=vs.toArray++Array.replicate (fn.ntmps-vs.toArray.size) undef,defers:=[] }:=by refine⟨rfl,φ,BU c λj v Q=>?_⟩;have E:j<vs.length:=(ZN.1 Q).1;simp only[ZO,qp,Array.getD_eq_getD_getElem?];rw[zca (ψ E)];simp[Q]
 have fin:∀(e:j7) (C:CS) (γ':Gh) (h':zb) (a:Act),Fn fn.ntmps e γ' a->Inv h (λ_=>False) M (C++[]) γ' h'->(jA P C e rs λvs=>match js (frzL (iK vs) C) rt vs with|some r=>R r|none=>False) ->
  ∃v,At P (results fn a.tmps) h' v/\Bk h.size h h'/\∃M' r,Fr.le M M'/\(∀b,b<h.size->M' b=M b)/\AgM M' h'/\x7 M' rt r v/\R r:=by
  intro e C γ' h' a s1 m q;rw[ZY]at m;obtain⟨D,us,A,S,hl,o⟩:=Ah s1 m q;split at A;rename_i r hc;obtain⟨U,l,V⟩:=Inv.frzL (C:=C) (R:=[]) (γ:=γ') (iK D) (ψ m);rw[ZY]at l;refine⟨iN us,Uj hr hl o,⟨l.size,λi hi=>l.frame i hi (λh=>h)⟩,U.M,r,l.le,l.old,l.ag,⟨us,Ig l.fz hc (S.imp λv _ u hu=>hu.gx V rfl),rfl⟩,A⟩;cases A
 refine wp_mono (JM hm J _ _ _ _ _ H γ h B d _ hs I) ?_;rintro ex a w ⟨O,N,L,s,h1,rfl,s1,m,m1,g1,z⟩;cases ex with
 |normal=>obtain⟨v,o,k,rest⟩:=fin O N L h1 a s1 m z;exact⟨s1.defers,v,o B s,v,s,h1,rfl,rfl,k,rest⟩
 |ret=>obtain⟨v,o,k,rest⟩:=fin O N L h1 a s1 m z;exact⟨s1.defers,v,o B s,v,s,h1,rfl,rfl,k,rest⟩
 |_=>cases z
def XL(b:P.follows .mixedOrders=Ta)(gl:Fr)(tr:N4)(pl:PlanA)(args:List Arg){fn:Func}{rs:List ResultVar}{rt:List Ty}(c:P.funcs[f]?=Td fn)(i:Ys fn=Ta)(h:fn.results.toList=rs)(k:fn.ntmps=n)(l:Nat.ble (DB args) n=Ta) {R:eX rt->Prop} {F:Prop} (H:F) (e:F=WA P gl tr n pl (codeOf fn) [] (xZ P rs rt R) (k0 0 args) []):PC P gl f args rt R:=
 VU b gl tr pl args c i h k l (e ▸ H)
end
end
section
open Go.RowKit
section
variable {P:EM} {f:FuncId} {h:zb} {M gl:Fr} {v:Value} {us:List Value}
theorem XC.of_calls{args:ab3}{R:vvv}(H:∀B d,Calls P f args (mk B d h) λe w'=>∃v,e=.returned v/\w'.os=B.os/\w'.tape=B.tape/\w'.output=B.output/\R v w'.heap):XC P f args h R:=by intro B d;refine(H B d).mono ?_;rintro e w' ⟨v,rfl,h1,h2,c,b⟩;refine⟨v,w'.drawn,w'.heap,rfl,?_,b⟩;cases w';simp only[mk]at *;subst h1;subst h2;subst c;rfl
theorem AgM.aa1{h h':zb}(ag:AgM M h)(k:Bk h.size h h'):AgM M h':=λb c e=>by have⟨T,m,e'⟩:=ag b c e;exact⟨T,m,by rw[k.get b (ag.lt e)];exact e'⟩
def lR:Arg->Option Value
 |⟨.int k,x⟩=>Td (.int k x)
 |⟨.bool,x⟩=>Td (.bool x)
 |⟨.str,x⟩=>Td (.string x)
 |_=>Te
def ki:List Arg->Option (List Value)
 |[]=>Td []
 |a::l=>match lR a,ki l with
  |some v,some vs=>Td (v::vs)
  |_,_=>Te
theorem XN{a:Arg}{v u:Value}(h:lR a=Td v)(b:RdV M a.t a.x u):u=v:=by
 have⟨t,x⟩:=a;cases t with
 |int k=>simp only[lR,YK]at h;subst h;simpa[RdV,Rd,fh]using b
 |bool=>simp only[lR,YK]at h;subst h;simpa[RdV,Rd,fh]using b
 |str=>simp only[lR,YK]at h;subst h;simpa[RdV,Rd,fh]using b
 |_=>simp[lR]at h
theorem tm{M:Fr}:∀{l:List Arg} {vs us:ab2},ki l=Td vs->iy M l us->us=vs
 |[],vs,us,h,hd=>by
  simp only[ki,YK]at h;subst h;cases us with
  |nil=>rfl
  |cons _ _=>cases hd
 |a::l,vs,us,h,hd=>by
  simp only[ki]at h;split at h;rename_i v b h1 h2;simp only[YK]at h;subst h;cases us with
  |nil=>cases hd
  |cons u us=>rw[XN h1 hd.1,tm h2 hd.2]
  cases h
theorem PC.of_scal{args:List Arg}{rt:List Ty}{R:eX rt->Prop}(l:ki args=Td us){r:eX rt}(o:∀M,x7 M rt r v)(p:R r)(H:∀w:MN,AgM gl w.heap->Calls P f us.toArray w λe w'=>e=.returned v/\Below w.heap.size w w'):PC P gl f args rt R:=by intro h M vs m ag n;rw[tm l n];refine XC.of_calls λB d=>(H (mk B d h) λb c e=>ag b c (m b c e)).mono ?_;rintro e w' ⟨rfl,i⟩;have k:Bk h.size h w'.heap:=⟨i.size,i.block⟩;exact⟨v,rfl,i.os,i.tape,i.output,k,M,r,Fr.le.refl _,λ_ _=>rfl,ag.aa1 k,o M,p⟩
theorem PC.of_same{args:List Arg}{rt:List Ty}{R:eX rt->Prop}(b:ki args=Td us){r:eX rt}(h:∀M,x7 M rt r v)(i:R r)(H:∀w:MN,AgM gl w.heap->Calls P f us.toArray w λe w'=>e=.returned v/\w'=w):PC P gl f args rt R:=
 PC.of_scal b h i λw c=>(H w c).mono λe w' ⟨h1,h2⟩=>⟨h1,h2 ▸ Below.refl _ _⟩
def Io(k:IntKind)(i:Int):x7 M [.int k] i (.int k i):=⟨[_],⟨_,rfl,rfl⟩,rfl⟩
def ux(b:Bool):x7 M [.bool] b (.bool b):=⟨[_],⟨_,rfl,rfl⟩,rfl⟩
def oR(s:Bt):x7 M [.str] s (.string s):=⟨[_],⟨_,rfl,rfl⟩,rfl⟩
theorem AgM.glob{w:MN}(ag:AgM gl w.heap){b o:Nat}{cs:ab3}(f:gl b=Td cs)(c:cs[o]?=Td v):w.cell? ⟨b,o,Option.none⟩=Td v:=by have⟨T,m,e⟩:=ag b cs f;simp[World.cell?,e,c]
theorem PC.of_ex{args:List Arg}{rt:List Ty}{R:eX rt->Prop}(l:ki args=Td us)(H:∀w:MN,AgM gl w.heap->Calls P f us.toArray w λe w'=>∃v r,e=.returned v/\(∀M,x7 M rt r v)/\R r/\Below w.heap.size w w'):PC P gl f args rt R:=by intro h M vs m ag n;rw[tm l n];refine XC.of_calls λB d=>(H (mk B d h) λb c e=>ag b c (m b c e)).mono ?_;rintro e w' ⟨v,r,rfl,o,p,i⟩;have k:Bk h.size h w'.heap:=⟨i.size,i.block⟩;exact⟨v,rfl,i.os,i.tape,i.output,k,M,r,Fr.le.refl _,λ_ _=>rfl,ag.aa1 k,o M,p⟩
end
section
variable {P:EM} {gl M:Fr} {f:FuncId} {h h':zb} {vs cs:List Value} {K:Value -> zb -> Prop} {t:Ty} {u v:Value} {i:Int} {s:Sl} {k:Nat}
def PX(P:EM)(f:FuncId)(vs:Array Value)(h:zb)(M:Fr)(rt:List Ty)(R:eX rt->Prop):Prop:=
 XC P f vs h λv h'=>Bk h.size h h'/\∃M' r,Fr.le M M'/\(∀b,b<h.size->M' b=M b)/\AgM M' h'/\x7 M' rt r v/\R r
theorem PC.px{args:List Arg}{rt:List Ty}{R:eX rt->Prop}(H:PC P gl f args rt R)(b:Fr.le gl M)(ag:AgM M h)(c:iy M args vs):PX P f vs.toArray h M rt R:=H h M vs b ag c
structure wr (h:zb) (M:Fr) (h':zb) (M':Fr):Prop where
 aa1:Bk h.size h h'
 le:Fr.le M M'
 old:∀b,b<h.size->M' b=M b
 ag:AgM M' h'
theorem wr.refl(ag:AgM M h):wr h M h M:=⟨Bk.refl _ _,Fr.le.refl _,λ_ _=>rfl,ag⟩
theorem wr.trans{h h' h'':zb}{M M' M'':Fr}(a:wr h M h' M')(b:wr h' M' h'' M''):wr h M h'' M'':= ⟨a.aa1.trans b.aa1 a.aa1.size,a.le.trans b.le,λx c=>(b.old x (χ a.aa1.size)).trans (a.old x c),b.ag⟩
theorem wr.same(ag:AgM M h)(k:Bk h.size h h'):wr h M h' M:=⟨k,Fr.le.refl _,λ_ _=>rfl,ag.aa1 k⟩
theorem wr.push(ag:AgM M h)(o:Obj):wr h M (h.push o) M:=wr.same ag (rg _ _ (YJ _))
theorem PX.go{vs:ab3}{rt:List Ty}{R:eX rt->Prop}(H:PX P f vs h M rt R)(l:∀v h' M' r,wr h M h' M'->x7 M' rt r v->R r->K v h'):XC P f vs h K:= XC.mono H λv h' ⟨k,M',r,c,m,e,i,b⟩=>l v h' M' r ⟨k,c,m,e⟩ i b
theorem PX.of{vs:ab3}{rt:List Ty}{R:eX rt->Prop}(H:XC P f vs h λv h'=>∃M' r,wr h M h' M'/\x7 M' rt r v/\R r):PX P f vs h M rt R:= XC.mono H λv h' ⟨M',r,l,c,b⟩=>⟨l.aa1,M',r,l.le,l.old,l.ag,c,b⟩
theorem PC.go{args:List Arg}{rt:List Ty}{R:eX rt->Prop}(H:PC P gl f args rt R)(c:Fr.le gl M)(ag:AgM M h)(b:iy M args vs) (e:∀v h' M' r,wr h M h' M'->x7 M' rt r v->R r->K v h'):XC P f vs.toArray h K:=(H.px c ag b).go e
theorem eC{x:El t}(b:fh t=Tc):RdV M t x u↔Rd M t x [u]:=by unfold RdV;rw[b];simp
def Yu{x:El t}:x7 M [t] x v↔RdV M t x v:=by constructor;rintro⟨us,⟨u,rfl,h⟩,rfl⟩;exact h;intro h;exact⟨[v],⟨v,rfl,h⟩,rfl⟩
theorem ez{b:Bool}(h:x7 M [.bool] b v):v=.bool b:=by have:=Yu.1 h;rw[eC rfl]at this;simpa[Rd]using this
theorem pe{k:IntKind}(h:x7 M [.int k] i v):v=.int k i:=by have:=Yu.1 h;rw[eC rfl]at this;simpa[Rd]using this
theorem gu{s:Bt}(h:x7 M [.str] s v):v=.string s:=by have:=Yu.1 h;rw[eC rfl]at this;simpa[Rd]using this
def zw:iy M [] []:=trivial
def zn{a:Arg}{l:List Arg}{us:ab2}(h:RdV M a.t a.x u)(b:iy M l us):iy M (a::l) (u::us):=⟨h,b⟩
def DH(s:Bt):RdV M .str s (.string s):=by rw[eC rfl];rfl
def Zj(k:IntKind)(i:Int):RdV M (.int k) i (.int k i):=by rw[eC rfl];rfl
def Fk(b:Bool):RdV M .bool b (.bool b):=by rw[eC rfl];rfl
theorem y0{s:Bt}(h:RdV M .str s u):u=.string s:=by rw[eC rfl]at h;simpa[Rd]using h
theorem qn{k:IntKind}(h:RdV M (.int k) i u):u=.int k i:=by rw[eC rfl]at h;simpa[Rd]using h
theorem yg{v:Tr}(h:RdV M .tree v u):∃sk si:Sl,u=.agg #[.int .i64 v.Wf,.string v.aa0,aK sk,aK si]/\Rd M (.row .str) v.XK [aK sk]/\Rd M (.row .tree) v.WT [aK si]:=by unfold RdV at h;simp only[fh,if_true]at h;obtain⟨cs,rfl,i⟩:=h;obtain⟨n,o,rfl,h1,h2⟩:=Rj.XK i;have c:=h1;have b:=h2;have⟨w1,e,k,c1,l,_⟩:=c;have⟨p,f,a2,c2,m,_⟩:=b;simp only[za7,and_true]at e f;subst e;subst f;subst l;subst m;exact⟨⟨k,v.XK.length,c1⟩,⟨a2,v.WT.length,c2⟩,rfl,h1,h2⟩
def qe{v:Tr}{sk si:Sl}(h1:Rd M (.row .str) v.XK [aK sk])(h2:Rd M (.row .tree) v.WT [aK si]):RdV M .tree v (.agg #[.int .i64 v.Wf,.string v.aa0,aK sk,aK si]):=by unfold RdV;simp only[fh,if_true];exact⟨[.int .i64 v.Wf,.string v.aa0,aK sk,aK si],rfl,by cases v;exact Rj.of h1 h2⟩
def lr{xs:List (El t)}(h:RdV M (.row t) xs u):∃s:Sl,u=aK s/\Rd M (.row t) xs [aK s]:=by rw[eC rfl]at h;have h':=h;have⟨w,e,a,c,q,_⟩:=h';simp only[za7,and_true]at e;subst e;subst q;exact⟨⟨a,DB xs,c⟩,rfl,h⟩
theorem Bx{xs:List (El t)}(h:Rd M (.row t) xs [aK s]):s.len=DB xs/\DB xs<=140737488355328/\DB xs<=s.cap:=by have⟨w,e,a,c,q,b,_⟩:=h;simp only[za7,and_true]at e;subst e;simp only[aK,zai]at q;have⟨_,h2,f⟩:=q;exact⟨h2,b.1,by rw[f];exact b.2⟩
def SM{xs:List (El t)}(h:Rd M (.row t) xs [aK s])(f:k<DB xs):∃b o cs,s.a=Td ⟨b,o,Te⟩/\M b=Td cs/\Rd M t xs[k] (cut cs (o+k*sz t) (sz t)):=by have⟨w,e,a,c,q,r,l⟩:=h;simp only[za7,and_true]at e;subst e;simp only[aK,zai]at q;have⟨h1,h2,p⟩:=q;obtain rfl|⟨b,o,cs,m,i,n⟩:=l;simp at f;exact⟨b,o,cs,by rw[h1,m],i,n k f⟩
def pf{M:Fr}{h:zb}(ag:AgM M h){b:Nat}{cs:ab3}(k:M b=Td cs):∀{vs:ab2} {o i:Nat},cut cs (o+i) (DB vs)=vs->zc h ⟨b,o,Te⟩ i vs
 |[],_,_,_=>trivial
 |v::vs,o,i,e=>by
  unfold cut at e;have c:o+i<DB cs.toList:=by obtain f|f:=Nat.lt_or_ge (o+i) (DB cs.toList);exact f;rw[zao f]at e;simp at e
  rw[ZG c,YU,zcj]at e;injection e with e1 e2;refine⟨?_,pf ag k (i:=i+1) e2⟩;rw[zl];refine ag.cell k ?_;rw[Array.getElem?_eq_getElem (ψ c),<-e1];simp
def lD(ag:AgM M h){b:Nat}{cs:ab3}(c:M b=Td cs){o:Nat}(e:cut cs o 1=[v]):zd h ⟨b,o,Te⟩=Td v:=by have:=pf (vs:=[v]) (o:=o) (i:=0) ag c (ψ e);exact this.1
theorem zm(b o n:Nat):(⟨b,o,Te⟩:Addr).add n=⟨b,o+n,Te⟩:=zl b o n
def gS(ag:AgM M h){xs:List Bt}(H:Rd M (.row .str) xs [aK s])(f:k<DB xs)(hi:i=(k:Int)){L:Nat}(p:L=s.len){Q:Bt->Prop}(e:Q xs[k]):∃a:Addr,(s.a=Td a/\0<=i/\i<(L:Int))/\∃x:Bt,zd h (a.add (i.toNat*1))=Td (.string x)/\Q x:=by have⟨b,o,cs,l,c,m⟩:=SM H f;have n:=(Bx H).1;refine⟨_,⟨l,ω,ω⟩,xs[k],?_,e⟩;rw[zm,hi,YL];exact lD ag c m
def ie(ag:AgM M h){xs:List Tr}(H:Rd M (.row .tree) xs [aK s])(e:k<DB xs):∃(a:Addr) (sk si:Sl),s.a=Td a/\zc h (a.add (k*4)) 0 [.int .i64 xs[k].Wf,.string xs[k].aa0,aK sk,aK si]/\Rd M (.row .str) xs[k].XK [aK sk]/\Rd M (.row .tree) xs[k].WT [aK si]:=by
 have⟨b,o,cs,f,c,l⟩:=SM H e;have m:RdV M .tree xs[k] (.agg (cut cs (o+k*sz .tree) (sz .tree)).toArray):=by unfold RdV;simp only[fh,if_true];exact⟨_,rfl,l⟩
 have⟨sk,si,q,h1,h2⟩:=yg m;refine⟨_,sk,si,f,?_,h1,h2⟩;rw[zm];refine pf ag c (i:=0) ?_;have:(cut cs (o+k*sz .tree) (sz .tree))=[.int .i64 xs[k].Wf,.string xs[k].aa0,aK sk,aK si]:=by injection q with q;exact congrArg Array.toList q
 exact this
def Mx(M:Fr)(b:Nat)(cs:Array Value):Fr:=λi=>if i=b then Td cs else M i
theorem wr.frz(ag:AgM M h)(cs:ab3)(T:N4):wr h M (h.push (.cells cs T)) (Mx M h.size cs) where
 aa1:=rg _ _ (YJ _)
 le:=λb c e=>by have:=ag.lt e;unfold Mx;rw[za ω];exact e
 old:=λb hb=>by unfold Mx;rw[za ω]
 ag:=λb c e=>by unfold Mx at e;split at e;rename_i hb;subst hb;cases e;exact⟨T,(0,0),jc _ _⟩;have⟨T',m,e'⟩:=ag b c e;exact⟨T',m,by rw[(rg h _ (YJ _)).get b (ag.lt e)];exact e'⟩
def BK(M:Fr)(b:Nat)(cs:ab3):Mx M b cs b=Td cs:=by unfold Mx;rw[zi rfl]
def m8{T:N4}(k:Bk (h.size+1) (h.push (.cells cs.toArray T)) h'):zc h' ⟨h.size,0,Te⟩ 0 cs:= ((Blk.new h cs.toArray T).aa1 (k.get _ ω)).ld
def Q1{T:N4}(k:Bk (h.size+1) (h.push (.cells cs.toArray T)) h'){i:Nat}(b:cs[i]?=Td v):zd h' ((⟨h.size,0,Te⟩:Addr).add i)=Td v:=by have:=((Blk.new h cs.toArray T).aa1 (k.get _ ω));exact this.aa2 (o:=0) (ψ b)
end
end
section
open Go.ChangeShapes Go.WideShapes Go.RowKit
set_option linter.all false
section
variable {a:Addr} {cs:List Value} {fuel:Nat} {t e:N4} {P:EM}
def Fz(W:MN):Fr:=λb=>match W.heap[b]? with|some (.cells cs _ _)=>some cs|_=>none
theorem Fz.ag(W:MN):AgM (Fz W) W.heap:=by intro b c e;unfold Fz at e;split at e;rename_i cs T m f;cases e;exact⟨T,m,f⟩;cases e
theorem Fz.cell{W:MN}{v:Value}(h:W.cell? a=some v):∃b o c,a=⟨b,o,none⟩/\Fz W b=some c/\c[o]?=some v:=by
 have⟨b,o,sp⟩:=a;unfold World.cell? at h;split at h;rename_i c T m e;cases sp with
 |some x=>simp at h
 |none=>refine⟨b,o,c,rfl,?_,ψ h⟩;unfold Fz;change W.heap[b]?=_ at e;rw[e]
 cases h
theorem Fz.cells{W:MN}{n:Nat}(h:W.cells? 0 a n=some cs)(s:0<n):∃b o c,a=⟨b,o,none⟩/\Fz W b=some c/\cut c o n=cs:=by
 have⟨_,t,p⟩:=World.cells?_some h;have h0:=p 0 s;rw[YS ω]at h0;have⟨b,o,c,e,l,_⟩:=Fz.cell h0;have⟨r,m,sp⟩:=a;rw[show YH ⟨r,m,sp⟩ 0=⟨r,m,sp⟩from rfl]at e;cases e;refine⟨b,o,c,rfl,l,?_⟩;have f:∀i,i<n->c[o+i]?=cs[i]?:=λi hi=>by have h1:=p i hi;rw[YS ω]at h1 ⊢;have⟨b2,u,c2,q,k,h2⟩:=Fz.cell h1;rw[zl]at q;cases q;rw[l]at k;cases k;exact h2
 unfold cut;apply List.ext_getElem?;intro i;by_cases hi:i<n;rw[zae,if_pos hi,zau,<-f i hi];simp;rw[zae,if_neg hi,List.getElem?_eq_none ω]
def KQ{α:Type}{Q:Nat->α->Prop}(n:Nat)(h:∀i,i<n->∃z,Q i z):∃xs:List α,DB xs=n/\∀i (hi:i<DB xs),Q i xs[i]:=by refine⟨List.ofFn λi:Fin n=>Classical.choose (h i i.2),ξ,λi hi=>?_⟩;rw[List.getElem_ofFn];exact Classical.choose_spec (h i (ψ hi))
section
variable {H : Type} {enc : N4 × Value -> H} {P : EM} {W : MN} {sp : Nat -> Bool} {held : Bool}
def kw(P:EM)(t:N4)(d:DataW H):Prop:=∀n∈d.weights P t,n<=reachBytes
def Hd{e:N4}{y:DataW H}:∀{l:List (DataW H)},y∈l->∀n∈y.weights P e,n∈DataW.weightsAll P e l
 |x::l,b,n,hn=>by unfold DataW.weightsAll;obtain rfl|b:=YT.1 b;exact YV _ hn;exact ZH _ (Hd b n hn)
def Da{T:Ty}{x:DataW H×List MemPlace}(ht:P.underlying t=some (.slice e))(hz:P.cellsOf e=sz T)(hp:0<sz T)(hby:0<P.bytesOf e) (hel : ∀ n,n<fuel->∀ cs y,DataW.trod enc P W 0 sp held n e cs=some y->kw P e y.1->∃ z:El T,Rd (Fz W) T z cs)(h:DataW.trod enc P W 0 sp held fuel t cs=some x) (hw:kw P t x.1) : ∃ xs:List (El T),Rd (Fz W) (.row T) xs cs:=by
 obtain⟨rfl,_⟩ | ⟨a,len,cap,elems,rest,n,rfl,rfl,hx,_,hlc,hcap,hlen,hi,_,_⟩:=DataW.trod_slice ht h;exact ⟨[],_,rfl,none,0,rfl,⟨ξ,ξ⟩,.inl rfl⟩
 ·have l : ∀ m, m = ((DB elems) + (DB rest)) * P.bytesOf e \/ m ∈ DataW.weightsAll P e (elems.map (·.1)) -> m <= reachBytes := λm hm => hw m (by rw [hx];unfold DataW.weights;rw [ht];simp only [YT, ZF, List.length_map];obtain hm | hm:=hm;exact .inl hm;exact .inr (.inl hm));have r : len <= 140737488355328 := by
   have h1:=l _ (.inl rfl);have h2:elems.length+DB rest<=(DB elems+DB rest) * P.bytesOf e:=Nat.le_mul_of_pos_right _ hby;have h3:reachBytes<=140737488355328:=ζ
   omega
  have key : ∀ i,i<len->∃ z:El T,∃ b o c,a.add (i * sz T)=⟨b,o,none⟩/\Fz W b=some c/\Rd (Fz W) T z (cut c o (sz T)):=λi d=>by have h1:=hi i d;rw [YS ω,Option.bind_eq_some_iff] at h1;obtain ⟨cc,h2,h3⟩:=h1;rw [hz] at h2;obtain ⟨b,o,c,e1,e2,e3⟩:=Fz.cells h2 hp;obtain ⟨z,hz⟩:=hel n ω _ _ h3 λm hm=>l m (.inr (Hd (zab.2 ⟨elems[i],YY ω,rfl⟩) m hm));exact ⟨z,b,o,c,e1,e2,by rw [e3];exact hz⟩
  obtain ⟨xs,p,g⟩:=KQ len key;subst p;refine ⟨xs,_,rfl,some a,cap,rfl,⟨ω,hlc⟩,?_⟩;by_cases h0:xs.length=0;exact .inl (ZU h0);obtain ⟨b,o,c,e1,e2,_⟩:=g 0 ω;obtain ⟨ab,ao,k⟩:=a;rw [Nat.zero_mul,show YH ⟨ab,ao,k⟩ 0=⟨ab,ao,k⟩ from rfl] at e1;cases e1;refine .inr ⟨b,o,c,rfl,e2,λi d=>?_⟩;obtain ⟨b',o',c',f,j,q⟩:=g i d;rw [zl] at f;cases f;rw [e2] at j;cases j;simpa using q
def TB{x:DataW H×List MemPlace}(b:P.underlying t=some .string)(h:DataW.trod enc P W 0 sp held fuel t cs=some x):∃s:El .str,Rd (Fz W) .str s cs:=by obtain⟨s,rfl,_,_⟩:=DataW.trod_string b h;exact⟨s,rfl⟩
def NY{k:IntKind}{x:DataW H×List MemPlace}(b:P.underlying t=some (.int k))(h:DataW.trod enc P W 0 sp held fuel t cs=some x):∃s:El (.int k),Rd (Fz W) (.int k) s cs:=by obtain⟨s,rfl,_,_⟩:=DataW.trod_int b h;exact⟨s,rfl⟩
def KT{x:DataW H×List MemPlace}(k:P.underlying t=some (.slice e))(f:P.underlying e=some .string)(l:P.cellsOf e=1)(b:0<P.bytesOf e)(h:DataW.trod enc P W 0 sp held fuel t cs=some x) (c:kw P t x.1):∃xs:List ByteArray,Rd (Fz W) (.row .str) xs cs:=
 Da (T:=.str) k l ζ b (λn _ cs y i _=>TB f i) h c
end
def U3{f:FuncId}{W:MN}{args:List Arg}{vs:ab3}(H:PC P (Fz W) f args [.bool] (λr=>r=true))(i:iy (Fz W) args vs.toList):Calls P f vs W λe w'=>e=.returned (.bool true)/\Below W.heap.size W w':=by have c:=H W.heap (Fz W) vs.toList (Fr.le.refl _) (Fz.ag W) i;rw[Array.toArray_toList]at c;refine(c W W.drawn).mono ?_;rintro e w' ⟨v,l,h',rfl,rfl,k,M',r,_,_,_,h,b⟩;have b:r=true:=b;subst b;rw[ez h];exact⟨rfl,rfl,rfl,rfl,k.size,k.get⟩
theorem Fz.var{W:MN}{n:String}{g:Nat}{cs:ab3}(b:P.globalNamed n=some g)(h:W.var? P n=some cs):Fz W g=some cs:=by unfold World.var? at h;rw[b]at h;exact h
end
end
end Go.X
namespace Go.Proofs
section
theorem Tryz.mixed:ZM.follows .mixedOrders=true:=κ
noncomputable abbrev Tp:= ZM
end
end Go.Proofs
namespace Go.X
section
section
def PF{gl:Fr}{args:List Arg}{f:FuncId}{fn:Func}{rt:List Ty}{R:eX rt->Prop}{F:Prop}(pl:PlanA)(rs:List ResultVar)(n:Nat)(b:ZM.funcs[f]?=Td fn)(H:F)(h:Ys fn=Ta:=by kernel_rfl)(c:fn.results.toList=rs:=by kernel_rfl)(i:fn.ntmps=n:=by kernel_rfl)(k:Nat.ble (DB args) n=Ta:=by kernel_rfl)(e:F=WA Tp gl 25 n pl (codeOf fn) [] (xZ Tp rs rt R) (k0 0 args) []:=by kernel_rfl):PC Tp gl f args rt R:=XL Tryz.mixed gl 25 pl args b h c i k H e
abbrev aa6(s:ByteArray):Value:=.string s
abbrev aa9(b:Bool):Value:=.bool b
abbrev aa7(a:_root_.Go.Addr):Value:=.pointer (Td a)
abbrev ab0(n:Int):Value:=.int .i64 n
abbrev aa8(h:Array Obj):_root_.Go.Addr:=⟨h.size,0,Te⟩
abbrev ac8:ByteArray:=⟨#[48,49,50,51,52,53,54,55,56,57]⟩
abbrev ac9:ByteArray:=⟨#[48,49,50,51,52,53,54,55,56,57,97,98,99,100,101,102]⟩
abbrev ad0:ByteArray:=⟨#[45,43,46,48,49,50,51,52,53,54,55,56,57,101,69]⟩
abbrev ad1:ByteArray:=⟨#[48,49,50,51,52,53,54,55,56,57,97,98,99,100,101,102,103,104,105,106,107,108,109,110,111,112,113,114,115,116,117,118,119,120,121,122]⟩
abbrev ad2:ByteArray:=⟨#[97,98,99,100,101,102,103,104,105,106,107,108,109,110,111,112,113,114,115,116,117,118,119,120,121,122]⟩
abbrev ad3:ByteArray:=⟨#[34,92,47,98,102,110,114,116]⟩
def Nc(gl:Fr)(h:Tr)(b1:Tr)(R:ac4) (H:((cond (cond (cond (h.Wf != b1.Wf) Ta (!(h.aa0.toList==b1.aa0.toList))) Ta ((h.XK.length:Int) != (b1.XK.length:Int))) Ta ((h.WT.length:Int) != (b1.WT.length:Int)))=Ta->R Tc)/\((cond (cond (cond (h.Wf != b1.Wf) Ta (!(h.aa0.toList==b1.aa0.toList))) Ta ((h.XK.length:Int) != (b1.XK.length:Int))) Ta ((h.WT.length:Int) != (b1.WT.length:Int)))=Tc->∃(a:ac6) (b:Int->Nat),a 0/\∀c:Int,a c->((hV (c<h.XK.length)=Ta->∃d,(0<=c/\h.XK[c.toNat]?=Td d)/\∃e,(0<=c/\b1.XK[c.toNat]?=Td e)/\((!(d.toList==e.toList))=Ta->R Tc)/\((!(d.toList==e.toList))=Tc->(a (p3 (c+1))/\b (p3 (c+1))<b c)))/\(hV (c<h.XK.length)=Tc->∃(f:ac6) (g:Int->Nat),f 0/\∀i:Int,f i->((hV (i<h.WT.length)=Ta->∃j,(0<=i/\h.WT[i.toNat]?=Td j)/\∃k,(0<=i/\b1.WT[i.toNat]?=Td k)/\PC Tp gl 17 [qr .tree (Tr.mk j.Wf j.aa0 j.XK j.WT),qr .tree (Tr.mk k.Wf k.aa0 k.XK k.WT)] [.bool] (λl:Bool=>((!l)=Ta->R Tc)/\((!l)=Tc->(f (p3 (i+1))/\g (p3 (i+1))<g i))))/\(hV (i<h.WT.length)=Tc->R Ta)))))):PC Tp gl 17 [qr .tree h,qr .tree b1] [.bool] R:=PF ⟨[(11,10)],[],[(4,⟨[(5,.one (.dat q0))],[],[2,3],[100320]⟩),(9,⟨[(6,.one (.dat q0))],[],[2,3],[100384]⟩)],[]⟩ [.tmp 4] 76 func17 H
def TY(gl:Fr)(b:List Bt)(c:List Tr)(R:Tr->Prop) (H:R (Tr.mk 6 (⟨#[]⟩:Bt) b c)):PC Tp gl 47 [qr (.row .str) b,qr (.row .tree) c] [.tree] R:=PF ⟨[],[],[],[]⟩ [.cell 4 25] 8 func47 H
def JB(gl:Fr)(b:List Tr)(R:Tr->Prop) (H:R (Tr.mk 5 (⟨#[]⟩:Bt) [] b)):PC Tp gl 52 [qr (.row .tree) b] [.tree] R:=PF ⟨[],[],[],[]⟩ [.cell 2 25] 5 func52 H
def NT(gl:Fr)(n0:Int)(R:Tr->Prop) (H:PC Tp gl 93 [qr q0 n0] [.pair .bool (.pair .str (.int .i64))] (λa:Bool×Bt×Int=>PC Tp gl 92 [qr (.pair .bool (.pair .str (.int .i64))) (a.1,(a.2.1,a.2.2))] [.str] (λb:Bt=>R (Tr.mk 3 b [] [])))):PC Tp gl 51 [qr q0 n0] [.tree] R:=PF ⟨[],[],[],[]⟩ [.cell 2 25] 7 func51 H
def XV(gl:Fr)(f:Tr)(R:ac4) (H:PC Tp gl 102 [qr .tree (Tr.mk f.Wf f.aa0 f.XK f.WT)] [.int .i64] (λa:Int=>∃b:Int->Prop,(hV (a<=4096)=Ta->PC Tp gl 103 [qr .tree (Tr.mk f.Wf f.aa0 f.XK f.WT)] [.int .i64] b)/\∀c:Int,(hV (a<=4096)=Ta->b c)->∃d:Bool->Prop,((cond (hV (a<=4096)) (hV (c<=32)) Tc)=Ta->PC Tp gl 104 [qr .tree (Tr.mk f.Wf f.aa0 f.XK f.WT),qr .bool Ta] [.bool] d)/\∀e:Bool,((cond (hV (a<=4096)) (hV (c<=32)) Tc)=Ta->d e)->R (cond (cond (hV (a<=4096)) (hV (c<=32)) Tc) e Tc))):PC Tp gl 106 [qr .tree f] [.bool] R:=PF ⟨[],[],[],[]⟩ [.tmp 2] 15 func106 H
def Lp(gl:Fr)(f:Bt)(R:(Int×Bool)->Prop) (H:∃(a:ac6) (b:Int->Nat),a 0/\∀c:Int,a c->((hV (c<f.size)=Ta->PC Tp gl 258 [qr .str f,qr q0 c] [.bool] (λd:Bool=>((!d)=Ta->R (c,Tc))/\((!d)=Tc->PC Tp gl 259 [qr .str f,qr q0 c] [.int .i32,.int .i64] (λe:Int×Int=>(a (p3 (c+e.2))/\b (p3 (c+e.2))<b c)))))/\(hV (c<f.size)=Tc->R ((f.size:Int),Ta)))):PC Tp gl 203 [qr .str f] [.int .i64,.bool] R:=PF ⟨[],[],[(2,⟨[(4,.one (.dat q0))],[],[],[100256]⟩)],[]⟩ [.tmp 2,.tmp 3] 29 func203 H
def S7(gl:Fr)(n0:Bool×Bt×Int)(R:Bt->Prop) (H:PC Tp gl 158 [qr (.pair .bool (.pair .str (.int .i64))) (n0.1,(n0.2.1,n0.2.2))] [.bool] (λa:Bool=>((!a)=Ta->R (⟨#[]⟩:Bt))/\((!a)=Tc->((n0.2.1.toList==(⟨#[]⟩:Bt).toList)=Ta->R (⟨#[48]⟩:Bt))/\((n0.2.1.toList==(⟨#[]⟩:Bt).toList)=Tc->∀b:Bt->Prop,(∀c:Bt,(((n0.2.2 != 0)=Ta->PC Tp gl 159 [qr q0 n0.2.2] [.str] (λd:Bt=>qb (((⟨#[101]⟩:Bt)).size+d.size)/\qb (c.size+((⟨#[101]⟩:Bt)++d).size)/\R (c++((⟨#[101]⟩:Bt)++d))))/\((n0.2.2 != 0)=Tc->R c))->b c)->(n0.1=Ta->qb (((⟨#[45]⟩:Bt)).size+n0.2.1.size)/\b ((⟨#[45]⟩:Bt)++n0.2.1))/\(n0.1=Tc->b n0.2.1))))):PC Tp gl 92 [qr (.pair .bool (.pair .str (.int .i64))) n0] [.str] R:=PF ⟨[],[],[],[(8,⟨[(3,.one (.dat .str))],[],[1],[100192]⟩)]⟩ [.tmp 2] 26 func92 H
def JV(gl:Fr)(n0:Int)(R:(Bool×Bt×Int)->Prop) (H:PC Tp gl 159 [qr q0 n0] [.str] (λa:Bt=>PC Tp gl 160 [qr .str a] [.pair .bool (.pair .str (.int .i64)),.int .i64] (λb:(Bool×Bt×Int)×Int=>R (b.1.1,(b.1.2.1,b.1.2.2))))):PC Tp gl 93 [qr q0 n0] [.pair .bool (.pair .str (.int .i64))] R:=PF ⟨[],[],[],[]⟩ [.cell 2 110] 12 func93 H
def OU(gl:Fr)(f:Bt)(R:(Int×Bool)->Prop) (H:PC Tp gl 246 [qr .str f] [.bool] (λa:Bool=>(a=Ta->R ((f.size:Int),Ta))/\(a=Tc->∃(b:(Bt×Nat)->Prop) (c:(Bt×Nat)->Nat),b (f,0)/\∀e:Bt×Nat,b e->(((fe e.1 e.2)=Ta->(fe e.1 e.2)=Ta/\(fe e.1 e.2)=Ta/\(((gg e.1 e.2:Int) != 65533)=Ta->(b (e.1,fp e.1 e.2)/\c (e.1,fp e.1 e.2)<c e))/\(((gg e.1 e.2:Int) != 65533)=Tc->(0<=(e.2:Int)/\(e.2:Int)<=(f.size:Int)/\(f.size:Int)<=(f.size:Int))/\PC Tp gl 247 [qr .str (f.extract (e.2:Int).toNat (f.size:Int).toNat)] [.int .i32,.int .i64] (λd:Int×Int=>((d.2==1)=Ta->R ((e.2:Int),Tc))/\((d.2==1)=Tc->(b (e.1,fp e.1 e.2)/\c (e.1,fp e.1 e.2)<c e)))))/\((fe e.1 e.2)=Tc->R ((f.size:Int),Ta)))))):PC Tp gl 196 [qr .str f] [.int .i64,.bool] R:=PF ⟨[],[],[(4,⟨[],[(13,[.dat .iter])],[],[1000832]⟩)],[]⟩ [.tmp 2,.tmp 3] 32 func196 H
def Ka(gl:Fr)(e:Tr)(R:ac4) (H:PC Tp gl 43 [qr .tree (Tr.mk e.Wf e.aa0 e.XK e.WT)] [.int .i64] (λa:Int=>∃b:Int->Prop,(hV (a<=4096)=Ta->PC Tp gl 144 [qr .tree (Tr.mk e.Wf e.aa0 e.XK e.WT)] [.int .i64] b)/\∀c:Int,(hV (a<=4096)=Ta->b c)->R (cond (hV (a<=4096)) (hV (c<=32)) Tc))):PC Tp gl 86 [qr .tree e] [.bool] R:=PF ⟨[],[],[],[]⟩ [.tmp 2] 11 func86 H
def PT(gl:Fr)(e:Tr)(R:ac4) (H:((e.Wf==5)=Ta->R (cond (!(hV ((e.XK.length:Int)>0))) (e.aa0.toList==(⟨#[]⟩:Bt).toList) Tc))/\((e.Wf==5)=Tc->((e.Wf==6)=Ta->PC Tp gl 147 [qr (.row .str) e.XK,qr q0 (e.WT.length:Int)] [.bool] (λa:Bool=>R (cond a (e.aa0.toList==(⟨#[]⟩:Bt).toList) Tc)))/\((e.Wf==6)=Tc->((cond (hV ((e.XK.length:Int)>0)) Ta (hV ((e.WT.length:Int)>0)))=Ta->R Tc)/\((cond (hV ((e.XK.length:Int)>0)) Ta (hV ((e.WT.length:Int)>0)))=Tc->((e.Wf==1)=Ta->R (e.aa0.toList==(⟨#[]⟩:Bt).toList))/\((e.Wf==1)=Tc->((e.Wf==2)=Ta->R (cond (e.aa0.toList==(⟨#[116,114,117,101]⟩:Bt).toList) Ta (e.aa0.toList==(⟨#[102,97,108,115,101]⟩:Bt).toList)))/\((e.Wf==2)=Tc->((e.Wf==3)=Ta->PC Tp gl 148 [qr .str e.aa0] [.pair .bool (.pair .str (.int .i64)),.bool] (λb:(Bool×Bt×Int)×Bool=>R b.2))/\((e.Wf==3)=Tc->((e.Wf==4)=Ta->PC Tp gl 149 [qr .str e.aa0] [.bool] (λc:Bool=>R c))/\((e.Wf==4)=Tc->((e.Wf==7)=Ta->PC Tp gl 150 [qr .str e.aa0] [.bool] (λd:Bool=>R d))/\((e.Wf==7)=Tc->R Tc))))))))):PC Tp gl 89 [qr .tree e] [.bool] R:=PF ⟨[],[],[],[]⟩ [.tmp 2] 79 func89 H
def U0(gl:Fr)(h:Tr)(R:ac6) (H:∃(a:Int->Int->Prop) (b:Int->Int->Nat),a 1 0/\∀c d:Int,a c d->((hV (d<h.WT.length)=Ta->∃e,(0<=d/\h.WT[d.toNat]?=Td e)/\PC Tp gl 102 [qr .tree (Tr.mk e.Wf e.aa0 e.XK e.WT)] [.int .i64] (λf:Int=>(a (p3 (c+f)) (p3 (d+1))/\b (p3 (c+f)) (p3 (d+1))<b c d)))/\(hV (d<h.WT.length)=Tc->R c))):PC Tp gl 102 [qr .tree h] [.int .i64] R:=PF ⟨[],[],[(3,⟨[(3,.one (.dat q0)),(4,.one (.dat q0))],[],[1],[100192,100256]⟩)],[]⟩ [.tmp 2] 21 func102 H
def VI(gl:Fr)(h:Tr)(R:ac6) (H:∃(a:Int->Int->Prop) (b:Int->Int->Nat),a 0 0/\∀c d:Int,a c d->((hV (d<h.WT.length)=Ta->∃e,(0<=d/\h.WT[d.toNat]?=Td e)/\PC Tp gl 103 [qr .tree (Tr.mk e.Wf e.aa0 e.XK e.WT)] [.int .i64] (λf:Int=>(a (ite (c<f) f c) (p3 (d+1))/\b (ite (c<f) f c) (p3 (d+1))<b c d)))/\(hV (d<h.WT.length)=Tc->R (p3 (c+1))))):PC Tp gl 103 [qr .tree h] [.int .i64] R:=PF ⟨[],[],[(3,⟨[(3,.one (.dat q0)),(4,.one (.dat q0))],[],[1],[100192,100256]⟩)],[]⟩ [.tmp 2] 22 func103 H
def OX(gl:Fr)(i:Tr)(h:Bool)(R:ac4) (H:PC Tp gl 163 [qr .tree (Tr.mk i.Wf i.aa0 i.XK i.WT)] [.bool] (λa:Bool=>((cond (!a) Ta (cond (i.Wf==7) (!h) Tc))=Ta->R Tc)/\((cond (!a) Ta (cond (i.Wf==7) (!h) Tc))=Tc->∃(b:ac6) (c:Int->Nat),b 0/\∀d:Int,b d->((hV (d<i.WT.length)=Ta->∃e,(0<=d/\i.WT[d.toNat]?=Td e)/\PC Tp gl 104 [qr .tree (Tr.mk e.Wf e.aa0 e.XK e.WT),qr .bool h] [.bool] (λf:Bool=>((!f)=Ta->R Tc)/\((!f)=Tc->(b (p3 (d+1))/\c (p3 (d+1))<c d))))/\(hV (d<i.WT.length)=Tc->R Ta))))):PC Tp gl 104 [qr .tree i,qr .bool h] [.bool] R:=PF ⟨[],[],[(5,⟨[(6,.one (.dat q0))],[],[2],[100384]⟩)],[]⟩ [.tmp 4] 37 func104 H
def Sz(gl:Fr)(c:Bt)(b:Int)(R:ac4) (H:PC Tp gl 259 [qr .str c,qr q0 b] [.int .i32,.int .i64] (λa:Int×Int=>R (cond (hV (a.2>0)) (!(cond (a.1==65533) (a.2==1) Tc)) Tc))):PC Tp gl 258 [qr .str c,qr q0 b] [.bool] R:=PF ⟨[],[],[],[]⟩ [.tmp 4] 24 func258 H
def KL(gl:Fr)(m:Bt)(h:Int)(R:(Int×Int)->Prop) (H:((cond (hV (h<0)) Ta (hV (h>=m.size)))=Ta->R (0,0))/\((cond (hV (h<0)) Ta (hV (h>=m.size)))=Tc->(0<=h/\h<m.size)/\PC Tp gl 309 [qr q0 (p3 (ze m h.toNat))] [.int .i64] (λa:Int=>((cond (a==0) Ta (hV (a>(p3 ((m.size:Int)-h)))))=Ta->R (65533,1))/\((cond (a==0) Ta (hV (a>(p3 ((m.size:Int)-h)))))=Tc->(0<=h/\h<m.size)/\∀b:Int->Prop,(∀c:Int,(∀d:Int->Prop,(∀e:Int,(∀f:Int->Prop,(∀g:Int,(∃(i:Int->Int->Prop) (j:Int->Int->Nat),i g 1/\∀k l:Int,i k l->((hV (l<a)=Ta->(0<=(p3 (h+l))/\(p3 (h+l))<(m.size:Int))/\((cond (hV ((p3 (ze m (p3 (h+l):Int).toNat))<128)) Ta (hV ((p3 (ze m (p3 (h+l):Int).toNat))>191)))=Ta->R (65533,1))/\((cond (hV ((p3 (ze m (p3 (h+l):Int).toNat))<128)) Ta (hV ((p3 (ze m (p3 (h+l):Int).toNat))>191)))=Tc->(i (p3 ((p3 ((p3 (64*k))+(p3 (ze m (p3 (h+l)).toNat))))-128)) (p3 (l+1))/\j (p3 ((p3 ((p3 (64*k))+(p3 (ze m (p3 (h+l)).toNat))))-128)) (p3 (l+1))<j k l)))/\(hV (l<a)=Tc->((cond (cond (cond (cond (a==3) (hV (k<2048)) Tc) Ta (cond (a==4) (hV (k<65536)) Tc)) Ta (hV (k>1114111))) Ta (cond (hV (k>=55296)) (hV (k<57344)) Tc))=Ta->R (65533,1))/\((cond (cond (cond (cond (a==3) (hV (k<2048)) Tc) Ta (cond (a==4) (hV (k<65536)) Tc)) Ta (hV (k>1114111))) Ta (cond (hV (k>=55296)) (hV (k<57344)) Tc))=Tc->R (YG .i32 k,a)))))->f g)->((a==4)=Ta->f (p3 (e-240)))/\((a==4)=Tc->f e))->d e)->((a==3)=Ta->d (p3 (c-224)))/\((a==3)=Tc->d c))->b c)->((a==2)=Ta->b (p3 ((p3 (ze m h.toNat))-192)))/\((a==2)=Tc->b (p3 (ze m h.toNat))))))):PC Tp gl 259 [qr .str m,qr q0 h] [.int .i32,.int .i64] R:=PF ⟨[],[],[(14,⟨[(7,.one (.dat q0)),(8,.one (.dat q0))],[],[],[100448,100512]⟩)],[(9,⟨[(7,.one (.dat q0))],[],[],[100448]⟩),(11,⟨[(7,.one (.dat q0))],[],[],[100448]⟩),(13,⟨[(7,.one (.dat q0))],[],[],[100448]⟩)]⟩ [.tmp 4,.tmp 5] 100 func259 H
def R9(gl:Fr)(n0:Bool×Bt×Int)(R:ac4) (H:(((n0.1==Tc)&&((n0.2.1.toList==(⟨#[]⟩:Bt).toList)&&((n0.2.2==0)&&Ta)))=Ta->R Ta)/\(((n0.1==Tc)&&((n0.2.1.toList==(⟨#[]⟩:Bt).toList)&&((n0.2.2==0)&&Ta)))=Tc->PC Tp gl 215 [qr .str n0.2.1] [.bool] (λa:Bool=>((!a)=Ta->((!a)=Ta->R Tc)/\((!a)=Tc->R (cond (hV (n0.2.2>=(-1000000))) (hV (n0.2.2<=1000000)) Tc)))/\((!a)=Tc->(hV ((n0.2.1.size:Int)>1000)=Ta->(hV ((n0.2.1.size:Int)>1000)=Ta->R Tc)/\(hV ((n0.2.1.size:Int)>1000)=Tc->R (cond (hV (n0.2.2>=(-1000000))) (hV (n0.2.2<=1000000)) Tc)))/\(hV ((n0.2.1.size:Int)>1000)=Tc->(0<=(0:Int)/\(0:Int)<(n0.2.1.size:Int))/\(((ze n0.2.1 (0:Int).toNat:Int)==48)=Ta->(((ze n0.2.1 (0:Int).toNat:Int)==48)=Ta->R Tc)/\(((ze n0.2.1 (0:Int).toNat:Int)==48)=Tc->R (cond (hV (n0.2.2>=(-1000000))) (hV (n0.2.2<=1000000)) Tc)))/\(((ze n0.2.1 (0:Int).toNat:Int)==48)=Tc->(0<=(p3 ((n0.2.1.size:Int)-1))/\(p3 ((n0.2.1.size:Int)-1))<(n0.2.1.size:Int))/\(((ze n0.2.1 (p3 ((n0.2.1.size:Int)-1)).toNat:Int)==48)=Ta->R Tc)/\(((ze n0.2.1 (p3 ((n0.2.1.size:Int)-1)).toNat:Int)==48)=Tc->R (cond (hV (n0.2.2>=(-1000000))) (hV (n0.2.2<=1000000)) Tc)))))))):PC Tp gl 158 [qr (.pair .bool (.pair .str (.int .i64))) n0] [.bool] R:=PF ⟨[],[],[],[]⟩ [.tmp 2] 34 func158 H
def XR(gl:Fr)(r:Bt)(R:((Bool×Bt×Int)×Int)->Prop) (H:PC Tp gl 217 [qr .str r] [.pair .bool (.pair .bool (.pair .str (.pair .str .str))),.bool] (λa:(Bool×Bool×Bt×Bt×Bt)×Bool=>PC Tp gl 218 [qr .str a.1.2.2.2.2,qr .str (⟨#[48]⟩:Bt)] [.str] (λb:Bt=>((!a.2)=Ta->R ((Tc,((⟨#[]⟩:Bt),0)),2))/\((!a.2)=Tc->((hV ((p3 ((a.1.2.2.1.size:Int)+(a.1.2.2.2.1.size:Int)))>1000))=Ta->R ((Tc,((⟨#[]⟩:Bt),0)),3))/\((hV ((p3 ((a.1.2.2.1.size:Int)+(a.1.2.2.2.1.size:Int)))>1000))=Tc->(hV ((b.size:Int)>9)=Ta->R ((Tc,((⟨#[]⟩:Bt),0)),4))/\(hV ((b.size:Int)>9)=Tc->∃(c:Int->Bool->Bt->Int->(Bt×Nat)->Prop) (d:Int->Bool->Bt->Int->(Bt×Nat)->Nat),c 0 Tc (⟨#[]⟩:Bt) 0 (b,0)/\∀e:Int,∀m:Bool,∀l:Bt,∀n:Int,∀h:Bt×Nat,c e m l n h->(((fe h.1 h.2)=Ta->(fe h.1 h.2)=Ta/\(c (p3 ((p3 (10*e))+(p3 (YG .i32 ((gg h.1 h.2)-48))))) m l n (h.1,fp h.1 h.2)/\d (p3 ((p3 (10*e))+(p3 (YG .i32 ((gg h.1 h.2)-48))))) m l n (h.1,fp h.1 h.2)<d e m l n h))/\((fe h.1 h.2)=Tc->∀f:Int->Bool->Bt->Int->Prop,(∀g:Int,∀o:Bool,∀q:Bt,∀p:Int,(qb (a.1.2.2.1.size+a.1.2.2.2.1.size)/\PC Tp gl 218 [qr .str (a.1.2.2.1++a.1.2.2.2.1),qr .str (⟨#[48]⟩:Bt)] [.str] (λi:Bt=>((i.toList==(⟨#[]⟩:Bt).toList)=Ta->R ((Tc,((⟨#[]⟩:Bt),0)),0))/\((i.toList==(⟨#[]⟩:Bt).toList)=Tc->PC Tp gl 219 [qr .str i,qr .str (⟨#[48]⟩:Bt)] [.str] (λj:Bt=>PC Tp gl 158 [qr (.pair .bool (.pair .str (.int .i64))) (a.1.1,(j,p3 ((p3 ((p3 (g-(a.1.2.2.2.1.size:Int)))+(i.size:Int)))-(j.size:Int))))] [.bool] (λk:Bool=>((!k)=Ta->R ((Tc,((⟨#[]⟩:Bt),0)),4))/\((!k)=Tc->R ((a.1.1,(j,p3 ((p3 ((p3 (g-(a.1.2.2.2.1.size:Int)))+(i.size:Int)))-(j.size:Int)))),0)))))))->f g o q p)->(a.1.2.1=Ta->f (p3 (0-e)) m l n)/\(a.1.2.1=Tc->f e m l n))))))))):PC Tp gl 160 [qr .str r] [.pair .bool (.pair .str (.int .i64)),.int .i64] R:=PF ⟨[],[],[(11,⟨[(7,.one (.dat q0))],[(2,[.dat .bool,.dat .str,.dat q0]),(41,[.dat .iter])],[4],[100448,1000128,1000129,1000130,1002624]⟩)],[(16,⟨[(7,.one (.dat q0))],[(2,[.dat .bool,.dat .str,.dat q0])],[4],[100448,1000128,1000129,1000130]⟩)]⟩ [.cell 2 110,.tmp 3] 86 func160 H
def Pf(gl:Fr)(h:Tr)(R:ac6) (H:∃(a:Int->Int->Prop) (b:Int->Int->Nat),a 1 0/\∀c d:Int,a c d->((hV (d<h.WT.length)=Ta->∃e,(0<=d/\h.WT[d.toNat]?=Td e)/\PC Tp gl 43 [qr .tree (Tr.mk e.Wf e.aa0 e.XK e.WT)] [.int .i64] (λf:Int=>(a (p3 (c+f)) (p3 (d+1))/\b (p3 (c+f)) (p3 (d+1))<b c d)))/\(hV (d<h.WT.length)=Tc->R c))):PC Tp gl 43 [qr .tree h] [.int .i64] R:=PF ⟨[],[],[(3,⟨[(3,.one (.dat q0)),(9,.one (.dat q0))],[],[],[100192,100576]⟩)],[]⟩ [.tmp 2] 19 func43 H
def WK(gl:Fr)(h:Tr)(R:ac6) (H:∃(a:Int->Int->Prop) (b:Int->Int->Nat),a 0 0/\∀c d:Int,a c d->((hV (d<h.WT.length)=Ta->∃e,(0<=d/\h.WT[d.toNat]?=Td e)/\PC Tp gl 144 [qr .tree (Tr.mk e.Wf e.aa0 e.XK e.WT)] [.int .i64] (λf:Int=>(a (ite (c<f) f c) (p3 (d+1))/\b (ite (c<f) f c) (p3 (d+1))<b c d)))/\(hV (d<h.WT.length)=Tc->R (p3 (c+1))))):PC Tp gl 144 [qr .tree h] [.int .i64] R:=PF ⟨[],[],[(3,⟨[(3,.one (.dat q0)),(9,.one (.dat q0))],[],[],[100192,100576]⟩)],[]⟩ [.tmp 2] 20 func144 H
def VK(gl:Fr)(b:Bt)(R:ac4) (H:PC Tp gl 196 [qr .str b] [.int .i64,.bool] (λa:Int×Bool=>R a.2)):PC Tp gl 149 [qr .str b] [.bool] R:=PF ⟨[],[],[],[]⟩ [.tmp 2] 11 func149 H
def Lj(gl:Fr)(c:Bt)(R:ac4) (H:PC Tp gl 148 [qr .str c] [.pair .bool (.pair .str (.int .i64)),.bool] (λa:(Bool×Bt×Int)×Bool=>PC Tp gl 209 [qr (.pair .bool (.pair .str (.int .i64))) (a.1.1,(a.1.2.1,a.1.2.2))] [.int .i64,.bool] (λb:Int×Bool=>R (cond (cond a.2 b.2 Tc) (hV (b.1>=0)) Tc)))):PC Tp gl 150 [qr .str c] [.bool] R:=PF ⟨[],[],[],[]⟩ [.tmp 2] 25 func150 H
def JU(gl:Fr)(h:Tr)(R:ac4) (H:((cond (cond (h.Wf != 6) (hV ((h.XK.length:Int)>0)) Tc) Ta (cond (cond (h.Wf != 6) (h.Wf != 5) Tc) (hV ((h.WT.length:Int)>0)) Tc))=Ta->R Tc)/\((cond (cond (h.Wf != 6) (hV ((h.XK.length:Int)>0)) Tc) Ta (cond (cond (h.Wf != 6) (h.Wf != 5) Tc) (hV ((h.WT.length:Int)>0)) Tc))=Tc->∀a:Bool->Prop,(∀b:Bool,((b=Ta->R (h.aa0.toList==(⟨#[]⟩:Bt).toList))/\(b=Tc->((h.Wf==2)=Ta->R (cond (h.aa0.toList==(⟨#[116,114,117,101]⟩:Bt).toList) Ta (h.aa0.toList==(⟨#[102,97,108,115,101]⟩:Bt).toList)))/\((h.Wf==2)=Tc->((h.Wf==3)=Ta->PC Tp gl 223 [qr .str h.aa0] [.pair .bool (.pair .str (.int .i64)),.bool] (λc:(Bool×Bt×Int)×Bool=>R c.2))/\((h.Wf==3)=Tc->((h.Wf==4)=Ta->PC Tp gl 224 [qr .str h.aa0] [.bool] (λd:Bool=>R d))/\((h.Wf==4)=Tc->((h.Wf==7)=Ta->PC Tp gl 223 [qr .str h.aa0] [.pair .bool (.pair .str (.int .i64)),.bool] (λe:(Bool×Bt×Int)×Bool=>PC Tp gl 225 [qr (.pair .bool (.pair .str (.int .i64))) (e.1.1,(e.1.2.1,e.1.2.2))] [.int .i64,.bool] (λf:Int×Bool=>R (cond (cond e.2 f.2 Tc) (hV (f.1>=0)) Tc))))/\((h.Wf==7)=Tc->((h.Wf==6)=Ta->∃(g:ac6) (i:Int->Nat),g 0/\∀j:Int,g j->((hV (j<h.XK.length)=Ta->∃k,(0<=j/\h.XK[j.toNat]?=Td k)/\PC Tp gl 224 [qr .str k] [.bool] (λl:Bool=>((!l)=Ta->R Tc)/\((!l)=Tc->∃(m:ac6) (n:Int->Nat),m 0/\∀o:Int,m o->((hV (o<j)=Ta->∃p,(0<=o/\h.XK[o.toNat]?=Td p)/\∃q,(0<=j/\h.XK[j.toNat]?=Td q)/\((p.toList==q.toList)=Ta->R Tc)/\((p.toList==q.toList)=Tc->(m (p3 (o+1))/\n (p3 (o+1))<n o)))/\(hV (o<j)=Tc->(g (p3 (j+1))/\i (p3 (j+1))<i j))))))/\(hV (j<h.XK.length)=Tc->R (cond (h.aa0.toList==(⟨#[]⟩:Bt).toList) ((h.XK.length:Int)==(h.WT.length:Int)) Tc))))/\((h.Wf==6)=Tc->R Tc)))))))->a b)->((h.Wf==1)=Ta->a (h.Wf==1))/\((h.Wf==1)=Tc->a (h.Wf==5)))):PC Tp gl 163 [qr .tree h] [.bool] R:=PF ⟨[],[],[(20,⟨[(9,.one (.dat q0))],[],[1],[100576]⟩),(26,⟨[(11,.one (.dat q0))],[],[],[100704]⟩)],[(6,⟨[(39,.one (.dat .bool))],[],[1],[102496]⟩)]⟩ [.tmp 2] 135 func163 H
def JA(gl:Fr)(c0:Int)(R:ac6) (H:(hV (c0<128)=Ta->R 1)/\(hV (c0<128)=Tc->((cond (hV (c0>=194)) (hV (c0<=223)) Tc)=Ta->R 2)/\((cond (hV (c0>=194)) (hV (c0<=223)) Tc)=Tc->((cond (hV (c0>=224)) (hV (c0<=239)) Tc)=Ta->R 3)/\((cond (hV (c0>=224)) (hV (c0<=239)) Tc)=Tc->((cond (hV (c0>=240)) (hV (c0<=244)) Tc)=Ta->R 4)/\((cond (hV (c0>=240)) (hV (c0<=244)) Tc)=Tc->R 0))))):PC Tp gl 309 [qr q0 c0] [.int .i64] R:=PF ⟨[],[],[],[]⟩ [.tmp 2] 23 func309 H
def Uo(gl:Fr)(e:Bt)(R:ac4) (H:∃(a:(Bt×Nat)->Prop) (b:(Bt×Nat)->Nat),a (e,0)/\∀c:Bt×Nat,a c->(((fe c.1 c.2)=Ta->(fe c.1 c.2)=Ta/\((cond (hV ((gg c.1 c.2:Int)<48)) Ta (hV ((gg c.1 c.2:Int)>57)))=Ta->R Tc)/\((cond (hV ((gg c.1 c.2:Int)<48)) Ta (hV ((gg c.1 c.2:Int)>57)))=Tc->(a (c.1,fp c.1 c.2)/\b (c.1,fp c.1 c.2)<b c)))/\((fe c.1 c.2)=Tc->R (!(e.toList==(⟨#[]⟩:Bt).toList))))):PC Tp gl 215 [qr .str e] [.bool] R:=PF ⟨[],[],[(2,⟨[],[(6,[.dat .iter])],[],[1000384]⟩)],[]⟩ [.tmp 2] 18 func215 H
def KH(gl:Fr)(b:Bt)(R:ac4) (H:PC Tp gl 203 [qr .str b] [.int .i64,.bool] (λa:Int×Bool=>R a.2)):PC Tp gl 224 [qr .str b] [.bool] R:=PF ⟨[],[],[],[]⟩ [.tmp 2] 11 func224 H
def Vf(gl:Fr)(n0:Bool×Bt×Int)(R:(Int×Bool)->Prop) (H:PC Tp gl 279 [qr (.pair .bool (.pair .str (.int .i64))) (n0.1,(n0.2.1,n0.2.2))] [.bool] (λa:Bool=>((cond (cond (!a) Ta (hV (n0.2.2<0))) Ta (hV ((p3 ((n0.2.1.size:Int)+n0.2.2))>19)))=Ta->R (0,Tc))/\((cond (cond (!a) Ta (hV (n0.2.2<0))) Ta (hV ((p3 ((n0.2.1.size:Int)+n0.2.2))>19)))=Tc->∃(b:Int->Int->Prop) (c:Int->Int->Nat),b 0 0/\∀d e:Int,b d e->(((hV (e<(p3 ((n0.2.1.size:Int)+n0.2.2))))=Ta->∀f:Int->Prop,(∀g:Int,(zaw=zaw/\(10:Int)≠0/\((hV (d<(p3 ((p3 ((-9223372036854775808)+g)).tdiv 10))))=Ta->R (0,Tc))/\((hV (d<(p3 ((p3 ((-9223372036854775808)+g)).tdiv 10))))=Tc->(b (p3 ((p3 (10*d))-g)) (p3 (e+1))/\c (p3 ((p3 (10*d))-g)) (p3 (e+1))<c d e)))->f g)->(hV (e<n0.2.1.size)=Ta->(0<=e/\e<n0.2.1.size)/\f (p3 (YG .u8 ((ze n0.2.1 e.toNat)-48))))/\(hV (e<n0.2.1.size)=Tc->f 0))/\((hV (e<(p3 ((n0.2.1.size:Int)+n0.2.2))))=Tc->(n0.1=Ta->R (d,Ta))/\(n0.1=Tc->((d==(-9223372036854775808))=Ta->R (0,Tc))/\((d==(-9223372036854775808))=Tc->R (p3 (0-d),Ta)))))))):PC Tp gl 225 [qr (.pair .bool (.pair .str (.int .i64))) n0] [.int .i64,.bool] R:=PF ⟨[],[],[(6,⟨[(5,.one (.dat q0)),(6,.one (.dat q0))],[],[1],[100320,100384]⟩)],[(11,⟨[(7,.one (.dat q0))],[],[],[100448]⟩)]⟩ [.tmp 2,.tmp 3] 63 func225 H
def SE(gl:Fr)(e:Bt)(f:Bt)(R:(Bt×Bt×Bool)->Prop) (H:∃(a:ac6) (b:Int->Nat),a 0/\∀c:Int,a c->((hV (c<e.size)=Ta->(0<=c/\c<e.size)/\PC Tp gl 319 [qr .str f,qr (.int .u8) (ze e c.toNat)] [.int .i64] (λd:Int=>(hV (d>=0)=Ta->(0<=(0:Int)/\(0:Int)<=c/\c<=e.size)/\(0<=(p3 (c+1))/\(p3 (c+1))<=(e.size:Int)/\(e.size:Int)<=(e.size:Int))/\R (e.extract (0:Int).toNat c.toNat,e.extract (p3 (c+1)).toNat (e.size:Int).toNat,Ta))/\(hV (d>=0)=Tc->(a (p3 (c+1))/\b (p3 (c+1))<b c))))/\(hV (c<e.size)=Tc->R (e,(⟨#[]⟩:Bt),Tc)))):PC Tp gl 268 [qr .str e,qr .str f] [.str,.str,.bool] R:=PF ⟨[],[],[(2,⟨[(10,.one (.dat q0))],[],[],[100640]⟩)],[]⟩ [.tmp 4,.tmp 5,.tmp 6] 28 func268 H
def UI(gl:Fr)(I:Bt)(R:((Bool×Bt×Int)×Int)->Prop) (H:PC Tp gl 291 [qr .str I] [.bool,.str,.str,.bool,.str,.bool] (λa:Bool×Bt×Bt×Bool×Bt×Bool=>((!a.2.2.2.2.2)=Ta->R ((Tc,((⟨#[]⟩:Bt),0)),2))/\((!a.2.2.2.2.2)=Tc->((hV ((p3 ((a.2.1.size:Int)+(a.2.2.1.size:Int)))>1000))=Ta->R ((Tc,((⟨#[]⟩:Bt),0)),3))/\((hV ((p3 ((a.2.1.size:Int)+(a.2.2.1.size:Int)))>1000))=Tc->∃(b:Bt->Bool->Bt->Int->Prop) (c:Bt->Bool->Bt->Int->Nat),b a.2.2.2.2.1 Tc (⟨#[]⟩:Bt) 0/\∀d:Bt,∀C:Bool,∀B:Bt,∀D:Int,b d C B D->((hV ((d.size:Int)>1)=Ta->(0<=(0:Int)/\(0:Int)<(d.size:Int)))/\((cond (hV ((d.size:Int)>1)) ((ze d (0:Int).toNat:Int)==48) Tc)=Ta->(0<=(1:Int)/\(1:Int)<=(d.size:Int)/\(d.size:Int)<=(d.size:Int))/\(b (d.extract (1:Int).toNat (d.size:Int).toNat) C B D/\c (d.extract (1:Int).toNat (d.size:Int).toNat) C B D<c d C B D))/\((cond (hV ((d.size:Int)>1)) ((ze d (0:Int).toNat:Int)==48) Tc)=Tc->(hV ((d.size:Int)>9)=Ta->R ((Tc,((⟨#[]⟩:Bt),0)),4))/\(hV ((d.size:Int)>9)=Tc->∃(e:Int->Int->Bool->Bt->Int->Prop) (f:Int->Int->Bool->Bt->Int->Nat),e 0 0 C B D/\∀g i:Int,∀u:Bool,∀w:Bt,∀t:Int,e g i u w t->((hV (i<d.size)=Ta->(0<=i/\i<d.size)/\(e (p3 ((p3 (10*g))+(p3 (YG .u8 ((ze d i.toNat)-48))))) (p3 (i+1)) u w t/\f (p3 ((p3 (10*g))+(p3 (YG .u8 ((ze d i.toNat)-48))))) (p3 (i+1)) u w t<f g i u w t))/\(hV (i<d.size)=Tc->∀j:Int->Bool->Bt->Int->Prop,(∀k:Int,∀G:Bool,∀F:Bt,∀E:Int,(qb (a.2.1.size+a.2.2.1.size)/\∃(l:Bt->Bool->Bt->Int->Prop) (m:Bt->Bool->Bt->Int->Nat),l (a.2.1++a.2.2.1) G F E/\∀n:Bt,∀h:Bool,∀x:Bt,∀s:Int,l n h x s->((hV ((n.size:Int)>0)=Ta->(0<=(0:Int)/\(0:Int)<(n.size:Int)))/\((cond (hV ((n.size:Int)>0)) ((ze n (0:Int).toNat:Int)==48) Tc)=Ta->(0<=(1:Int)/\(1:Int)<=(n.size:Int)/\(n.size:Int)<=(n.size:Int))/\(l (n.extract (1:Int).toNat (n.size:Int).toNat) h x s/\m (n.extract (1:Int).toNat (n.size:Int).toNat) h x s<m n h x s))/\((cond (hV ((n.size:Int)>0)) ((ze n (0:Int).toNat:Int)==48) Tc)=Tc->((n.toList==(⟨#[]⟩:Bt).toList)=Ta->R ((Tc,((⟨#[]⟩:Bt),0)),0))/\((n.toList==(⟨#[]⟩:Bt).toList)=Tc->∃(o:Int->Bt->Bool->Bt->Int->Prop) (p:Int->Bt->Bool->Bt->Int->Nat),o (p3 (k-(a.2.2.1.size:Int))) n h x s/\∀q:Int,∀r:Bt,∀y:Bool,∀A:Bt,∀z:Int,o q r y A z->((0<=(p3 ((r.size:Int)-1))/\(p3 ((r.size:Int)-1))<(r.size:Int))/\(((ze r (p3 ((r.size:Int)-1)).toNat:Int)==48)=Ta->(0<=(0:Int)/\(0:Int)<=(p3 ((r.size:Int)-1))/\(p3 ((r.size:Int)-1))<=(r.size:Int))/\(o (p3 (q+1)) (r.extract (0:Int).toNat (p3 ((r.size:Int)-1)).toNat) y A z/\p (p3 (q+1)) (r.extract (0:Int).toNat (p3 ((r.size:Int)-1)).toNat) y A z<p q r y A z))/\(((ze r (p3 ((r.size:Int)-1)).toNat:Int)==48)=Tc->((cond (hV (q<(-1000000))) Ta (hV (q>1000000)))=Ta->R ((Tc,((⟨#[]⟩:Bt),0)),4))/\((cond (hV (q<(-1000000))) Ta (hV (q>1000000)))=Tc->R ((a.1,(r,q)),0))))))))->j k G F E)->(a.2.2.2.1=Ta->j (p3 (0-g)) u w t)/\(a.2.2.2.1=Tc->j g u w t)))))))))):PC Tp gl 232 [qr .str I] [.pair .bool (.pair .str (.int .i64)),.int .i64] R:=PF ⟨[],[],[(6,⟨[(8,.one (.dat .str))],[(2,[.dat .bool,.dat .str,.dat q0])],[],[100512,1000128,1000129,1000130]⟩),(12,⟨[(10,.one (.dat q0)),(11,.one (.dat q0))],[(2,[.dat .bool,.dat .str,.dat q0])],[],[100640,100704,1000128,1000129,1000130]⟩),(19,⟨[(12,.one (.dat .str))],[(2,[.dat .bool,.dat .str,.dat q0])],[],[100768,1000128,1000129,1000130]⟩),(23,⟨[(10,.one (.dat q0)),(12,.one (.dat .str))],[(2,[.dat .bool,.dat .str,.dat q0])],[],[100640,100768,1000128,1000129,1000130]⟩)],[(17,⟨[(10,.one (.dat q0))],[(2,[.dat .bool,.dat .str,.dat q0])],[],[100640,1000128,1000129,1000130]⟩)]⟩ [.cell 2 110,.tmp 3] 107 func232 H
def RU(gl:Fr)(n0:Bool×Bt×Int)(R:Bt->Prop) (H:PC Tp gl 279 [qr (.pair .bool (.pair .str (.int .i64))) (n0.1,(n0.2.1,n0.2.2))] [.bool] (λa:Bool=>((!a)=Ta->R (⟨#[]⟩:Bt))/\((!a)=Tc->PC Tp gl 292 [qr (.pair .bool (.pair .str (.int .i64))) (n0.1,(n0.2.1,n0.2.2))] [.bool] (λb:Bool=>(b=Ta->R (⟨#[48]⟩:Bt))/\(b=Tc->∀c:Bt->Prop,(∀d:Bt,(((n0.2.2 != 0)=Ta->qb (d.size+((⟨#[101]⟩:Bt)).size)/\PC Tp gl 193 [qr q0 n0.2.2] [.str] (λe:Bt=>qb ((d++(⟨#[101]⟩:Bt)).size+e.size)/\R ((d++(⟨#[101]⟩:Bt))++e)))/\((n0.2.2 != 0)=Tc->R d))->c d)->(n0.1=Ta->qb (((⟨#[45]⟩:Bt)).size+n0.2.1.size)/\c ((⟨#[45]⟩:Bt)++n0.2.1))/\(n0.1=Tc->c n0.2.1)))))):PC Tp gl 233 [qr (.pair .bool (.pair .str (.int .i64))) n0] [.str] R:=PF ⟨[],[],[],[(9,⟨[(4,.one (.dat .str))],[],[1],[100256]⟩)]⟩ [.tmp 2] 27 func233 H
def O4(gl:Fr)(n0:Bool×Bt×Int)(R:ac4) (H:PC Tp gl 292 [qr (.pair .bool (.pair .str (.int .i64))) (n0.1,(n0.2.1,n0.2.2))] [.bool] (λa:Bool=>(a=Ta->R Ta)/\(a=Tc->PC Tp gl 333 [qr .str n0.2.1] [.bool] (λb:Bool=>((cond b (hV ((n0.2.1.size:Int)<=1000)) Tc)=Ta->(0<=(0:Int)/\(0:Int)<(n0.2.1.size:Int)))/\((cond (cond b (hV ((n0.2.1.size:Int)<=1000)) Tc) ((ze n0.2.1 (0:Int).toNat:Int) != 48) Tc)=Ta->(0<=(p3 ((n0.2.1.size:Int)-1))/\(p3 ((n0.2.1.size:Int)-1))<(n0.2.1.size:Int)))/\R (cond (cond (cond (cond (cond b (hV ((n0.2.1.size:Int)<=1000)) Tc) ((ze n0.2.1 (0:Int).toNat:Int) != 48) Tc) ((ze n0.2.1 (p3 ((n0.2.1.size:Int)-1)).toNat:Int) != 48) Tc) (hV (n0.2.2>=(-1000000))) Tc) (hV (n0.2.2<=1000000)) Tc))))):PC Tp gl 279 [qr (.pair .bool (.pair .str (.int .i64))) n0] [.bool] R:=PF ⟨[],[],[],[]⟩ [.tmp 2] 42 func279 H
def MU(gl:Fr)(h:Bt)(R:(Bool×Bt×Bt×Bool×Bt×Bool)->Prop) (H:(hV ((h.size:Int)>0)=Ta->(0<=(0:Int)/\(0:Int)<(h.size:Int)))/\∀a:Bt->Prop,(∀b:Bt,(∃(c:ac6) (d:Int->Nat),c 0/\∀e:Int,c e->((hV (e<b.size)=Ta->(0<=e/\e<b.size))/\((cond (hV (e<b.size)) ((ze b e.toNat:Int) != 101) Tc)=Ta->(0<=e/\e<b.size))/\((cond (cond (hV (e<b.size)) ((ze b e.toNat:Int) != 101) Tc) ((ze b e.toNat:Int) != 69) Tc)=Ta->(c (p3 (e+1))/\d (p3 (e+1))<d e))/\((cond (cond (hV (e<b.size)) ((ze b e.toNat:Int) != 101) Tc) ((ze b e.toNat:Int) != 69) Tc)=Tc->∀f:Bt->Bool->Prop,(∀g:Bt,∀i:Bool,((0<=(0:Int)/\(0:Int)<=e/\e<=b.size)/\∃(j:ac6) (k:Int->Nat),j 0/\∀l:Int,j l->(((hV (l<((b.extract (0:Int).toNat e.toNat).size:Int)))=Ta->(0<=l/\l<((b.extract (0:Int).toNat e.toNat).size:Int)))/\((cond (hV (l<((b.extract (0:Int).toNat e.toNat).size:Int))) ((ze (b.extract (0:Int).toNat e.toNat) l.toNat:Int) != 46) Tc)=Ta->(j (p3 (l+1))/\k (p3 (l+1))<k l))/\((cond (hV (l<((b.extract (0:Int).toNat e.toNat).size:Int))) ((ze (b.extract (0:Int).toNat e.toNat) l.toNat:Int) != 46) Tc)=Tc->(0<=(0:Int)/\(0:Int)<=l/\l<=((b.extract (0:Int).toNat e.toNat).size:Int))/\∀m:Bt->Prop,(∀n:Bt,(PC Tp gl 333 [qr .str ((b.extract (0:Int).toNat e.toNat).extract (0:Int).toNat l.toNat)] [.bool] (λo:Bool=>∃p:Bool->Prop,(o=Ta->PC Tp gl 333 [qr .str n] [.bool] p)/\∀q:Bool,(o=Ta->p q)->∃r:Bool->Prop,((cond o q Tc)=Ta->PC Tp gl 333 [qr .str g] [.bool] r)/\∀s:Bool,((cond o q Tc)=Ta->r s)->(((cond (cond o q Tc) s Tc)&&(!(((b.extract (0:Int).toNat e.toNat).extract (0:Int).toNat l.toNat:Bt).toList==(⟨#[48]⟩:Bt).toList)))=Ta->(0<=(0:Int)/\(0:Int)<(((b.extract (0:Int).toNat e.toNat).extract (0:Int).toNat l.toNat).size:Int)))/\∀t:Bt->Prop,(∀u:Bt,(R (cond (hV ((h.size:Int)>0)) ((ze h (0:Int).toNat:Int)==45) Tc,(b.extract (0:Int).toNat e.toNat).extract (0:Int).toNat l.toNat,u,i,g,cond (cond (cond o q Tc) s Tc) (cond (((b.extract (0:Int).toNat e.toNat).extract (0:Int).toNat l.toNat:Bt).toList==(⟨#[48]⟩:Bt).toList) Ta ((ze ((b.extract (0:Int).toNat e.toNat).extract (0:Int).toNat l.toNat) (0:Int).toNat:Int) != 48)) Tc))->t u)->((l==((b.extract (0:Int).toNat e.toNat).size:Int))=Ta->t (⟨#[]⟩:Bt))/\((l==((b.extract (0:Int).toNat e.toNat).size:Int))=Tc->t n)))->m n)->((hV (l<((b.extract (0:Int).toNat e.toNat).size:Int)))=Ta->(0<=(p3 (l+1))/\(p3 (l+1))<=((b.extract (0:Int).toNat e.toNat).size:Int)/\(((b.extract (0:Int).toNat e.toNat).size:Int):Int)<=((b.extract (0:Int).toNat e.toNat).size:Int))/\m ((b.extract (0:Int).toNat e.toNat).extract (p3 (l+1)).toNat (((b.extract (0:Int).toNat e.toNat).size:Int):Int).toNat))/\((hV (l<((b.extract (0:Int).toNat e.toNat).size:Int)))=Tc->m (⟨#[48]⟩:Bt)))))->f g i)->(hV (e<b.size)=Ta->(0<=(p3 (e+1))/\(p3 (e+1))<=(b.size:Int)/\(b.size:Int)<=(b.size:Int))/\((hV ((((b.extract (p3 (e+1)).toNat (b.size:Int).toNat).size:Int):Int)>0))=Ta->(0<=(0:Int)/\(0:Int)<((b.extract (p3 (e+1)).toNat (b.size:Int).toNat).size:Int)))/\(((!(cond (hV ((((b.extract (p3 (e+1)).toNat (b.size:Int).toNat).size:Int):Int)>0)) ((ze (b.extract (p3 (e+1)).toNat (b.size:Int).toNat) (0:Int).toNat:Int)==45) Tc))&&(hV ((((b.extract (p3 (e+1)).toNat (b.size:Int).toNat).size:Int):Int)>0)))=Ta->(0<=(0:Int)/\(0:Int)<((b.extract (p3 (e+1)).toNat (b.size:Int).toNat).size:Int)))/\((cond (cond (hV ((((b.extract (p3 (e+1)).toNat (b.size:Int).toNat).size:Int):Int)>0)) ((ze (b.extract (p3 (e+1)).toNat (b.size:Int).toNat) (0:Int).toNat:Int)==45) Tc) Ta (cond (hV ((((b.extract (p3 (e+1)).toNat (b.size:Int).toNat).size:Int):Int)>0)) ((ze (b.extract (p3 (e+1)).toNat (b.size:Int).toNat) (0:Int).toNat:Int)==43) Tc))=Ta->(0<=(1:Int)/\(1:Int)<=((b.extract (p3 (e+1)).toNat (b.size:Int).toNat).size:Int)/\(((b.extract (p3 (e+1)).toNat (b.size:Int).toNat).size:Int):Int)<=((b.extract (p3 (e+1)).toNat (b.size:Int).toNat).size:Int))/\f ((b.extract (p3 (e+1)).toNat (b.size:Int).toNat).extract (1:Int).toNat (((b.extract (p3 (e+1)).toNat (b.size:Int).toNat).size:Int):Int).toNat) (cond (hV ((((b.extract (p3 (e+1)).toNat (b.size:Int).toNat).size:Int):Int)>0)) ((ze (b.extract (p3 (e+1)).toNat (b.size:Int).toNat) (0:Int).toNat:Int)==45) Tc))/\((cond (cond (hV ((((b.extract (p3 (e+1)).toNat (b.size:Int).toNat).size:Int):Int)>0)) ((ze (b.extract (p3 (e+1)).toNat (b.size:Int).toNat) (0:Int).toNat:Int)==45) Tc) Ta (cond (hV ((((b.extract (p3 (e+1)).toNat (b.size:Int).toNat).size:Int):Int)>0)) ((ze (b.extract (p3 (e+1)).toNat (b.size:Int).toNat) (0:Int).toNat:Int)==43) Tc))=Tc->f (b.extract (p3 (e+1)).toNat (b.size:Int).toNat) (cond (hV ((((b.extract (p3 (e+1)).toNat (b.size:Int).toNat).size:Int):Int)>0)) ((ze (b.extract (p3 (e+1)).toNat (b.size:Int).toNat) (0:Int).toNat:Int)==45) Tc)))/\(hV (e<b.size)=Tc->f (⟨#[48]⟩:Bt) Tc))))->a b)->((cond (hV ((h.size:Int)>0)) ((ze h (0:Int).toNat:Int)==45) Tc)=Ta->(0<=(1:Int)/\(1:Int)<=(h.size:Int)/\(h.size:Int)<=(h.size:Int))/\a (h.extract (1:Int).toNat (h.size:Int).toNat))/\((cond (hV ((h.size:Int)>0)) ((ze h (0:Int).toNat:Int)==45) Tc)=Tc->a h)):PC Tp gl 291 [qr .str h] [.bool,.str,.str,.bool,.str,.bool] R:=PF ⟨[],[],[(5,⟨[(9,.one (.dat q0))],[],[],[100576]⟩),(16,⟨[(9,.one (.dat q0))],[],[],[100576]⟩)],[(4,⟨[(0,.one (.dat .str))],[],[],[100000]⟩),(14,⟨[(10,.one (.dat .str)),(11,.one (.dat .bool))],[],[],[100640,100704]⟩),(22,⟨[(13,.one (.dat .str))],[],[],[100832]⟩),(25,⟨[(13,.one (.dat .str))],[],[],[100832]⟩)]⟩ [.tmp 2,.tmp 3,.tmp 4,.tmp 5,.tmp 6,.tmp 7] 128 func291 H
def Tf(gl:Fr)(n0:Bool×Bt×Int)(R:ac4) (H:R ((n0.1==Tc)&&((n0.2.1.toList==(⟨#[]⟩:Bt).toList)&&((n0.2.2==0)&&Ta)))):PC Tp gl 292 [qr (.pair .bool (.pair .str (.int .i64))) n0] [.bool] R:=PF ⟨[],[],[],[]⟩ [.tmp 2] 6 func292 H
def SX(gl:Fr)(e:Bt)(R:ac4) (H:∃(a:ac6) (b:Int->Nat),a 0/\∀c:Int,a c->((hV (c<e.size)=Ta->(0<=c/\c<e.size)/\((!(hV ((ze e c.toNat:Int)<48)))=Ta->(0<=c/\c<e.size))/\((cond (hV ((ze e c.toNat:Int)<48)) Ta (hV ((ze e c.toNat:Int)>57)))=Ta->R Tc)/\((cond (hV ((ze e c.toNat:Int)<48)) Ta (hV ((ze e c.toNat:Int)>57)))=Tc->(a (p3 (c+1))/\b (p3 (c+1))<b c)))/\(hV (c<e.size)=Tc->R (hV ((e.size:Int)>0))))):PC Tp gl 333 [qr .str e] [.bool] R:=PF ⟨[],[],[(2,⟨[(3,.one (.dat q0))],[],[],[100192]⟩)],[]⟩ [.tmp 2] 23 func333 H

end
section
abbrev bl(l:List UInt8):Bt:=⟨l.toArray⟩
abbrev lb(s:Bt):List UInt8:=s.data.toList
@[simp] theorem yr(l:List UInt8):lb (bl l)=l:=by simp[lb]
@[simp] theorem Zz(s:Bt):bl (lb s)=s:=ξ
theorem oP{s t:Bt}:lb s=lb t↔s=t:=⟨λh=>by rw[<-Zz s,h,Zz],λh=>by rw[h]⟩
theorem iU(s:Bt):(lb s).length=s.size:=ξ
theorem JO(s t:Bt):lb (s++t)=lb s++lb t:=ξ
theorem Se(s:Bt)(a b:Nat):lb (s.extract a b)=((lb s).drop a).take (b-a):=by cases s;simp[lb,ByteArray.data_extract,List.extract_eq_take_drop]
theorem wH(s:Bt)(i:Nat):ze s i=((((lb s)[i]?).getD 0).toNat:Int):=by cases s;simp[lb,ze]
theorem Om(s:Bt)(i:Nat):s.get! i=((lb s)[i]?).getD 0:=by
 cases s with
 |mk d=>simp[lb,ByteArray.get!,Array.getElem!_eq_getD];rfl
def jd(s:Bt)(i:Nat):0<=ze s i/\ze s i<256:=by rw[wH];have:=(((lb s)[i]?).getD 0).toNat_lt;omega
def dec(l:List UInt8):Nat×Nat:=Go.Lib.decodeN l.length (l.getD 0 0).toNat (l.getD 1 0).toNat (l.getD 2 0).toNat (l.getD 3 0).toNat
theorem sh(s:Bt)(i:Nat):zdy s i=dec ((lb s).drop i):=by rw[Go.Lib.decode_at,dec];simp only[Om,zaf,zau,ZE,iU,zc3]
theorem ju(l:List UInt8):1<=(dec l).2/\(dec l).2<=4:=by unfold dec Go.Lib.decodeN;grind
theorem lZ{l:List UInt8}(h:l≠[]):(dec l).2<=DB l:=by have:0<DB l:=zaj.2 h;unfold dec Go.Lib.decodeN;grind
def eF(d:Nat×Nat):Bool:=d.1==65533&&d.2==1
def xn(l:List UInt8):Bool:=if h:l=[]then Ta else if eF (dec l)then Tc else xn (l.drop (dec l).2)
termination_by l.length
decreasing_by
 have h1:=ju l;have h2:0<l.length:=zaj.2 h;grind
theorem Q5:xn []=Ta:=by unfold xn;simp
theorem Zk{l:List UInt8}(h:l≠[]):xn l=ite (eF (dec l)) Tc (xn (l.drop (dec l).2)):=by rw[xn];simp[h]
theorem Yv{c:UInt8}{l:List UInt8}(h:c.toNat<128):dec (c::l)=(c.toNat,1):=by simp[dec,Go.Lib.decodeN,h]
def XQ{c:UInt8}{l:List UInt8}(h:c.toNat<128):eF (dec (c::l))=Tc:=by rw[Yv h,eF];grind
end
end
section
open Go.Lib
abbrev Bs:=List UInt8
end
section
variable {n b0 b1 b2 b3:Nat} {gl:Fr} {s:Bt}
def vI{α:Type}{B:α->Prop}{c:Bool}{a b:α}(h:B (cond c a b)):∀K:α->Prop,(∀v,B v->K v)->(c=Ta->K a)/\(c=Tc->K b):= λK e=>⟨λf=>e _ η,λf=>e _ η⟩
theorem QX(s:Bt)(i:Nat):p3 (ze s i)=ze s i:=by have:=jd s i;grind [Fm]
theorem Qb{n:Int}(h1:-2147483648<=n)(h2:n<=2147483647):YG .i32 n=n:=by
 ((try unfold p3);unfold YG);have e:(2:Int) ^ zan .i32=4294967296:=ζ
 have e':(2:Int) ^ (zan .i32-1)=2147483648:=ζ
 simp only[e,e'];have b:zdd .i32=Ta:=rfl;grind
theorem Pw(s:Bt)(a:Nat):dec ((lb s).drop a)=Lib.decodeN (s.size-a) (ze s a).toNat (ze s (a+1)).toNat (ze s (a+2)).toNat (ze s (a+3)).toNat:=by simp only[dec,wH,zaf,zau,ZE,iU,zc3,YL]
def rY(c:Int):Int:=if c<128 then 1 else if 194<=c/\c<=223 then 2 else if 224<=c/\c<=239 then 3 else if 240<=c/\c<=244 then 4 else 0
def I8{c:Int}{R:ac6}(h:R (rY c)):PC Tp gl 309 [qr q0 c] [.int .i64] R:=by apply JA;unfold rY at h;grind
theorem pP(h:b0<128):Lib.decodeN n b0 b1 b2 b3=(b0,1):=by unfold Lib.decodeN;rw[zi h]
theorem Fv(h:194<=b0/\b0<224)(h1:b1<256):Lib.decodeN n b0 b1 b2 b3=ite (2<=n/\128<=b1/\b1<=191) ((b0-192)*64+(b1-128),2) (65533,1):=by unfold Lib.decodeN;grind
theorem re(h:224<=b0/\b0<240)(h1:b1<256)(h2:b2<256):Lib.decodeN n b0 b1 b2 b3= if 3<=n/\(128<=b1/\b1<=191)/\(128<=b2/\b2<=191)/\2048<=((b0-224)*64+(b1-128))*64+(b2-128)/\(((b0-224)*64+(b1-128))*64+(b2-128)<55296\/57344<=((b0-224)*64+(b1-128))*64+(b2-128)) then(((b0-224)*64+(b1-128))*64+(b2-128),3)else(65533,1):=by unfold Lib.decodeN;grind
theorem Ez(h:240<=b0/\b0<245)(h1:b1<256)(h2:b2<256)(b:b3<256):Lib.decodeN n b0 b1 b2 b3= if 4<=n/\(128<=b1/\b1<=191)/\(128<=b2/\b2<=191)/\(128<=b3/\b3<=191)/\65536<=(((b0-240)*64+(b1-128))*64+(b2-128))*64+(b3-128)/\(((b0-240)*64+(b1-128))*64+(b2-128))*64+(b3-128)<=1114111 then((((b0-240)*64+(b1-128))*64+(b2-128))*64+(b3-128),4)else(65533,1):=by unfold Lib.decodeN;grind
def lu(s:Bt)(b:Int):Int×Int:=if b<0\/b>=s.size then(0,0)else(((dec ((lb s).drop b.toNat)).1:Int),((dec ((lb s).drop b.toNat)).2:Int))
def xQ{k:Int}{R:Int×Int->Prop}(hs:(s.size:Int)<=4611686018427387904)(h:R (lu s k)):PC Tp gl 259 [qr .str s,qr q0 k] [.int .i32,.int .i64] R:=by
 apply KL;unfold lu at h;refine⟨λP=>?_,λP=>?_⟩;rw[zi η]at h;exact h
 ·have J:0<=k/\k<(s.size:Int):=η
  rw[za ω,Pw]at h;refine⟨J,I8 ?_⟩;obtain⟨a,rfl⟩:∃a:Nat,k=(a:Int):=⟨k.toNat,ω⟩;simp only[YL,QX]at h ⊢;have r0:=jd s a;have r1:=jd s (a+1);have r2:=jd s (a+2);have r3:=jd s (a+3);have ix:∀i:Int,1<=i->i<=4->(p3 ((a:Int)+i))=(a:Int)+i:=λi h1 h2=>Fm ω ω;have e1:((a:Int)+1).toNat=a+1:=ω
  have Z:((a:Int)+2).toNat=a+2:=ω
  have e3:((a:Int)+3).toNat=a+3:=ω
  have D:p3 ((s.size:Int)-(a:Int))=(s.size:Int)-(a:Int):=Fm ω ω;rw[D];generalize q:rY (ze s a)=n;unfold rY at q;generalize af:ze s a=b0 at *;refine⟨λu=>?_,λu=>⟨J,?_⟩⟩
  ·have:Lib.decodeN (s.size-a) b0.toNat (ze s (a+1)).toNat (ze s (a+2)).toNat (ze s (a+3)).toNat=(65533,1):=by
    have H:n=0\/n>(s.size:Int)-a:=η
    unfold Lib.decodeN;repeat' split
    all_goals first|rfl|(exfalso;split at q <;> first|omega|(split at q <;> first|omega|(split at q <;> first|omega|(split at q <;> omega))))
   rw[this]at h;exact h
  ·have H:n≠0/\n<=(s.size:Int)-a:=η
   apply vI;apply vI;apply vI;have t:(cond (n==4) (p3 ((cond (n==3) (p3 ((cond (n==2) (p3 (b0-192)) b0)-224)) (cond (n==2) (p3 (b0-192)) b0))-240)) (cond (n==3) (p3 ((cond (n==2) (p3 (b0-192)) b0)-224)) (cond (n==2) (p3 (b0-192)) b0)))
     = (ite (n=4) (b0-240) (ite (n=3) (b0-224) (ite (n=2) (b0-192) b0))):=by
    have w1:p3 (b0-192)=b0-192:=Fm ω ω;have S:p3 (b0-224)=b0-224:=Fm ω ω;have Q:p3 (b0-240)=b0-240:=Fm ω ω;grind
   rw[t];generalize ab:(ite (n=4) (b0-240) (ite (n=3) (b0-224) (ite (n=2) (b0-192) b0)))=v1;have O:0<=v1/\v1<128:=η
   have M:n=4->v1<=4:=η
   generalize x:ze s (a+1)=b1 at *;generalize w:ze s (a+2)=b2 at *;generalize y:ze s (a+3)=b3 at *;have q1:=jd s (a+1);have q2:=jd s (a+2);have Y:=jd s (a+3);rw[x]at q1;rw[w]at q2;rw[y]at Y;obtain⟨N,hN⟩:∃N:Nat,s.size-a=N:=⟨_,rfl⟩;have ae:(N:Int)=s.size-a:=ω
   rw[hN]at h;have r:n=1\/n=2\/n=3\/n=4:=η
   have good:∀v:Int,(n=1->v=v1)->(n=2->(128<=b1/\b1<=191)/\v=64*v1+b1-128)->(n=3->(128<=b1/\b1<=191)/\(128<=b2/\b2<=191)/\v=64*(64*v1+b1-128)+b2-128)->(n=4->(128<=b1/\b1<=191)/\(128<=b2/\b2<=191)/\(128<=b3/\b3<=191)/\v=64*(64*(64*v1+b1-128)+b2-128)+b3-128) ->
     (((n=3/\v<2048)\/(n=4/\v<65536)\/v>1114111\/(v>=55296/\v<57344))->R (65533,1))/\(¬((n=3/\v<2048)\/(n=4/\v<65536)\/v>1114111\/(v>=55296/\v<57344))->R (YG .i32 v,n)):=by
    intro v k1 k2 V k4;obtain rfl|rfl|rfl|rfl:=r;have c:b0<128:=η
    have:=k1 rfl;have m:v1=b0:=η
    rw[pP ω]at h;refine⟨λo=>ω,λ_=>?_⟩;rw[Qb ω ω];have e:((b0.toNat:Nat):Int)=v:=ω
    simp only[e]at h;exact h;have c:194<=b0/\b0<224:=η
    have⟨c1,t⟩:=k2 rfl;have m:v1=b0-192:=η
    rw[Fv ω ω,zi ω]at h;refine⟨λo=>ω,λ_=>?_⟩;rw[Qb ω ω];have e:(((b0.toNat-192)*64+(b1.toNat-128):Nat):Int)=v:=ω
    simp only[e]at h;exact h;have c:224<=b0/\b0<240:=η
    have⟨c1,c2,t⟩:=V rfl;have m:v1=b0-224:=η
    have e:((((b0.toNat-224)*64+(b1.toNat-128))*64+(b2.toNat-128):Nat):Int)=v:=ω
    rw[re ω ω ω]at h;refine⟨λo=>?_,λo=>?_⟩;rw[za ω]at h;exact h;rw[zi ω]at h;rw[Qb ω ω];simp only[e]at h;exact h;have c:240<=b0/\b0<245:=η
    have⟨c1,c2,c3,t⟩:=k4 rfl;have m:v1=b0-240:=η
    have e:(((((b0.toNat-240)*64+(b1.toNat-128))*64+(b2.toNat-128))*64+(b3.toNat-128):Nat):Int)=v:=ω
    rw[Ez ω ω ω ω]at h;refine⟨λo=>?_,λo=>?_⟩;rw[za ω]at h;exact h;rw[zi ω]at h;rw[Qb ω ω];simp only[e]at h;exact h
   have bad:∀i:Int,1<=i->i<n->((i=1/\¬(128<=b1/\b1<=191))\/(i=2/\¬(128<=b2/\b2<=191))\/(i=3/\¬(128<=b3/\b3<=191)))->R (65533,1):=by
    intro i B I o;obtain rfl|rfl|rfl|rfl:=r;omega;have c:194<=b0/\b0<224:=η
    rw[Fv ω ω,za ω]at h;exact h;have c:224<=b0/\b0<240:=η
    rw[re ω ω ω,za ω]at h;exact h;have c:240<=b0/\b0<245:=η
    rw[Ez ω ω ω ω,za ω]at h;exact h
   clear h q t P u;refine⟨λv i=>1<=i/\i<=n/\(0<=v/\v<2097152)/\(i=1->v=v1)/\(i=2->(128<=b1/\b1<=191)/\v=64*v1+b1-128)/\(i=3->(128<=b1/\b1<=191)/\(128<=b2/\b2<=191)/\v=64*(64*v1+b1-128)+b2-128)/\(i=4->(128<=b1/\b1<=191)/\(128<=b2/\b2<=191)/\(128<=b3/\b3<=191)/\v=64*(64*(64*v1+b1-128)+b2-128)+b3-128),λv i=>(n-i).toNat,ω,λv i hi=>⟨λE=>?_,λE=>?_⟩⟩;have p:i<n:=ψ E
   have⟨B,I,j0,z,C,A,L⟩:=hi;rw[ix i B ω];obtain⟨b,l⟩:∃b,ze s ((a:Int)+i).toNat=b:=⟨_,rfl⟩;have f:(i=1->b=b1)/\(i=2->b=b2)/\(i=3->b=b3):=by refine⟨λe=>?_,λe=>?_,λe=>?_⟩ <;> subst e;rw[<-l,e1,x];rw[<-l,Z,w];rw[<-l,e3,y]
   rw[l];have F:=jd s ((a:Int)+i).toNat;rw[l]at F;refine⟨ω,λhq=>bad i B p ?_,λhq=>?_⟩;have:b<128\/b>191:=η
   omega;have aa:¬(b<128\/b>191):=η
   have w1:p3 (64*v)=64*v:=Fm ω ω;have S:p3 (64*v+b)=64*v+b:=Fm ω ω;have Q:p3 (64*v+b-128)=64*v+b-128:=Fm ω ω;have U:p3 (i+1)=i+1:=Fm ω ω;rw[w1,S,Q,U];have G:i=1\/i=2\/i=3:=ω
   dsimp only;refine⟨⟨ω,ω,?_,ω,?_,?_,?_⟩,ω⟩;obtain rfl|rfl|rfl:=G;have:=z rfl;have:=f.1 rfl;omega;have:=C rfl;have:=f.2.1 rfl;omega;have:=A rfl;have:=f.2.2 rfl;omega;intro e;have e':i=1:=ω
   have:=z e';have:=f.1 e';omega;intro e;have e':i=2:=ω
   have:=C e';have:=f.2.1 e';omega;intro e;have e':i=3:=ω
   have:=A e';have:=f.2.2 e';omega;have p:i=n:=by(have:¬i<n:=ψ E);omega
   subst p;have⟨B,I,j0,z,C,A,L⟩:=hi;have⟨g1,g2⟩:=good v z C A L;refine⟨λo=>g1 ?_,λo=>g2 ?_⟩;grind;grind
def mz(s:Bt)(a:Nat):Bool:=!eF (dec ((lb s).drop a))
def FV{a:Nat}{R:ac4}(l:a<s.size)(f:(s.size:Int)<=4611686018427387904)(h:R (mz s a)):PC Tp gl 258 [qr .str s,qr q0 a] [.bool] R:=by
 apply Sz;refine xQ f ?_;have b:=ju ((lb s).drop a);unfold mz eF at h;have e:lu s (a:Int)=(((dec ((lb s).drop a)).1:Int),((dec ((lb s).drop a)).2:Int)):=by unfold lu;rw[za ω];rfl
 rw[e];obtain⟨d,c⟩:∃d,dec ((lb s).drop a)=d:=⟨_,rfl⟩;rw[c]at h b ⊢;have i:hV (((d.2:Nat):Int)>0)=Ta:=φ
 have m:((((d.1:Nat):Int))==65533)=(d.1==65533):=by rw[ZI];simp;omega
 have k:((((d.2:Nat):Int))==1)=(d.2==1):=by rw[ZI];simp;omega
 simp_all
def N9{R:Int×Bool->Prop}(f:(s.size:Int)<=4611686018427387904)(h:∀k,R (k,xn (lb s))):PC Tp gl 203 [qr .str s] [.int .i64,.bool] R:=by
 apply Lp;refine⟨λa=>0<=a/\a<=(s.size:Int)/\xn (lb s)=xn ((lb s).drop a.toNat),λa=>((s.size:Int)-a).toNat,⟨ω,ω,ξ⟩,λa ⟨h0,h1,h2⟩=>⟨λi=>?_,λi=>?_⟩⟩;have l:a<(s.size:Int):=ψ i
 obtain⟨k,rfl⟩:∃k:Nat,a=(k:Int):=⟨a.toNat,ω⟩;simp only[YL]at h2;have b:(lb s).drop k≠[]:=by intro e;have:=congrArg za6 e;simp only[ZE,iU,List.length_nil]at this;omega
 rw[Zk b]at h2;refine FV ω f ⟨λc=>?_,λc=>?_⟩;have:eF (dec ((lb s).drop k))=Ta:=by simpa[mz]using c
 simp_all;have m:eF (dec ((lb s).drop k))=Tc:=by simpa[mz]using c
 rw[m]at h2;simp only[zaq,if_false,zap]at h2;refine xQ f ?_;unfold lu;rw[za ω];simp only[YL];grind [ju,lZ,iU,Fm];simp_all[zao,Q5]
end
section
open Go.Shelf Go.RowKit
def Si:Go.Shelf.Ren:=⟨fun|161=>218|231=>270|227=>271|233=>272|235=>273|228=>321|197=>247|151=>322|260=>298|152=>369|137=>319|119=>394|224=>358|225=>357|217=>356|266=>385|n=>n,fun|9=>9|4=>4|3=>3|5=>5|117=>281|116=>280|0=>0|124=>284|105=>256|21=>21|119=>305|46=>123|139=>308|138=>307|n=>n,fun|3=>0|4=>1|n=>n⟩
def PH:Go.Proofs.Lays.n161 Tp Si:=by constructor <;> intros <;> kernel_rfl
def Tx(s:Bt)(c:UInt8)(b:c.toNat<128)(w:MN):Calls Tp 218 #[aa6 s,aa6 ⟨#[c]⟩] w λe w'=>e=.returned (aa6 ⟨(Lib.trimLeftB s.data.toList c).toArray⟩)/\w'=w:=Any.strings_TrimLeft_one PH s c b w
def Mw:Go.Shelf.Ren:=⟨fun|162=>219|232=>274|227=>271|234=>275|236=>276|228=>321|271=>323|151=>322|120=>370|197=>247|152=>369|260=>298|137=>319|119=>394|224=>358|225=>357|217=>356|266=>385|n=>n,fun|9=>9|4=>4|3=>3|5=>5|117=>281|116=>280|0=>0|124=>284|21=>21|105=>256|46=>123|119=>305|139=>308|138=>307|n=>n,fun|3=>0|4=>1|n=>n⟩
def Oo:Go.Proofs.Lays.n162 Tp Mw:=by constructor <;> intros <;> kernel_rfl
def Xn(s:Bt)(c:UInt8)(b:c.toNat<128)(w:MN)(f:s.size<=9223372036854775807):Calls Tp 219 #[aa6 s,aa6 ⟨#[c]⟩] w λe w'=>e=.returned (aa6 ⟨(Lib.trimRightB s.data.toList c).toArray⟩)/\w'=w:=Any.strings_TrimRight_one Oo s c b w f
def Ko:Go.Shelf.Ren:=⟨fun|137=>319|217=>356|266=>385|n=>n,fun|9=>9|5=>5|3=>3|n=>n,fun|n=>n⟩
def LN:Go.Proofs.Lays.n137 Tp Ko:=by constructor <;> intros <;> kernel_rfl
def j8(s:Bt)(c:Int)(w:MN):Calls Tp 319 #[aa6 s,.int .u8 c] w λe w'=>e=.returned (ab0 (Lib.indexByte s.data.toList c.toNat.toUInt8))/\w'=w:=Any.strings_IndexByte LN s c w
def SN:Go.Shelf.Ren:=⟨fun|103=>267|210=>318|206=>306|n=>n,fun|9=>9|4=>4|24=>274|3=>3|n=>n,fun|n=>n⟩
def PS:Go.Proofs.Lays.n103 Tp SN:=by constructor <;> intros <;> kernel_rfl
def QQ(s p:Bt)(w:MN):Calls Tp 267 #[aa6 s,aa6 p] w λe w'=>e=.returned (.tuple #[aa6 ⟨(Lib.trimPrefix s.data.toList p.data.toList).toArray⟩,aa9 (Lib.hasPrefix s.data.toList p.data.toList)])/\w'=w:=Any.strings_CutPrefix PS s p w
def Sx:Go.Shelf.Ren:=⟨fun|242=>248|278=>299|n=>n,fun|37=>87|21=>21|51=>176|4=>4|5=>5|46=>123|n=>n,fun|n=>n⟩
def MM:Go.Proofs.Lays.n242 Tp Sx:=by constructor <;> intros <;> kernel_rfl
def Xo(B:Nat)(v:Value)(n:Nat)(xs:ab2)(r:Int)(f:-2147483648<=r)(i:r<=2147483647)(w:MN)(b:w.ownsRow B 5 1 v n xs)(c:n+4<=140737488355328)(h:B<=w.heap.size):Calls Tp 248 #[v,.int .i32 r] w λe w'=>∃k,e=.returned k/\w'.ownsRow B 5 1 k (n+(Lib.runeCells r).length) (xs++Lib.runeCells r)/\∃o,(w.alloc o).grownBy w' v.ownBlock:=Any.utf8_AppendRune_plain MM κ B v n xs r f i w b c h
def Kb:Go.Shelf.Ren:=⟨fun|171=>159|243=>216|246=>249|283=>300|284=>301|285=>302|286=>303|129=>178|317=>352|318=>353|319=>354|320=>355|337=>383|338=>384|n=>n,fun|3=>3|9=>9|2=>2|4=>4|171=>309|0=>0|53=>178|37=>87|5=>5|173=>311|212=>349|51=>176|20=>20|213=>350|46=>123|232=>384|233=>385|n=>n,fun|17=>2|18=>6|19=>7|n=>n⟩
def VN:Go.Proofs.LaysM.n171 Tp Kb:=by repeat' first|(intros;kernel_rfl)|constructor
open Go.RowKit Go.Sort Go.Lib in
def Ly(n : Int)(h0 : -9223372036854775808 ≤ n)(h1 : n ≤ 9223372036854775807)(w : MN)(htab : Lib.TabIs Tp w "internal/strconv.uint64pow10" .u64 Lib.pow10Tab):Calls Tp 159 #[ab0 n] w λe w'=>e=.returned (aa6 ⟨(Lib.itoa n).toArray⟩)/\∃k os,w'=grow (w.drewN k) os:=Any.strconv_Itoa VN n h0 h1 w htab
def Vm:Go.Shelf.Ren:=⟨fun|245=>314|279=>361|280=>362|281=>363|282=>364|316=>389|171=>159|205=>390|243=>216|246=>249|283=>300|284=>301|285=>302|286=>303|129=>178|317=>352|318=>353|319=>354|320=>355|337=>383|338=>384|n=>n,fun|9=>9|3=>3|75=>91|167=>351|4=>4|168=>354|210=>376|37=>87|0=>0|127=>133|145=>388|143=>386|2=>2|171=>309|53=>178|5=>5|173=>311|212=>349|51=>176|20=>20|213=>350|46=>123|232=>384|233=>385|80=>95|n=>n,fun|15=>4|16=>5|17=>2|18=>6|19=>7|n=>n⟩
def NF:Go.Proofs.LaysC.n245 Tp Vm:=by repeat' first|(intros;kernel_rfl)|constructor
def Ws(fn s:Bt)(base b:Int)(c:Value)(w:MN)(f:s.size<=281474976710656)(k:w.cell? ⟨4,0,Te⟩=Td c)(h:c=.nilIface\/∃i l,c=.iface i l):Calls Tp 314 #[aa6 fn,aa6 s,ab0 base,ab0 b,.iface 351 (ab0 2)] w λe w'=>∃N,e=.returned (.iface 354 (aa7 ⟨N,0,Te⟩))/\w.heap.size<=N/\w'.heap[N]?=Td (.cells #[aa6 fn,aa6 s,c] 376 (0,0))/\Below w.heap.size w w':=Any.strconv_toError_syntax NF fn s base b c w f k h
def VH:Go.Shelf.Ren:=⟨fun|321=>387|n=>n,fun|5=>5|n=>n,fun|n=>n⟩
def XU:Go.Proofs.Lays.n321 Tp VH:=by constructor <;> intros <;> kernel_rfl
def Wt(c:Int)(w:MN):Calls Tp 387 #[.int .u8 c] w λe w'=>e=.returned (.int .u8 (bits .or .u8 c 32))/\w'=w:=Any.internal_strconv_lower XU c w
def RD:Go.Shelf.Ren:=⟨fun|174=>262|247=>313|245=>314|287=>360|279=>361|280=>362|281=>363|282=>364|321=>387|322=>388|316=>389|171=>159|205=>390|243=>216|246=>249|283=>300|284=>301|285=>302|286=>303|129=>178|317=>352|318=>353|319=>354|320=>355|337=>383|338=>384|n=>n,fun|9=>9|3=>3|2=>2|75=>91|85=>269|4=>4|167=>351|5=>5|53=>178|175=>352|46=>123|168=>354|37=>87|0=>0|210=>376|21=>21|127=>133|145=>388|143=>386|171=>309|173=>311|212=>349|51=>176|20=>20|213=>350|232=>384|233=>385|80=>95|n=>n,fun|15=>4|16=>5|17=>2|18=>6|19=>7|n=>n⟩
def wK:Go.Proofs.LaysC.n174 Tp RD:=by repeat' first|(intros;kernel_rfl)|constructor
def Qu(s:Bt)(b:s.size<=9223372036854775806)(v:Int)(h:Lib.parseIntB 64 s.data.toList=.ok v)(w:MN):Calls Tp 262 #[aa6 s,ab0 10,ab0 64] w λe w'=>e=.returned (.tuple #[ab0 v,.nilIface])/\(w'=w\/∃t,w'=Lib.bytesWorld w 5 t):=Any.strconv_ParseInt_10_at64_ok wK s b v h w
def Zl(s:Bt)(c:s.size<=281474976710656)(h:Lib.parseIntB 64 s.data.toList=Lib.parseIntB 64 [])(b:Value)(w:MN)(k:w.cell? ⟨4,0,Te⟩=Td b)(f:b=.nilIface\/∃i l,b=.iface i l):Calls Tp 262 #[aa6 s,ab0 10,ab0 64] w λe w'=>∃N,e=.returned (.tuple #[ab0 (0),.iface 354 (aa7 ⟨N,0,Te⟩)])/\w.heap.size<=N/\w'.heap[N]?=Td (.cells #[aa6 ⟨#[80,97,114,115,101,73,110,116]⟩,aa6 s,b] 376 (0,0))/\Below w.heap.size w w':=Any.strconv_ParseInt_10_at64_syntax wK s c h b w k f
def Z0(s:Bt)(c:s.size<=281474976710656)(h:Lib.parseIntB 64 s.data.toList=.range)(b:Value)(w:MN)(k:w.cell? ⟨5,0,Te⟩=Td b)(f:b=.nilIface\/∃i l,b=.iface i l):Calls Tp 262 #[aa6 s,ab0 10,ab0 64] w λe w'=>∃N,e=.returned (.tuple #[ab0 (Lib.intSat 64 s.data.toList),.iface 354 (aa7 ⟨N,0,Te⟩)])/\w.heap.size<=N/\w'.heap[N]?=Td (.cells #[aa6 ⟨#[80,97,114,115,101,73,110,116]⟩,aa6 s,b] 376 (0,0))/\Below w.heap.size w w':=Any.strconv_ParseInt_10_at64_range wK s c h b w k f
def OB:Go.Shelf.Ren:=⟨fun|99=>251|206=>306|n=>n,fun|9=>9|4=>4|3=>3|n=>n,fun|n=>n⟩
def NJ:Go.Proofs.Lays.n99 Tp OB:=by constructor <;> intros <;> kernel_rfl
open Go.RowKit Go.Lib in
def Ob(s p:Bt)(w:MN):Calls Tp 251 #[aa6 s,aa6 p] w λe w'=>e=.returned (aa9 (Lib.hasPrefix s.data.toList p.data.toList))/\w'=w:=Any.strings_HasPrefix NJ s p w
def V1:Go.Shelf.Ren:=⟨fun|101=>269|208=>320|206=>306|n=>n,fun|9=>9|4=>4|3=>3|n=>n,fun|n=>n⟩
def Nf:Go.Proofs.Lays.n101 Tp V1:=by constructor <;> intros <;> kernel_rfl
open Go.RowKit Go.Lib in
def JQ(s p:Bt)(w:MN):Calls Tp 269 #[aa6 s,aa6 p] w λe w'=>e=.returned (aa6 ⟨(Lib.trimPrefix s.data.toList p.data.toList).toArray⟩)/\w'=w:=Any.strings_TrimPrefix Nf s p w
def Ir:Go.Shelf.Ren:=⟨fun|197=>247|260=>298|n=>n,fun|9=>9|21=>21|3=>3|4=>4|5=>5|105=>256|119=>305|0=>0|46=>123|139=>308|138=>307|n=>n,fun|3=>0|4=>1|n=>n⟩
def Kh:Go.Proofs.Lays.n197 Tp Ir:=by constructor <;> intros <;> kernel_rfl
def SO:Go.Shelf.Ren:=⟨fun|150=>365|153=>391|152=>369|226=>404|227=>271|228=>321|137=>319|119=>394|224=>358|225=>357|217=>356|266=>385|n=>n,fun|9=>9|4=>4|3=>3|5=>5|21=>21|117=>281|116=>280|0=>0|46=>123|124=>284|n=>n,fun|n=>n⟩
def OZ:Go.Proofs.Lays.n150 Tp SO:=by constructor <;> intros <;> kernel_rfl
open Go.RowKit Go.Lib in
def Y9(s c:Bt)(w:MN)(k:s.size<4294967281)(i:c.size<4294967281)(h:∀(j:Nat) b,s.data.toList[j]?=Td b->b.toNat<128)(f:∀(j:Nat) b,c.data.toList[j]?=Td b->b.toNat<128):Calls Tp 365 #[aa6 s,aa6 c] w λe w'=>e=.returned (aa9 (Lib.containsAny s.data.toList c.data.toList))/\Below w.heap.size w w':=Any.strings_ContainsAny_laid OZ κ s c w k i h f
def Dn:Go.Shelf.Ren:=⟨fun|105=>200|212=>250|99=>251|165=>202|166=>68|170=>252|169=>70|263=>304|264=>305|206=>306|240=>123|241=>257|276=>195|277=>308|n=>n,fun|9=>9|3=>3|4=>4|20=>20|0=>0|46=>123|109=>259|5=>5|72=>89|76=>92|51=>176|146=>313|53=>178|148=>315|70=>86|37=>87|75=>91|127=>133|164=>199|80=>95|n=>n,fun|n=>n⟩
def IY:Go.Proofs.Lays.n105 Tp Dn:=by constructor <;> intros <;> kernel_rfl
def WX:Builder.Extra Tp Dn:={
 sizeBuilder:=κ
 liesBuilder:=κ
 t5:=Tryz.underlying5
 a5:=Tryz.isAgg5
 z5:=Tryz.sizeOf5
 v5:=Tryz.zeroValue5
 infoByte:=κ
 cellsByte:=κ
 sizeByte:=κ
 neB5:=by decide }
open Go.RowKit Go.Lib in
def XX(s:Bt)(c:Nat)(w:MN)(f:c<=9223372036854775807)(b:s.size*c<=140737488355328):Calls Tp 200 #[aa6 s,ab0 c] w λe w'=>e=.returned (aa6 ⟨(Lib.repeatL s.data.toList c).toArray⟩)/\Below w.heap.size w w':=Any.strings_Repeat IY WX s c w f b
open Go.RowKit Go.Lib in
def Jx(s:Bt)(w:MN)(b:Lib.Utf8Tabs 0 1 w):Calls Tp 247 #[aa6 s] w λe w'=>e=.returned (.tuple #[.int .i32 (Lib.decodeGo s).1,ab0 (Lib.decodeGo s).2])/\Below w.heap.size w w':=Any.utf8_DecodeRuneInString Kh s w b
end
section
open Go.RowKit
variable {gl M:Fr} {s:Bt}
def uZ{c:Int}{R:ac6}(h:R (Lib.indexByte (lb s) c.toNat.toUInt8)):PC Tp gl 319 [qr .str s,qr (.int .u8) c] [.int .i64] R:= PC.of_same rfl (λ_=>Io _ _) h λw _=>j8 s c w
def Mu{s p:Bt}{R:Bt×Bool->Prop}(h:R (bl (Lib.trimPrefix (lb s) (lb p)),Lib.hasPrefix (lb s) (lb p))):PC Tp gl 267 [qr .str s,qr .str p] [.str,.bool] R:= PC.of_same rfl (λM=>⟨[_,_],⟨_,_,rfl,rfl,_,rfl,rfl⟩,rfl⟩) h λw _=>QQ s p w
def LR{s p:Bt}{R:Bt->Prop}(h:R (bl (Lib.trimPrefix (lb s) (lb p)))):PC Tp gl 269 [qr .str s,qr .str p] [.str] R:= PC.of_same rfl (λ_=>oR _) h λw _=>JQ s p w
def SP{c:UInt8}(b:c.toNat<128){R:Bt->Prop}(h:R (bl (Lib.trimLeftB (lb s) c))):PC Tp gl 218 [qr .str s,qr .str ⟨#[c]⟩] [.str] R:= PC.of_same rfl (λ_=>oR _) h λw _=>Tx s c b w
def PN{c:UInt8}(e:c.toNat<128)(b:s.size<=9223372036854775807){R:Bt->Prop}(h:R (bl (Lib.trimRightB (lb s) c))):PC Tp gl 219 [qr .str s,qr .str ⟨#[c]⟩] [.str] R:= PC.of_same rfl (λ_=>oR _) h λw _=>Xn s c e w b
def Gs(gl:Fr):Prop:=∃(cs:Array Value) (m:Int),gl 3=Td cs/\cs[0]?=Td (.int .i64 m)
def BZ(w:MN)(n:Nat):Below w.heap.size w (w.drewN n):=⟨rfl,rfl,rfl,YJ _,λ_ _=>rfl⟩
def xE{c:Nat}(e:c<=9223372036854775807)(b:s.size*c<=140737488355328){R:Bt->Prop}(h:R (bl (Lib.repeatL (lb s) c))):PC Tp gl 200 [qr .str s,qr q0 (c:Int)] [.str] R:= PC.of_scal rfl (λ_=>oR _) h λw f=>XX s c w e b
def Tabs(gl:Fr):Prop:=(∃cs:Array Value,gl 0=Td cs/\∀c,c<256->cs[c]?=Td (.int .u8 (Lib.firstT c)))/\∃cs:Array Value,gl 1=Td cs/\∀i,i<16->cs[2*i]?=Td (.int .u8 (Lib.accLo i))/\cs[2*i+1]?=Td (.int .u8 (Lib.accHi i))
theorem Tabs.at(h:Tabs gl){w:MN}(b:AgM gl w.heap):Lib.Utf8Tabs 0 1 w:=by have⟨⟨c1,e,b1⟩,c2,a2,b2⟩:=h;exact⟨λc f=>b.glob e (b1 c f),λi hi=>⟨b.glob a2 (b2 i hi).1,b.glob a2 (b2 i hi).2⟩⟩
def EE(c:Tabs gl){R:Int×Int->Prop}(h:R ((Lib.decodeGo s).1,(Lib.decodeGo s).2)):PC Tp gl 247 [qr .str s] [.int .i32,.int .i64] R:= PC.of_scal rfl (λM=>⟨[_,_],⟨_,_,rfl,rfl,_,rfl,rfl⟩,rfl⟩) h λw b=>Jx s w (c.at b)
def QM(w:MN)(k:Nat)(os:Array Obj):Below w.heap.size w (Go.Sort.grow (w.drewN k) os):=⟨rfl,rfl,rfl,by simp[Go.Sort.grow,World.drewN],λi hi=>by show((w.drewN k).heap++os)[i]?=_;exact zca hi⟩
def oE(gl : Fr): Prop := ∃ b cs, Tryz.prog.globalNamed "internal/strconv.uint64pow10" = some b ∧ gl b = some cs ∧ cs = (Lib.pow10Tab.map λz => Value.int .u64 z).toArray
def AW(i:oE gl){n:Int}(h0:-9223372036854775808<=n)(h1:n<=9223372036854775807){R:Bt->Prop}(h:R (bl (Lib.itoa n))):PC Tp gl 159 [qr q0 n] [.str] R:=by have⟨b,cs,l,r,o⟩:=i;refine PC.of_scal rfl (λ_=>oR _) h λw f=>(Ly n h0 h1 w ?_).mono λe w' ⟨p,k,os,c⟩=>⟨p,c ▸ QM w k os⟩;have⟨T,m,q⟩:=f b cs r;unfold Lib.TabIs World.var?;rw[l];simp only[Option.bind_some,q,o]
def yJ(gl:Fr):Prop:=(∃(cs:Array Value) (e:Value),gl 4=Td cs/\cs[0]?=Td e/\(e=.nilIface\/∃b c,e=.iface b c))/\∃(cs:Array Value) (e:Value),gl 5=Td cs/\cs[0]?=Td e/\(e=.nilIface\/∃b c,e=.iface b c)
def wM(k:IntKind)(i:Int)(t:N4)(u:Value):x7 M [.int k,.err] (i,Tc) (.tuple #[.int k i,.iface t u]):=⟨[_,_],⟨_,_,rfl,rfl,.iface t u,rfl,⟨_,rfl,.inr ⟨rfl,_,_,rfl⟩⟩⟩,rfl⟩
def DW(k:IntKind)(i:Int):x7 M [.int k,.err] (i,Ta) (.tuple #[.int k i,.nilIface]):=⟨[_,_],⟨_,_,rfl,rfl,.nilIface,rfl,⟨_,rfl,.inl ⟨rfl,rfl⟩⟩⟩,rfl⟩
def wG(l:List UInt8):Int×Bool:=match Lib.parseIntB 64 l with
 |.ok v=>(v,Ta)
 |.range=>(Lib.intSat 64 l,Tc)
 |_=>(0,Tc)
def MO(p:yJ gl)(o:s.size<=281474976710656){R:Int×Bool->Prop}(h:R (wG (lb s))):PC Tp gl 262 [qr .str s,qr q0 10,qr q0 64] [.int .i64,.err] R:=by
 unfold wG at h;cases hx:Lib.parseIntB 64 (lb s)with
 |ok v=>rw[hx]at h;refine PC.of_ex rfl λw f=>(Qu s ω v hx w).mono λe w' ⟨c,i⟩=>⟨_,(v,Ta),c,λM=>DW _ _,h,?_⟩;obtain rfl|⟨t,rfl⟩:=i;exact Below.refl _ _;exact Lib.bytesWorld_below _ _ _
 |range=>rw[hx]at h;have⟨_,⟨cs,k,l,n,m⟩⟩:=p;exact PC.of_ex rfl λw f=>(Z0 s o hx k w (f.glob l n) m).mono λe w' ⟨N,c,_,_,b⟩=>⟨_,(Lib.intSat 64 (lb s),Tc),c,λM=>wM _ _ _ _,h,b⟩
 |_=>rw[hx]at h;have⟨⟨cs,k,l,n,m⟩,_⟩:=p;exact PC.of_ex rfl λw f=>(Zl s o hx k w (f.glob l n) m).mono λe w' ⟨N,c,_,_,b⟩=>⟨_,(0,Tc),c,λM=>wM _ _ _ _,h,b⟩
def QH{s c:Bt}(i:s.size<4294967281)(k:c.size<4294967281)(f:∀(j:Nat) b,(lb s)[j]?=Td b->b.toNat<128)(e:∀(j:Nat) b,(lb c)[j]?=Td b->b.toNat<128){R:ac4}(h:R (Lib.containsAny (lb s) (lb c))):PC Tp gl 365 [qr .str s,qr .str c] [.bool] R:=
 PC.of_scal rfl (λ_=>ux _) h λw l=>Y9 s c w i k f e
end
section
open Go.Lib
theorem zf(l:Bs):(bl l).size=DB l:=by rw[<-iU,yr]
theorem qa(l:Bs)(a b:Nat):(bl l).extract a b=bl ((l.drop a).take (b-a)):=by rw[<-oP,Se,yr,yr]
theorem qf(a b:Bs):bl a++bl b=bl (a++b):=by rw[<-oP,JO,yr,yr,yr]
theorem zx(l:Bs)(i:Nat):ze (bl l) i=((l[i]?.getD 0).toNat:Int):=by rw[wH,yr]
theorem Qp(s:Bt):s.toList=lb s:=by simp[Go.Lib.toList_data]
theorem fS(a b:Bs):((bl a).toList==(bl b).toList)=hV (a=b):=by rw[Qp,Qp,yr,yr];grind
def yU{a b:Bs}:bl a=bl b↔a=b:=ξ
theorem oT(l:Bs)(p:Nat):fe (bl l) p=hV (p<DB l):=by rw[ZI];simp[fe,zf]
theorem oU(l:Bs)(p:Nat):gg (bl l) p=((dec (l.drop p)).1:Int):=by rw[gg,sh,yr]
theorem lH(l:Bs)(p:Nat)(h:p<DB l):fp (bl l) p=p+(dec (l.drop p)).2:=by
 rw[fp,sh,yr];have:Nat.blt p (bl l).size=Ta:=by simp[zf,h]
 rw[this];rfl
theorem Yw{l:Bs}{i:Nat}(h:i<DB l):l[i]?.getD 0=l[i]:=θ
def yl(c:UInt8):Bool:=hV (48<=c.toNat)&&hV (c.toNat<=57)
def Z1(l:Bs):Bool:=l.all yl && !l.isEmpty
abbrev Nm:=Bool×Bs×Int
abbrev fD(n:Nm):Bool×Bt×Int:=(n.1,(bl n.2.1,n.2.2))
def Yx(n:Nm):Bool:=!n.1&&(n.2.1.isEmpty&&n.2.2==0)
def qy(n:Nm):Bool:=Yx n||(Z1 n.2.1&&hV (n.2.1.length<=1000)&&n.2.1.head? != Td 48&&n.2.1.getLast? != Td 48&&hV (-1000000<=n.2.2)&&hV (n.2.2<=1000000))
def qu(n:Nm):Bs:=if qy n then(if n.2.1=[]then [48]else(if n.1 then [45]else [])++n.2.1++(if n.2.2=0 then []else 101::Go.Lib.itoa n.2.2))else []
def uP{n:Nm}(h:qy n=Ta)(e:n.2.1=[]):Yx n=Ta:=by unfold qy at h;obtain h|h:=za1 _ _ ▸ h;exact h;simp[Z1,e]at h
def Yy{n:Nm}(h:qy n=Ta):n.2.1.length<=1000/\-1000000<=n.2.2/\n.2.2<=1000000:=by unfold qy Yx at h;grind
def GE(p:UInt8->Bool):Bs->Bs×Bs×Bool
 |[]=>([],[],Tc)
 |c::l=>if p c then([],l,Ta)else(c::(GE p l).1,(GE p l).2)
theorem Yi{p:ac2}:∀{l},(∀c∈l,p c=Tc)->GE p l=(l,[],Tc)
 |[],_=>rfl
 |c::l,h=>by unfold GE;rw[za η,Yi λc b=>h c (ϑ b)]
theorem od{p:ac2}:∀{l:Bs} {k:Nat} (b:k<DB l),(∀i (hi:i<k),p (l[i]' ω)=Tc)->p l[k]=Ta->GE p l=(l.take k,l.drop (k+1),Ta)
 |c::l,0,_,_,h=>by unfold GE;simp_all
 |c::l,k+1,b,h0,h=>by unfold GE;have h1:p c=Tc:=h0 0 ω;rw[za (ϑ h1),od (k:=k) (ψ b) (λi hi=>η) (ψ h)];simp
structure Lit where
 neg:Bool
 whole:Bs
 rest:Bs
 low:Bool
 exp:Bs
def fv(s:Bs):Bs:=if s.head?==Td 45 then s.tail else s
def gi(c:UInt8):Bool:=c==101||c==69
def gp(c:UInt8):Bool:=c==46
def jw(s:Bs):Bs×Bs×Bool:=GE gi (fv s)
def Za(s:Bs):Bool:=(jw s).2.2&&(jw s).2.1.head?==Td 45
def eP(s:Bs):Bs:=if Za s then(jw s).2.1.tail else if(jw s).2.1.head?==Td 43 then(jw s).2.1.tail else(jw s).2.1
def jy(s:Bs):Bs×Bs×Bool:=GE gp (jw s).1
def Xp(s:Bs):Bool:=(!(jw s).2.2||Z1 (eP s))&&Z1 (jy s).1&&(!(jy s).2.2||Z1 (jy s).2.1)&&((jy s).1==[48]||(jy s).1.head? != Td 48)
def Yz(s:Bs):Lit:=⟨s.head?==Td 45,(jy s).1,(jy s).2.1,Za s,if(jw s).2.2 then eP s else []⟩
def Q0(s:Bs):Option Lit:=if Xp s then Td (Yz s)else Te
def tv{s:Bs}{x:Lit}(h:Q0 s=Td x):Xp s=Ta/\x=Yz s:=by unfold Q0 at h;simp_all
theorem Wu{p:ac2}:∀{l:Bs},(GE p l).2.2=Tc->(GE p l).1=l/\(GE p l).2.1=[]
 |[],_=>⟨rfl,rfl⟩
 |c::l,h=>by unfold GE at h ⊢;split;simp_all;rename_i e;rw[za e]at h;have:=Wu h;simp_all
def wl(l:Bs):Bs:=((l.dropWhile (· == 48)).reverse.dropWhile (· == 48)).reverse
def zo(l:Bs):Nat:=l.foldl (λn c=>10*n+(c.toNat-48)) 0
def zj(s:Bs):Nm×Int:=match Q0 s with
 |none=>((Tc,[],0),2)
 |some x=>
  if x.whole.length+x.rest.length>1000 then((Tc,[],0),3)
  else if(x.exp.dropWhile (· == 48)).length>9 then((Tc,[],0),4)
  else
   let e:Int:=if x.low then-(zo (x.exp.dropWhile (· == 48)):Int)else zo (x.exp.dropWhile (· == 48))
   let d:=(x.whole++x.rest).dropWhile (· == 48)
   let b:=wl (x.whole++x.rest)
   if d=[]then((Tc,[],0),0)
   else if -1000000<=e-x.rest.length+d.length-b.length/\e-x.rest.length+d.length-b.length<=1000000 then((x.neg,b,e-x.rest.length+d.length-b.length),0)
   else((Tc,[],0),4)
def mM(n:Nm):Int×Bool:=
 if qy n&&hV (0<=n.2.2)&&hV ((n.2.1.length:Int)+n.2.2<=19)then
  let v:Int:=if n.1 then-((zo n.2.1*10 ^ n.2.2.toNat:Nat):Int)else(zo n.2.1*10 ^ n.2.2.toNat:Nat)
  if -9223372036854775808<=v/\v<=9223372036854775807 then(v,Ta)else(0,Tc)
 else(0,Tc)
end
section
section
variable {n:Nat} {gl:Fr} {l:Bs} {R:Bool -> Prop}
theorem qo{k n:Nat}(h:k<n)(b:n<=4611686018427387904):p3 ((k:Int)+1)=((k+1:Nat):Int):=Kd ω
def Jm(m:l.length<=4611686018427387904)(h:R (Z1 l)):PC Tp gl 333 [qr .str (bl l)] [.bool] R:=by
 apply SX;simp only[zf,zx];refine⟨λi=>∃k:Nat,i=k/\k<=DB l/\Z1 l=(Z1 l&&(l.drop k).all yl)/\(l.drop k).all yl=l.all yl,λi=>DB l-i.toNat,⟨0,rfl,ω,by simp[Z1];exact λh _=>h,ξ⟩,?_⟩;rintro i ⟨k,rfl,n,-,h2⟩;refine⟨λf=>?_,λf=>?_⟩;have b:k<DB l:=ψ f
 simp only[YL,Yw b];rw[ZG b,zcu]at h2;refine⟨ω,λ_=>ω,λc=>?_,λc=>?_⟩;have e:yl l[k]=Tc:=by unfold yl;rw[zb1]at c;have:=l[k].toNat_lt;obtain c|c:=za1 _ _ ▸ c <;> simp at c ⊢ <;> omega
 rw[e]at h2;simp only[Bool.false_and]at h2;have:Z1 l=Tc:=by simp[Z1,<-h2]
 rw[this]at h;exact h;have e:yl l[k]=Ta:=by unfold yl;rw[zb1]at c;have:=zbs.1 c;simp at this ⊢;omega
 rw[e]at h2;simp only[zbb]at h2;rw[qo b m];refine⟨⟨k+1,rfl,ω,?_,h2⟩,φ⟩;rw[h2,Z1];cases l.all yl <;> simp;have b:k=DB l:=by(have:¬(k<DB l):=ψ f);omega
 subst b;rw[List.drop_length]at h2;have:Z1 l=hV ((DB l:Int)>0):=by rw[Z1,<-h2];cases l <;> simp
 rw[this]at h;exact h
def VB(h:l≠[]):(48<=(dec l).1/\(dec l).1<=57)->(dec l).2=1/\∃c t,l=c::t/\yl c=Ta/\(dec l).1=c.toNat:=by obtain⟨c,t,rfl⟩:=zag h;intro b;by_cases e:c.toNat<128;rw[Yv e]at b ⊢;exact⟨rfl,c,t,rfl,by simp[yl];simpa using b,rfl⟩;exfalso;unfold dec at b;have b0:((c::t).getD 0 0).toNat=c.toNat:=rfl;rw[b0]at b;have:=c.toNat_lt;have b1:=((c::t).getD 1 0).toNat_lt;have b2:=((c::t).getD 2 0).toNat_lt;have b3:=((c::t).getD 3 0).toNat_lt;generalize ((c::t).getD 1 0).toNat=x1 at *;generalize ((c::t).getD 2 0).toNat=x2 at *;generalize ((c::t).getD 3 0).toNat=x3 at *;generalize c.toNat=x0 at *;unfold Lib.decodeN at b;rw[za e]at b;split at b;split at b <;> simp only at b <;> omega;split at b;split at b <;> simp only at b <;> omega;split at b;split at b <;> simp only at b <;> omega;simp only at b;omega
def sP(h:R (Z1 l)):PC Tp gl 215 [qr .str (bl l)] [.bool] R:=by
 apply Uo;refine⟨λp=>p.1=bl l/\p.2<=DB l/\(l.drop p.2).all yl=l.all yl,λp=>DB l-p.2,⟨rfl,ω,ξ⟩,?_⟩;rintro⟨_,p⟩ ⟨rfl,o,h2⟩;simp only at o h2 ⊢;rw[oT,oU];refine⟨λm=>⟨m,λf=>?_,λf=>?_⟩,λm=>?_⟩;all_goals first
  |have k:p<DB l:=ψ m
  |have k:¬p<DB l:=ψ m
 have i:l.drop p≠[]:=λe=>by have:=congrArg za6 e;simp at this;omega
 have n:¬(48<=(dec (l.drop p)).1/\(dec (l.drop p)).1<=57):=by rw[zb1]at f;obtain f|f:=za1 _ _ ▸ f <;> simp at f <;> omega
 have q:l.all yl=Tc:=by
  rw[<-h2];have⟨c,t,e⟩:=zag i;rw[e];cases b:yl c with
  |false=>simp[b]
  |true=>
   exfalso;apply n;have:c.toNat<128:=by simp[yl]at b;omega
   rw[e,Yv this];simpa[yl]using b
 have:Z1 l=Tc:=by simp[Z1,q]
 rw[this]at h;exact h;have i:l.drop p≠[]:=λe=>by have:=congrArg za6 e;simp at this;omega
 have n:48<=(dec (l.drop p)).1/\(dec (l.drop p)).1<=57:=by rw[zb1]at f;have:=zbs.1 f;simp at this;omega
 have⟨h1,c,t,e,b,_⟩:=VB i n;rw[lH l p k,h1];refine⟨⟨trivial,ω,?_⟩,ω⟩;have r:l.drop (p+1)=t:=by rw[<-zap,e];rfl
 rw[r,<-h2,e];simp[b];have:l.drop p=[]:=zao ω;rw[this]at h2;have e:Z1 l=!(hV (l=[])):=by rw[Z1,<-h2];cases l <;> simp
 have:=fS l [];rw[show(⟨#[]⟩:Bt)=bl []from rfl,this,<-e];exact h
abbrev tN:Ty:=.pair .bool (.pair .str (.int .i64))
def A6{n:Nm}(h:R (Yx n)):PC Tp gl 292 [qr tN (fD n)] [.bool] R:=by
 apply Tf;simp only[show(⟨#[]⟩:Bt)=bl []from rfl,fS];have e:Yx n=((n.1==Tc)&&(hV (n.2.1=[])&&((n.2.2==0)&&Ta))):=by unfold Yx;obtain⟨_|_,_|⟨_,_⟩,e⟩:=n <;> simp
 rw[e]at h;exact h
theorem ry(h:0<DB l):(((l[0]?.getD 0).toNat:Int) != 48)=(l.head? != Td 48):=by
 cases l with
 |nil=>simp at h
 |cons c t=>rw[ZI];simp;constructor;intro h1 h2;exact h1 (π h2);intro h1 h2;exact h1 (zcc.1 (by(have:c.toNat=48:=by omega);rw[this];rfl))
theorem Du(h:0<DB l):(((l[DB l-1]?.getD 0).toNat:Int) != 48)=(l.getLast? != Td 48):=by rw[List.getLast?_eq_getElem?];rw[YS ω];rw[ZI];simp;constructor;intro h1 h2;exact h1 (π h2);intro h1 h2;exact h1 (zcc.1 (by(have:l[DB l-1].toNat=48:=by omega);rw[this];rfl))
theorem Xq(h:Z1 l=Ta):0<DB l:=by
 cases l with
 |nil=>simp[Z1]at h
 |cons=>simp
theorem mD(h:0<n)(b:n<=4611686018427387904):p3 ((n:Int)-1)=((n-1:Nat):Int):=by rw[Fm ω ω];omega
def HW{n:Nm}(f:n.2.1.length<=4611686018427387904)(h:R (qy n)):PC Tp gl 279 [qr tN (fD n)] [.bool] R:=by
 apply O4;refine A6 (n:=n) ⟨λh1=>?_,λh1=>?_⟩;have:qy n=Ta:=by simp[qy,h1]
 rw[this]at h;exact h;refine Jm f ⟨λh2=>?_,λh2=>?_,?_⟩;have c:Z1 n.2.1=Ta:=by simp at h2;exact h2.1
 have:=Xq c;simp only[zf];omega;have c:Z1 n.2.1=Ta:=by simp at h2;exact h2.1.1
 have:=Xq c;simp only[zf];rw[mD this f];omega;have e:qy n=(cond (cond (cond (cond (cond (Z1 n.2.1) (hV (((bl n.2.1).size:Int)<=1000)) Tc) ((ze (bl n.2.1) (0:Int).toNat:Int) != 48) Tc) ((ze (bl n.2.1) (p3 (((bl n.2.1).size:Int)-1):Int).toNat:Int) != 48) Tc) (hV (n.2.2>=(-1000000))) Tc) (hV (n.2.2<=1000000)) Tc):=by
  unfold qy;rw[h1,zdu];simp only[zf,zx];cases hd:Z1 n.2.1 with
  |false=>simp
  |true=>have b:=Xq hd;rw[mD b f];simp only[YL,Int.toNat_zero,Du b,ry b,zbo,zbb,zF];congr 3;rw[ZI];simp;omega
 rw[e]at h;exact h
def wU{n:Nm}(l:n.2.1.length<=4611686018427387904)(h:R (qy n)):PC Tp gl 158 [qr tN (fD n)] [.bool] R:=by
 apply R9;simp only[show(⟨#[]⟩:Bt)=bl []from rfl,fS,zf,zx];have e:((n.1==Tc)&&(hV (n.2.1=[])&&((n.2.2==0)&&Ta)))=Yx n:=by unfold Yx;obtain⟨_|_,_|⟨_,_⟩,e⟩:=n <;> simp
 rw[e];refine⟨λh1=>?_,λh1=>?_⟩;have:qy n=Ta:=by simp[qy,h1]
 rw[this]at h;exact h
 ·unfold qy at h;rw[h1,zdu]at h;refine sP ⟨λh2=>⟨λ_=>?_,λf=>?_⟩,λh2=>⟨λf=>⟨λ_=>?_,λc=>?_⟩,λf=>⟨?_,λc=>⟨λ_=>?_,λb=>?_⟩,λc=>⟨?_,λb=>?_,λb=>?_⟩⟩⟩⟩;have:Z1 n.2.1=Tc:=ψ h2
  rw[this]at h;simpa using h;rw[h2]at f;cases f;have:hV (DB n.2.1<=1000)=Tc:=by simp at f ⊢;omega
  rw[this]at h;simpa using h;rw[f]at c;cases c;all_goals
   have m:Z1 n.2.1=Ta:=ψ h2
   have i:=Xq m;have k:hV (DB n.2.1<=1000)=Ta:=by simp at f ⊢;omega
   have o:=ry i;have el:=Du i
  omega;have:(n.2.1.head? != Td 48)=Tc:=by rw[<-o];simp at c ⊢;exact c
  rw[this]at h;simpa using h;rw[c]at b;cases b;rw[mD i l];omega;have:(n.2.1.getLast? != Td 48)=Tc:=by rw[<-el];rw[mD i l]at b;simp at b ⊢;exact b
  rw[this]at h;simpa using h;have p:(n.2.1.head? != Td 48)=Ta:=by rw[<-o];simp at c ⊢;exact c
  have q:(n.2.1.getLast? != Td 48)=Ta:=by rw[<-el];rw[mD i l]at b;simp at b ⊢;exact b
  rw[m,k,p,q]at h;simp only[zbb]at h;rw[zbo];exact h
end
section
def XF{vs:ab2}{f:FuncId}{fn:Func}{h:zb}{R:vvv}{F:Prop}(pl:Plan)(rs:List ResultVar)(n:Nat)(b:ZM.funcs[f]?=Td fn)(H:F)(i:Ys fn=Ta:=by kernel_rfl)(c:fn.results.toList=rs:=by kernel_rfl)(k:fn.ntmps=n:=by kernel_rfl)(l:Nat.ble (DB vs) n=Ta:=by kernel_rfl)(e:F=W Tp n pl (codeOf fn) (qS Tp rs R) (iI 0 vs) h:=by kernel_rfl):XC Tp f vs.toArray h R:=LV Tryz.mixed pl vs b i c k l (Eq.mp e H)
abbrev aa4:=XC Tp
abbrev aa5:=PC Tp
def Rr(s0:Bt)(h:zb)(R:vvv) (H:let a:=h.push (.cells #[aa9 Tc,aa9 Tc,aa6 (⟨#[]⟩:Bt),aa6 (⟨#[]⟩:Bt),aa6 (⟨#[]⟩:Bt)] 221);aa4 267 #[aa6 s0,aa6 (⟨#[45]⟩:Bt)] a (λb c=>∃d e,b=.tuple #[aa6 d,aa9 e]/\wf Tp (YI 4 (.pointer (Td (YH (aa8 h) 0))) (aa9 e)) c (λf=>aa4 268 #[aa6 d,aa6 (⟨#[101,69]⟩:Bt)] f (λg i=>∃j k l,g=.tuple #[aa6 j,aa6 k,aa9 l]/\∀m:Bt->zb->Prop,(∀n:Bt,∀o:zb,(wf Tp (YI 9 (.pointer (Td (YH (aa8 h) 4))) (aa6 n)) o (λp=>aa4 268 #[aa6 j,aa6 (⟨#[46]⟩:Bt)] p (λq r=>∃s t u,q=.tuple #[aa6 s,aa6 t,aa9 u]/\wf Tp (YI 9 (.pointer (Td (YH (aa8 h) 2))) (aa6 s)) r (λv=>wf Tp (YI 9 (.pointer (Td (YH (aa8 h) 3))) (aa6 t)) v (λw=>aa4 215 #[aa6 s] w (λx y=>∃z,x=.bool z/\∃A:vvv,(((!(!z))&&u)=Ta->aa4 215 #[aa6 t] y (λB C=>∃D,B=.bool D/\A (aa9 D) C))/\(((!(!z))&&u)=Tc->∃E,A (aa9 E) y)/\(((!(!z))&&u)=Ta->∀F G,A F G->∃I,F=.bool I)/\∀J:Bool,∀L,A (aa9 J) L->((cond (!z) Ta (cond u (!J) Tc))=Ta->∃M N O P Q,zc L (aa8 h) 0 [aa9 M,aa9 N,aa6 O,aa6 P,aa6 Q]/\wf Tp (YI 221 (aa7 (aa8 h)) (.agg #[aa9 M,aa9 N,aa6 O,aa6 P,aa6 Q])) L (λS=>∃T U V W X,zc S (aa8 h) 0 [aa9 T,aa9 U,aa6 V,aa6 W,aa6 X]/\R (.tuple #[.agg #[aa9 T,aa9 U,aa6 V,aa6 W,aa6 X],aa9 Tc]) S))/\((cond (!z) Ta (cond u (!J) Tc))=Tc->∃Y Z aa ab ac,zc L (aa8 h) 0 [aa9 Y,aa9 Z,aa6 aa,aa6 ab,aa6 ac]/\let ad:zb->Prop:=λ(ae:zb)=>(∃af ag ah ai aj,zc ae (aa8 h) 0 [aa9 af,aa9 ag,aa6 ah,aa6 ai,aa6 aj]/\R (.tuple #[.agg #[aa9 af,aa9 ag,aa6 ah,aa6 ai,aa6 aj],aa9 (cond (s.toList==(⟨#[48]⟩:Bt).toList) Ta ((ze s (0:Int).toNat:Int) != 48))]) ae);let ak:zb->Prop:=λ(al:zb)=>(ad al);let am:zb->Prop:=λ(an:zb)=>(ak an);let ao:zb->Prop:=λ(ap:zb)=>(((!(s.toList==(⟨#[48]⟩:Bt).toList))=Ta->(0<=(0:Int)/\(0:Int)<(s.size:Int)))/\am ap);(g6 L L (aa8 h)/\(((!(s.toList==(⟨#[48]⟩:Bt).toList))=Ta->(0<=(0:Int)/\(0:Int)<(s.size:Int)))/\g6 L L (aa8 h)/\(g6 L L (aa8 h)/\(g6 L L (aa8 h)/\wf Tp (YI 221 (aa7 (aa8 h)) (.agg #[aa9 Y,aa9 Z,aa6 aa,aa6 ab,aa6 ac])) L (λaq=>ad aq))/\(wf Tp (YI 221 (aa7 (aa8 h)) (.agg #[aa9 Y,aa9 Z,aa6 aa,aa6 ab,aa6 ac])) L (λar=>ak ar)))/\(wf Tp (YI 221 (aa7 (aa8 h)) (.agg #[aa9 Y,aa9 Z,aa6 aa,aa6 ab,aa6 ac])) L (λau=>am au)))/\(wf Tp (YI 221 (aa7 (aa8 h)) (.agg #[aa9 Y,aa9 Z,aa6 aa,aa6 ab,aa6 ac])) L (λav=>ao av)))/\(wf Tp (YI 221 (aa7 (aa8 h)) (.agg #[aa9 Y,aa9 Z,aa6 aa,aa6 ab,aa6 ac])) L (λaw=>ao aw)))))))))->m n o)->(l=Ta->aa4 267 #[aa6 k,aa6 (⟨#[45]⟩:Bt)] i (λax ay=>∃az aA,ax=.tuple #[aa6 az,aa9 aA]/\wf Tp (YI 4 (.pointer (Td (YH (aa8 h) 1))) (aa9 aA)) ay (λaB=>∀aC:Bt->zb->Prop,(∀aD:Bt,∀aE:zb,(aa4 215 #[aa6 aD] aE (λaF aG=>∃aH,aF=.bool aH/\((!aH)=Ta->∃aI aJ aL aM aN,zc aG (aa8 h) 0 [aa9 aI,aa9 aJ,aa6 aL,aa6 aM,aa6 aN]/\wf Tp (YI 221 (aa7 (aa8 h)) (.agg #[aa9 aI,aa9 aJ,aa6 aL,aa6 aM,aa6 aN])) aG (λaO=>∃aP aQ aS aT aU,zc aO (aa8 h) 0 [aa9 aP,aa9 aQ,aa6 aS,aa6 aT,aa6 aU]/\R (.tuple #[.agg #[aa9 aP,aa9 aQ,aa6 aS,aa6 aT,aa6 aU],aa9 Tc]) aO))/\((!aH)=Tc->m aD aG)))->aC aD aE)->∃aV,zd aB (YH (aa8 h) 1)=Td (aa9 aV)/\((!aV)=Ta->aa4 269 #[aa6 az,aa6 (⟨#[43]⟩:Bt)] aB (λaW aX=>∃aY,aW=.string aY/\aC aY aX))/\((!aV)=Tc->aC az aB))))/\(l=Tc->m k i))))):aa4 217 #[aa6 s0] h R:=XF ⟨[(14,8000)],[],[(9,[(4,.one (.str))]),(7,[(4,.one (.str))])]⟩ [.cell 2 221,.tmp 3] 69 func217 H
def Vt(s0:Bt)(h:zb)(R:vvv) (H:let a:=h.push (.cells #[aa9 Tc,aa6 (⟨#[]⟩:Bt),iV 0] 110);aa4 160 #[aa6 s0] a (λb c=>∃d e f g,b=.tuple #[.agg #[aa9 d,aa6 e,iV f],iV g]/\let i:=c.push (.cells #[aa9 Tc,aa6 (⟨#[]⟩:Bt),iV 0] 110);wf Tp (YI 110 (aa7 (aa8 c)) (.agg #[aa9 d,aa6 e,iV f])) i (λj=>∃k l m,zc j (aa8 c) 0 [aa9 k,aa6 l,iV m]/\let n:Bool->zb->Prop:=λo (p:zb)=>(∃q r s,zc p (aa8 h) 0 [aa9 q,aa6 r,iV s]/\R (.tuple #[.agg #[aa9 q,aa6 r,iV s],aa9 o]) p);let t:Bool->zb->Prop:=λu (v:zb)=>(n (cond (g==0) u Tc) v);let w:Bt->zb->Prop:=λx (y:zb)=>(t (x.toList==s0.toList) y);let z:Bt->zb->Prop:=λA (B:zb)=>((g6 B j (aa8 c)/\(g6 B j (aa8 c)/\wf Tp (YI 110 (aa7 (aa8 h)) (.agg #[aa9 k,aa6 l,iV m])) B (λC=>n (cond (g==0) (A.toList==s0.toList) Tc) C))/\(wf Tp (YI 110 (aa7 (aa8 h)) (.agg #[aa9 k,aa6 l,iV m])) B (λD=>t (A.toList==s0.toList) D)))/\(wf Tp (YI 110 (aa7 (aa8 h)) (.agg #[aa9 k,aa6 l,iV m])) B (λE=>w A E)));let F:Bool->Bt->Int->zb->Prop:=λG I J (L:zb)=>(∃M:vvv,((g==0)=Ta->aa4 92 #[.agg #[aa9 G,aa6 I,iV J]] L (λN O=>∃P,N=.string P/\M (aa6 P) O))/\((g==0)=Tc->∃Q,M (aa6 Q) L)/\((g==0)=Ta->∀S T,M S T->∃U,S=.string U)/\∀V:Bt,∀W,M (aa6 V) W->g6 W j (aa8 c)/\z V W);(∃X Y Z,((g==0)=Ta->zc j (aa8 c) 0 [aa9 X,aa6 Y,iV Z])/\g6 j j (aa8 c)/\(∃aa:vvv,((g==0)=Ta->aa4 92 #[.agg #[aa9 X,aa6 Y,iV Z]] j (λab ac=>∃ad,ab=.string ad/\aa (aa6 ad) ac))/\((g==0)=Tc->∃ae,aa (aa6 ae) j)/\((g==0)=Ta->∀af ag,aa af ag->∃ah,af=.string ah)/\∀ai:Bt,∀aj,aa (aa6 ai) aj->g6 aj j (aa8 c)/\(g6 aj j (aa8 c)/\z ai aj)/\(wf Tp (YI 110 (aa7 (aa8 h)) (.agg #[aa9 k,aa6 l,iV m])) aj (λak=>w ai ak)))/\(g6 j j (aa8 c)/\F X Y Z j))/\(g6 j j (aa8 c)/\∃al am an,((g==0)=Ta->zc j (aa8 c) 0 [aa9 al,aa6 am,iV an])/\g6 j j (aa8 c)/\F al am an j)))):aa4 148 #[aa6 s0] h R:=XF ⟨[(2,8000)],[],[]⟩ [.cell 2 110,.tmp 3] 20 func148 H
def Pt(a:Bool)(b:Bt)(c:Int)(h:zb)(R:vvv) (H:let d:=h.push (.cells #[aa9 a,aa6 b,iV c] 110);∃e f g,zc d (aa8 h) 0 [aa9 e,aa6 f,iV g]/\aa4 158 #[.agg #[aa9 e,aa6 f,iV g]] d (λi j=>∃k,i=.bool k/\∃l,((!(!k))=Ta->zd j (YH (aa8 h) 2)=Td (iV l))/\∃m,((!(cond (!k) Ta (hV (l<0))))=Ta->zd j (YH (aa8 h) 1)=Td (aa6 m))/\∃n,((!(cond (!k) Ta (hV (l<0))))=Ta->zd j (YH (aa8 h) 2)=Td (iV n))/\((cond (cond (!k) Ta (hV (l<0))) Ta (hV ((p3 ((m.size:Int)+n))>19)))=Ta->R (.tuple #[iV 0,aa9 Tc]) j)/\((cond (cond (!k) Ta (hV (l<0))) Ta (hV ((p3 ((m.size:Int)+n))>19)))=Tc->∃o,zd j (YH (aa8 h) 1)=Td (aa6 o)/\∃p,zd j (YH (aa8 h) 2)=Td (iV p)/\aa4 200 #[aa6 (⟨#[48]⟩:Bt),iV p] j (λq r=>∃s,q=.string s/\qb (o.size+s.size)/\g6 r j (YH (aa8 h) 1)/\∀t:Bt->zb->Prop,(∀u:Bt,∀v:zb,(((u.toList==(⟨#[]⟩:Bt).toList)=Ta->R (.tuple #[iV 0,aa9 Ta]) v)/\((u.toList==(⟨#[]⟩:Bt).toList)=Tc->aa4 262 #[aa6 u,iV 10,iV 64] v (λw x=>∃y,∃z:Value,w=.tuple #[iV y,z]/\kf z=Ta/\((!kC z)=Ta->R (.tuple #[iV 0,aa9 Tc]) x)/\((!kC z)=Tc->R (.tuple #[iV y,aa9 Ta]) x))))->t u v)->∃A,zd r (YH (aa8 h) 0)=Td (aa9 A)/\(A=Ta->qb (((⟨#[45]⟩:Bt)).size+(o++s).size)/\t ((⟨#[45]⟩:Bt)++(o++s)) r)/\(A=Tc->t (o++s) r))))):aa4 209 #[.agg #[aa9 a,aa6 b,ab0 c]] h R:=XF ⟨[(3,8000)],[],[(6,[(4,.one (.str))])]⟩ [.tmp 2,.tmp 3] 44 func209 H
end
end
section
open Go.RowKit
variable {h h':zb} {bs:List Nat} {v:Tr} {M:Fr} {b o:Nat} {cs:Array Value} {vs:List Value}
def Th(h:zb)(ks:List Bt)(bs:List Nat)(s:Sl):Prop:=
 s.len=ks.length/\ks.length<=140737488355328/\ks.length<=s.cap/\((ks=[]/\bs=[]/\s.cap=0)\/∃b cs,bs=[b]/\s.a=Td ⟨b,0,Te⟩/\Blk h b cs/\s.cap<=cs.size/\cut cs 0 ks.length=ks.map ZS)
inductive OT (h:zb):Tr->List Nat->List Value->Prop where
 |mk {k:Int} {s:Bt} {ks:List Bt} {xs:List Tr} {sk si:Sl} {bk bb:List Nat} {b:Nat} {cs:Array Value} {bf:Nat->List Nat}
  (hk:Th h ks bk sk) (hn:si.len=xs.length/\xs.length<=140737488355328/\xs.length<=si.cap)
  (hz:(xs=[]/\bb=[]/\si.cap=0)\/(bb=[b]/\si.a=Td ⟨b,0,Te⟩/\Blk h b cs/\si.cap*4<=cs.size))
  (hi:∀i (hx:i<xs.length),OT h xs[i] (bf i) (cut cs (i*4) 4))
  (hd:(bk++(bb++(zac xs.length).flatMap bf)).Nodup):
  OT h (.mk k s ks xs) (bk++(bb++(zac xs.length).flatMap bf)) [.int .i64 k,.string s,aK sk,aK si]
theorem Th.frame{ks:List Bt}{s:Sl}(H:Th h ks bs s)(c:∀b∈bs,h'[b]?=h[b]?):Th h' ks bs s:=by have⟨h1,h2,k,i⟩:=H;refine⟨h1,h2,k,i.imp id ?_⟩;rintro⟨b,cs,rfl,e,l,f⟩;exact⟨b,cs,rfl,e,l.aa1 (c b ξ),f⟩
theorem OT.frame{cells:ab2}(H:OT h v bs cells):(∀b∈bs,h'[b]?=h[b]?)->OT h' v bs cells:=by
 induction H with
 | @mk k s ks xs sk si bk bb b cs bf hk hn hz hi hd ih=>intro f;refine OT.mk (b:=b) (cs:=cs) (hk.frame λx c=>f x (ϑ c)) hn (hz.imp id ?_) (λi c=>ih i c λx e=>f x ?_) hd;rintro⟨rfl,l,n,m⟩;exact⟨rfl,l,n.aa1 (f b ξ),m⟩;simp only[ZF,zbz,zaz];exact .inr (.inr ⟨i,c,e⟩)
theorem OT.nodup{cells:ab2}(H:OT h v bs cells):bs.Nodup:=by cases H with|mk _ _ _ _ b=>exact b
theorem OT.lt{cells:ab2}(H:OT h v bs cells):∀b∈bs,b<h.size:=by
 induction H with
 | @mk k s ks xs sk si bk bb b cs bf hk hn hz hi hd ih=>intro x c;simp only[ZF,zbz,zaz]at c;obtain c|c|⟨i,h1,h2⟩:=c;have⟨_,_,_,f⟩:=hk;obtain⟨_,rfl,_⟩|⟨l,cs',rfl,_,e,_⟩:=f;cases c;simp at c;subst c;exact e.lt;obtain⟨_,rfl,_⟩|⟨rfl,_,e,_⟩:=hz;cases c;simp at c;subst c;exact e.lt;exact ih i h1 x h2
theorem OT.len{cells:ab2}(H:OT h v bs cells):cells.length=4:=by cases H;rfl
theorem OT.rd{cells:ab2}(H:OT h v bs cells)(n:∀b∈bs,∀cs,Blk h b cs->M b=Td cs):Rj M v cells:=by
 induction H with
 | @mk k s ks xs sk si bk bb b cs bf hk hn hz hi hd ih=>
  have⟨u,k2,w,z⟩:=hk;have p:RowAt M (λs cs=>cs=[aa6 s]) 1 ks (aK sk):=by
   refine⟨sk.a,sk.cap,by rw[aK,u],⟨k2,w⟩,?_⟩;obtain⟨h0,_⟩|⟨t,d,rfl,q,r,_,y⟩:=z;exact .inl h0;refine .inr ⟨t,0,d,q,n t ξ d r,λi f=>?_⟩;have:(cut d 0 (DB ks))[i]?=Td (ZS ks[i]):=by rw[y,List.getElem?_map,YS f];rfl
   unfold cut at this ⊢;rw[zae,zi f,zbi]at this;have c:=(ZN.1 this).1;rw[ZO,Nat.mul_one,ZG c,zcj,List.take_zero];rw[YS c]at this;rw[ZZ this]
  have m:aK si=.slice si.a (DB xs) si.cap:=by rw[aK,hn.1]
  rw[m];refine Rj.mk (b:=b) (o:=0) (cs:=cs) p hn.2 (hz.imp (·.1) ?_) λi f=>?_;rintro⟨rfl,q,r,_⟩;exact⟨q,n b ξ cs r⟩;rw[ZO];exact ih i f λx l d e=>n x (by simp only[ZF,zbz,zaz];exact .inr (.inr ⟨i,f,l⟩)) d e
def MxL(M:Fr)(h:zb)(bs:List Nat):Fr:=λi=>if i∈bs then(match h[i]? with
 |some (.cells cs _ _)=>Td cs
 |_=>Te)else M i
theorem MxL.ag{M:Fr}{h:zb}(ag:AgM M h)(bs:ab1):AgM (MxL M h bs) h:=by intro b c e;unfold MxL at e;split at e;split at e;rename_i cs T m f;cases e;exact⟨T,m,f⟩;cases e;exact ag b c e
theorem MxL.later{h0 h:zb}(ag:AgM M h0)(k:Bk h0.size h0 h)(hb:∀b∈bs,h0.size<=b):wr h0 M h (MxL M h bs) where
 aa1:=k
 le:=λb c e=>by have:=ag.lt e;unfold MxL;rw[za (λhm=>χ (hb b hm))];exact e
 old:=λb a=>by unfold MxL;rw[za (λhm=>χ (hb b hm))]
 ag:=MxL.ag (ag.aa1 k) bs
theorem MxL.at(c:b∈bs)(e:Blk h b cs):MxL M h bs b=Td cs:=by have⟨T,e⟩:=e;unfold MxL;rw[zi c,e]
theorem OT.rdv{cells:ab2}(H:OT h v bs cells):RdV (MxL M h bs) .tree v (.agg cells.toArray):=by unfold RdV;simp only[fh,if_true];exact⟨cells,rfl,H.rd λb c cs e=>MxL.at c e⟩
def upd(cs:Array Value)(o:Nat)(vs:List Value):Array Value:=(cs.toList.take o++vs++cs.toList.drop (o+vs.length)).toArray
theorem Ci(h:o+DB vs<=cs.size):(upd cs o vs).size=cs.size:=by unfold upd;simp;omega
theorem IN(h:o+DB vs<=cs.size)(q:Nat):(upd cs o vs).toList[q]?=ite (q<o) (cs.toList[q]?) (ite (q<o+DB vs) (vs[q-o]?) (cs.toList[q]?)):=by unfold upd;exact Yh (ψ h) q
theorem yy{o n i:Nat}:(cut cs o n)[i]?=ite (i<n) (cs.toList[o+i]?) Te:=by unfold cut;rw[zae];split;rw[zau];rfl
def Jn{P:EM}{t:N4}(hi:qq P t=Ta)(H:Blk h b cs){v:Value}(c:v.cells.toList=vs)(m:jk P t=DB vs)(k:o+DB vs<=cs.size)(h1:∀u∈vs,u.oneCell'=Ta){K:zb->Prop}(q:∀h':zb,Blk h' b (upd cs o vs)->h'.size=h.size->(∀j,j≠b->h'[j]?=h[j]?)->K h'):wf P (YI t (aa7 ⟨b,o,Te⟩) v) h K:=by
 intro B d;have⟨T,e⟩:=H;have f:v.cells.size=DB vs:=by rw[<-c];simp
 have⟨h',l,n,i,p⟩:=Yt (P:=P) hi m e f k (ϖ c h1) B d;refine⟨d,h',l,q h' ⟨T,?_⟩ i p⟩;rw[n];unfold upd;rw[c]
theorem Blk.aa3(H:Blk h b cs)(k:Bk h.size h h'):Blk h' b cs:=H.keepN k H.lt
def il(ag:AgM M h)(bs:ab1):Fr.le M (MxL M h bs):=by intro b c e;unfold MxL;split;have⟨T,m,e'⟩:=ag b c e;rw[e'];exact e
end
section
open Go.Lib
variable {cs:Array Value} {M Mg:Fr} {v:Value} {g h g':zb}
theorem Ft{vs:ab2}(h:cs.size=DB vs):upd cs 0 vs=vs.toArray:=by unfold upd;simp_all
theorem HV{n:Bool×Bt×Int}{u:Value}(h:RdV M (.pair .bool (.pair .str (.int .i64))) n u):u=.agg #[aa9 n.1,aa6 n.2.1,ab0 n.2.2]:=by
 unfold RdV at h;simp only[fh,if_true]at h;obtain⟨cs,e,c1,c2,rfl,h1,c3,c,rfl,h2,b⟩:=h;have h1:c1=[aa9 n.1]:=by simpa[Rd]using h1
 have h2:c3=[aa6 n.2.1]:=by simpa[Rd]using h2
 have b:c=[ab0 n.2.2]:=by simpa[Rd]using b
 simp_all
def qE(a:Bool)(s:Bt)(i:Int):RdV M (.pair .bool (.pair .str (.int .i64))) (a,s,i) (.agg #[aa9 a,aa6 s,ab0 i]):=by unfold RdV;simp only[fh,if_true];exact⟨[aa9 a,aa6 s,ab0 i],rfl,[_],[_,_],rfl,rfl,[_],[_],rfl,rfl,rfl⟩
def pD(n:Int)(b:Bool):x7 M [.int .i64,.bool] (n,b) (.tuple #[ab0 n,aa9 b]):=⟨[_,_],⟨_,_,rfl,Zj .i64 n,_,rfl,Fk _⟩,rfl⟩
def V6{r:Int×Bool}(h:x7 M [.int .i64,.err] r v):∃e:Value,v=.tuple #[ab0 r.1,e]/\kf e=Ta/\kC e=r.2:=by
 obtain⟨us,⟨n,m,rfl,f,i,rfl,b⟩,rfl⟩:=h;rw[eC rfl]at f b;have k:n=.int .i64 r.1:=by simpa[Rd]using f
 subst k;have b:∃v,[i]=[v]/\((r.2=Ta/\v=.nilIface)\/(r.2=Tc/\∃t u,v=.iface t u)):=b;have⟨v,c,l⟩:=b;have c:i=v:=ψ c
 subst c;obtain⟨e,rfl⟩|⟨e,t,u,rfl⟩:=l;exact⟨_,rfl,rfl,e.symm⟩;exact⟨_,rfl,rfl,e.symm⟩
def P7(gl:Fr)(n0:Bool×Bt×Int)(R:(Int×Bool)->Prop) (H:aa5 gl 158 [qr (.pair .bool (.pair .str (.int .i64))) (n0.1,(n0.2.1,n0.2.2))] [.bool] (λB:Bool=>((cond (cond (!B) Ta (hV ((n0.2.2:Int)<0))) Ta (hV ((p3 (((n0.2.1).size:Int)+n0.2.2):Int)>19)))=Ta->R (0,Tc))/\((cond (cond (!B) Ta (hV ((n0.2.2:Int)<0))) Ta (hV ((p3 (((n0.2.1).size:Int)+n0.2.2):Int)>19)))=Tc->aa5 gl 200 [qr .str (⟨#[48]⟩:Bt),qr q0 n0.2.2] [.str] (λi:Bt=>qb ((n0.2.1).size+(i).size)/\∀m:Bt->Prop,(∀f:Bt,((((f:Bt).toList==((⟨#[]⟩:Bt):Bt).toList)=Ta->R (0,Ta))/\(((f:Bt).toList==((⟨#[]⟩:Bt):Bt).toList)=Tc->aa5 gl 262 [qr .str f,qr q0 10,qr q0 64] [.int .i64,.err] (λl:Int×Bool=>((!l.2)=Ta->R (0,Tc))/\((!l.2)=Tc->R (l.1,Ta)))))->m f)->(n0.1=Ta->qb (((⟨#[45]⟩:Bt)).size+(n0.2.1++i).size)/\m ((⟨#[45]⟩:Bt)++(n0.2.1++i)))/\(n0.1=Tc->m (n0.2.1++i)))))):aa5 gl 209 [qr (.pair .bool (.pair .str (.int .i64))) n0] [.int .i64,.bool] R:=by
 intro h M vs E ag ha
 match vs,ha with
 |[u],⟨J,_⟩=>
 have J:RdV M (.pair .bool (.pair .str (.int .i64))) n0 u:=J;rw[HV J];apply PX.of;apply Pt n0.1 n0.2.1 n0.2.2;intro h1;have⟨Q,_,b1⟩:=yp (g:=h1) rfl;clear_value h1;refine⟨_,_,_,b1.ld (cs:=[aa9 n0.1,aa6 n0.2.1,ab0 n0.2.2]),?_⟩;refine H.go (vs:=[.agg #[aa9 n0.1,aa6 n0.2.1,ab0 n0.2.2]]) E (ag.aa1 Q) (zn (a:=qr (.pair .bool (.pair .str (.int .i64))) (n0.1,(n0.2.1,n0.2.2))) (qE _ _ _) zw) λw h6 S r q b hr=>?_;have⟨N,D⟩:=hr;have p:=b1.aa3 q.aa1;have C:wr h M h6 S:=(wr.same ag Q).trans q;refine⟨r,ez b,n0.2.2,λ_=>p.aa2 (o:=0) (k:=2) rfl,n0.2.1,λ_=>p.aa2 (o:=0) (k:=1) rfl,n0.2.2,λ_=>p.aa2 (o:=0) (k:=2) rfl,λL=>⟨S,(0,Tc),C,pD _ _,N L⟩,λL=>?_⟩;refine⟨_,p.aa2 (o:=0) (k:=1) rfl,_,p.aa2 (o:=0) (k:=2) rfl,?_⟩;refine(D L).go (vs:=[aa6 ⟨#[48]⟩,ab0 n0.2.2]) (E.trans q.le) q.ag (zn (a:=qr .str (⟨#[48]⟩:Bt)) (DH _) (zn (a:=qr q0 n0.2.2) (Zj _ _) zw)) λw y O r2 n b P=>?_;have⟨hf,Y⟩:=P;refine⟨r2,gu b,hf,n.aa1.get _ p.lt,?_⟩;intro G z;have c:=C.trans n;have⟨I,F⟩:=Y (λs=>G s y) λs ⟨a1,a2⟩=>z s y ⟨λe=>⟨O,(0,Ta),c,pD _ _,a1 e⟩,λe=>by refine(a2 e).go (vs:=[aa6 s,ab0 10,ab0 64]) (E.trans c.le) c.ag (zn (a:=qr .str s) (DH _) (zn (a:=qr q0 10) (Zj _ _) (zn (a:=qr q0 64) (Zj _ _) zw))) λw aa A Z t b x=>?_;obtain⟨U,rfl,hi,hn⟩:=V6 b;refine⟨_,U,rfl,hi,λV=>⟨A,(0,Tc),c.trans t,pD _ _,x.1 η⟩,λV=>⟨A,(Z.1,Ta),c.trans t,pD _ _,x.2 η⟩⟩⟩;exact⟨n0.1,((b1.aa3 q.aa1).aa3 n.aa1).aa2 (o:=0) (k:=0) rfl,I,F⟩
theorem FI{r:(Bool×Bt×Int)×Int}(h:x7 M [.pair .bool (.pair .str (.int .i64)),.int .i64] r v):v=.tuple #[.agg #[aa9 r.1.1,aa6 r.1.2.1,ab0 r.1.2.2],ab0 r.2]:=by
 obtain⟨us,⟨k,f,rfl,e,c,rfl,b⟩,rfl⟩:=h;rw[HV e];rw[eC rfl]at b;have i:c=.int .i64 r.2:=by simpa[Rd]using b
 rw[i];rfl
def Hm(a:Bool)(s:Bt)(i:Int)(b:Bool):x7 M [.pair .bool (.pair .str (.int .i64)),.bool] ((a,s,i),b) (.tuple #[.agg #[aa9 a,aa6 s,ab0 i],aa9 b]):=⟨[_,_],⟨_,_,rfl,qE a s i,_,rfl,Fk _⟩,rfl⟩
def sM{b:Nat}(B:Blk g b cs)(n:cs.size=3){x:Bool}{s:Bt}{i:Int}{t:N4}(e:qq Tp t=Ta)(l:jk Tp t=3){K:zb->Prop}(f:∀g',(∀j,j≠b->g'[j]?=g[j]?)->g'.size=g.size->Blk g' b #[aa9 x,aa6 s,ab0 i]->K g'):wf Tp (YI t (aa7 ⟨b,0,Te⟩) (.agg #[aa9 x,aa6 s,ab0 i])) g K:=by refine Jn (vs:=[aa9 x,aa6 s,ab0 i]) e B rfl l θ (λu c=>?_) λg' m k h=>f g' h k (by simp_all[Ft]);simp at c;obtain rfl|rfl|rfl:=c <;> rfl
def Tq(gl:Fr)(n:Bt)(R:((Bool×Bt×Int)×Bool)->Prop) (H:aa5 gl 160 [qr .str n] [.pair .bool (.pair .str (.int .i64)),.int .i64] (λb:(Bool×Bt×Int)×Int=>∃C:Bt->Prop,(((b.2:Int)==0)=Ta->aa5 gl 92 [qr (.pair .bool (.pair .str (.int .i64))) (b.1.1,(b.1.2.1,b.1.2.2))] [.str] C)/\∀D:Bt,(((b.2:Int)==0)=Ta->C D)->R ((b.1.1,(b.1.2.1,b.1.2.2)),cond ((b.2:Int)==0) ((D:Bt).toList==(n:Bt).toList) Tc))):aa5 gl 148 [qr .str n] [.pair .bool (.pair .str (.int .i64)),.bool] R:=by
 intro h M vs Z ag ha
 match vs,ha with
 |[u],⟨O,_⟩=>
 have O:RdV M .str n u:=O;rw[y0 O];apply PX.of;apply Vt n;intro h1;have⟨k1,z1,b1⟩:=yp (g:=h1) rfl;clear_value h1;have L1:wr h M h1 M:=wr.same ag k1;refine H.go (vs:=[aa6 n]) Z L1.ag (zn (a:=qr .str n) (DH _) zw) λw q U r y l hr=>?_;have⟨J,hJ,hR⟩:=hr;rw[FI l];refine⟨_,_,_,_,rfl,?_⟩;have z3:=y.aa1.size;refine sM (cs:=#[aa9 Tc,aa6 ⟨#[]⟩,ab0 0]) (Blk.new _ _ _) rfl κ κ λp f9 z9 F=>?_;rw[YW]at z9;have k9:Bk q.size q p:=⟨ω,λj Q=>(f9 j ω).trans ((rg q _ (YJ _)).get j Q)⟩;have G:wr h M p U:=(L1.trans y).trans (wr.same y.ag k9);have A:U h.size=Te:=by
  rw[y.old h.size ω];cases e:M h.size with
  |none=>rfl
  |some c=>have:=ag.lt e;omega
 have V:Blk p h.size #[aa9 Tc,aa6 ⟨#[]⟩,ab0 0]:=(b1.aa3 y.aa1).aa3 k9;refine⟨r.1.1,r.1.2.1,r.1.2.2,F.ld (cs:=[aa9 r.1.1,aa6 r.1.2.1,ab0 r.1.2.2]),?_⟩;intro Y ab aa N S;have fin:∀(g:zb) (Mg:Fr) (x:Bt),wr h M g Mg->Mg h.size=Te->(∃cs,Blk g h.size cs/\cs.size=3)->(((r.2:Int)==0)=Ta->J x) ->
  wf Tp (YI 110 (aa7 ⟨ZK h,0,Te⟩) (.agg #[aa9 r.1.1,aa6 r.1.2.1,ab0 r.1.2.2])) g (λg'=>Y (cond ((r.2:Int)==0) ((x:Bt).toList==(n:Bt).toList) Tc) g'):=λg Mg x L o ⟨cs,B,hc⟩ k=>
  sM B hc κ κ λg' f z B'=>⟨_,_,_,B'.ld (cs:=[aa9 r.1.1,aa6 r.1.2.1,ab0 r.1.2.2]),Mg,((r.1.1,(r.1.2.1,r.1.2.2)),_),⟨⟨χ L.aa1.size,λj Q=>(f j ω).trans (L.aa1.get j Q)⟩,L.le,L.old,λc cc e=>by have⟨T,m,e2⟩:=L.ag c cc e;grind⟩,Hm _ _ _ _,hR x k⟩
 have P:∀(g:zb) (Mg:Fr) (x:Bt),wr h M g Mg->Mg h.size=Te->(∃cs,Blk g h.size cs/\cs.size=3)->(((r.2:Int)==0)=Ta->J x)->g[q.size]?=p[q.size]?->N x g:=λg Mg x L o B k s=>⟨⟨s,⟨s,fin g Mg x L o B k⟩,fin g Mg x L o B k⟩,fin g Mg x L o B k⟩;let E:vvv:=λv g=>∃x:Bt,v=.string x/\(∃Mg,wr h M g Mg/\Mg h.size=Te/\(∃cs,Blk g h.size cs/\cs.size=3)/\g[q.size]?=p[q.size]?)/\(((r.2:Int)==0)=Ta->J x);have call:((r.2:Int)==0)=Ta->aa4 92 #[.agg #[aa9 r.1.1,aa6 r.1.2.1,ab0 r.1.2.2]] p (λv g=>∃x:Bt,v=.string x/\E (aa6 x) g):=λe=>
  (hJ e).go (vs:=[.agg #[aa9 r.1.1,aa6 r.1.2.1,ab0 r.1.2.2]]) (Z.trans G.le) G.ag (zn (a:=qr (.pair .bool (.pair .str (.int .i64))) (r.1.1,(r.1.2.1,r.1.2.2))) (qE _ _ _) zw) λw g Mg x I l k=>
   ⟨x,gu l,x,rfl,⟨Mg,G.trans I,by rw[I.old h.size V.lt];exact A,⟨_,V.aa3 I.aa1,rfl⟩,I.aa1.get _ F.lt⟩,λ_=>k⟩
 have i:((r.2:Int)==0)=Tc->∃x:Bt,E (aa6 x) p:=λe=>⟨⟨#[]⟩,⟨#[]⟩,rfl,⟨U,G,A,⟨_,V,rfl⟩,rfl⟩,λe'=>θ⟩;have t:S r.1.1 r.1.2.1 r.1.2.2 p:=⟨E,call,i,λ_ v g ⟨x,e,_⟩=>⟨x,e⟩,λx g ⟨x',e,⟨Mg,L,o,B,s⟩,k⟩=>by injection e with e;subst e;grind⟩;refine⟨⟨_,_,_,λ_=>F.ld (cs:=[aa9 r.1.1,aa6 r.1.2.1,ab0 r.1.2.2]),rfl,⟨E,call,i,λ_ v g ⟨x,e,_⟩=>⟨x,e⟩,λx g ⟨x',e,⟨Mg,L,o,B,s⟩,k⟩=>?_⟩,rfl,t⟩,rfl,_,_,_,λ_=>F.ld (cs:=[aa9 r.1.1,aa6 r.1.2.1,ab0 r.1.2.2]),rfl,t⟩;injection e with e;subst e;exact⟨s,⟨s,P g Mg x L o B k s⟩,fin g Mg x L o B k⟩
theorem AD{r:Bt×Bool}(h:x7 M [.str,.bool] r v):v=.tuple #[aa6 r.1,aa9 r.2]:=by
 obtain⟨us,⟨k,f,rfl,e,c,rfl,b⟩,rfl⟩:=h;rw[y0 e];rw[eC rfl]at b;have i:c=.bool r.2:=by simpa[Rd]using b
 rw[i];rfl
theorem DX{r:Bt×Bt×Bool}(h:x7 M [.str,.str,.bool] r v):v=.tuple #[aa6 r.1,aa6 r.2.1,aa9 r.2.2]:=by
 obtain⟨us,⟨m,k,rfl,i,n,e,rfl,c,l,rfl,b⟩,rfl⟩:=h;rw[y0 i,y0 c];rw[eC rfl]at b;have f:l=.bool r.2.2:=by simpa[Rd]using b
 rw[f];rfl
abbrev N5:=Bool×Bool×Bt×Bt×Bt
def vU(g:zb)(b:Nat)(n:N5):Prop:=Blk g b #[.bool n.1,.bool n.2.1,.string n.2.2.1,.string n.2.2.2.1,.string n.2.2.2.2]
structure St5 (h:zb) (M:Fr) (g:zb) (Mg:Fr) (n:N5):Prop where
 L:wr h M g Mg
 no:Mg h.size=Te
 B:vU g h.size n
theorem St5.call{M Mg b:Fr}{n:N5}(S:St5 h M g Mg n)(L:wr g Mg g' b):St5 h M g' b n:=⟨S.L.trans L,by rw[L.old h.size (Blk.lt S.B)];exact S.no,Blk.aa3 S.B L.aa1⟩
theorem St5.put{n b:N5}(S:St5 h M g Mg n)(f:∀j,j≠h.size->g'[j]?=g[j]?)(z:g'.size=g.size)(B:vU g' h.size b):St5 h M g' Mg b:= ⟨⟨⟨χ S.L.aa1.size,λj i=>(f j ω).trans (S.L.aa1.get j i)⟩,S.L.le,S.L.old,λc k e=>by have⟨T,m,l⟩:=S.L.ag c k e;grind [no]⟩,S.no,B⟩
def Oz(n:N5)(b:Bool):x7 M [.pair .bool (.pair .bool (.pair .str (.pair .str .str))),.bool] (n,b) (.tuple #[.agg #[aa9 n.1,aa9 n.2.1,aa6 n.2.2.1,aa6 n.2.2.2.1,aa6 n.2.2.2.2],aa9 b]):=by refine⟨[_,_],⟨_,_,rfl,?_,_,rfl,Fk _⟩,rfl⟩;unfold RdV;simp only[fh,if_true];exact⟨[_,_,_,_,_],rfl,[_],[_,_,_,_],rfl,rfl,[_],[_,_,_],rfl,rfl,[_],[_,_],rfl,rfl,[_],[_],rfl,rfl,rfl⟩
def WH(gl:Fr)(s0:Bt)(R:((Bool×Bool×Bt×Bt×Bt)×Bool)->Prop) (H:aa5 gl 267 [qr .str s0,qr .str (⟨#[45]⟩:Bt)] [.str,.bool] (λY:Bt×Bool=>aa5 gl 268 [qr .str Y.1,qr .str (⟨#[101,69]⟩:Bt)] [.str,.str,.bool] (λV:Bt×Bt×Bool=>∀az:Bt->Bool->Bool->Bt->Bt->Bt->Prop,(∀x:Bt,∀E:Bool,∀D:Bool,∀ar:Bt,∀au:Bt,∀aA:Bt,(aa5 gl 268 [qr .str V.1,qr .str (⟨#[46]⟩:Bt)] [.str,.str,.bool] (λk:Bt×Bt×Bool=>aa5 gl 215 [qr .str k.1] [.bool] (λJ:Bool=>∃aj:Bool->Prop,(((!(!J))&&k.2.2)=Ta->aa5 gl 215 [qr .str k.2.1] [.bool] aj)/\∀Q:Bool,(((!(!J))&&k.2.2)=Ta->aj Q)->((cond (!J) Ta (cond k.2.2 (!Q) Tc))=Ta->R ((E,(D,(k.1,(k.2.1,x)))),Tc))/\((cond (!J) Ta (cond k.2.2 (!Q) Tc))=Tc->((!((k.1:Bt).toList==((⟨#[48]⟩:Bt):Bt).toList))=Ta->(0<=(0:Int)/\(0:Int)<((k.1).size:Int)))/\R ((E,(D,(k.1,(k.2.1,x)))),cond ((k.1:Bt).toList==((⟨#[48]⟩:Bt):Bt).toList) Ta ((ze k.1 (0:Int).toNat:Int) != 48))))))->az x E D ar au aA)->(V.2.2=Ta->aa5 gl 267 [qr .str V.2.1,qr .str (⟨#[45]⟩:Bt)] [.str,.bool] (λp:Bt×Bool=>∀U:Bt->Bool->Bool->Bt->Bt->Bt->Prop,(∀m:Bt,∀y:Bool,∀A:Bool,∀t:Bt,∀z:Bt,∀C:Bt,(aa5 gl 215 [qr .str m] [.bool] (λae:Bool=>((!ae)=Ta->R ((y,(A,(t,(z,C)))),Tc))/\((!ae)=Tc->az m y A t z C)))->U m y A t z C)->((!p.2)=Ta->aa5 gl 269 [qr .str p.1,qr .str (⟨#[43]⟩:Bt)] [.str] (λaL:Bt=>U aL Y.2 p.2 (⟨#[]⟩:Bt) (⟨#[]⟩:Bt) (⟨#[]⟩:Bt)))/\((!p.2)=Tc->U p.1 Y.2 p.2 (⟨#[]⟩:Bt) (⟨#[]⟩:Bt) (⟨#[]⟩:Bt))))/\(V.2.2=Tc->az V.2.1 Y.2 Tc (⟨#[]⟩:Bt) (⟨#[]⟩:Bt) (⟨#[]⟩:Bt))))):aa5 gl 217 [qr .str s0] [.pair .bool (.pair .bool (.pair .str (.pair .str .str))),.bool] R:=by
 intro h M vs hM ag ha
 match vs,ha with
 |[u],⟨hu,_⟩=>
 have hu:RdV M .str s0 u:=hu;rw[y0 hu];apply PX.of;apply Rr s0;intro h1;have k1:Bk h.size h h1:=rg _ _ (YJ _);have b1:vU h1 h.size (Tc,Tc,⟨#[]⟩,⟨#[]⟩,⟨#[]⟩):=Blk.new _ _ _;have L1:wr h M h1 M:=wr.same ag k1;have bI:M h.size=Te:=by
  cases e:M h.size with
  |none=>rfl
  |some c=>have:=ag.lt e;omega
 clear_value h1;have s1:St5 h M h1 M (Tc,Tc,⟨#[]⟩,⟨#[]⟩,⟨#[]⟩):=⟨L1,bI,b1⟩;refine H.go (vs:=[aa6 s0,aa6 ⟨#[45]⟩]) hM L1.ag (zn (a:=qr .str s0) (DH _) (zn (a:=qr .str (⟨#[45]⟩:Bt)) (DH _) zw)) λw h3 M3 r1 L3 i H2=>?_;rw[AD i];refine⟨_,_,rfl,?_⟩;have S3:=s1.call L3;have fin:∀(g:zb) (Mg:Fr) (n:N5) (b:Bool),St5 h M g Mg n->R (n,b)->wf Tp (YI 221 (aa7 ⟨ZK h,0,Te⟩) (.agg #[aa9 n.1,aa9 n.2.1,aa6 n.2.2.1,aa6 n.2.2.2.1,aa6 n.2.2.2.2])) g (λak=>∃ai:Bool,∃af:Bool,∃an:Bt,∃am:Bt,∃ah:Bt,zc ak ⟨ZK h,0,Te⟩ 0 [aa9 ai,aa9 af,aa6 an,aa6 am,aa6 ah]/\∃(M':Fr) (r:eX [.pair .bool (.pair .bool (.pair .str (.pair .str .str))),.bool]),wr h M ak M'/\x7 M' [.pair .bool (.pair .bool (.pair .str (.pair .str .str))),.bool] r (.tuple #[.agg #[aa9 ai,aa9 af,aa6 an,aa6 am,aa6 ah],aa9 b])/\R r):=λg Mg n b S hR=>
  Jn (o:=0) (vs:=[aa9 n.1,aa9 n.2.1,aa6 n.2.2.1,aa6 n.2.2.2.1,aa6 n.2.2.2.2]) κ S.B rfl κ (YJ _) (λu hu=>by simp at hu;obtain rfl|rfl|rfl|rfl|rfl:=hu <;> rfl) λg' q1 q2 q3=>
   have S':St5 h M g' Mg n:=S.put q3 q2 (by rw[Ft (by rfl)]at q1;exact q1)
   ⟨_,_,_,_,_,Blk.ld (cs:=[aa9 n.1,aa9 n.2.1,aa6 n.2.2.1,aa6 n.2.2.2.1,aa6 n.2.2.2.2]) S'.B,Mg,(n,b),S'.L,Oz n b,hR⟩
 rw[show YH ⟨ZK h,0,Te⟩ 0=(aa8 h)from rfl];refine qj κ κ S3.B (o:=0) ξ rfl λh6 B6 z6 f6=>?_;have S6:St5 h M h6 M3 (r1.2,Tc,⟨#[]⟩,⟨#[]⟩,⟨#[]⟩):=S3.put f6 z6 B6;refine H2.go (vs:=[aa6 r1.1,aa6 ⟨#[101,69]⟩]) (hM.trans L3.le) S6.L.ag (zn (a:=qr .str r1.1) (DH _) (zn (a:=qr .str (⟨#[101,69]⟩:Bt)) (DH _) zw)) λw h8 M8 r2 L8 i H3=>?_;rw[DX i];refine⟨_,_,_,rfl,?_⟩;have S8:=S6.call L8;intro bj aO;have aU:Fr.le gl M8:=hM.trans S8.L.le;have N:∀{g:zb} {Mg:Fr} {n:N5},St5 h M g Mg n->Fr.le gl Mg:=λS=>hM.trans S.L.le;have aS:∀{Mg:Fr} (s:Bt),RdV Mg .str s (aa6 s):=λs=>DH s;have⟨c1,c2⟩:=H3 (λf x0 G x2 x3 x4=>∀g Mg,St5 h M g Mg (x0,G,x2,x3,x4)->bj f g) λf x0 G x2 x3 x4 P g Mg S=>aO f g (by rw[show YH ⟨ZK h,0,Te⟩ 4=⟨h.size,4,Te⟩from rfl];refine qj κ κ S.B (o:=4) ξ rfl λaQ bL bD aV=>?_;have ap:St5 h M aQ Mg (x0,G,x2,x3,f):=S.put aV bD bL;refine P.go (vs:=[aa6 r2.1,aa6 ⟨#[46]⟩]) (N ap) ap.L.ag (zn (a:=qr .str r2.1) (DH _) (zn (a:=qr .str (⟨#[46]⟩:Bt)) (DH _) zw)) λw bU aG l bm i P2=>?_;rw[DX i];refine⟨_,_,_,rfl,?_⟩;have aN:=ap.call bm;rw[show YH ⟨ZK h,0,Te⟩ 2=⟨h.size,2,Te⟩from rfl,show YH ⟨ZK h,0,Te⟩ 3=⟨h.size,3,Te⟩from rfl];refine qj κ κ aN.B (o:=2) ξ rfl λa6 aY bz aP=>?_;have aE:St5 h M a6 aG (x0,G,l.1,x3,f):=aN.put aP bz aY;refine qj κ κ aE.B (o:=3) ξ rfl λbJ aT aZ bE=>?_;have ax:St5 h M bJ aG (x0,G,l.1,l.2.1,f):=aE.put bE aZ aT;refine P2.go (vs:=[aa6 l.1]) (N ax) ax.L.ag (zn (a:=qr .str l.1) (DH _) zw) λw bN a7 aC ba i P3=>?_;have⟨bF,hJ,hE⟩:=P3;have Z:=ax.call ba;refine⟨aC,ez i,λv g'=>∃b,v=.bool b/\(∃ab,St5 h M g' ab (x0,G,l.1,l.2.1,f))/\(((!(!aC))&&l.2.2)=Ta->bF b),λI=>(hJ I).go (vs:=[aa6 l.2.1]) (N Z) Z.L.ag (zn (a:=qr .str l.2.1) (DH _) zw) λw bP bg b a8 i hb=>⟨b,ez i,b,rfl,⟨bg,Z.call a8⟩,λ_=>hb⟩,λI=>⟨Tc,Tc,rfl,⟨a7,Z⟩,λe=>by rw[I]at e;exact nomatch e⟩,λ_ v g' ⟨b,e,_⟩=>⟨b,e⟩,λb g' ⟨b',e,⟨ab,S'⟩,hb⟩=>?_⟩;injection e with e;subst e;have⟨e1,e2⟩:=hE b hb;refine⟨λI=>⟨_,_,_,_,_,Blk.ld (cs:=[aa9 x0,aa9 G,aa6 l.1,aa6 l.2.1,aa6 f]) S'.B,fin g' ab (x0,G,l.1,l.2.1,f) Tc S' (e1 I)⟩,λI=>?_⟩;have⟨e3,e4⟩:=e2 I;refine⟨_,_,_,_,_,Blk.ld (cs:=[aa9 x0,aa9 G,aa6 l.1,aa6 l.2.1,aa6 f]) S'.B,?_⟩;intro bS bT bQ bA;have F:=fin g' ab (x0,G,l.1,l.2.1,f) _ S' e4;have bu:=wf.mono F λh' q=>(⟨e3,q⟩:bA h');repeat' first|exact rfl|exact e3|exact F|exact bu|refine⟨?_,?_⟩);refine⟨λhx=>?_,λhx=>c2 hx h8 M8 S8⟩;refine(c1 hx).go (vs:=[aa6 r2.2.1,aa6 ⟨#[45]⟩]) aU S8.L.ag (zn (a:=qr .str r2.2.1) (DH _) (zn (a:=qr .str (⟨#[45]⟩:Bt)) (DH _) zw)) λw bO aI aa bM i H4=>?_;rw[AD i];refine⟨_,_,rfl,?_⟩;have aF:=S8.call bM;rw[show YH ⟨ZK h,0,Te⟩ 1=⟨h.size,1,Te⟩from rfl];refine qj κ κ aF.B (o:=1) ξ rfl λaM bC bH be=>?_;have O:St5 h M aM aI (r1.2,aa.2,⟨#[]⟩,⟨#[]⟩,⟨#[]⟩):=aF.put be bH bC;intro a1 aJ;have⟨d1,d2⟩:=H4 (λf x0 G x2 x3 x4=>∀g Mg,St5 h M g Mg (x0,G,x2,x3,x4)->a1 f g) λf x0 G x2 x3 x4 P g Mg S=>aJ f g (P.go (vs:=[aa6 f]) (N S) S.L.ag (zn (a:=qr .str f) (DH _) zw) λw aH aB bG ay i he=>⟨bG,ez i,λI=>⟨_,_,_,_,_,Blk.ld (cs:=[aa9 x0,aa9 G,aa6 x2,aa6 x3,aa6 x4]) (S.call ay).B,fin aH aB (x0,G,x2,x3,x4) Tc (S.call ay) (he.1 I)⟩,λI=>he.2 I aH aB (S.call ay)⟩);refine⟨aa.2,Blk.cell O.B (o:=1) rfl,λI=>(d1 I).go (vs:=[aa6 aa.1,aa6 ⟨#[43]⟩]) (N O) O.L.ag (zn (a:=qr .str aa.1) (DH _) (zn (a:=qr .str (⟨#[43]⟩:Bt)) (DH _) zw)) λw bq bn br bB i hk=>⟨br,gu i,hk bq bn (O.call bB)⟩,λI=>d2 I aM aI O⟩
end
section
open Go.Lib
variable {n k:Nat} {l s:Bs}
theorem UG{c:UInt8}(b:n<256):c=ZR n↔c.toNat=n:=by constructor;simp_all;intro h;rw[<-h];simp
theorem QV{c d:UInt8}:c=d↔c.toNat=d.toNat:=⟨λh=>by rw[h],λh=>zcc.1 h⟩
def Zm(c:UInt8):∀l:Bs,-1<=indexByte l c/\(0<=indexByte l c↔c∈l)
 |[]=>by simp[indexByte]
 |b::l=>by have e:=Zm c l;unfold indexByte;grind
theorem AM(u:Nat):(decDigits u).length<=u+1:=by rw[decDigits];split;simp;rename_i h;have:=AM (u / 10);simp;omega
def OR(n:Int):(itoa n).length<=n.natAbs+2:=by unfold itoa;grind [AM]
def dig_ext:∀k:Nat,k<10->(([48,49,50,51,52,53,54,55,56,57]:Bs).drop k).take (k+1-k)=[ZR (48+k)]:=ζ
theorem Ij(l:Bs)(c:UInt8):hasPrefix l [c]=(l.head?==Td c):=by
 cases l with
 |nil=>rfl
 |cons b t=>simp[hasPrefix,List.isPrefixOf];grind
theorem CM(l:Bs)(c:UInt8):trimPrefix l [c]=ite (l.head?==Td c) l.tail l:=by unfold trimPrefix;rw[Ij];split <;> simp
theorem EG(l:Bs)(c:UInt8):zo (l++[c])=10*zo l+(c.toNat-48):=by simp[zo,List.foldl_append]
theorem xw(b:k<DB l):zo (l.take (k+1))=10*zo (l.take k)+(l[k].toNat-48):=by rw[YP b,EG]
def Ak{p:ac2}(h:l.all p=Ta)(k:Nat):(l.take k).all p=Ta:=η
def PP{p:ac2}(h:l.all p=Ta)(k:Nat):(l.drop k).all p=Ta:=η
theorem r9(h:l.all yl=Ta)(b:k<DB l):48<=l[k].toNat/\l[k].toNat<=57:=by have:=ZB.1 h _ (YY b);simpa[yl]using this
def Av:∀(n:Nat) (l:Bs),DB l=n->l.all yl=Ta->zo l<10 ^ n
 |0,l,h,_=>by have:l=[]:=ZU h;subst this;simp[zo]
 |n+1,l,h,hd=>by
  have b:l=l.take (n+1):=by rw[<-h,ZX]
  rw[b,xw ω];have h1:=Av n (l.take n) φ (Ak hd n);grind [r9]
def oZ(b:l.length<=n)(h:l.all yl=Ta):zo l<10 ^ n:= Nat.lt_of_lt_of_le (Av _ l rfl h) (Nat.pow_le_pow_right ω b)
theorem Q6(h:Z1 l=Ta):l.all yl=Ta:=by unfold Z1 at h;simp_all
theorem Bw{p q:ac2}(h:l.all p=Ta):(l.dropWhile q).all p=Ta:=by rw[ZB]at h ⊢;exact λx b=>h x ((List.dropWhile_sublist q).mem b)
def xb(l:Bs)(q:ac2):(l.dropWhile q).length<=DB l:=(List.dropWhile_sublist q).length_le
theorem AH{q:ac2}:∀c,(l.dropWhile q).head?=Td c->q c=Tc:=by
 induction l with
 |nil=>simp
 |cons b t e=>intro c h;rw[zcv]at h;grind
def Q7(h:l.all yl=Ta)(f:l.dropWhile (· == 48)≠[]):Z1 (wl l)=Ta/\(wl l).length<=(l.dropWhile (· == 48)).length/\((wl l).head? != Td 48)=Ta/\((wl l).getLast? != Td 48)=Ta:=by
 unfold wl;have⟨c,t,i⟩:=zag f;have n:(c==48)=Tc:=by have:=AH (l:=l) (q:=(· == 48)) c (π i);simpa using this
 have key:∀(t:Bs),∃u,((c::t).reverse.dropWhile (· == 48)).reverse=c::u:=by
  intro t;rw[List.reverse_cons];have k:∀(r:Bs),∃u,(r++[c]).dropWhile (· == 48)=u++[c]:=by
   intro r;induction r with
   |nil=>simp_all
   |cons b r m=>grind [zcv]
  have⟨u,e⟩:=k t.reverse;exact⟨u.reverse,υ e⟩
 rw[i];have⟨u,e⟩:=key t;refine⟨?_,?_,?_,?_⟩;rw[Z1,Bool.and_eq_true_iff];grind [Bw];rw[List.length_reverse];refine zbd (xb _ _) ?_;simp;simp_all;grind [AH]
theorem Fq(h:l.all yl=Ta)(b:l.dropWhile (· == 48)≠[])(i:l.length<=1000)(neg:Bool)(e:Int):qy (neg,wl l,e)=(hV (-1000000<=e)&&hV (e<=1000000)):=by
 have⟨h1,h2,m,f⟩:=Q7 h b;have k:=xb l (· == 48);have c:(wl l).isEmpty=Tc:=by rw[Z1]at h1;have:=(Bool.and_eq_true_iff.1 h1).2;simpa using this
 unfold qy Yx;grind
def wS{x:Lit}(h:Q0 s=Td x):Z1 x.whole=Ta/\x.rest.all yl=Ta/\x.exp.all yl=Ta:=by
 obtain⟨b,rfl⟩:=tv h;unfold Xp at b;simp only[YR]at b;have⟨⟨⟨h1,h2⟩,c⟩,e⟩:=b;refine⟨h2,?_,?_⟩;show(jy s).2.1.all yl=Ta;cases hp:(jy s).2.2 with
 |true=>simp_all[Q6]
 |false=>rw[show(jy s).2.1=[]from(Wu hp).2];rfl
 show(ite ((jw s).2.2) (eP s) []).all yl=Ta;grind [Q6]
def uI(p:ac2)(l:Bs):(GE p l).1.length+(GE p l).2.1.length<=DB l:=by
 induction l with
 |nil=>simp[GE]
 |cons c t b=>unfold GE;grind
def tu{x:Lit}(h:Q0 s=Td x):x.whole.length+DB x.rest+DB x.exp<=DB s:=by
 obtain⟨b,rfl⟩:=tv h;have h1:(fv s).length<=DB s:=by unfold fv;split <;> simp
 have h2:=uI gi (fv s);have f:=uI gp (jw s).1;have c:(eP s).length<=(jw s).2.1.length:=by unfold eP;split;simp;split <;> simp
 have e:(ite ((jw s).2.2) (eP s) []).length<=(jw s).2.1.length:=by split;exact c;simp
 show(jy s).1.length+(jy s).2.1.length+(ite ((jw s).2.2) (eP s) []).length<=DB s;unfold jy;unfold jw at *;omega
end
section
section
variable {gl:Fr} {l s:Bs}
theorem Gu(c:UInt8):(((c.toNat:Int)).toNat).toUInt8=c:=ξ
def A5{l sep:Bs}{p:ac2}(o:∀c,p c=Ta↔c∈sep)(q:l.length<=4611686018427387904){R:Bt×Bt×Bool->Prop}(h:R (bl (GE p l).1,bl (GE p l).2.1,(GE p l).2.2)):aa5 gl 268 [qr .str (bl l),qr .str (bl sep)] [.str,.str,.bool] R:=by
 apply SE;simp only[zf,zx,qa];refine⟨λi=>∃k:Nat,i=k/\k<=DB l/\∀j (f:j<DB l),j<k->p l[j]=Tc,λi=>DB l-i.toNat,⟨0,rfl,ω,λj _ h=>ω⟩,?_⟩;rintro i ⟨k,rfl,t,h2⟩;refine⟨λn=>?_,λn=>?_⟩;have b:k<DB l:=ψ n
 simp only[YL,Yw b];refine⟨ω,uZ ?_⟩;rw[Gu,yr];have s:=(Zm l[k] sep).2;rw[qo b q];refine⟨λm=>⟨ω,ω,?_⟩,λm=>⟨⟨k+1,rfl,ω,λj f r=>?_⟩,φ⟩⟩;have e:p l[k]=Ta:=(o _).2 (s.1 (ψ m));rw[od b (λj f=>h2 j ω f) e]at h;simp only[YL,Int.toNat_zero,zbi,Nat.sub_zero];simp_all[za0];grind;grind [Yi,zbm]
def CJ{c:UInt8}{R:Bt×Bool->Prop}(h:R (bl (ite (l.head?==Td c) l.tail l),l.head?==Td c)):aa5 gl 267 [qr .str (bl l),qr .str (bl [c])] [.str,.bool] R:=by refine Mu ?_;rw[yr,yr,CM,Ij];exact h
def Od{c:UInt8}{R:Bt->Prop}(h:R (bl (ite (l.head?==Td c) l.tail l))):aa5 gl 269 [qr .str (bl l),qr .str (bl [c])] [.str] R:=by refine LR ?_;rw[yr,yr,CM];exact h
def uq{R:Bt->Prop}(h:R (bl (l.dropWhile (· == 48)))):aa5 gl 218 [qr .str (bl l),qr .str (bl [48])] [.str] R:=by refine SP (c:=48) ζ ?_;rw[yr];exact h
def JY(b:l.length<=4611686018427387904){R:Bt->Prop}(h:R (bl (l.reverse.dropWhile (· == 48)).reverse)):aa5 gl 219 [qr .str (bl l),qr .str (bl [48])] [.str] R:=by refine PN (c:=48) ζ (by rw[zf];omega) ?_;rw[yr];exact h
def I6(P:s.length<=4611686018427387904){R:(Bool×Bool×Bt×Bt×Bt)×Bool->Prop} (h1:Xp s=Ta->R (((Yz s).neg,(Yz s).low,bl (Yz s).whole,bl (Yz s).rest,bl (Yz s).exp),Ta)) (h2:Xp s=Tc->∀a b c d e,R ((a,b,bl c,bl d,bl e),Tc)):aa5 gl 217 [qr .str (bl s)] [.pair .bool (.pair .bool (.pair .str (.pair .str .str))),.bool] R:=by
 apply WH;refine CJ (c:=45) ?_;dsimp only;have Q:(fv s).length<=DB s:=by unfold fv;split <;> simp
 have F:=uI gi (fv s);refine A5 (l:=fv s) (sep:=[101,69]) (p:=gi) (λc=>by simp[gi]) ω ?_;dsimp only;have I:(jw s).1.length+(jw s).2.1.length<=(fv s).length:=F;have tail:∀(e:Bs) (low:Bool),((jw s).2.2=Ta->Z1 (eP s)=Ta/\low=Za s/\e=eP s)->((jw s).2.2=Tc->low=Tc/\e=[]) ->
  aa5 gl 268 [qr .str (bl (jw s).1),qr .str (bl [46])] [.str,.str,.bool] (λf:Bt×Bt×Bool=>aa5 gl 215 [qr .str f.1] [.bool] (λi:Bool=>∃o:Bool->Prop,(((!(!i))&&f.2.2)=Ta->aa5 gl 215 [qr .str f.2.1] [.bool] o)/\∀m:Bool,(((!(!i))&&f.2.2)=Ta->o m)->((cond (!i) Ta (cond f.2.2 (!m) Tc))=Ta->R ((s.head?==Td 45,(low,(f.1,(f.2.1,bl e)))),Tc))/\((cond (!i) Ta (cond f.2.2 (!m) Tc))=Tc->((!((f.1:Bt).toList==((⟨#[48]⟩:Bt):Bt).toList))=Ta->(0<=(0:Int)/\(0:Int)<((f.1).size:Int)))/\R ((s.head?==Td 45,(low,(f.1,(f.2.1,bl e)))),cond ((f.1:Bt).toList==((⟨#[48]⟩:Bt):Bt).toList) Ta ((ze f.1 (0:Int).toNat:Int) != 48))))):=by
  intro e low O k2;have z:(!(jw s).2.2||Z1 (eP s))=Ta/\Za s=low/\(ite ((jw s).2.2) (eP s) [])=e:=by
   cases t:(jw s).2.2 with
   |true=>simp_all
   |false=>have⟨a,b⟩:=k2 t;exact⟨rfl,by unfold Za;rw[t,a];rfl,ϑ b⟩
  refine A5 (l:=(jw s).1) (sep:=[46]) (p:=gp) (λc=>by simp[gp]) ω ?_;refine sP ⟨λx=>Z1 (jy s).2.1=x,λ_=>sP rfl,λy E=>?_⟩;dsimp only;simp only[show(⟨#[48]⟩:Bt)=bl [48]from rfl,fS,zf,zx];change (_->Z1 (jy s).2.1=y)at E;show((cond (!Z1 (jy s).1) Ta (cond ((jy s).2.2) (!y) Tc))=Ta->R ((s.head?==Td 45,(low,(bl (jy s).1,(bl (jy s).2.1,bl e)))),Tc))/\((cond (!Z1 (jy s).1) Ta (cond ((jy s).2.2) (!y) Tc))=Tc->((!hV ((jy s).1=[48]))=Ta->(0<=(0:Int)/\(0:Int)<((jy s).1.length:Int)))/\R ((s.head?==Td 45,(low,(bl (jy s).1,(bl (jy s).2.1,bl e)))),cond (hV ((jy s).1=[48])) Ta (((((jy s).1[(0:Int).toNat]?).getD 0).toNat:Int) != 48)));have N:Z1 (jy s).1=Ta->(jy s).2.2=Ta->Z1 (jy s).2.1=y:=λa b=>E (by show((!(!Z1 (jy s).1))&&(jy s).2.2)=Ta;rw[a,b];rfl);refine⟨λq=>h2 ?_ _ _ _ _ _,λq=>⟨λ_=>?_,?_⟩⟩;unfold Xp;grind;all_goals
   have A:Z1 (jy s).1=Ta:=by
    cases A:Z1 (jy s).1 with
    |true=>rfl
    |false=>simp_all
   have M:=Xq A
  omega;have J:(!(jy s).2.2||Z1 (jy s).2.1)=Ta:=by
   cases hw:(jy s).2.2 with
   |false=>rfl
   |true=>simp_all
  have H:(cond (hV ((jy s).1=[48])) Ta (((((jy s).1[(0:Int).toNat]?).getD 0).toNat:Int) != 48))=((jy s).1==[48]||(jy s).1.head? != Td 48):=by rw[show(0:Int).toNat=0 from rfl,ry M,zb1,ZI];simp
  have u:Xp s=((jy s).1==[48]||(jy s).1.head? != Td 48):=by unfold Xp;rw[z.1,A,J];simp
  rw[H];cases ho:((jy s).1==[48]||(jy s).1.head? != Td 48)with
  |true=>have:=h1 (u.trans ho);unfold Yz at this;simp_all
  |false=>grind
 intro K D;refine⟨λt=>?_,λt=>?_⟩;have r:(jw s).2.2=Ta:=t;refine CJ (c:=45) (l:=(jw s).2.1) ?_;dsimp only;intro G B;have step:∀low e,low=Za s->e=eP s->G (bl e) (s.head?==Td 45) low (bl []) (bl []) (bl []):=by intro low e w C;refine B _ _ _ _ _ _ (sP ⟨λq=>?_,λq=>?_⟩);refine h2 ?_ _ _ [] [] [];unfold Xp;grind;refine D _ _ _ _ _ _ (tail e low (λ_=>⟨η,w,C⟩) λh=>η)
 have n:Za s=((jw s).2.1.head?==Td 45):=by unfold Za;rw[r];rfl
 refine⟨λq=>?_,λq=>?_⟩;have k:((jw s).2.1.head?==Td 45)=Tc:=ψ q
 rw[k];refine Od (c:=43) ?_;simp only[zaq,if_false];refine step Tc _ (by rw[n,k]) ?_;unfold eP;grind;have k:((jw s).2.1.head?==Td 45)=Ta:=ψ q
 rw[k];simp only[if_true];refine step Ta _ (by rw[n,k]) ?_;unfold eP;grind;have r:(jw s).2.2=Tc:=t;have L:(jw s).2.1=[]:=(Wu r).2;have:=tail [] Tc (λh=>η) λ_=>⟨rfl,rfl⟩;show K (bl (jw s).2.1) _ _ _ _ _;rw[L];exact D _ _ _ _ _ _ this
def Re{α β γ δ:Type}{B:α->β->γ->δ->Prop}{c:Bool}{a b:α}{x:β}{y:γ}{z:δ}(h:∀e,e=(cond c a b)->B e x y z):∀K:α->β->γ->δ->Prop,(∀e x y z,B e x y z->K e x y z)->(c=Ta->K a x y z)/\(c=Tc->K b x y z):= λK i=>⟨λf=>i _ _ _ _ (h _ (by subst f;rfl)),λf=>i _ _ _ _ (h _ (by subst f;rfl))⟩
theorem bR{n:Int}(h:-4611686018427387904<=n/\n<=4611686018427387904):p3 n=n:=Fm ω ω
def ET{n:Nat}(h:n<=4611686018427387904):qb n:=by unfold qb;omega
def qM(Y:s.length<=1152921504606846976){R:(Bool×Bt×Int)×Int->Prop}(h:R (fD (zj s).1,(zj s).2)):aa5 gl 160 [qr .str (bl s)] [tN,.int .i64] R:=by
 apply XR;refine I6 ω (λm=>?_) (λm a b c d e=>?_);rotate_left;refine uq ⟨λ_=>?_,λq=>by cases q⟩;have:Q0 s=Te:=by unfold Q0;simp[m]
 unfold zj at h;simp_all;have f:Q0 s=Td (Yz s):=by unfold Q0;simp[m]
 have G:=tu f;have⟨M,d2,H⟩:=wS f;unfold zj at h;rw[f]at h;simp only at h;generalize Yz s=x at *;refine uq ⟨λq=>(by cases q),λ_=>?_⟩;simp only[zf];rw[bR ω];refine⟨λq=>?_,λq=>?_⟩;grind;rw[za η]at h;refine⟨λt=>?_,λt=>?_⟩;grind;rw[za η]at h;have I:x.whole.length+DB x.rest<=1000:=by simp at q;omega
 have Q:x.exp.all yl=Ta:=H;generalize O:x.exp.dropWhile (· == 48)=E at *;have o:E.all yl=Ta:=by rw[<-O];exact Bw H
 have A:E.length<=9:=by simp at t;omega
 have P:zo E<10 ^ 9:=oZ A o;refine⟨λe _ _ _ p=>p.1=bl E/\p.2<=DB E/\e=(zo (E.take p.2):Int),λ_ _ _ _ p=>DB E-p.2,⟨rfl,ω,by simp[zo]⟩,?_⟩;rintro e b1 b2 b3 ⟨_,p⟩ ⟨rfl,N,rfl⟩;simp only at N ⊢;rw[oT,oU];refine⟨λw=>⟨w,?_⟩,λw=>?_⟩;have i:p<DB E:=ψ w
 have V:=r9 o i;have D:E.drop p=E[p]::E.drop (p+1):=ZG i;rw[lH E p i,D,Yv ω];have S:=oZ (n:=9) (l:=E.take p) φ (Ak o p);rw[Qb ω ω,bR (n:=10*_) ω,bR (n:=(_:Int)-48) ω,bR ω];simp only;refine⟨⟨trivial,ω,?_⟩,ω⟩;rw[xw i];omega;have i:¬p<DB E:=ψ w
 have y:p=DB E:=ω
 subst y;rw[ZX];apply Re;intro r z;refine⟨by unfold qb;omega,?_⟩;rw[qf];refine uq ?_;rw[show(⟨#[]⟩:Bt)=bl []from rfl];simp only[fS];have F:(x.whole++x.rest).all yl=Ta:=by rw[zcr,Q6 M,d2];rfl
 refine⟨λu=>?_,λu=>?_⟩;simp_all;have k:(x.whole++x.rest).dropWhile (· == 48)≠[]:=ψ u
 rw[za k]at h;have C:=xb (x.whole++x.rest) (· == 48);rw[YM]at C;refine JY ω ?_;have L:=(Q7 F k).2.1;have J:=Fq F k θ;simp only[zf,show((List.dropWhile (λx=>x==48) (x.whole++x.rest)).reverse.dropWhile (λx=>x==48)).reverse=wl (x.whole++x.rest)from rfl];have B:r=ite x.low (-(zo E:Int)) (zo E:Int):=by rw[z];cases x.low <;> simp;exact bR ω
 have U:-1000000000<=r/\r<=1000000000:=by rw[B];split <;> omega
 rw[bR (n:=r-_) ω,bR (n:=r-_+_) ω,bR ω];refine wU (n:=(x.neg,wl (x.whole++x.rest),r-(DB x.rest:Int)+(((x.whole++x.rest).dropWhile (· == 48)).length:Int)-((wl (x.whole++x.rest)).length:Int))) η ?_;grind
end
section
def Vr(n0:Int)(h:zb)(R:vvv) (H:((cond (hV (n0>=0)) (hV (n0<10)) Tc)=Ta->(0<=n0/\n0<=(p3 (n0+1))/\(p3 (n0+1))<=(((ac8:Bt)).size:Int))/\R (aa6 (((ac8:Bt)).extract n0.toNat (p3 (n0+1)).toNat)) h)/\((cond (hV (n0>=0)) (hV (n0<10)) Tc)=Tc->(hV (n0>0)=Ta->zaw=zaw/\(10:Int)≠0/\zaw=zaw/\(10:Int)≠0/\zaw=zaw/\(10:Int)≠0/\(0<=(n0.tmod 10:Int)/\(n0.tmod 10:Int)<=(p3 ((n0.tmod 10)+1))/\(p3 ((n0.tmod 10)+1))<=(((ac8:Bt)).size:Int))/\aa4 193 #[iV (p3 (n0.tdiv 10))] h (λa b=>∃c,a=.string c/\qb (c.size+(((ac8:Bt)).extract (n0.tmod 10:Int).toNat (p3 ((n0.tmod 10)+1)).toNat).size)/\R (aa6 (c++(((ac8:Bt)).extract (n0.tmod 10:Int).toNat (p3 ((n0.tmod 10)+1)).toNat))) b))/\(hV (n0>0)=Tc->(hV (n0>(-10))=Ta->(0<=(p3 (0-n0))/\(p3 (0-n0))<=(p3 ((p3 (0-n0))+1))/\(p3 ((p3 (0-n0))+1))<=(((ac8:Bt)).size:Int))/\qb (((⟨#[45]⟩:Bt)).size+(((ac8:Bt)).extract (p3 (0-n0)).toNat (p3 ((p3 (0-n0))+1)).toNat).size)/\R (aa6 ((⟨#[45]⟩:Bt)++(((ac8:Bt)).extract (p3 (0-n0)).toNat (p3 ((p3 (0-n0))+1)).toNat))) h)/\(hV (n0>(-10))=Tc->zaw=zaw/\(10:Int)≠0/\zaw=zaw/\(10:Int)≠0/\zaw=zaw/\(10:Int)≠0/\let d:Bt->zb->Prop:=λe (f:zb)=>(R (aa6 e) f);let g:Bt->zb->Prop:=λi (j:zb)=>((0<=(p3 (0-(n0.tmod 10)))/\(p3 (0-(n0.tmod 10)))<=(p3 ((p3 (0-(n0.tmod 10)))+1))/\(p3 ((p3 (0-(n0.tmod 10)))+1):Int)<=(((ac8:Bt)).size:Int))/\qb (i.size+(((ac8:Bt)).extract (p3 (0-(n0.tmod 10))).toNat (p3 ((p3 (0-(n0.tmod 10)))+1):Int).toNat).size)/\d (i++(((ac8:Bt)).extract (p3 (0-(n0.tmod 10))).toNat (p3 ((p3 (0-(n0.tmod 10)))+1):Int).toNat)) j);let k:Bt->zb->Prop:=λl (m:zb)=>((0<=(p3 (0-(n0.tmod 10)))/\(p3 (0-(n0.tmod 10)))<=(p3 ((p3 (0-(n0.tmod 10)))+1))/\(p3 ((p3 (0-(n0.tmod 10)))+1):Int)<=(((ac8:Bt)).size:Int))/\qb (l.size+(((ac8:Bt)).extract (p3 (0-(n0.tmod 10))).toNat (p3 ((p3 (0-(n0.tmod 10)))+1):Int).toNat).size)/\d (l++(((ac8:Bt)).extract (p3 (0-(n0.tmod 10))).toNat (p3 ((p3 (0-(n0.tmod 10)))+1):Int).toNat)) m);let n:zb->Prop:=λ(o:zb)=>(aa4 193 #[iV (p3 (n0.tdiv 10))] o (λp q=>∃r,p=.string r/\qb (r.size+(((ac8:Bt)).extract (p3 (0-(n0.tmod 10))).toNat (p3 ((p3 (0-(n0.tmod 10)))+1):Int).toNat).size)/\d (r++(((ac8:Bt)).extract (p3 (0-(n0.tmod 10))).toNat (p3 ((p3 (0-(n0.tmod 10)))+1):Int).toNat)) q));(aa4 193 #[iV (p3 (n0.tdiv 10))] h (λs t=>∃u,s=.string u/\(g u t)/\(k u t)))/\((aa4 193 #[iV (p3 (n0.tdiv 10))] h (λv w=>∃x,v=.string x/\g x w))/\((0<=(p3 (0-(n0.tmod 10)))/\(p3 (0-(n0.tmod 10)))<=(p3 ((p3 (0-(n0.tmod 10)))+1))/\(p3 ((p3 (0-(n0.tmod 10)))+1):Int)<=(((ac8:Bt)).size:Int))/\n h))/\((aa4 193 #[iV (p3 (n0.tdiv 10))] h (λy z=>∃A,y=.string A/\k A z))/\((0<=(p3 (0-(n0.tmod 10)))/\(p3 (0-(n0.tmod 10)))<=(p3 ((p3 (0-(n0.tmod 10)))+1))/\(p3 ((p3 (0-(n0.tmod 10)))+1):Int)<=(((ac8:Bt)).size:Int))/\n h)))))):aa4 193 #[ab0 n0] h R:=XF ⟨[(5,8000),(8,8000)],[],[]⟩ [.tmp 2] 51 func193 H
def Ui(s0:Bt)(h:zb)(R:vvv) (H:let a:=h.push (.cells #[aa9 Tc,aa6 (⟨#[]⟩:Bt),iV 0] 110);aa4 232 #[aa6 s0] a (λb c=>∃d e f g,b=.tuple #[.agg #[aa9 d,aa6 e,iV f],iV g]/\let i:=c.push (.cells #[aa9 Tc,aa6 (⟨#[]⟩:Bt),iV 0] 110);wf Tp (YI 110 (aa7 (aa8 c)) (.agg #[aa9 d,aa6 e,iV f])) i (λj=>∃k l m,zc j (aa8 c) 0 [aa9 k,aa6 l,iV m]/\let n:Bool->zb->Prop:=λo (p:zb)=>(∃q r s,zc p (aa8 h) 0 [aa9 q,aa6 r,iV s]/\R (.tuple #[.agg #[aa9 q,aa6 r,iV s],aa9 o]) p);let t:Bool->zb->Prop:=λu (v:zb)=>(n (cond (g==0) u Tc) v);let w:Bt->zb->Prop:=λx (y:zb)=>(t (x.toList==s0.toList) y);let z:Bt->zb->Prop:=λA (B:zb)=>((g6 B j (aa8 c)/\(g6 B j (aa8 c)/\wf Tp (YI 110 (aa7 (aa8 h)) (.agg #[aa9 k,aa6 l,iV m])) B (λC=>n (cond (g==0) (A.toList==s0.toList) Tc) C))/\(wf Tp (YI 110 (aa7 (aa8 h)) (.agg #[aa9 k,aa6 l,iV m])) B (λD=>t (A.toList==s0.toList) D)))/\(wf Tp (YI 110 (aa7 (aa8 h)) (.agg #[aa9 k,aa6 l,iV m])) B (λE=>w A E)));let F:Bool->Bt->Int->zb->Prop:=λG I J (L:zb)=>(∃M:vvv,((g==0)=Ta->aa4 233 #[.agg #[aa9 G,aa6 I,iV J]] L (λN O=>∃P,N=.string P/\M (aa6 P) O))/\((g==0)=Tc->∃Q,M (aa6 Q) L)/\((g==0)=Ta->∀S T,M S T->∃U,S=.string U)/\∀V:Bt,∀W,M (aa6 V) W->g6 W j (aa8 c)/\z V W);(∃X Y Z,((g==0)=Ta->zc j (aa8 c) 0 [aa9 X,aa6 Y,iV Z])/\g6 j j (aa8 c)/\(∃aa:vvv,((g==0)=Ta->aa4 233 #[.agg #[aa9 X,aa6 Y,iV Z]] j (λab ac=>∃ad,ab=.string ad/\aa (aa6 ad) ac))/\((g==0)=Tc->∃ae,aa (aa6 ae) j)/\((g==0)=Ta->∀af ag,aa af ag->∃ah,af=.string ah)/\∀ai:Bt,∀aj,aa (aa6 ai) aj->g6 aj j (aa8 c)/\(g6 aj j (aa8 c)/\z ai aj)/\(wf Tp (YI 110 (aa7 (aa8 h)) (.agg #[aa9 k,aa6 l,iV m])) aj (λak=>w ai ak)))/\(g6 j j (aa8 c)/\F X Y Z j))/\(g6 j j (aa8 c)/\∃al am an,((g==0)=Ta->zc j (aa8 c) 0 [aa9 al,aa6 am,iV an])/\g6 j j (aa8 c)/\F al am an j)))):aa4 223 #[aa6 s0] h R:=XF ⟨[(2,8000)],[],[]⟩ [.cell 2 110,.tmp 3] 20 func223 H
def Pb(b:Bt)(c:Sl)(t:Int)(h:zb)(R:vvv) (H:let d:=h.push (.cells #[aa6 b,aK c] 162);∃e f,zc d (aa8 h) 0 [aa6 e,aK f]/\∃g,zd d (YH (aa8 h) 1)=Td (aK g)/\∃i,(g.a=Td i/\0<=t/\t<g.len)/\∃j k,zc d (YH (i.add (t.toNat*7)) 3) 0 [iV j,iV k]/\aa4 284 #[.agg #[aa6 e,aK f],.agg #[iV j,iV k]] d (λl m=>∃n,l=.string n/\aa4 343 #[aa6 n] m (λo p=>∃q r s,o=.tuple #[aa6 q,iV r,iV s]/\R (aa6 q) p))):aa4 285 #[.agg #[aa6 b,.slice c.a c.len c.cap],ab0 t] h R:=XF ⟨[(1,8000)],[],[]⟩ [.tmp 4] 22 func285 H
def RA(U:Bt)(h:zb)(R:vvv) (H:let b:=h.push (.cells tC 25);aa4 165 #[aa6 U] b (λc d=>∃e f g i j k,c=.tuple #[tA e f g i,iV j,iV k]/\let l:=d.push (.cells tC 25);wf Tp (YI 25 (aa7 (aa8 d)) (tA e f g i)) l (λm=>∃n o p q,zc m (aa8 d) 0 (tL n o p q)/\∃r,((k==0)=Ta->zd m (YH (aa8 d) 3)=Td (aK r))/\let s:Bool->zb->Prop:=λt (u:zb)=>(∃v w x y,zc u (aa8 h) 0 (tL v w x y)/\R (.tuple #[tA v w x y,aa9 t]) u);g6 m m (aa8 d)/\g6 m m (aa8 d)/\∃z,((cond (k==0) ((r.len:Int)==0) Tc)=Ta->zd m (YH (aa8 d) 0)=Td (iV z))/\g6 m m (aa8 d)/\g6 m m (aa8 d)/\∃A B C D,((cond (cond (k==0) ((r.len:Int)==0) Tc) (hV (z<5)) Tc)=Ta->zc m (aa8 d) 0 (tL A B C D))/\g6 m m (aa8 d)/\∃E:vvv,((cond (cond (k==0) ((r.len:Int)==0) Tc) (hV (z<5)) Tc)=Ta->aa4 97 #[tA A B C D] m (λF G=>∃I,F=.string I/\E (aa6 I) G))/\((cond (cond (k==0) ((r.len:Int)==0) Tc) (hV (z<5)) Tc)=Tc->∃J,E (aa6 J) m)/\((cond (cond (k==0) ((r.len:Int)==0) Tc) (hV (z<5)) Tc)=Ta->∀L M,E L M->∃N,L=.string N)/\∀O:Bt,∀P,E (aa6 O) P->g6 P m (aa8 d)/\(g6 P m (aa8 d)/\wf Tp (YI 25 (aa7 (aa8 h)) (tA n o p q)) P (λQ=>s (cond (cond (cond (k==0) ((r.len:Int)==0) Tc) (hV (z<5)) Tc) (O.toList==U.toList) Tc) Q))/\(wf Tp (YI 25 (aa7 (aa8 h)) (tA n o p q)) P (λS=>s (cond (cond (cond (k==0) ((r.len:Int)==0) Tc) (hV (z<5)) Tc) (O.toList==U.toList) Tc) S))))):aa4 109 #[aa6 U] h R:=XF ⟨[(2,7000)],[],[]⟩ [.cell 2 25,.tmp 3] 33 func109 H
def JC(Z:Bt)(h:zb)(R:vvv) (H:aa4 203 #[aa6 Z] h (λb c=>∃d e,b=.tuple #[iV d,aa9 e]/\((!e)=Ta->R (.tuple #[aa6 (⟨#[]⟩:Bt),iV 2]) c)/\((!e)=Tc->let f:=c.push (.cells #[.int .u8 34] 5);∃(g:Sl->Int->zb->Prop) (i:Sl->Int->zb->Nat),g (⟨Td (aa8 c),1,1⟩:Sl) 0 f/\∀j:Sl,∀k:Int,∀l:zb,g j k l->((hV (k<Z.size)=Ta->(0<=k/\k<Z.size)/\((cond ((ze Z k.toNat:Int)==34) Ta ((ze Z k.toNat:Int)==92))=Ta->let m:=l.push (.cells #[.int .u8 92,.int .u8 (ze Z k.toNat)] 5);CA Tp (YN #[87,87] 87 #[aK j,.slice (Td (aa8 l)) 2 2]) m (λn o=>∃p,n=aK p/\(g p (p3 (k+1)) o/\i p (p3 (k+1)) o<i j k l)))/\((cond ((ze Z k.toNat:Int)==34) Ta ((ze Z k.toNat:Int)==92))=Tc->(((ze Z k.toNat:Int)==8)=Ta->CA Tp (YN #[87,9] 87 #[aK j,aa6 (⟨#[92,98]⟩:Bt)]) l (λq r=>∃s,q=aK s/\(g s (p3 (k+1)) r/\i s (p3 (k+1)) r<i j k l)))/\(((ze Z k.toNat:Int)==8)=Tc->(((ze Z k.toNat:Int)==12)=Ta->CA Tp (YN #[87,9] 87 #[aK j,aa6 (⟨#[92,102]⟩:Bt)]) l (λt u=>∃v,t=aK v/\(g v (p3 (k+1)) u/\i v (p3 (k+1)) u<i j k l)))/\(((ze Z k.toNat:Int)==12)=Tc->(((ze Z k.toNat:Int)==10)=Ta->CA Tp (YN #[87,9] 87 #[aK j,aa6 (⟨#[92,110]⟩:Bt)]) l (λw x=>∃y,w=aK y/\(g y (p3 (k+1)) x/\i y (p3 (k+1)) x<i j k l)))/\(((ze Z k.toNat:Int)==10)=Tc->(((ze Z k.toNat:Int)==13)=Ta->CA Tp (YN #[87,9] 87 #[aK j,aa6 (⟨#[92,114]⟩:Bt)]) l (λz A=>∃B,z=aK B/\(g B (p3 (k+1)) A/\i B (p3 (k+1)) A<i j k l)))/\(((ze Z k.toNat:Int)==13)=Tc->(((ze Z k.toNat:Int)==9)=Ta->CA Tp (YN #[87,9] 87 #[aK j,aa6 (⟨#[92,116]⟩:Bt)]) l (λC D=>∃E,C=aK E/\(g E (p3 (k+1)) D/\i E (p3 (k+1)) D<i j k l)))/\(((ze Z k.toNat:Int)==9)=Tc->(hV ((ze Z k.toNat:Int)<32)=Ta->IntKind.u8=IntKind.u8/\(16:Int)≠0/\IntKind.u8=IntKind.u8/\(16:Int)≠0/\let F:zb->Prop:=λ(G:zb)=>(let I:=G.push (.cells #[.int .u8 92,.int .u8 117,.int .u8 48,.int .u8 48,.int .u8 (ze (ac9:Bt) (YG .u8 ((ze Z k.toNat:Int).tdiv 16)).toNat),.int .u8 (ze (ac9:Bt) ((ze Z k.toNat:Int).tmod 16:Int).toNat)] 5);CA Tp (YN #[87,87] 87 #[aK j,.slice (Td (aa8 G)) 6 6]) I (λJ L=>∃M,J=aK M/\(g M (p3 (k+1)) L/\i M (p3 (k+1)) L<i j k l)));((0<=(YG .u8 ((ze Z k.toNat:Int).tdiv 16))/\(YG .u8 ((ze Z k.toNat:Int).tdiv 16))<(((ac9:Bt)).size:Int))/\(0<=((ze Z k.toNat:Int).tmod 16:Int)/\((ze Z k.toNat:Int).tmod 16:Int)<(((ac9:Bt)).size:Int))/\F l)/\((0<=((ze Z k.toNat:Int).tmod 16:Int)/\((ze Z k.toNat:Int).tmod 16:Int)<(((ac9:Bt)).size:Int))/\(0<=(YG .u8 ((ze Z k.toNat:Int).tdiv 16))/\(YG .u8 ((ze Z k.toNat:Int).tdiv 16))<(((ac9:Bt)).size:Int))/\F l))/\(hV ((ze Z k.toNat:Int)<32)=Tc->let N:=l.push (.cells #[.int .u8 (ze Z k.toNat)] 5);CA Tp (YN #[87,87] 87 #[aK j,.slice (Td (aa8 l)) 1 1]) N (λO P=>∃Q,O=aK Q/\(g Q (p3 (k+1)) P/\i Q (p3 (k+1)) P<i j k l))))))))))/\(hV (k<Z.size)=Tc->let S:=l.push (.cells #[.int .u8 34] 5);CA Tp (YN #[87,87] 87 #[aK j,.slice (Td (aa8 l)) 1 1]) S (λT U=>∃V,T=aK V/\CA Tp (convert 87 9 (aK V)) U (λW X=>∃Y,W=.string Y/\R (.tuple #[aa6 Y,iV 0]) X))))))):aa4 131 #[aa6 Z] h R:=XF ⟨[(23,8000)],[(7,[(7,.one (.sl)),(8,.one (.int .i64))])],[]⟩ [.tmp 2,.tmp 3] 78 func131 H
end
end
section
open Go.Lib
section
def Pu(gl:Fr)(n:Bt)(R:((Bool×Bt×Int)×Bool)->Prop) (H:aa5 gl 232 [qr .str n] [.pair .bool (.pair .str (.int .i64)),.int .i64] (λb:(Bool×Bt×Int)×Int=>∃C:Bt->Prop,(((b.2:Int)==0)=Ta->aa5 gl 233 [qr (.pair .bool (.pair .str (.int .i64))) (b.1.1,(b.1.2.1,b.1.2.2))] [.str] C)/\∀D:Bt,(((b.2:Int)==0)=Ta->C D)->R ((b.1.1,(b.1.2.1,b.1.2.2)),cond ((b.2:Int)==0) ((D:Bt).toList==(n:Bt).toList) Tc))):aa5 gl 223 [qr .str n] [.pair .bool (.pair .str (.int .i64)),.bool] R:=by
 intro h M vs Z ag ha
 match vs,ha with
 |[u],⟨O,_⟩=>
 have O:RdV M .str n u:=O;rw[y0 O];apply PX.of;apply Ui n;intro h1;have⟨k1,z1,b1⟩:=yp (g:=h1) rfl;clear_value h1;have L1:wr h M h1 M:=wr.same ag k1;refine H.go (vs:=[aa6 n]) Z L1.ag (zn (a:=qr .str n) (DH _) zw) λw q U r y l hr=>?_;have⟨J,hJ,hR⟩:=hr;rw[FI l];refine⟨_,_,_,_,rfl,?_⟩;have z3:=y.aa1.size;refine sM (cs:=#[aa9 Tc,aa6 ⟨#[]⟩,ab0 0]) (Blk.new _ _ _) rfl κ κ λp f9 z9 F=>?_;rw[YW]at z9;have k9:Bk q.size q p:=⟨ω,λj Q=>(f9 j ω).trans ((rg q _ (YJ _)).get j Q)⟩;have G:wr h M p U:=(L1.trans y).trans (wr.same y.ag k9);have A:U h.size=Te:=by
  rw[y.old h.size ω];cases e:M h.size with
  |none=>rfl
  |some c=>have:=ag.lt e;omega
 have V:Blk p h.size #[aa9 Tc,aa6 ⟨#[]⟩,ab0 0]:=(b1.aa3 y.aa1).aa3 k9;refine⟨r.1.1,r.1.2.1,r.1.2.2,F.ld (cs:=[aa9 r.1.1,aa6 r.1.2.1,ab0 r.1.2.2]),?_⟩;intro Y ab aa N S;have fin:∀(g:zb) (Mg:Fr) (x:Bt),wr h M g Mg->Mg h.size=Te->(∃cs,Blk g h.size cs/\cs.size=3)->(((r.2:Int)==0)=Ta->J x) ->
  wf Tp (YI 110 (aa7 ⟨ZK h,0,Te⟩) (.agg #[aa9 r.1.1,aa6 r.1.2.1,ab0 r.1.2.2])) g (λg'=>Y (cond ((r.2:Int)==0) ((x:Bt).toList==(n:Bt).toList) Tc) g'):=λg Mg x L o ⟨cs,B,hc⟩ k=>
  sM B hc κ κ λg' f z B'=>⟨_,_,_,B'.ld (cs:=[aa9 r.1.1,aa6 r.1.2.1,ab0 r.1.2.2]),Mg,((r.1.1,(r.1.2.1,r.1.2.2)),_),⟨⟨χ L.aa1.size,λj Q=>(f j ω).trans (L.aa1.get j Q)⟩,L.le,L.old,λc cc e=>by have⟨T,m,e2⟩:=L.ag c cc e;grind⟩,Hm _ _ _ _,hR x k⟩
 have P:∀(g:zb) (Mg:Fr) (x:Bt),wr h M g Mg->Mg h.size=Te->(∃cs,Blk g h.size cs/\cs.size=3)->(((r.2:Int)==0)=Ta->J x)->g[q.size]?=p[q.size]?->N x g:=λg Mg x L o B k s=>⟨⟨s,⟨s,fin g Mg x L o B k⟩,fin g Mg x L o B k⟩,fin g Mg x L o B k⟩;let E:vvv:=λv g=>∃x:Bt,v=.string x/\(∃Mg,wr h M g Mg/\Mg h.size=Te/\(∃cs,Blk g h.size cs/\cs.size=3)/\g[q.size]?=p[q.size]?)/\(((r.2:Int)==0)=Ta->J x);have call:((r.2:Int)==0)=Ta->aa4 233 #[.agg #[aa9 r.1.1,aa6 r.1.2.1,ab0 r.1.2.2]] p (λv g=>∃x:Bt,v=.string x/\E (aa6 x) g):=λe=>
  (hJ e).go (vs:=[.agg #[aa9 r.1.1,aa6 r.1.2.1,ab0 r.1.2.2]]) (Z.trans G.le) G.ag (zn (a:=qr (.pair .bool (.pair .str (.int .i64))) (r.1.1,(r.1.2.1,r.1.2.2))) (qE _ _ _) zw) λw g Mg x I l k=>
   ⟨x,gu l,x,rfl,⟨Mg,G.trans I,by rw[I.old h.size V.lt];exact A,⟨_,V.aa3 I.aa1,rfl⟩,I.aa1.get _ F.lt⟩,λ_=>k⟩
 have i:((r.2:Int)==0)=Tc->∃x:Bt,E (aa6 x) p:=λe=>⟨⟨#[]⟩,⟨#[]⟩,rfl,⟨U,G,A,⟨_,V,rfl⟩,rfl⟩,λe'=>θ⟩;have t:S r.1.1 r.1.2.1 r.1.2.2 p:=⟨E,call,i,λ_ v g ⟨x,e,_⟩=>⟨x,e⟩,λx g ⟨x',e,⟨Mg,L,o,B,s⟩,k⟩=>by injection e with e;subst e;grind⟩;refine⟨⟨_,_,_,λ_=>F.ld (cs:=[aa9 r.1.1,aa6 r.1.2.1,ab0 r.1.2.2]),rfl,⟨E,call,i,λ_ v g ⟨x,e,_⟩=>⟨x,e⟩,λx g ⟨x',e,⟨Mg,L,o,B,s⟩,k⟩=>?_⟩,rfl,t⟩,rfl,_,_,_,λ_=>F.ld (cs:=[aa9 r.1.1,aa6 r.1.2.1,ab0 r.1.2.2]),rfl,t⟩;injection e with e;subst e;exact⟨s,⟨s,P g Mg x L o B k s⟩,fin g Mg x L o B k⟩
def VJ(gl:Fr)(n0:Int)(R:Bt->Prop) (H:((cond (hV ((n0:Int)>=0)) (hV ((n0:Int)<10)) Tc)=Ta->(0<=(n0:Int)/\(n0:Int)<=(p3 (n0+1))/\(p3 (n0+1):Int)<=(((ac8:Bt)).size:Int))/\R (((ac8:Bt)).extract (n0:Int).toNat (p3 (n0+1):Int).toNat))/\((cond (hV ((n0:Int)>=0)) (hV ((n0:Int)<10)) Tc)=Tc->((hV ((n0:Int)>0))=Ta->zaw=zaw/\(10:Int)≠0/\zaw=zaw/\(10:Int)≠0/\zaw=zaw/\(10:Int)≠0/\(0<=((n0:Int).tmod 10:Int)/\((n0:Int).tmod 10:Int)<=(p3 (((n0:Int).tmod 10)+1))/\(p3 (((n0:Int).tmod 10)+1):Int)<=(((ac8:Bt)).size:Int))/\aa5 gl 193 [qr q0 (p3 ((n0:Int).tdiv 10))] [.str] (λn:Bt=>qb ((n).size+(((ac8:Bt)).extract ((n0:Int).tmod 10:Int).toNat (p3 (((n0:Int).tmod 10)+1):Int).toNat).size)/\R (n++(((ac8:Bt)).extract ((n0:Int).tmod 10:Int).toNat (p3 (((n0:Int).tmod 10)+1):Int).toNat))))/\((hV ((n0:Int)>0))=Tc->((hV ((n0:Int)>(-10)))=Ta->(0<=(p3 (0-n0):Int)/\(p3 (0-n0):Int)<=(p3 ((p3 (0-n0))+1))/\(p3 ((p3 (0-n0))+1):Int)<=(((ac8:Bt)).size:Int))/\qb (((⟨#[45]⟩:Bt)).size+(((ac8:Bt)).extract (p3 (0-n0):Int).toNat (p3 ((p3 (0-n0))+1):Int).toNat).size)/\R ((⟨#[45]⟩:Bt)++(((ac8:Bt)).extract (p3 (0-n0):Int).toNat (p3 ((p3 (0-n0))+1):Int).toNat)))/\((hV ((n0:Int)>(-10)))=Tc->zaw=zaw/\(10:Int)≠0/\zaw=zaw/\(10:Int)≠0/\zaw=zaw/\(10:Int)≠0/\(0<=(p3 (0-((n0:Int).tmod 10)):Int)/\(p3 (0-((n0:Int).tmod 10)):Int)<=(p3 ((p3 (0-((n0:Int).tmod 10)))+1))/\(p3 ((p3 (0-((n0:Int).tmod 10)))+1):Int)<=(((ac8:Bt)).size:Int))/\aa5 gl 193 [qr q0 (p3 ((n0:Int).tdiv 10))] [.str] (λm:Bt=>qb ((m).size+(((ac8:Bt)).extract (p3 (0-((n0:Int).tmod 10)):Int).toNat (p3 ((p3 (0-((n0:Int).tmod 10)))+1):Int).toNat).size)/\R (m++(((ac8:Bt)).extract (p3 (0-((n0:Int).tmod 10)):Int).toNat (p3 ((p3 (0-((n0:Int).tmod 10)))+1):Int).toNat))))))):aa5 gl 193 [qr q0 n0] [.str] R:=by
 intro h M vs D ag P
 match vs,P with
 |[u],⟨hu,_⟩=>
 cases qn (i:=n0) (k:=.i64) hu;apply PX.of;apply Vr n0;have⟨E,B⟩:=H;have ret:∀{g:zb} {Mg:Fr} {s:Bt},wr h M g Mg->R s->∃M' r,wr h M g M'/\x7 M' [.str] r (aa6 s)/\R r:=λ {g Mg s} L l=>⟨Mg,s,L,Yu.2 (DH s),l⟩;have F:wr h M h M:=wr.refl ag;refine⟨λe=>⟨(E e).1,ret F (E e).2⟩,λe=>?_⟩;have⟨B,t⟩:=B e;refine⟨λy=>?_,λy=>?_⟩;have⟨p,a2,o,z,x,A,f,c⟩:=B y;exact⟨p,a2,o,z,x,A,f,c.go (vs:=[ab0 _]) D ag (zn (a:=qr q0 _) (Zj _ _) zw) λw g Mg r L b l=>⟨r,gu b,l.1,ret L l.2⟩⟩;have⟨t,G⟩:=t y;refine⟨λC=>?_,λC=>?_⟩;have⟨p,a2,o⟩:=t C;exact⟨p,a2,ret F o⟩;have⟨p,a2,o,z,x,A,f,c⟩:=G C;refine⟨p,a2,o,z,x,A,?_⟩;intro N S O I;have call:∀{Q:Bt->Prop},aa5 gl 193 [qr q0 (p3 ((n0:Int).tdiv 10))] [.str] Q->∀{K:vvv},(∀(r:Bt) (g:zb) (Mg:Fr),wr h M g Mg->Q r->K (aa6 r) g)->aa4 193 #[ab0 (p3 ((n0:Int).tdiv 10))] h K:=λ {Q} c {K} J=>
  c.go (vs:=[ab0 _]) D ag (zn (a:=qr q0 _) (Zj _ _) zw) λw g Mg r L b l=>by rw[gu b];exact J r g Mg L l
 exact⟨call c λr g Mg L q=>⟨r,rfl,⟨f,q.1,ret L q.2⟩,f,q.1,ret L q.2⟩,⟨call c λr g Mg L q=>⟨r,rfl,f,q.1,ret L q.2⟩,f,call c λr g Mg L q=>⟨r,rfl,q.1,ret L q.2⟩⟩,call c λr g Mg L q=>⟨r,rfl,f,q.1,ret L q.2⟩,f,call c λr g Mg L q=>⟨r,rfl,q.1,ret L q.2⟩⟩
end
end
section
section
variable {gl:Fr} {n:Int}
def Xr{a b:Bs}(h:a.length+DB b<=4611686018427387904):qb ((bl a).size+(bl b).size):=by unfold qb;rw[zf,zf];omega
def vZ(o:oE gl){n:Nm}(r:n.2.1.length<=4611686018427387904){R:Bt->Prop}(h:R (bl (qu n))):aa5 gl 92 [qr tN (fD n)] [.str] R:=by
 apply S7;refine wU r ⟨λf=>?_,λf=>?_⟩;have:qy n=Tc:=ψ f
 have e:qu n=[]:=by unfold qu;simp[this]
 rw[e]at h;exact h;have i:qy n=Ta:=ψ f
 have⟨u,p,l⟩:=Yy i;unfold qu at h;rw[zi i]at h;simp only[show(⟨#[]⟩:Bt)=bl []from rfl,fS];refine⟨λc=>?_,λc=>?_⟩;rw[zi (ψ c)]at h;exact h;rw[za (ψ c)]at h;intro K s;have key:∀t:Bs,t=(ite n.1 [45] [])++n.2.1->K (bl t):=by
  intro t k;have q:t.length<=1001:=by rw[k];split <;> simp <;> omega
  rw[<-k]at h;refine s _ ⟨λb=>?_,λb=>?_⟩;rw[za (ψ b)]at h;have m:=Go.X.OR n.2.2;refine AW o ω ω ?_;refine⟨Xr (a:=[101]) φ,?_⟩;rw[show(⟨#[101]⟩:Bt)=bl [101]from rfl,qf,qf];exact⟨Xr φ,h⟩;rw[zi (ψ b),ZY]at h;exact h
 refine⟨λb=>⟨Xr (a:=[45]) φ,?_⟩,λb=>?_⟩;rw[show(⟨#[45]⟩:Bt)=bl [45]from rfl,qf];exact key _ (by rw[zi (ψ b)]);exact key _ (by rw[za (ψ b)];rfl)
theorem rm{k:Nat}(h:k<10):(bl [48,49,50,51,52,53,54,55,56,57]).extract k (k+1)=bl [ZR (48+k)]:=by rw[qa,Go.X.dig_ext k h]
theorem JK(h:10<=n):Lib.itoa n=Lib.itoa (n / 10)++[ZR (48+(n % 10).toNat)]:=by unfold Lib.itoa;rw[za ω,za ω,Lib.decDigits,dif_neg ω];congr 3;omega;omega
theorem itoa_neg(h:n<=-10):Lib.itoa n=Lib.itoa (n.tdiv 10)++[ZR (48+(-(n.tmod 10)).toNat)]:=by
 obtain⟨m,rfl⟩:∃m:Nat,n=-(m:Int):=⟨n.natAbs,ω⟩;have b:(-(m:Int)).tdiv 10=-((m / 10:Nat):Int):=by rw[Int.neg_tdiv];rfl
 have e:(-(m:Int)).tmod 10=-((m % 10:Nat):Int):=by rw[Int.neg_tmod];rfl
 rw[b,e];unfold Lib.itoa;rw[zi ω,zi ω];have c:(-(m:Int)).natAbs=m:=ω
 have a2:(-((m / 10:Nat):Int)).natAbs=m / 10:=ω
 rw[c,a2];conv=>lhs;rw[Lib.decDigits,dif_neg ω]
 rw[ZT];congr 4;omega
def ud{gl:Fr}{n:Int}(h1:-9223372036854775808<=n)(h2:n<=9223372036854775807){R:Bt->Prop}(h:R (bl (Lib.itoa n))):aa5 gl 193 [qr q0 n] [.str] R:=by
 apply VJ;have p:(ac8:Bt)=bl [48,49,50,51,52,53,54,55,56,57]:=rfl;simp only[p];have c:(bl [48,49,50,51,52,53,54,55,56,57]).size=10:=by rw[zf];rfl
 refine⟨λk=>?_,λk=>⟨λb=>?_,λb=>⟨λf=>?_,λf=>?_⟩⟩⟩;have i:0<=n/\n<10:=by simpa[zbo]using k
 rw[bR ω,c];refine⟨ω,?_⟩;have e:(n+1).toNat=n.toNat+1:=ω
 rw[e,rm ω];have:Lib.itoa n=[ZR (48+n.toNat)]:=by unfold Lib.itoa;rw[za ω,Lib.decDigits,dif_pos ω]
 rw[<-this];exact h;have i:10<=n:=by
  have:¬(0<=n/\n<10):=by simpa[zbo]using k
  have:n>0:=ψ b
  omega
 have m:n.tdiv 10=n / 10:=Int.tdiv_eq_ediv_of_nonneg ω;have o:n.tmod 10=n % 10:=Int.tmod_eq_emod_of_nonneg ω;rw[m,o,bR (n:=n % 10+1) ω,bR (n:=n / 10) ω,c];refine⟨trivial,ω,trivial,ω,trivial,ω,ω,ud (n:=n / 10) ω ω ?_⟩;have e:(n % 10+1).toNat=(n % 10).toNat+1:=ω
 rw[e,rm ω];refine⟨Xr ?_,?_⟩;have:=Go.X.OR (n / 10);simp;omega;rw[qf,<-JK i];exact h;have i:-10<n/\n<0:=by
  have:¬(0<=n/\n<10):=by simpa[zbo]using k
  have:¬n>0:=ψ b
  have:n > -10:=ψ f
  omega
 have l:(0:Int)-n=-n:=ω
 rw[l,bR (n:=-n) ω,bR (n:=-n+1) ω,c];have e:(-n+1).toNat=(-n).toNat+1:=ω
 rw[e,rm ω];refine⟨ω,Xr (a:=[45]) ξ,?_⟩;rw[show(⟨#[45]⟩:Bt)=bl [45]from rfl,qf];have:Lib.itoa n=[45]++[ZR (48+(-n).toNat)]:=by
  unfold Lib.itoa;rw[zi ω,Lib.decDigits,dif_pos ω];have:n.natAbs=(-n).toNat:=ω
  rw[this];rfl
 rw[<-this];exact h;have i:n<=-10:=by
  have:¬(0<=n/\n<10):=by simpa[zbo]using k
  have:¬n>0:=ψ b
  have:¬n > -10:=ψ f
  omega
 have q:n.tdiv 10=-((-n) / 10):=by have:=Int.neg_tdiv (-n) 10;rw[Int.neg_neg]at this;rw[this,Int.tdiv_eq_ediv_of_nonneg ω]
 have r:n.tmod 10=-((-n) % 10):=by have:=Int.neg_tmod (-n) 10;rw[Int.neg_neg]at this;rw[this,Int.tmod_eq_emod_of_nonneg ω]
 have l:(0:Int)-n.tmod 10=-(n.tmod 10):=ω
 rw[l,bR (n:=-(n.tmod 10)) ω,bR (n:=-(n.tmod 10)+1) ω,bR (n:=n.tdiv 10) ω,c];have e:(-(n.tmod 10)+1).toNat=(-(n.tmod 10)).toNat+1:=ω
 rw[e,rm ω];refine⟨trivial,ω,trivial,ω,trivial,ω,ω,ud (n:=n.tdiv 10) ω ω ?_⟩;refine⟨Xr ?_,?_⟩;have:=Go.X.OR (n.tdiv 10);simp;omega;rw[qf,<-itoa_neg i];exact h
termination_by n.natAbs
decreasing_by all_goals omega
def G9{n:Nm}(r:n.2.1.length<=4611686018427387904){R:Bt->Prop}(h:R (bl (qu n))):aa5 gl 233 [qr tN (fD n)] [.str] R:=by
 apply RU;refine HW r ⟨λk=>?_,λk=>?_⟩;have:qy n=Tc:=ψ k
 have e:qu n=[]:=by unfold qu;simp[this]
 rw[e]at h;exact h;have i:qy n=Ta:=ψ k
 have⟨u,p,m⟩:=Yy i;unfold qu at h;rw[zi i]at h;refine A6 (n:=n) ⟨λf=>?_,λf=>?_⟩;have:n.2.1=[]:=by unfold Yx at f;simp at f;exact f.2.1
 rw[zi this]at h;exact h;have:¬n.2.1=[]:=λe=>by have:=uP i e;rw[this]at f;cases f
 rw[za this]at h;intro K s;have key:∀t:Bs,t=(ite n.1 [45] [])++n.2.1->K (bl t):=by
  intro t l;have q:t.length<=1001:=by rw[l];split <;> simp <;> omega
  rw[<-l]at h;refine s _ ⟨λc=>?_,λc=>?_⟩;rw[za (ψ c)]at h;have o:=Go.X.OR n.2.2;refine⟨Xr (b:=[101]) φ,ud (n:=n.2.2) ω ω ?_⟩;rw[show(⟨#[101]⟩:Bt)=bl [101]from rfl,qf,qf];exact⟨Xr φ,by rw[ZL];exact h⟩;rw[zi (ψ c),ZY]at h;exact h
 refine⟨λc=>⟨Xr (a:=[45]) φ,?_⟩,λc=>?_⟩;rw[show(⟨#[45]⟩:Bt)=bl [45]from rfl,qf];exact key _ (by rw[zi (ψ c)]);exact key _ (by rw[za (ψ c)];rfl)
def PI(f:oE gl)(h1:-9223372036854775808<=n)(h2:n<=9223372036854775807){R:Bool×Bt×Int->Prop}(h:R (fD (zj (Lib.itoa n)).1)):aa5 gl 93 [qr q0 n] [tN] R:=by
 apply JV;refine AW f h1 h2 (qM ?_ h);have:=Go.X.OR n;have b:∀u:Nat,u<10 ^ 20->(Lib.decDigits u).length<=20:=by
  have:∀(k u:Nat),u<10 ^ (k+1)->(Lib.decDigits u).length<=k+1:=by
   intro k;induction k with
   |zero=>intro u c;rw[Lib.decDigits,dif_pos (ψ c)];simp
   |succ k e=>intro u c;rw[Lib.decDigits];split;simp;have:=e (u / 10) (by rw[Nat.pow_succ]at c;omega);simp;omega
  exact this 19
 have:(Lib.itoa n).length<=21:=by unfold Lib.itoa;split;have:=b n.natAbs ω;simp;omega;have:=b n.toNat ω;omega
 omega
end
section
variable {l:Bs} {n:Int}
theorem pc{c:UInt8}(e:n=(c.toNat:Int)):(cond (hV ((DB l:Int)>0)) (((l[0]?.getD 0).toNat:Int)==n) Tc)=(l.head?==Td c):=by
 subst e;cases l with
 |nil=>rfl
 |cons b t=>
  have:hV (((b::t).length:Int)>0)=Ta:=ξ
  rw[this,zF];show((b.toNat:Int)==(c.toNat:Int))=(Td b==Td c);rw[ZI];simp only[beq_iff_eq,Int.natCast_inj,YK];exact⟨λh=>zcc.1 h,λh=>by rw[h]⟩
theorem rj:bl ((l.drop (1:Int).toNat).take (((DB l:Int)).toNat-(1:Int).toNat))=bl l.tail:=by rw[YL,show(1:Int).toNat=1 from rfl,List.drop_one,za0 ξ]
theorem zP{c:UInt8}(d:UInt8)(b:n=(d.toNat:Int)):((c.toNat:Int) != n)=!(c==d):=by subst b;rw[ZI];simp only[bne_iff_ne,ne_eq,Int.natCast_inj,Bool.not_eq_true',beq_eq_false_iff_ne];exact⟨λh e=>h (ϕ e),λh e=>h (zcc.1 e)⟩
def UR{gl:Fr}{s:Bs}(hs:s.length<=1152921504606846976){R:Bool×Bt×Bt×Bool×Bt×Bool->Prop}(h1:Xp s=Ta->R ((Yz s).neg,bl (Yz s).whole,bl (Yz s).rest,(Yz s).low,bl (ite ((jw s).2.2) ((Yz s).exp) [48]),Ta)) (h2:Xp s=Tc->∀a b c d e,R (a,bl b,bl c,d,bl e,Tc)):aa5 gl 291 [qr .str (bl s)] [.bool,.str,.str,.bool,.str,.bool] R:=by
 apply MU
 simp only[zf,zx,show(0:Int).toNat=0 from rfl,pc (l:=s) (c:=45) (n:=45) rfl]
 refine⟨λu=>η,?_⟩
 have hS:(fv s).length<=DB s:=by unfold fv;split <;> simp
 have first:∀K:Bt->Prop,K (bl (fv s))->(((s.head?==Td 45)=Ta->(0<=(1:Int)/\(1:Int)<=(DB s:Int)/\((DB s:Int))<=(DB s:Int))/\K ((bl s).extract (1:Int).toNat ((DB s:Int)).toNat))/\((s.head?==Td 45)=Tc->K (bl s))):=by
  intro K L
  unfold fv at L
  refine⟨λu=>⟨?_,?_⟩,λu=>?_⟩
  ·cases s with
   |nil=>simp at u
   |cons=>simp;omega
  ·rw[u,zi rfl]at L
   rw[qa,rj];exact L
  ·simp_all
 intro K L
 refine first K (L _ ?_)
 clear L first K
 generalize aj:fv s=s1 at *
 simp only[zf,zx]
 have hM:GE gi s1=jw s:=by rw[jw,aj]
 refine⟨λi=>∃k:Nat,i=k/\k<=DB s1/\∀j (N:j<DB s1),j<k->gi s1[j]=Tc,λi=>DB s1-i.toNat,⟨0,rfl,ω,λj _ h=>ω⟩,?_⟩
 rintro i ⟨k,rfl,P,hb⟩
 have S:∀P:k<DB s1,(cond (cond (hV ((k:Int)<(DB s1:Int))) ((((s1[((k:Int)).toNat]?).getD 0).toNat:Int) != 101) Tc) ((((s1[((k:Int)).toNat]?).getD 0).toNat:Int) != 69) Tc)=!gi s1[k]:=by
  intro P
  rw[YL,Yw P]
  have:hV ((k:Int)<(DB s1:Int))=Ta:=ψ P
  rw[this,zF,zP (n:=101) 101 rfl,zP (n:=69) 69 rfl,gi]
  cases s1[k]==101 <;> simp
 refine⟨λC=>?_,λC=>?_,λC=>?_,λC=>?_⟩
 simp_all
 simp_all
 ·have t:k<DB s1:=by simp at C;omega
  rw[S t]at C
  rw[qo t ω]
  grind
 ·-- the whole and the point
  have hm:jw s=if P:k<s1.length then(s1.take k,s1.drop (k+1),Ta)else(s1,[],Tc):=by
   rw[<-hM]
   split
   ·grind [od]
   ·grind [Yi,zbm]
  have w:s1.take k=(jw s).1:=by
   rw[hm];split
   ·rfl
   ·grind
  have rest:∀(e:Bs) (low:Bool),low=Za s->e=(ite ((jw s).2.2) (eP s) [48]) ->
    ∀E:Bt->Bool->Prop,(∀o:Bt,∀f:Bool,o=bl e->f=low->E o f)->E (bl e) low:=λe low _ _ E h=>h _ _ rfl rfl
  intro E Z
  have fin:∀(e:Bs) (low:Bool),low=Za s->e=(ite ((jw s).2.2) (eP s) [48])->E (bl e) low:=by
   intro e low af I
   refine Z _ _ ⟨ω,?_⟩
   have am:(bl s1).extract 0 ((k:Int)).toNat=bl (jw s).1:=by rw[YL,qa,zbi,Nat.sub_zero,w]
   rw[am]
   generalize ak:(jw s).1=m1 at *
   have ar:m1.length<=DB s1:=by rw[<-w];simp;omega
   have hw:GE gp m1=jy s:=by rw[jy,ak]
   simp only[zf,zx]
   refine⟨λi=>∃k:Nat,i=k/\k<=DB m1/\∀j (N:j<DB m1),j<k->gp m1[j]=Tc,λi=>DB m1-i.toNat,⟨0,rfl,ω,λj _ h=>ω⟩,?_⟩
   rintro i ⟨q,rfl,Y,ai⟩
   have F:∀Y:q<DB m1,(cond (hV ((q:Int)<(DB m1:Int))) ((((m1[((q:Int)).toNat]?).getD 0).toNat:Int) != 46) Tc)=!gp m1[q]:=by
    intro Y
    rw[YL,Yw Y]
    have:hV ((q:Int)<(DB m1:Int))=Ta:=ψ Y
    rw[this,zF,zP (n:=46) 46 rfl,gp]
   refine⟨λC=>?_,λC=>?_,λC=>⟨?_,?_⟩⟩
   ·grind
   ·have p:q<DB m1:=by simp at C;omega
    rw[F p]at C
    rw[qo p ω]
    refine⟨⟨q+1,rfl,ω,λj N au=>?_⟩,η⟩
    grind
   ·omega
   ·have D:jy s=if Y:q<m1.length then(m1.take q,m1.drop (q+1),Ta)else(m1,[],Tc):=by
     rw[<-hw]
     split
     ·rename_i p
      rw[F p]at C
      exact od p (λj N=>ai j ω N) (ψ C)
     ·exact Yi λc ah=>by
       obtain⟨j,N,rfl⟩:=zbm ah
       grind
    have ab:(bl m1).extract 0 ((q:Int)).toNat=bl (jy s).1:=by
     rw[YL,qa,zbi,Nat.sub_zero,D]
     split
     ·rfl
     ·grind
    rw[ab]
    have aA:(jy s).1.length<=DB s:=by rw[D];split <;> simp <;> omega
    have ax:(jy s).2.1.length<=DB s:=by rw[D];split <;> simp <;> omega
    have ay:e.length<=DB s+1:=by
     rw[I]
     split
     ·rename_i az
      have:(eP s).length<=(jw s).2.1.length:=by
       unfold eP;split
       ·simp
       ·split <;> simp
      have:(jw s).2.1.length<=DB s1:=by rw[hm];split <;> simp
      omega
     ·simp
    have G:∀(B:Bt->Prop),(∀r:Bt,r=bl (ite ((jy s).2.2) ((jy s).2.1) [48])->B r)->((hV ((q:Int)<(DB m1:Int)))=Ta->(0<=(p3 ((q:Int)+1))/\(p3 ((q:Int)+1))<=(DB m1:Int)/\((DB m1:Int))<=(DB m1:Int))/\B ((bl m1).extract (p3 ((q:Int)+1)).toNat ((DB m1:Int)).toNat))/\((hV ((q:Int)<(DB m1:Int)))=Tc->B (bl [48])):=by
     intro B A
     refine⟨λu=>?_,λu=>?_⟩
     ·have p:q<DB m1:=ψ u
      rw[qo p ω]
      refine⟨ω,A _ ?_⟩
      rw[D,dif_pos p,YL,YL,qa,za0 ξ];rfl
     ·grind
    intro B A
    refine G B λr hr=>A r ?_
    subst hr
    clear A G
    have ap:((q:Int)==(DB m1:Int))=!(jy s).2.2:=by
     rw[D,ZI]
     split
     ·simp;omega
     ·simp;omega
    refine Jm (l:=(jy s).1) ω ⟨λx=>Z1 (ite ((jy s).2.2) ((jy s).2.1) [48])=x,λ_=>Jm η rfl,λy hy=>?_⟩
    refine⟨λx=>Z1 e=x,λ_=>Jm ω rfl,λz hz=>?_⟩
    rw[show(⟨#[48]⟩:Bt)=bl [48]from rfl]
    simp only[fS,zf,zx]
    generalize U:Z1 (jy s).1=d1 at *
    have aa:Z1 (ite ((jy s).2.2) ((jy s).2.1) [48])=(!(jy s).2.2||Z1 (jy s).2.1):=by
     cases(jy s).2.2 <;> simp;decide
    have V:Z1 e=(!(jw s).2.2||Z1 (eP s)):=by
     rw[I];cases(jw s).2.2 <;> simp;decide
    have m:Xp s=((cond (cond d1 y Tc) z Tc)&&((jy s).1==[48]||(jy s).1.head? != Td 48)):=by
     unfold Xp
     rw[U,<-aa,<-V]
     cases H:d1 with
     |false=>simp
     |true=>
      grind
    refine⟨λu=>?_,?_⟩
    ·have:d1=Ta:=by simp at u;exact u.1.1.1
     grind [Xq]
    ·intro ae O
     have jZ:ae (bl (jy s).2.1):=by
      refine O _ ?_
      have h4:∀H:d1=Ta,(cond (hV ((jy s).1=[48])) Ta (((((jy s).1[0]?).getD 0).toNat:Int) != 48))=((jy s).1==[48]||(jy s).1.head? != Td 48):=by
       intro H
       rw[ry (Xq (U.trans H)),zb1,ZI];simp
      cases ho:Xp s with
      |true=>
       rw[ho]at m
       have H:d1=Ta:=by cases d1 <;> simp at m;rfl
       rw[h4 H]
       have an:(cond (cond d1 y Tc) z Tc)=Ta:=by
        cases hb:(cond (cond d1 y Tc) z Tc)with
        |true=>rfl
        |false=>grind
       rw[an]at m ⊢
       rw[zF]
       rw[zbb]at m
       rw[<-m]
       have:=h1 ho
       unfold Yz at this
       simp only at this
       rw[af,I]
       have e5:(ite ((jw s).2.2) (ite ((jw s).2.2) (eP s) []) [48])=(ite ((jw s).2.2) (eP s) [48]):=by cases(jw s).2.2 <;> rfl
       grind
      |false=>
       rw[ho]at m
       have hv:(cond (cond (cond d1 y Tc) z Tc) (cond (hV ((jy s).1=[48])) Ta (((((jy s).1[0]?).getD 0).toNat:Int) != 48)) Tc)=Tc:=by
        cases H:d1 with
        |false=>rfl
        |true=>
         rw[h4 H]
         rw[H]at m
         grind
       grind
     grind
  refine⟨λu=>?_,λu=>?_⟩
  ·have t:k<DB s1:=ψ u
   rw[qo t ω]
   have hE:(jw s).2.1=s1.drop (k+1):=by rw[hm,dif_pos t]
   have J:(jw s).2.2=Ta:=by rw[hm,dif_pos t]
   have Q:(bl s1).extract ((k+1:Nat):Int).toNat ((DB s1:Int)).toNat=bl (jw s).2.1:=by
    rw[YL,YL,qa,za0 ξ,hE]
   rw[Q]
   simp only[zf,zx]
   rw[pc (l:=(jw s).2.1) (c:=45) (n:=45) rfl,pc (l:=(jw s).2.1) (c:=43) (n:=43) rfl]
   have M:((jw s).2.1.head?==Td 45)=Za s:=by unfold Za;rw[J];rfl
   rw[M]
   refine⟨ω,λhy=>η,λhy=>η,λhy=>⟨?_,?_⟩,λhy=>?_⟩
   ·have:0<(jw s).2.1.length:=by
     cases hl:(jw s).2.1 with
     |nil=>grind
     |cons=>simp
    omega
   ·rw[qa,rj]
    refine fin _ _ rfl ?_
    rw[J,zi rfl,eP]
    grind
   ·refine fin _ _ rfl ?_
    rw[J,zi rfl,eP]
    grind
  ·have t:¬k<DB s1:=ψ u
   refine fin [48] Tc ?_ ?_
   ·unfold Za;grind
   grind
end
section
variable {l:Bs}
def Eu(h:(l.head?==Td 48)=Tc):l.dropWhile (· == 48)=l:=by
 cases l with
 |nil=>rfl
 |cons b t=>rw[zcv,za];simpa using h
theorem F7(h:(l.head?==Td 48)=Ta):l.tail.dropWhile (· == 48)=l.dropWhile (· == 48):=by
 cases l with
 |nil=>rfl
 |cons b t=>
  have:b=48:=ψ h
  subst this;rfl
theorem VS(l:Bs):zo (48::l)=zo l:=rfl
theorem Sn(l:Bs):zo (l.dropWhile (· == 48))=zo l:=by
 induction l with
 |nil=>rfl
 |cons b t c=>
  rw[zcv];split;rename_i h;have:b=48:=ψ h
  subst this;rw[c,VS];rfl
theorem yV{n:Int}(h1:0<=n)(h2:n<256):YG .u8 n=n:=by
 ((try unfold p3);unfold YG);have e:(2:Int) ^ zan .u8=256:=ζ
 simp only[e];have b:zdd .u8=Tc:=rfl;simp only[b,Bool.false_and,zaq,if_false];omega
theorem Vk{m:Int}(b:0<=m):(cond (hV ((DB l:Int)>m)) (((l[0]?.getD 0).toNat:Int)==48) Tc)=(hV ((DB l:Int)>m)&&l.head?==Td 48):=by
 cases hd:hV ((DB l:Int)>m)with
 |false=>rfl
 |true=>
  have e:0<DB l:=ν hd
  rw[zF,zbb];have:=pc (l:=l) (c:=48) (n:=48) rfl;rw[show hV ((DB l:Int)>0)=Ta by simp;omega,zF]at this;exact this
def Mk(l:Bs):Bs:=(l.reverse.dropWhile (· == 48)).reverse
theorem OM{c:UInt8}(h:c=48):Mk (l++[c])=Mk l:=by subst h;unfold Mk;rw[List.reverse_append];rfl
theorem Kz{c:UInt8}(h:¬c=48):Mk (l++[c])=l++[c]:=by unfold Mk;rw[List.reverse_append,List.reverse_singleton,List.singleton_append,zcv,za (ψ h)];simp
def RJ{α β γ δ:Type}{B:α->β->γ->δ->Prop}{c:Bool}{a b:α}{x:β}{y:γ}{z:δ}(h:∀e,e=(cond c a b)->B e x y z):∀K:α->β->γ->δ->Prop,(∀e x y z,B e x y z->K e x y z)->(c=Ta->K a x y z)/\(c=Tc->K b x y z):= λK i=>⟨λf=>i _ _ _ _ (h _ (by subst f;rfl)),λf=>i _ _ _ _ (h _ (by subst f;rfl))⟩
theorem wF{gl : Fr}{s : Bs}(hs : s.length <= 1152921504606846976){R : (Bool × Bt × Int) × Int -> Prop}(h : R (fD (zj s).1, (zj s).2)): PC Tp gl 232 [qr .str (bl s)] [tN, .int .i64] R := by
  apply UI;refine UR hs (λhok => ?_) (λhok a b c d e => ?_);rotate_left;refine ⟨λ_ => ?_, λhx => by cases hx⟩;have : Q0 s = Te := by unfold Q0; simp [hok]
  unfold zj at h;rw [this] at h; exact h;have hlit : Q0 s = Td (Yz s) := by unfold Q0; simp [hok]
  have hlen := tu hlit;obtain ⟨d1, d2, d3⟩ := wS hlit;unfold zj at h;rw [hlit] at h;simp only at h;obtain ⟨E1, hE1, hE1d, hE1v⟩ : ∃ E1, (if (jw s).2.2 then (Yz s).exp else [48]) = E1 /\ E1.all yl = Ta /\ E1.dropWhile (· == 48) = (Yz s).exp.dropWhile (· == 48) := by
    refine ⟨_, rfl, ?_, ?_⟩;split;exact d3;rfl;cases hm : (jw s).2.2 with
    | true => rfl
    | false => simp [Yz, hm]
  have hE1l : E1.length <= s.length + 1 := by rw [<- hE1]; split;omega;simp only [List.length_singleton]; omega
  rw [hE1];generalize Yz s = x at *;refine ⟨λhx => (by cases hx), λ_ => ?_⟩;simp only [zf];rw [bR ω];refine ⟨λhx => ?_, λhx => ?_⟩;rw [zi (by simp at hx; omega)] at h; exact h;rw [za (by simp at hx; omega)] at h;have hx' : x.whole.length + x.rest.length <= 1000 := by simp at hx; omega
  refine ⟨λe8 _ _ _ => ∃ E : Bs, e8 = bl E /\ E.all yl = Ta /\ E.dropWhile (· == 48) = x.exp.dropWhile (· == 48), λe8 _ _ _ => e8.size, ⟨E1, rfl, hE1d, hE1v⟩, ?_⟩;rintro e8 b1 b2 b3 ⟨E, rfl, hEd, hEv⟩;simp only [zf, zx, show (0 : Int).toNat = 0 from rfl, Vk (l := E) (m := 1) ω];refine ⟨λhy => by simp at hy; omega, λhy => ?_, λhy => ?_⟩;have hy1 : 1 < E.length /\ (E.head? == Td 48) = Ta := by
    have : (1 : Int) < (E.length : Int) /\ E.head? = Td 48 := ψ hy
    exact ⟨ω, by simp [this.2]⟩
  rw [qa, rj];refine ⟨ω, ⟨E.tail, rfl, ?_, ?_⟩, by rw [zf, List.length_tail]; omega⟩;rw [<- List.drop_one]; exact PP hEd 1;rw [F7 hy1.2, hEv];have hEx : (E.length <= 1 \/ E.dropWhile (· == 48) = E) := by
    cases hh : (E.head? == Td 48) with
    | false => exact .inr (Eu hh)
    | true => rw [hh] at hy; simp at hy; exact .inl ω
  have hdl := xb E (· == 48);have hlen9 : E.length > 9 ↔ (x.exp.dropWhile (· == 48)).length > 9 := by rw [<- hEv];obtain hx | hx:=hEx;omega;rw [hx]
  refine ⟨λhz => ?_, λhz => ?_⟩;rw [zi (hlen9.1 (by simp at hz; omega))] at h; exact h;have hE9 : E.length <= 9 := by simp at hz; omega
  rw [za (λhh => by have := hlen9.2 hh; omega)] at h;have hval : zo (x.exp.dropWhile (· == 48)) = zo E := by rw [<- hEv, Sn]
  rw [hval] at h;have hvb : zo E < 10 ^ 9 := oZ hE9 hEd;refine ⟨λe i _ _ _ => ∃ k : Nat, i = k /\ k <= E.length /\ e = (zo (E.take k) : Int), λ_ i _ _ _ => E.length - i.toNat, ⟨0, rfl, ω, by simp [zo]⟩, ?_⟩;rintro e i b1 b2 b3 ⟨k, rfl, hk, rfl⟩;refine ⟨λhc => ?_, λhc => ?_⟩;have hc' : k < E.length := ψ hc
  have hd := r9 hEd hc';simp only [YL, Yw hc'];have hle := oZ (n := 9) (l := E.take k) (by simp; omega) (Ak hEd k);rw [yV ω ω, qo hc' ω, bR (n := 10 * _) ω, bR (n := (_ : Int) - 48) ω, bR (n := _ + _) ω];refine ⟨ω, ⟨k + 1, rfl, ω, ?_⟩, by simp only [YL]; omega⟩;rw [xw hc']; omega;have hc' : ¬ k < E.length := ψ hc
  rw [za0 ω];apply RJ;intro e7 he7;refine ⟨by unfold qb; omega, ?_⟩;rw [qf];have hD : (x.whole ++ x.rest).all yl = Ta := by rw [zcr, Q6 d1, d2]; rfl
  have hev : e7 = if x.low then - (zo E : Int) else (zo E : Int) := by rw [he7]; cases x.low <;> simp; exact bR ω
  rw [<- hev] at h;have hb : -1000000000 <= e7 /\ e7 <= 1000000000 := by rw [hev]; split <;> omega
  refine ⟨λd _ _ _ => ∃ D : Bs, d = bl D /\ D.dropWhile (· == 48) = (x.whole ++ x.rest).dropWhile (· == 48) /\ D.length <= 1000, λd _ _ _ => d.size, ⟨_, rfl, rfl, by rw [YM]; exact hx'⟩, ?_⟩;rintro d b1 b2 b3 ⟨D, rfl, hDv, hDl⟩;simp only [zf, zx, pc (l := D) (c := 48) (n := 48) rfl];refine ⟨λhy => by simp at hy; omega, λhy => ?_, λhy => ?_⟩;have hp : 0 < D.length := by
    cases D with
    | nil => simp at hy
    | cons => simp
  rw [qa, rj];exact ⟨ω, ⟨D.tail, rfl, by rw [F7 hy, hDv], by rw [List.length_tail]; omega⟩, by rw [zf, List.length_tail]; omega⟩;have hDe := Eu hy;rw [hDv] at hDe;rw [show (⟨#[]⟩ : Bt) = bl [] from rfl];simp only [fS];rw [hDe] at h;refine ⟨λhz => ?_, λhz => ?_⟩;rw [zi (ψ hz)] at h; exact h;have hne : D ≠ [] := ψ hz
  rw [za hne] at h;have hsh : wl (x.whole ++ x.rest) = Mk D := by unfold wl Mk; rw [hDe]
  have hsl : (Mk D).length <= D.length := by have := (Q7 hD (by rw [hDe]; exact hne)).2.1;rw [hsh, hDe] at this; exact this
  have hsne : Mk D ≠ [] := by have := (Q7 hD (by rw [hDe]; exact hne)).1;rw [hsh] at this;intro e; rw [e] at this; cases this
  rw [hsh] at h;rw [bR (n := e7 - _) ω];refine ⟨λe d _ _ _ => ∃ D' : Bs, d = bl D' /\ D'.length <= 1000 /\ Mk D' = Mk D /\ e + D'.length = e7 - (x.rest.length : Int) + D.length, λ_ d _ _ _ => d.size, ⟨D, rfl, hDl, rfl, rfl⟩, ?_⟩;rintro e d b1 b2 b3 ⟨D', rfl, hl', hs', he'⟩;have hne' : D' ≠ [] := by rintro rfl;rw [<- hs'] at hsne; exact hsne rfl
  have hp : 0 < D'.length := zaj.2 hne';simp only [zf, zx];rw [mD hp ω];have hlast : D' = D'.take (D'.length - 1) ++ [D'[D'.length - 1]] := by rw [<- YP ω, show D'.length - 1 + 1 = D'.length by omega, ZX]
  simp only [YL, Yw (show D'.length - 1 < D'.length by omega)];refine ⟨ω, λhq => ?_, λhq => ?_⟩;have hc48 : D'[D'.length - 1] = 48 := zcc.1 (by (have : (D'[D'.length - 1].toNat : Int) = 48 := ψ hq); (have : D'[D'.length - 1].toNat = 48 := ω); rw [this]; rfl);rw [bR (n := e + 1) ω, qa];refine ⟨ω, ⟨D'.take (D'.length - 1), ξ, by simp; omega, ?_, by simp; omega⟩, by rw [zf]; simp; omega⟩;rw [<- hs'];conv => rhs; rw [hlast]
  rw [OM hc48];have hc48 : ¬ D'[D'.length - 1] = 48 := λe => by rw [e] at hq; simp at hq
  have hfin : D' = Mk D := by
    rw [<- hs'];conv => rhs; rw [hlast]
    rw [Kz hc48, <- hlast]
  have hee : e = e7 - (x.rest.length : Int) + (D.length : Int) - ((Mk D).length : Int) := by rw [<- hfin]; omega
  rw [hee, hfin];refine ⟨λhw => ?_, λhw => ?_⟩;rw [za (by rw [zb1] at hw; simp at hw; omega)] at h; exact h;rw [zi (by rw [zb1] at hw; simp at hw; omega)] at h; exact h
end
end
section
open Go.Shelf Go.RowKit
def Oy:Go.Shelf.Ren:=⟨fun|196=>246|259=>297|n=>n,fun|9=>9|4=>4|3=>3|5=>5|12=>12|119=>305|0=>0|46=>123|139=>308|138=>307|53=>178|n=>n,fun|3=>0|4=>1|n=>n⟩
def Oa:Go.Proofs.Lays.n196 Tp Oy:=by constructor <;> intros <;> kernel_rfl
open Go.RowKit Go.Lib in
def LA(s:Bt)(w:MN)(b:s.size<=9223372036854775807)(c:Lib.Utf8Tabs 0 1 w):Calls Tp 246 #[aa6 s] w λe w'=>e=.returned (aa9 (Lib.validD s.data.toList))/\Below w.heap.size w w':=Any.utf8_ValidString Oa s w b c
end
section
variable {l:Bs}
theorem lS{n:Int}{k:Nat}(b:n=(k:Int)):(bl l).extract n.toNat ((DB l:Int)).toNat=bl (l.drop k):=by subst b;rw[YL,YL,qa,za0 ξ]
theorem DR(l:Bs):Lib.validD l=xn l:=by
 by_cases h:l=[];subst h;rw[Q5];rfl;rw[Lib.validD_step l h,Zk h,Lib.decodeL_N,DR (l.drop _)];have e:eF (dec l)=hV ((dec l).1=65533/\(dec l).2=1):=by unfold eF;rw[Bool.decide_and];rfl
 rw[e];by_cases c:(dec l).1=65533/\(dec l).2=1;rw[zD c];exact zi c;rw[zE c];exact za c
termination_by (DB l)
decreasing_by
 have h1:=ju l;have h2:0<DB l:=zaj.2 h;unfold dec at h1;simp only[ZE];omega
def Mr{gl:Fr}(c:Tabs gl)(e:l.length<=4611686018427387904){R:ac4}(h:R (xn l)):aa5 gl 246 [qr .str (bl l)] [.bool] R:= PC.of_scal rfl (λ_=>ux _) (by rw[<-DR]at h;exact h) λw b=>LA (bl l) w (by rw[zf];omega) (c.at b)
end
section
open Go.Lib
section
theorem PK(l:Bs)(a:Nat):l.foldl (λn c=>10*n+(c.toNat-48)) a=a*10 ^ (DB l)+zo l:=by
 induction l generalizing a with
 |nil=>simp[zo]
 |cons c t b=>simp only[List.foldl_cons,YU,zo];grind
theorem Xs(a b:Bs):zo (a++b)=zo a*10 ^ (DB b)+zo b:=by rw[zo,List.foldl_append,PK];rfl
theorem MG(n:Nat):zo (zay n 48)=0:=by
 induction n with
 |zero=>rfl
 |succ n b=>rw[List.replicate_succ];exact b
theorem DO:∀(l:Bs) (b:Nat),l.all yl=Ta->b*10 ^ (DB l)+zo l<10 ^ 19->parseUintM (2 ^ 64-1) b l=.ok (b*10 ^ (DB l)+zo l)
 |[],b,_,_=>by simp[parseUintM,zo]
 |c::t,b,hd,hl=>by
  rw[zcu,YR]at hd
  have i:48<=c.toNat/\c.toNat<=57:=by simpa[yl]using hd.1
  have e:zo (c::t)=(c.toNat-48)*10 ^ (DB t)+zo t:=by
   have:=Xs [c] t
   rw[List.singleton_append]at this
   rw[this];simp[zo]
  have f:(b*10+(c.toNat-48))*10 ^ (DB t)+zo t=b*10 ^ (c::t).length+zo (c::t):=by
   rw[e,YU,Nat.pow_succ,Nat.add_mul,Nat.mul_assoc,Nat.mul_comm 10 (10 ^ (DB t))];omega
  have h:1<=10 ^ (DB t):=Nat.one_le_pow _ _ ζ
  have k:b*10+(c.toNat-48)<=b*10 ^ (c::t).length+zo (c::t):=by
   rw[<-f]
   calc b*10+(c.toNat-48)=(b*10+(c.toNat-48))*1:=ω
    _<=(b*10+(c.toNat-48))*10 ^ (DB t):=Nat.mul_le_mul_left _ h
    _<=_:=ω
  rw[parseUintM,zi i,za ω,za ω,DO t _ hd.2 ω,f]
def xe(n:Nm):Bs:=n.2.1++zay n.2.2.toNat 48
theorem Gr(n:Nm):zo (xe n)=zo n.2.1*10 ^ n.2.2.toNat:=by rw[xe,Xs,MG,zb3,zc3]
theorem LP{n:Nm}(h:qy n=Ta):n.2.1.all yl=Ta:=by unfold qy Yx at h;obtain h|h:=za1 _ _ ▸ h;simp_all;simp only[YR]at h;exact Q6 h.1.1.1.1.1
def Dk{n:Nm}(h:qy n=Ta):(xe n).all yl=Ta:=by rw[xe,zcr,LP h,zbb,ZB];intro x b;rw[List.mem_replicate]at b;rw[b.2];rfl
theorem Ni{l:Bs}(neg:Bool)(b:l.all yl=Ta)(h:l.length<=19)(e:l≠[]):parseIntB 64 ((ite neg [45] [])++l)=ite neg (ite (zo l<=9223372036854775808) (.ok (-(zo l:Int))) (.range)) (ite (zo l<=9223372036854775807) (.ok (zo l:Int)) (.range)):=by
 have i:zo l<10 ^ 19:=oZ h b;have f:=DO l 0 b ω;rw[Nat.zero_mul,ZO]at f;cases neg with
 |true=>simp only[if_true,List.singleton_append];unfold parseIntB;simp only[show(45:UInt8).toNat=45 from rfl,or_true,if_true];unfold parseUintB;grind
 |false=>
  simp only[zaq,if_false,zal];obtain⟨c,t,rfl⟩:=zag e;have k:48<=c.toNat/\c.toNat<=57:=by rw[zcu,YR]at b;simpa[yl]using b.1
  unfold parseIntB;simp only;rw[za ω];unfold parseUintB;grind
theorem VQ{a b:Nat}(i:a<18446744073709551616)(k:b<18446744073709551616):YG .u64 (((za9 (zan .u64) (a:Int)) &&& (za9 (zan .u64) (b:Int))).toNat:Int)=((a &&& b:Nat):Int):=by
 have c:zan .u64=64:=rfl;have e:((za9 (zan .u64) (a:Int)) &&& (za9 (zan .u64) (b:Int))).toNat=a &&& b:=by rw[BitVec.toNat_and,BitVec.ofInt_natCast,BitVec.ofInt_natCast,BitVec.toNat_ofNat,BitVec.toNat_ofNat,c,Nat.mod_eq_of_lt ω,Nat.mod_eq_of_lt ω]
 rw[e];have f:a &&& b<2 ^ 64:=Nat.and_lt_two_pow _ ω;((try unfold p3);unfold YG);have h:(2:Int) ^ zan .u64=18446744073709551616:=ζ
 simp only[h];have l:zdd .u64=Tc:=rfl;grind
def I4{n:Int}(h1:0<=n)(h2:n<18446744073709551616):YG .u64 n=n:=by
 ((try unfold p3);unfold YG);have b:(2:Int) ^ zan .u64=18446744073709551616:=ζ
 simp only[b];have c:zdd .u64=Tc:=rfl;grind
end
section
variable {v x:Tr} {l:List Tr} {k:Nat}
mutual
def cK:Tr->Nat | .mk _ _ _ xs=>1+Ze xs
def Ze:List Tr->Nat | []=>0|x::l=>cK x+Ze l
end
mutual
def eM:Tr->Nat | .mk _ _ _ xs=>en xs+1
def en:List Tr->Nat | []=>0|x::l=>max (eM x) (en l)
end
mutual
def Qc(p:Tr->Bool):Tr->Bool | .mk k s ks xs=>p (.mk k s ks xs)&&gA p xs
def gA(p:Tr->Bool):List Tr->Bool | []=>Ta|x::l=>Qc p x&&gA p l
end
mutual
def fi(m:Nat):Tr->Prop | .mk _ s ks xs=>(s.size<=m/\ks.length<=m/\∀k∈ks,k.size<=m)/\ge m xs
def ge(m:Nat):List Tr->Prop | []=>True|x::l=>fi m x/\ge m l
end
theorem yo(v:Tr):cK v=1+Ze v.WT:=by cases v;rw[cK]
theorem jR(v:Tr):eM v=en v.WT+1:=by cases v;rw[eM]
theorem y8(p:Tr->Bool)(v:Tr):Qc p v=(p v&&gA p v.WT):=by cases v;rw[Qc]
theorem mF(m:Nat)(v:Tr):fi m v↔(v.aa0.size<=m/\v.XK.length<=m/\∀k∈v.XK,k.size<=m)/\ge m v.WT:=by cases v;rw[fi]
theorem qN{m:Nat}:∀{l:List Tr},ge m l↔∀x∈l,fi m x
 |[]=>by simp[ge]
 |x::l=>by rw[ge,qN];simp
def Ov{m:Nat}(h:fi m v)(b:x∈v.WT):fi m x:=qN.1 ((mF m v).1 h).2 x b
theorem je(p:Tr->Bool):∀l:List Tr,gA p l=l.all (Qc p)
 |[]=>rfl
 |x::l=>by rw[gA,je p l];rfl
theorem Xt:∀a b:List Tr,Ze (a++b)=Ze a+Ze b
 |[],b=>by simp[Ze]
 |x::l,b=>by rw[ZT,Ze,Ze,Xt l b];omega
theorem Dg:∀a b:List Tr,en (a++b)=max (en a) (en b)
 |[],b=>by simp[en]
 |x::l,b=>by rw[ZT,en,en,Dg l b];omega
def Cw{x:Tr}:∀{l:List Tr},x∈l->cK x<=Ze l
 |y::l,h=>by rw[Ze];obtain rfl|h:=YT.1 h;omega;have:=Cw h;omega
def yc(h:x∈v.WT):cK x<cK v:=by have:=Cw h;rw[yo v];omega
def xq:∀l:List Tr,DB l<=Ze l
 |[]=>by simp[Ze]
 |x::l=>by have:=xq l;rw[Ze,YU,yo];omega
def Zn(v:Tr):0<cK v:=by rw[yo];omega
def GV(b:k<DB l):Ze (l.take (k+1))=Ze (l.take k)+cK l[k]:=by rw[YP b,Xt];simp[Ze]
def EK(b:k<DB l):en (l.take (k+1))=max (en (l.take k)) (eM l[k]):=by rw[YP b,Dg];simp[en]
mutual
def KE:∀v:Tr,eM v<=cK v
 |.mk _ _ _ xs=>by rw[eM,cK];have:=sj xs;omega
def sj:∀l:List Tr,en l<=Ze l
 |[]=>by simp[en]
 |x::l=>by rw[en,Ze];have:=KE x;have:=sj l;omega
end
def yh(ks:List Bt):Bool:=ks.all (λk=>xn (lb k))&&hV ks.Nodup
def fI(s:Bs):Nm×Bool:=((zj s).1,(zj s).2==0&&hV (qu (zj s).1=s))
def sw(s:Bs):Bool:=(fI s).2&&(mM (fI s).1).2&&hV (0<=(mM (fI s).1).1)
def zq(v:Tr):Bool:=
 if v.Wf=1 then lb v.aa0==[]&&v.XK.isEmpty&&v.WT.isEmpty
 else if v.Wf=2 then(lb v.aa0==[116,114,117,101]||lb v.aa0==[102,97,108,115,101])&&v.XK.isEmpty&&v.WT.isEmpty
 else if v.Wf=3 then(fI (lb v.aa0)).2&&v.XK.isEmpty&&v.WT.isEmpty
 else if v.Wf=4 then xn (lb v.aa0)&&v.XK.isEmpty&&v.WT.isEmpty
 else if v.Wf=5 then lb v.aa0==[]&&v.XK.isEmpty
 else if v.Wf=6 then yh v.XK&&hV (v.XK.length=v.WT.length)&&lb v.aa0==[]
 else if v.Wf=7 then sw (lb v.aa0)&&v.XK.isEmpty&&v.WT.isEmpty
 else Tc
def wy(v:Tr):Bool:=hV (cK v<=4096)&&hV (eM v<=32)
def Zo(v:Tr):Bool:=wy v&&Qc zq v
def qh(v:Tr):Bool:=wy v&&Qc (λx=>decide (x.Wf≠7)&&zq x) v
structure Sm (v:Tr):Prop where
 sz:cK v<=1000000000000
 tx:fi 1048576 v
theorem Sm.item(h:Sm v)(b:x∈v.WT):Sm x:=⟨by have:=yc b;have:=h.sz;omega,Ov h.tx b⟩
theorem Sm.aa0(h:Sm v):(lb v.aa0).length<=1048576:=by rw[iU];exact((mF _ v).1 h.tx).1.1
theorem Sm.key(h:Sm v){k:Bt}(b:k∈v.XK):(lb k).length<=1048576:=by rw[iU];exact((mF _ v).1 h.tx).1.2.2 k b
theorem Sm.WT(h:Sm v):v.WT.length<=1000000000000:=by have:=xq v.WT;have:=h.sz;rw[yo]at this;omega
end
end
section
variable {gl:Fr} {l s:Bs} {R:Bool -> Prop}
def G4(s:Tabs gl)(x:l.length<=4611686018427387904){R:Int×Bool->Prop}(h:∀k,R (k,xn l)):aa5 gl 196 [qr .str (bl l)] [.int .i64,.bool] R:=by
 apply OU;refine Mr s x ⟨λn=>?_,λn=>?_⟩;have:=h ((bl l).size:Int);rw[n]at this;exact this;refine⟨λp=>p.1=bl l/\p.2<=DB l/\xn (l.drop p.2)=Tc,λp=>DB l-p.2,⟨rfl,ω,ψ n⟩,?_⟩;rintro⟨_,p⟩ ⟨rfl,u,h2⟩;simp only at u h2 ⊢;rw[oT,oU];refine⟨λm=>⟨m,m,λq=>?_,λq=>⟨?_,?_⟩⟩,λm=>?_⟩;have c:p<DB l:=ψ m
 have b:l.drop p≠[]:=λe=>by have:=congrArg za6 e;simp at this;omega
 have o:eF (dec (l.drop p))=Tc:=by
  unfold eF;have:¬(dec (l.drop p)).1=65533:=λe=>by rw[e]at q;simp at q
  simp[this]
 rw[Zk b,o]at h2;simp only[zaq,if_false,zap]at h2;rw[lH l p c];have w:=ju (l.drop p);have i:=lZ b;simp only[ZE]at i;exact⟨⟨trivial,ω,h2⟩,ω⟩;have c:p<DB l:=ψ m
 rw[zf];omega;have c:p<DB l:=ψ m
 have b:l.drop p≠[]:=λe=>by have:=congrArg za6 e;simp at this;omega
 rw[zf,lS (k:=p) rfl];refine EE s ?_;have r:(bl (l.drop p)).size≠0:=by rw[zf];simp;omega
 have t:Lib.decodeGo (bl (l.drop p))=dec (l.drop p):=by unfold Lib.decodeGo;rw[za r,sh,yr,zbi]
 rw[t];refine⟨λf=>?_,λf=>?_⟩;have:=h (p:Int);have y:xn l=Tc:=n;rw[y]at this;exact this;have o:eF (dec (l.drop p))=Tc:=by
  unfold eF;have:¬(dec (l.drop p)).2=1:=λe=>by rw[e]at f;simp at f
  simp[this]
 rw[Zk b,o]at h2;simp only[zaq,if_false,zap]at h2;rw[lH l p c];have w:=ju (l.drop p);have i:=lZ b;simp only[ZE]at i;exact⟨⟨trivial,ω,h2⟩,ω⟩;have:l.drop p=[]:=zao (by(have:¬p<DB l:=ψ m);omega);rw[this,Q5]at h2;cases h2
def Hx(b:Tabs gl)(c:l.length<=4611686018427387904)(h:R (xn l)):aa5 gl 149 [qr .str (bl l)] [.bool] R:=by apply VK;exact G4 b c λk=>h
def GD(b:l.length<=4611686018427387904){R:Int×Bool->Prop}(h:∀k,R (k,xn l)):aa5 gl 203 [qr .str (bl l)] [.int .i64,.bool] R:= N9 (by rw[zf];omega) λk=>by rw[yr];exact h k
def Hs(b:l.length<=4611686018427387904)(h:R (xn l)):aa5 gl 224 [qr .str (bl l)] [.bool] R:=by apply KH;exact GD b λk=>h
structure GL (gl:Fr):Prop where
 tabs:Tabs gl
 pow:oE gl
 max:Gs gl
 err:yJ gl
def wz(s:Bs)(f:s.length<=1152921504606846976):(zj s).1.2.1.length<=4611686018427387904:=by
 unfold zj;split;simp;rename_i x c;have h1:=tu c;split;simp;split;simp;simp only;generalize (ite (x.low=Ta) (-(zo (x.exp.dropWhile (· == 48)):Int)) (zo (x.exp.dropWhile (· == 48))))=e;split;simp;rename_i b;have h2:(wl (x.whole++x.rest)).length<=(x.whole++x.rest).length:=by unfold wl;rw[List.length_reverse];refine zbd (xb _ _) ?_;rw[List.length_reverse];exact xb _ _
 rw[YM]at h2;split;show(wl (x.whole++x.rest)).length<=_;omega;simp
def uO(f:GL gl)(b:s.length<=1152921504606846976){R:(Bool×Bt×Int)×Bool->Prop}(h:R (fD (fI s).1,(fI s).2)):aa5 gl 148 [qr .str (bl s)] [tN,.bool] R:=by
 apply Tq;refine qM b ?_;refine⟨λt=>t=bl (qu (zj s).1),λ_=>vZ f.pow (wz s b) rfl,λr c=>?_⟩;have e:(cond ((zj s).2==0) (r.toList==(bl s).toList) Tc)=(fI s).2:=by
  unfold fI;cases hc:((zj s).2==0)with
  |false=>rfl
  |true=>rw[c hc,zF,fS];rfl
 simp only at e ⊢;rw[e];exact h
def Lm(b:s.length<=1152921504606846976){R:(Bool×Bt×Int)×Bool->Prop}(h:R (fD (fI s).1,(fI s).2)):aa5 gl 223 [qr .str (bl s)] [tN,.bool] R:=by
 apply Pu;refine wF b ?_;refine⟨λt=>t=bl (qu (zj s).1),λ_=>G9 (wz s b) rfl,λr c=>?_⟩;have e:(cond ((zj s).2==0) (r.toList==(bl s).toList) Tc)=(fI s).2:=by
  unfold fI;cases hc:((zj s).2==0)with
  |false=>rfl
  |true=>rw[c hc,zF,fS];rfl
 simp only at e ⊢;rw[e];exact h
theorem Lv(n:Nat):Lib.repeatL [48] n=zay n 48:=by
 induction n with
 |zero=>rfl
 |succ n b=>rw[Lib.repeatL,b];rfl
def UF(A:GL gl){n:Nm}(E:n.2.1.length<=4611686018427387904){R:Int×Bool->Prop}(h:R (mM n)):aa5 gl 209 [qr tN (fD n)] [.int .i64,.bool] R:=by
 apply P7;refine wU E ?_;unfold mM at h;cases hr:qy n with
 |false=>rw[hr]at h;exact⟨λ_=>ψ h,λo=>by simp at o⟩
 |true=>
  have⟨F,D,C⟩:=Yy hr;rw[hr]at h;simp only[zbb]at h;simp only[zf];rw[bR ω];refine⟨λo=>?_,λo=>?_⟩;rw[za]at h;exact h;simp at o ⊢;omega;have z:0<=n.2.2/\(DB n.2.1:Int)+n.2.2<=19:=by simp at o;omega
  rw[zi φ]at h;rw[<-Gr]at h;obtain⟨e,x⟩:∃e:Nat,n.2.2=(e:Int):=⟨n.2.2.toNat,ω⟩;show aa5 gl 200 [qr .str (bl [48]),qr q0 n.2.2] [.str] _;rw[x];refine xE ω (by rw[zf];simp;omega) ?_;rw[yr,Lv,qf];have q:n.2.1++zay e 48=xe n:=by rw[xe,x,YL]
  have r:(xe n).length<=19:=by rw[<-q];simp;omega
  have w:=Dk hr;rw[q];refine⟨Xr (a:=n.2.1) (by rw[zb3];omega),?_⟩;rw[show(⟨#[]⟩:Bt)=bl []from rfl,show(⟨#[45]⟩:Bt)=bl [45]from rfl];simp only[qf];intro K B;have key:∀t:Bs,t=(ite n.1 [45] [])++xe n->K (bl t):=by
   intro t c;refine B _ ⟨λm=>?_,λm=>?_⟩;have u:t=[]:=by have:=fS t [];rw[this]at m;simpa using m
   rw[u]at c;have l:n.1=Tc:=by cases hb:n.1 <;> simp[hb]at c;rfl
   have i:xe n=[]:=by simp[l]at c;exact c
   rw[l,i]at h;exact h;have k:t≠[]:=by intro e;rw[e,fS]at m;simp at m
   refine MO A.err (by rw[zf,c];split <;> simp <;> omega) ?_;rw[yr,c];have i:xe n≠[]:=by
    intro s;cases hb:n.1 with
    |false=>rw[c,hb,s]at k;exact k rfl
    |true=>
     have y:n.2.1=[]:=by rw[xe]at s;exact(List.append_eq_nil_iff.1 s).1
     have:=uP hr y;unfold Yx at this;rw[hb]at this;simp at this
   unfold wG;rw[Ni n.1 w r i];cases hb:n.1 with
   |true=>rw[hb]at h;simp only[if_true]at h ⊢;by_cases p:zo (xe n)<=9223372036854775808;rw[zi ω]at h;rw[zi p];exact⟨λf=>(by cases f),λ_=>h⟩;rw[za ω]at h;rw[za p];exact⟨λ_=>h,λf=>(by cases f)⟩
   |false=>rw[hb]at h;simp only[zaq,if_false]at h ⊢;by_cases p:zo (xe n)<=9223372036854775807;rw[zi ω]at h;rw[zi p];exact⟨λf=>(by cases f),λ_=>h⟩;rw[za ω]at h;rw[za p];exact⟨λ_=>h,λf=>(by cases f)⟩
  refine⟨λb=>⟨Xr (a:=[45]) φ,?_⟩,λb=>?_⟩;exact key _ (by rw[zi (ψ b)]);exact key _ (by rw[za (ψ b)];rfl)
end
end Go.X
namespace Go.Proofs.YtplilfikcimcbaaGreatDoor
section
open Go.ChangeShapes Go.WideShapes Go.ChangeAt Go.RowKit Go.Lib
open Go.ChangeMaps (open_string shut_string)
set_option linter.all false
section
variable {H:Type} {g:Nat} {t:N4}
theorem Tryz.own:ownKnob ZM.godebug=none:=κ
theorem Tryz.laidOut:laidOutB ZM=true:=κ
def LG{enc:N4×Value->H}{a:Assume}{C:Checked}{os:Os}{f:FuncId}{fn:Func}{s:ChangeSpec}{o:List PathCond}{apart m h l:Bool}{X:MN->Array Value->Prop} (L:∀(w w':MN) (args:ab3),w.heap=w'.heap->X w args->X w' args) (own:ownKnob C.prog.godebug=none) (n:os.Started) (q:C.prog.inits.idxOf? f=none) (G:C.prog.funcs[f]?=some fn) (p:∃(w:MN) (b:Tape) (i:Input),w.os=os/\(w.forCall b i).Shaped C.prog/\i.vars=[]/\Input.okWide C.prog (w.forCall b i) .any w.heap.size f i/\((s.pre enc C.prog fn o apart (w.forCall b i).memory i.args/\X (w.forCall b i).memory i.args)/\sizedMet enc C.prog fn (OpenSpec.ofChange s) apart (w.forCall b i).memory i.args)/\a.holds C.prog (lone (Frame.enter C.prog f i.args .normal) [] (w.forCall b i))) (k:∀(W:MN) (base:Nat) (args:ab3) (z y:List (DataW H)) (c:List MemPlace),(∀(j:Nat) t v,fn.params[j]?=some t->args[j]?=some v->Value.okWide C.prog W .any base t v)->DataW.Whole enc C.prog fn.params.toList s.vars apart W args.toList z y c->(DataW.weightsEach C.prog (fn.params.toList++s.plain.varTypes C.prog) (z++y)).all (·<=reachBytes)=true->X W args->W.ShapedOpen C.prog->Calls C.prog f args W λe I=>∃v,e=.returned v/\s.post enc C.prog fn apart m h l W args v I):ReturnsInHanded a C os f .any (λw args=>(s.pre enc C.prog fn o apart w args/\X w args)/\sizedMet enc C.prog fn (OpenSpec.ofChange s) apart w args) (s.post enc C.prog fn apart m h l):=by refine returnsInHanded_of_calls own n q p ?_;intro w b i _ E _ D x A;have⟨_,_,_,F,u,_,_,_,_,r⟩:=D;have e:F=fn:=ZZ (u.symm.trans G);subst e;have⟨⟨⟨z,y,c,J,Q⟩,O⟩,M⟩:=x;have B:=DataW.Whole.of_heap (w':=w.forCall b i) (by rfl) J;refine(k (w.forCall b i) w.heap.size i.args z y c r B (M.weights J) (L _ _ _ (by rfl) O) E).mono λe I ⟨v,P,N⟩=>?_;subst P;exact ChangeSpec.post_blind N
def vW{P:EM}{W:MN}{n:String}{k:IntKind}{o:ac7}{t e:N4}{m:Nat}(q:P.globalNamed n=some g)(s:(P.globals[g]?).map (·.type)=some t)(u:P.underlying t=some (.array m e))(w:P.underlying e=some (.int k))(c:P.cellsOf e=1) (l:P.cellsOf t=m) (h:VarReads P W n (tabData k o)):∃cs:Array Value,Fz W g=some cs/\cs.toList=o.map λz=>zad k z:=by have⟨g',t',cs,a,p,i,f,b,r⟩:=h;obtain rfl:=ZZ (q.symm.trans i);obtain rfl:=ZZ (s.symm.trans f);exact⟨cs,Fz.var q b,cells_of_tab u w c l r⟩
def Ny{W : MN}(h : VarReads Tryz.prog W "unicode/utf8.first" Pinned.utf8First):∃ cs : Array Value, Fz W 0 = some cs ∧ ∀ c, c < 256 → cs[c]? = some (.int .u8 (Lib.firstT c)) := by rw[Pinned.utf8First_eq]at h;have⟨cs,h1,h2⟩:=vW (g:=0) (t:=305) (e:=5) (m:=256) κ κ κ κ κ κ h;refine⟨cs,h1,λc hc=>?_⟩;rw[<-Array.getElem?_toList,h2];simp[firstTab,hc]
def TE{W : MN}(h : VarReads Tryz.prog W "unicode/utf8.acceptRanges" acceptData):∃ cs : Array Value, Fz W 1 = some cs ∧ ∀ i, i < 16 → cs[2 * i]? = some (.int .u8 (Lib.accLo i)) ∧ cs[2 * i + 1]? = some (.int .u8 (Lib.accHi i)) := by
 have⟨g,t,cs,l,p,hg,e,c,hd⟩:=h;obtain rfl := Option.some.inj ((show Tryz.prog.globalNamed "unicode/utf8.acceptRanges" = some 1 by kernel_rfl).symm.trans hg);obtain rfl:=Option.some.inj ((show(Tryz.prog.globals[1]?).map (·.type)=some 308 by kernel_rfl).symm.trans e);refine⟨cs,Fz.var hg c,λi hi=>?_⟩;have⟨k,d,q,b,he⟩:=array_elem (show Tryz.prog.underlying 308=some (.array 16 307)by kernel_rfl) hd i hi;simp only[List.getElem?_map,List.getElem?_range hi,Option.map_some,Option.some.injEq]at b;subst b;have hc:Tryz.prog.cellsOf 307=2:=κ
 have c5:ZM.cellsOf 5=1:=κ
 have u5:ZM.underlying 5=some (.int .u8):=κ
 rw[hc]at he;have a:=ints_of_struct Tryz.underlying307 (λj f hj=>by
  match j,hj with
  |0,hj=>simp at hj;subst hj;exact⟨u5,rfl,c5⟩
  |1,hj=>simp at hj;subst hj;exact⟨u5,rfl,c5⟩
  |j+2,hj=>simp at hj) (π hc) he
 have e0:=congrArg (·[0]?) a;have e1:=congrArg (·[1]?) a;simp only[zae,zau]at e0 e1;constructor;rw[<-zb4];simpa[Nat.mul_comm]using e0;rw[<-zb4];simpa[Nat.mul_comm]using e1
def XI{W : MN}{d : DataW Unit}(hd : d = tabData .u64 Lib.pow10Tab)(h : VarReads Tryz.prog W "internal/strconv.uint64pow10" d):oE (Fz W) := by subst hd;have⟨cs,h1,h2⟩:=vW (g:=2) (t:=349) (e:=178) (m:=20) κ κ κ κ κ κ h;exact⟨_,cs,κ,h1,by rw[<-h2]⟩
def Cl{W:MN}{n:String}{ms:Array (String×N4)}{o:String}{d:DataW Unit}(k:ZM.globalNamed n=some g)(r:(ZM.globals[g]?).map (·.type)=some t)(q:ZM.underlying t=some (.interface ms))(h:VarReads ZM W n (.iface o d)):∃(cs:ab3) (e:Value),Fz W g=some cs/\cs[0]?=some e/\(e=.nilIface\/∃m s,e=.iface m s):=by have⟨g',t',cs,a,p,i,c,b,l⟩:=h;obtain rfl:=ZZ (k.symm.trans i);obtain rfl:=ZZ (r.symm.trans c);have⟨w,u,v,f,_,_⟩:=iface_of_trod q l;exact⟨cs,.iface u v,Fz.var k b,by rw[<-zb4,f];rfl,.inr ⟨u,v,rfl⟩⟩
def IZ{W:MN}(h:W.ShapedOpen ZM):Gs (Fz W):=by have⟨m,f⟩:=cell_of_shapedOpen_int (P:=ZM) (g:=3) (t:=3) (zero:=#[ab0 0]) (k:=.i64) h (by decide +kernel) κ rfl κ κ κ;have⟨b,o,c,e,h1,h2⟩:=Fz.cell f;cases e;exact⟨c,m,h1,h2⟩
def iz:List (String×DataW Unit):=Rows.diffReportsRow.laid
def QU{W:MN}(h:laidMetH ZM iz W)(f:W.ShapedOpen ZM):GL (Fz W):=by
 have c:laidMet ZM iz W:=by rw[MakeChecks.laidMetH_plain _ _ _ κ]at h;exact h
 have b:∀(i:Nat) (n:String) (d:DataW Unit),iz[i]?=some (n,d)->VarReads ZM W n d:=λi n d e=>Go.Lib.laidMet.reads c (List.mem_of_getElem? e);exact {
  tabs:=⟨Ny (b 6 _ _ rfl),TE (by
   have e:(Rows.laid_unicode_utf8_acceptRanges:DataW Unit)=acceptData:=κ
   rw[<-e];exact b 3 _ _ rfl)⟩
  pow:=XI κ (b 2 _ _ rfl)
  max:=IZ f
  err:=⟨Cl (g:=4) (t:=91) κ κ Tryz.underlying91 (b 5 _ _ rfl),Cl (g:=5) (t:=91) κ κ Tryz.underlying91 (b 4 _ _ rfl)⟩ }
noncomputable def uy(os:Os):MN:=World.laidAll ZM os iz
def OD(os:Os)(args:ab3):((uy os).forCall (λ_ _=>0) ⟨#[],args,[]⟩).Shaped ZM:=World.shaped_of_ZipB κ κ
def Mc(os:Os)(args:ab3):laidMetH ZM iz ((uy os).forCall (λ_ _=>0) ⟨#[],args,[]⟩).memory:=by rw[MakeChecks.laidMetH_plain _ _ _ κ];exact laidMet_laidAll _ κ κ
def Sd{enc:N4×Value->H}{W:MN}{sp:Nat->Bool}{held:Bool}{fuel:Nat}{cs:ab2}{x:DataW H×List MemPlace}(h:DataW.trod enc ZM W 0 sp held fuel 22 cs=some x)(b:kw ZM 22 x.1):∃xs:List ByteArray,Rd (Fz W) (.row .str) xs cs:= KT Tryz.underlying22 Tryz.underlying9 κ (by decide +kernel) h b
def Lq{ts:List N4}{b:List (DataW H)}(h:(DataW.weightsEach ZM ts b).all (·<=reachBytes)=true){j:Nat}{d:DataW H}(e:ts[j]?=some t)(c:b[j]?=some d):kw ZM t d:=λn f=>by have:=ZB.1 h n (DataW.weights_mem_each e c n f);simpa using this
end
end
end Go.Proofs.YtplilfikcimcbaaGreatDoor
namespace Go.X
section
def Vv(f:Int)(e:Int)(h:zb)(R:vvv) (H:aa4 249 #[iV f,iV e] h (λa b=>∃c,a=.string c/\R (aa6 c) b)):aa4 199 #[ab0 f,ab0 e] h R:=XF ⟨[],[],[]⟩ [.tmp 4] 8 func199 H
def Z2(x0:Int)(h:zb)(R:vvv) (H:R (aa9 ((p3 (((za9 (zan .i64) x0) &&& (za9 (zan .i64) (p3 (x0-1)))).toNat:Int):Int)==0)) h):aa4 354 #[ab0 x0] h R:=XF ⟨[],[],[]⟩ [.tmp 2] 8 func354 H
def Ja(x0:Int)(h:zb)(R:vvv) (H:(Tc=Ta->aa4 383 #[.int .u32 (YG .u32 x0)] h (λa b=>∃c,a=iV c/\R (iV c) b))/\(Tc=Tc->aa4 384 #[.int .u64 x0] h (λd e=>∃f,d=iV f/\R (iV f) e))):aa4 355 #[.int .u64 x0] h R:=XF ⟨[],[],[]⟩ [.tmp 2] 8 func355 H
def Q8(x0:Int)(h:zb)(R:vvv) (H:((x0==0)=Ta->R (iV 64) h)/\((x0==0)=Tc->∃a:Addr,(Td ⟨7,0,Te⟩=Td a/\0<=((YG .u64 ((YG .u64 (((za9 (zan .u64) x0) &&& (za9 (zan .u64) (YG .u64 (0-x0)))).toNat:Int))*285870213051353865):Int).fdiv (2 ^ 58):Int)/\((YG .u64 ((YG .u64 (((za9 (zan .u64) x0) &&& (za9 (zan .u64) (YG .u64 (0-x0)))).toNat:Int))*285870213051353865):Int).fdiv (2 ^ 58):Int)<((64:Nat):Int))/\∃b,zd h (a.add (((YG .u64 ((YG .u64 (((za9 (zan .u64) x0) &&& (za9 (zan .u64) (YG .u64 (0-x0)))).toNat:Int))*285870213051353865):Int).fdiv (2 ^ 58):Int).toNat*1))=Td (.int .u8 b)/\R (iV (p3 b)) h)):aa4 384 #[.int .u64 x0] h R:=XF ⟨[],[],[]⟩ [.tmp 2] 14 func384 H
def Pj(c0:Int)(h:zb)(R:vvv) (H:∀a:Bool->zb->Prop,(∀b:Bool,∀c:zb,((b=Ta->R (.int .u8 (YG .u8 c0)) c)/\(b=Tc->((c0==8)=Ta->R (.int .u8 98) c)/\((c0==8)=Tc->((c0==12)=Ta->R (.int .u8 102) c)/\((c0==12)=Tc->((c0==10)=Ta->R (.int .u8 110) c)/\((c0==10)=Tc->((c0==13)=Ta->R (.int .u8 114) c)/\((c0==13)=Tc->((c0==9)=Ta->R (.int .u8 116) c)/\((c0==9)=Tc->R (.int .u8 0) c)))))))->a b c)->((c0==34)=Ta->a (c0==34) h)/\((c0==34)=Tc->a (c0==92) h)):aa4 197 #[.int .i32 c0] h R:=XF ⟨[],[],[(4,[(4,.one (.bool))])]⟩ [.tmp 2] 19 func197 H
end
end Go.X
