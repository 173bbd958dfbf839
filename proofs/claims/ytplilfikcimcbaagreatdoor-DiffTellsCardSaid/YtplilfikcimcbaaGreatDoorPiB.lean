/- A part of the proof: nothing is stated here for its own sake. -/
import Derived.Test.YtplilfikcimcbaaGreatDoorPiA
import Derived.ProofKit
import Derived.OpenShut
import Derived.ShutString
import Derived.SizedLaws
import Derived.LaidSub
import Derived.Lib.LaidU8
import Derived.Test.YtplilfikcimcbaaGreatDoorProg
import Derived.Shelf.Strings.Trim
import Derived.Shelf.Small.Bits
import Derived.Shelf.Small.Wraps
import Derived.Shelf.Strings.BuilderRune
import Derived.Shelf.Utf8.AppendRune
import Derived.Shelf.Utf8.AppendRunePlain
import Derived.Shelf.Strconv.Itoa3
import Derived.Shelf.Strconv.AtoiErr
import Derived.Shelf.Strconv.ErrVarAll
import Derived.Shelf.Strconv.ErrVarParseInt
import Derived.Shelf.Pu.ParseUintPublic10
import Derived.Shelf.Sort.Plain
import Derived.Shelf.Unicode.Decode
import Derived.Shelf.Strings.IndexAnyAll
import Derived.Shelf.Strings.Repeat
import Derived.Shelf.Unicode.DecodeLast
import Derived.Shelf.Strings.BuilderCap
import Derived.Shelf.Slices.Turned
import Derived.Shelf.Slices.Clone
import Derived.Shelf.Slices.In.SortNone
import Derived.Shelf.SlicesE.Clone
import Derived.Shelf.Utf8.RuneCount
import Derived.Shelf.Strings.Shaped
import Derived.Shelf.Strings.SplitShaped
import Derived.Shelf.Strings.RuneCount
import Derived.Shelf.Slices.Cells
import Derived.Shelf.Slices.Empties
open _root_.Go.Addr renaming add->zab
open _root_.Array renaming getElem?_append_left->zdd,getElem?_eq_getElem->zcc,getElem?_eq_some_iff->zaq,range->zfb,replicate->zcf,size->zay,size_push->zau,toList_map->zdx
open _root_.Bool renaming cond_false_right->zcq,cond_true_left->zdi,eq_iff_iff->zbd,false_eq_true->zca,or_eq_true->zek,true_and->zce
open _root_.Go.Builtin renaming append_->zaj
open _root_.Go.Code renaming cond->ze4,region->ze7
open _root_.Go.Instr renaming fill->zfe,storeAt->zae
open _root_.Int renaming toNat_natCast->zag
open _root_.Go.IntKind renaming bits->zbw,i64->zb3,signed->ze0,wrap->zaa
open _root_.List.Pairwise renaming nil->zfc
open _root_.List renaming all_eq_true->zbl,append_assoc->za3,append_nil->zbi,cons_append->zbs,drop_drop->zeb,drop_eq_getElem_cons->zbg,drop_eq_nil_of_le->zde,drop_zero->zcn,eq_nil_of_length_eq_zero->za4,exists_cons_of_ne_nil->zdf,ext_getElem?->zbm,getD_eq_getElem?_getD->za8,getElem?_drop->zb1,getElem?_eq_getElem->zam,getElem?_eq_some_iff->zbb,getElem?_map->zb7,getElem?_take->zbq,getElem_mem->zak,length_append->zah,length_drop->zcw,length_eq_zero_iff->zdr,length_pos_iff->zb4,mapM_cons->zez,map_cons->zbk,mem_append->zav,mem_append_left->zap,mem_append_right->zaz,mem_cons->zal,mem_cons_of_mem->zan,mem_cons_self->zat,mem_map->zbr,mem_range->zcs,nil_append->zcm,pairwise_cons->zb2,range->za7,take_append_drop->zbz,take_length->za2,take_of_length_le->zb0
open _root_.List.cons renaming injEq->zcv
open _root_.Nat renaming add_zero->zej,blt_eq->zdl,eq_of_beq_eq_true->zao,le_mul_of_pos_right->zec,le_of_ble_eq_true->zci,le_refl->zac,lt_or_ge->zbv,not_lt_zero->zcb,zero_add->zax
open _root_.Go.Next renaming value->zd8
open _root_.Go.Op renaming bytesLess->zcz
open _root_.Option.some renaming inj->za9,injEq->zad
open _root_.Pure renaming pure->zd3
open _root_.Go.Proofs.Tryz renaming prog->zbe,underlying5->zeq
open _root_.UInt8 renaming ofNat->zcl,toNat_inj->zdt
open _root_.Go.Utf8 renaming decode->zfa
open _root_.Go.Value.slice renaming injEq->zbc
open _root_.Go.Value renaming string->za0
open _root_.Go.Sem renaming run_bind->DM,run_pure->DQ
open _root_.Go.Result renaming andThen_ok->D0
open _root_.Go renaming Program->EM,World->Nd,TypeId->Nw,Operand->n7,Oper->n9,execOp->hV
open _root_.Nat renaming beq->mv
open _root_.Decidable renaming decide->ph
open _root_.Go.Region renaming waitsFor->qr
open _root_.Go.X.Arg renaming mk->up
open _root_.Go.X.BT renaming push->ur
open _root_.List renaming length->DB
set_option linter.all false
set_option maxRecDepth 1000000
set_option maxHeartbeats 20000000
open Go.Proofs.Tryz
namespace Go.X
end Go.X
namespace Go.Proofs
end Go.Proofs
open Go Go.X Go.Proofs
open _root_.Bool renaming true->Ta,false->Tc
open _root_.Option renaming some->Td,none->Te
namespace Go.X
section
section
variable {cs C R:CS} {γ:Gh} {h:zc} {i:Nat} {e:Nw} {t:Ty}
variable {h0 : zc} {W : Nat -> Prop} {M0 : Fr}
inductive Shp where
 |dat (t:Ty)
 |own (e:Nw) (t:Ty)
 deriving DecidableEq
@[reducible] def DS:Shp->Type
 |.dat t=>El t
 |.own _ t=>List (El t)
inductive SG where
 |one (s:Shp)
 |agg (l:List Shp)
structure aa3 where
 slots:List (Nat×SG)
 boxes:List (Nat×List Shp)
 ro:List Nat
 ids:List Nat
abbrev Dy:=(s:Shp)×DS s
@[reducible] def kU:List Shp->Type->Type
 |[],X=>X
 |s::l,X=>DS s->kU l X
def Dj(s b:Shp)(x:DS s):Option (DS b):=if h:s=b then Td (h ▸ x)else Te
def sN{X:Type}:(l:List Shp)->kU l X->(List Dy->X->Prop)->Prop
 |[],f,k=>k [] f
 |s::l,f,k=>∀x:DS s,sN l (f x) λvs y=>k (⟨s,x⟩::vs) y
def ll{X:Type}:(l:List Shp)->List Dy->kU l X->Option X
 |[],[],f=>Td f
 |s::l,d::ds,f=>match Dj d.1 s d.2 with
  |some x=>ll l ds (f x)
  |none=>Te
 |_,_,_=>Te
def tK{X:Type}:(l:List Shp)->(List Dy->X)->kU l X
 |[],f=>f []
 |s::l,f=>λx=>tK l λvs=>f (⟨s,x⟩::vs)
def sQ{X Y:Type}:(l:List Shp)->kU l X->kU l Y->kU l (X×Y)
 |[],f,g=>(f,g)
 |_::l,f,g=>λx=>sQ l (f x) (g x)
theorem He{s b:Shp}{x:DS s}{y:DS b}(h:Dj s b x=Td y):(⟨b,y⟩:Dy)=⟨s,x⟩:=by unfold Dj at h;grind
def Kg{X:Type}:∀{l:List Shp} {vs:List Dy} {f:kU l X} {x:X} {k:List Dy->X->Prop},ll l vs f=Td x->sN l f k->k vs x
 |[],[],f,x,k,h,g=>by have h:=za9 h;subst h;exact g
 |[],_::_,f,x,k,h,g=>by simp[ll]at h
 |_::_,[],f,x,k,h,g=>by simp[ll]at h
 |s::l,d::ds,f,x,k,h,g=>by simp only[ll]at h;split at h;rename_i y b;have:=Kg h (g y);grind [He];cases h
def GZ{X:Type}:∀{l:List Shp} {vs:List Dy} {f:List Dy->X} {x:X},ll l vs (tK l f)=Td x->x=f vs
 |[],[],f,x,h=>(za9 h).symm
 |[],_::_,f,x,h=>by simp[ll]at h
 |_::_,[],f,x,h=>by simp[ll]at h
 |s::l,d::ds,f,x,h=>by simp only[ll,tK]at h;split at h;rename_i y b;have:=GZ h;grind [He];cases h
def ET{X:Type}:∀{l:List Shp} {f:List Dy->X} {k:List Dy->X->Prop},(∀vs,k vs (f vs))->sN l (tK l f) k
 |[],_,_,h=>h []
 |_::_,_,_,h=>λ_=>ET λ_=>h _
structure Pl where
 id:Nat
 s:Shp
 a:AA
def nJ(base:Nat):List Shp->List AA->Option (List Pl)
 |[],[]=>Td []
 |s::ss,a::as1=>match nJ (base+1) ss as1 with
  |some l=>Td (⟨base,s,a⟩::l)
  |none=>Te
 |_,_=>Te
def sK(e:q9):List (Nat×SG)->Option (List Pl)
 |[]=>Td []
 |(i,sg)::l=>match mY e i,sK e l with
  |some ([],.g x),some r=>match sg,x with
   |.one s,.a a=>Td (⟨100000+64*i,s,a⟩::r)
   |.agg ss,.agg as1=>match nJ (100000+64*i) ss as1 with
    |some q=>Td (q++r)
    |none=>Te
   |_,_=>Te
  |_,_=>Te
def tc(C:CS):List (Nat×List Shp)->Option (List Pl)
 |[]=>Td []
 |(c,ss)::l=>match Yv C c,tc C l with
  |some (.box as1),some r=>match nJ (1000000+64*c) ss as1 with
   |some q=>Td (q++r)
   |none=>Te
  |_,_=>Te
def XN:SG->List Shp
 |.one s=>[s]
 |.agg l=>l
def IS:List (Nat×SG)->List Shp
 |[]=>[]
 |(_,sg)::l=>XN sg++IS l
def HT:List (Nat×List Shp)->List Shp
 |[]=>[]
 |(_,ss)::l=>ss++HT l
def kc(J:aa3):List Shp:=IS J.slots++HT J.boxes
def pE:List Pl->List Nat
 |[]=>[]
 |⟨_,.dat _,.own c⟩::l=>c::pE l
 |_::l=>pE l
def sq(c:Nat):List Pl->Bool
 |[]=>Tc
 |p::l=>bif (bif mv p.id c then Ta else kZ c p.a)then Ta else sq c l
def m0(R:CS):List Pl->CS->Option CS
 |[],C=>Td C
 |p::l,C=>match p.s with
  |.dat _=>m0 R l C
  |.own e t=>bif sq p.id l then Te else(match p.a with
   |.own c=>match Yv C c with
    |some (.row e' t' xs)=>match Qz (.row t') (.row t) xs with
     |some ys=>bif mv e e' then(bif mv c p.id then m0 R l C else(bif ya p.id R then m0 R l ((p.id,.row e t ys)::yg p.id (W6 c C))else Te))else Te
     |none=>Te
    |_=>Te
   |.v (.slice Te 0 0)=>bif ya p.id R then m0 R l ((p.id,.row e t [])::yg p.id C)else Te
   |_=>Te)
def GP(I:Inv h0 W M0 cs γ h){x y:Nat×Ch}(i:x∈cs)(f:y∈cs)(e:x≠y):∀b,blk γ x.1 x.2=Td b->blk γ y.1 y.2≠Td b:= @tz _ (λ(x y:Nat×Ch)=>∀b,blk γ x.1 x.2=Td b->blk γ y.1 y.2≠Td b) (λx y h b hb c=>h b c hb) _ I.apart _ _ i f e
theorem Inv.rename(I:Inv h0 W M0 (C++R) γ h){c i:Nat}(n:ya i R=Ta){xs:List (El t)}(z:(c,Ch.row e t xs)∈C):Inv h0 W M0 ((i,.row e t xs)::yg i (W6 c C)++R) (kb γ i (γ.σ c)) h:=by
 have f:(yg i (W6 c C)++R).Sublist (C++R):=(((wz i _).trans (xx c C))).append_right R;have j:(c,Ch.row e t xs)∈C++R:=zap R z;have p:∀x∈yg i (W6 c C)++R,∀b,blk γ c (.row e t xs)=Td b->blk γ x.1 x.2≠Td b:=by
  intro x k b hb m;have l:x≠(c,Ch.row e t xs):=by rintro rfl;obtain k|k:=zav.1 k;exact(Jh ((wz i _).subset k)).2 rfl;have u:=I.apart;grind
  exact GP I (f.subset k) j l b m hb
 have w:Inv h0 W M0 (yg i (W6 c C)++R) (kb γ i (γ.σ c)) h:= I.rest f (Q0 γ i _) (oA n) (λx k b hb=>⟨rfl,(I.sep x (f.subset k) b hb).2⟩) I.ag (λ_ _ _=>rfl) (zac _) (λ_ _=>rfl);have⟨cells,h1,h2,y,o⟩:=I.den _ j;have r:∀b,blk (kb γ i (γ.σ c)) i (.row e t xs)=Td b->blk γ c (.row e t xs)=Td b:=λb hb=>by simpa[blk,yp]using hb
 refine w.cons ⟨cells,by rw[yp];exact h1,h2,y,by rw[yp];exact o⟩ (λb hb=>I.sep _ j b (r b hb)) (λb hb x k q=>?_);rw[pL (Q0 γ i _) _ (oA n x k).1]at q;simp_all
theorem Inv.nilRow(I:Inv h0 W M0 (C++R) γ h)(j:ya i R=Ta)(e:Nw)(t:Ty):Inv h0 W M0 ((i,.row e t [])::yg i C++R) (kb γ i ⟨Te,0,0⟩) h:=by have c:=(wz i C).append_right R;have f:Inv h0 W M0 (yg i C++R) (kb γ i ⟨Te,0,0⟩) h:= I.rest c (Q0 γ i _) (oA j) (λx k b hb=>⟨rfl,(I.sep x (c.subset k) b hb).2⟩) I.ag (λ_ _ _=>rfl) (zac _) (λ_ _=>rfl);refine f.cons ⟨[],by rw[yp];exact Fd.nil _ _ _ _,KK.nil _ _,ξ,by rw[yp];rfl⟩ (λb hb=>by simp[blk,yp]at hb) (λb hb=>by simp[blk,yp]at hb)
def HD{c:Nat}:∀{l:List Pl},sq c l=Tc->∀p∈l,p.id≠c/\kZ c p.a=Tc
 |[],_,p,b=>ε b
 |q::l,h,p,b=>by
  simp only[sq]at h;cases hq:(cond (mv q.id c) Ta (kZ c q.a))with
  |true=>simp_all
  |false=>
   rw[hq]at h;obtain rfl|b:=zal.1 b;cases hb:mv p.id c with
   |true=>simp_all
   |false=>rw[hb]at hq;exact⟨λe=>θ,hq⟩
   exact HD h p b
def kG:List Pl->List Nat
 |[]=>[]
 |p::l=>p.id::kG l
def An{R:CS}{h:zc}:∀{l:List Pl} {C o:CS} {γ:Gh},m0 R l C=Td o->Inv h0 W M0 (C++R) γ h ->∃f,Inv h0 W M0 (o++R) f h/\GxS (kG l) γ f/\(f.M=γ.M/\f.β=γ.β)/\∀p∈l,∀e t,p.s=.own e t->∀u,DH γ p.a u->DH f (.own p.id) u
 |[],C,o,γ,hn,I=>by simp only[m0,zad]at hn;grind [GxS.refl]
 |p::l,C,o,γ,hn,I=>by
  have O:∀{S:ac0} {a b:Gh},GxS (kG l) a b->GxS (kG (p::l)) a b:=λg=>g.mono λx Y=>zan _ Y;have j:∀s,GxS (kG (p::l)) γ (kb γ p.id s):=λs=>⟨Fr.le.refl _,λi hi=>(Q0 γ p.id s).2 i (by simp only[kG,zal,not_or]at hi;grind)⟩;simp only[m0]at hn;split at hn;rename_i t V;have⟨f,F,g1,A,h1⟩:=An hn I;exact⟨f,F,O (S:=[]) g1,A,λq w e t' z=>η⟩
  ·rename_i e t V;cases hm:sq p.id l with
   |true=>simp_all
   |false=>
    rw[hm]at hn;simp only[zL]at hn;have r:=HD hm;have fin:∀{E:CS} {k:Gh},m0 R l E=Td o->Inv h0 W M0 (E++R) k h->GxS (kG (p::l)) γ k->(k.M=γ.M/\k.β=γ.β)->(∀i,i≠p.id->k.σ i=γ.σ i/\k.β i=γ.β i)->(∀u,DH γ p.a u->DH k (.own p.id) u) ->
     ∃f,Inv h0 W M0 (o++R) f h/\GxS (kG (p::l)) γ f/\(f.M=γ.M/\f.β=γ.β)/\∀q∈p::l,∀e t,q.s=.own e t->∀u,DH γ q.a u->DH f (.own q.id) u:=by
     intro E k H T g2 D J B;have⟨f,F,g1,A,h1⟩:=An H T;refine⟨f,F,g2.trans (O (S:=[]) g1),⟨A.1.trans D.1,A.2.trans D.2⟩,λq w G t' z u m=>?_⟩;obtain rfl|w:=zal.1 w;have h2:=B u m;have L:q.id∉kG l:=by
      intro hi;have:∀{l:List Pl},q.id∈kG l->∃p∈l,p.id=q.id:=by
       intro l;induction l with
       |nil=>intro h;cases h
       |cons x l ih=>intro h;simp only[kG,zal]at h;grind
      have⟨y,U,e⟩:=this hi;exact(r y U).1 e
     rw[show u=_ from h2];simp only[DH,(g1.2 _ L).2];refine h1 q w G t' z u ?_;have gx:Gx (Td p.id) γ k:=⟨by rw[D.1];exact Fr.le.refl _,λi hi=>η⟩;exact m.gx gx (r q w).2
    split at hn;rename_i c N;split at hn;rename_i G t' xs hc;split at hn;rename_i ys n;have⟨Z,P⟩:=Y1 n;subst Z;simp only at P;subst P;cases hee:mv e G with
    |false=>simp_all
    |true=>
     rw[hee]at hn;have:=zao hee;subst this;simp only[zK]at hn;cases hci:mv c p.id with
     |true=>rw[hci]at hn;simp only[zK]at hn;have Q:=zao hci;exact fin hn I (GxS.refl _ _) ⟨rfl,rfl⟩ (λ_ _=>⟨rfl,rfl⟩) (λu m=>θ)
     |false=>
      rw[hci]at hn;simp only[zL]at hn;cases hR:ya p.id R with
      |false=>simp_all
      |true=>rw[hR]at hn;simp only[zK]at hn;refine fin hn (I.rename hR (qp hc)) (j _) ⟨rfl,rfl⟩ (λi hi=>?_) (λu m=>?_);have:=(Q0 γ p.id (γ.σ c)).2 i η;simp_all;rw[N]at m;rw[show u=_ from m];simp only[DH,yp]
    cases hn;cases hn;rename_i N;cases hR:ya p.id R with
    |false=>simp_all
    |true=>rw[hR]at hn;simp only[zK]at hn;refine fin hn (I.nilRow hR e t) (j _) ⟨rfl,rfl⟩ (λi hi=>?_) (λu m=>?_);have:=(Q0 γ p.id ⟨Te,0,0⟩).2 i η;simp_all;rw[N]at m;rw[show u=_ from m];simp only[DH,yp];rfl
    cases hn
def I9(b cs:CS)(p:Pl):Option Dy:=match p.s with
 |.dat t=>match mA b t p.a with
  |some x=>Td ⟨.dat t,x⟩
  |none=>Te
 |.own e t=>match Yv cs p.id with
  |some (.row e' t' xs)=>match Qz (.row t') (.row t) xs with
   |some ys=>bif mv e e' then Td ⟨.own e t,ys⟩else Te
   |none=>Te
  |_=>Te
def kN(b cs:CS):List Pl->Option (List Dy)
 |[]=>Td []
 |p::l=>match I9 b cs p,kN b cs l with
  |some d,some v=>Td (d::v)
  |_,_=>Te
def u7(i:Nat):Dy->AA
 |⟨.dat t,x⟩=>match Wc t x with
  |[a]=>a
  |_=>.v undef
 |⟨.own _ _,_⟩=>.own i
def uH:Nat->List Dy->List AA
 |_,[]=>[]
 |i,d::l=>u7 i d::uH (i+1) l
def qD(i:Nat):Dy->CS
 |⟨.own e t,xs⟩=>[(i,.row e t xs)]
 |_=>[]
def qL:Nat->List Dy->CS
 |_,[]=>[]
 |i,d::l=>qD i d++qL (i+1) l
def LK{x:El t}{u:Value}(h:Rd γ.M t x [u]):DH γ (u7 i ⟨.dat t,x⟩) u:=by
 have b:=Zi (γ:=γ) h;unfold u7
 match hx:Wc t x,b with
 |[a],b=>simp only[hx];exact b.1
 |[],b=>cases b
 |_::_::_,b=>exact b.2.elim
theorem z2j{t':Ty}{xs:List (El t')}{ys:List (El t)}(h:Qz (.row t') (.row t) xs=Td ys):Ch.row e t' xs=Ch.row e t ys:=by grind [Y1]
def Kr{b cs:CS}{p:Pl}{l:List Pl}{v:List Dy}(h:kN b cs (p::l)=Td v):∃d w,v=d::w/\kN b cs l=Td w /\((∃t x,p.s=.dat t/\d=⟨.dat t,x⟩/\mA b t p.a=Td x)\/(∃e t xs,p.s=.own e t/\d=⟨.own e t,xs⟩/\(p.id,Ch.row e t xs)∈cs)):=by
 simp only[kN]at h;split at h;rename_i d w h1 h2;have h:=za9 h;refine⟨d,w,h.symm,h2,?_⟩;unfold I9 at h1;split at h1;grind;rename_i e t c;split at h1;rename_i f t' xs i;split at h1;rename_i ys j;cases he:mv e f with
 |false=>simp_all
 |true=>rw[he]at h1;refine .inr ⟨e,t,ys,c,(za9 (show Td (⟨.own e t,ys⟩:Dy)=Td d from h1)).symm,?_⟩;grind [qp,z2j,zao]
 cases h1;cases h1;cases h
def Xe{b cs:CS}:∀{q r:List Pl} {v:List Dy},kN b cs (q++r)=Td v->∃c e,v=c++e/\DB c=DB q/\kN b cs q=Td c/\kN b cs r=Td e
 |[],r,v,h=>⟨[],v,rfl,rfl,rfl,h⟩
 |p::q,r,v,h=>by simp only[zbs,kN]at h;split at h;rename_i d w h1 h2;have h:=za9 h;obtain⟨c,e,rfl,f,j,i⟩:=Xe h2;exact⟨d::c,e,by rw[<-h];rfl,ϑ f,by simp only[kN,h1,j],i⟩;cases h
def Hg{base:Nat}:∀{ss:List Shp} {b:List AA} {l:List Pl},nJ base ss b=Td l->DB l=DB ss/\∀{γ k:Gh} {c f:CS} {v:List Dy} {us:ac1},l8 γ c->k.M=γ.M->kN c f l=Td v ->(∀p∈l,∀e t,p.s=.own e t->∀u,DH γ p.a u->DH k (.own p.id) u)->Fk (DH γ) b us->Fk (DH k) (uH base v) us/\∀x∈qL base v,x∈f:=by
 intro ss;induction ss generalizing base with
 |nil=>
  intro b l h;cases b with
  |nil=>
   simp only[nJ,zad]at h;subst h;refine⟨rfl,λn m j o i=>?_⟩;have j:=za9 j;subst j;refine⟨?_,λx F=>ε F⟩;rename_i us;cases us with
   |nil=>trivial
   |cons _ _=>cases i
  |cons a b=>simp[nJ]at h
 |cons s ss r=>
  intro b l h;cases b with
  |nil=>simp[nJ]at h
  |cons a b=>
   simp only[nJ]at h;split at h;rename_i J D;simp only[zad]at h;subst h;have⟨G,r⟩:=r D;refine⟨ϑ G,λ {γ k c f v us} n m j o i=>?_⟩;obtain⟨d,w,rfl,h2,E⟩:=Kr j;cases us with
   |nil=>cases i
   |cons u us=>have⟨A,B⟩:=r n m h2 (λp C=>o p (zan _ C)) i.2;obtain⟨t,x,z,rfl,H⟩|⟨e,t,xs,z,rfl,I⟩:=E;have:=wb n H i.1;rw[<-m]at this;refine⟨⟨LK this,A⟩,λy q=>B y ?_⟩;simpa[qL,qD]using q;refine⟨⟨o _ zat e t z u i.1,A⟩,λy q=>?_⟩;simp only[qL,qD,zbs,zcm,zal]at q;grind
   cases h
def oC:List (Nat×SG)->List Dy->q9
 |[],_=>[]
 |(i,.one _)::l,d::ds=>(i,[],.g (.a (u7 (100000+64*i) d)))::oC l ds
 |(_,.one _)::_,[]=>[]
 |(i,.agg ss)::l,ds=>(i,[],.g (.agg (uH (100000+64*i) (ds.take ss.length))))::oC l (ds.drop ss.length)
def Xf:List (Nat×SG)->List Dy->CS
 |[],_=>[]
 |(i,.one _)::l,d::ds=>qD (100000+64*i) d++Xf l ds
 |(_,.one _)::_,[]=>[]
 |(i,.agg ss)::l,ds=>qL (100000+64*i) (ds.take ss.length)++Xf l (ds.drop ss.length)
def wG:List (Nat×List Shp)->List Dy->CS
 |[],_=>[]
 |(c,ss)::l,ds=>(c,.box (uH (1000000+64*c) (ds.take ss.length)))::(qL (1000000+64*c) (ds.take ss.length)++wG l (ds.drop ss.length))
def oS:List (Nat×SG)->Nat
 |[]=>0
 |(_,.one _)::l=>1+oS l
 |(_,.agg ss)::l=>ss.length+oS l
def np(J:aa3)(b:List Dy):q9:=oC J.slots b
def nz(J:aa3)(b:List Dy):CS:=Xf J.slots b++wG J.boxes (b.drop (oS J.slots))
def Xg{e:q9}{n:Nat}{a:Act}:∀{ss:List (Nat×SG)} {l:List Pl},sK e ss=Td l->DB l=oS ss/\∀{γ A:Gh} {f j:CS} {v w:List Dy},Fn n e γ a->l8 γ f->A.M=γ.M->kN f j l=Td v ->(∀p∈l,∀e t,p.s=.own e t->∀u,DH γ p.a u->DH A (.own p.id) u)->(∀x∈oC ss (v++w),mW A (ql a) x)/\∀x∈Xf ss (v++w),x∈j
 |[],l,h=>by simp only[sK,zad]at h;subst h;refine⟨rfl,λ_ _ _ k _=>?_⟩;have k:=za9 k;subst k;exact⟨λx L=>(ε L),λx L=>(ε L)⟩
 |(i,sg)::ss,l,h=>by
  simp only[sK]at h;split at h;rename_i x r Q S;split at h;rename_i s aa;simp only[zad]at h;subst h;have⟨N,O⟩:=Xg (n:=n) (a:=a) S;refine⟨by simp[N,oS];omega,λ {γ A f j v w} E C z k D=>?_⟩;obtain⟨d,v',rfl,h2,h3⟩:=Kr k;have⟨i1,P⟩:=O (w:=w) E C z h2 (λp m=>D p (zan _ m));have c:DH γ aa (ql a i):=(E.all _ (Qm Q)).1 trivial;obtain⟨t,x,o,rfl,hc⟩|⟨Y,t,xs,o,rfl,hm⟩:=h3;have:=wb C hc c;rw[<-z]at this;refine⟨λy b=>?_,λy b=>?_⟩;simp only[zbs,oC,zal]at b;obtain rfl|b:=b;exact⟨λ_=>LK this,λF=>absurd trivial F⟩;grind;simp only[zbs,Xf,qD,zcm]at b;exact P y b;refine⟨λy b=>?_,λy b=>?_⟩;simp only[zbs,oC,zal]at b;obtain rfl|b:=b;exact⟨λ_=>D _ zat Y t o _ c,λF=>absurd trivial F⟩;grind;simp only[zbs,Xf,qD,zcm,zal]at b;grind;rename_i B G;split at h;rename_i q V;simp only[zad]at h;subst h;have⟨N,O⟩:=Xg (n:=n) (a:=a) S;have⟨I,m⟩:=Hg V;refine⟨by simp[N,I,oS],λ {γ A f j v w} E C z k D=>?_⟩;obtain⟨H,J,rfl,U,d1,d2⟩:=Xe k;have⟨i1,P⟩:=O (w:=w) E C z d2 (λp m=>D p (zaz _ m));have⟨us,hu,c⟩:=(show ∃us,ql a i=.agg us.toArray/\Fk (DH γ) G us from(E.all _ (Qm Q)).1 trivial);have⟨Z,p2⟩:=m C z d1 (λp m=>D p (zap _ m)) c;have et:(H++J++w).take (DB B)=H:=by rw[<-I,<-U,za3,List.take_left]
  have T:(H++J++w).drop (DB B)=J++w:=by rw[<-I,<-U,za3,List.drop_left]
  refine⟨λy b=>?_,λy b=>?_⟩;simp only[oC,et,T,zal]at b;obtain rfl|b:=b;exact⟨λ_=>⟨us,hu,Z⟩,λF=>absurd trivial F⟩;grind;simp only[Xf,et,T,zav]at b;grind;cases h;cases h;cases h
def KV{y:CS}:∀{bs:List (Nat×List Shp)} {l:List Pl},tc y bs=Td l->∀{R:CS} {γ m:Gh} {i j:CS} {v:List Dy} {h:zc},Inv h0 W M0 (y++R) γ h->l8 γ i->m.M=γ.M->m.β=γ.β->kN i j l=Td v->(∀p∈l,∀e t,p.s=.own e t->∀u,DH γ p.a u->DH m (.own p.id) u) ->∀x∈wG bs v,x∈j\/(aa0 h0.size m h x.1 x.2/\(∃f,(x.1,Ch.box f)∈y)/\(∃f,x.2=Ch.box f)/\∃ss,(x.1,ss)∈bs)
 |[],l,b,R,γ,m,i,j,v,h,I,hf,hM,hβ,hd,ho,x,k=>ε k
 |(c,ss)::bs,l,b,R,γ,m,i,j,v,h,I,hf,hM,hβ,hd,ho,x,k=>by
  simp only[tc]at b;split at b;rename_i f r C F;split at b;rename_i q D;simp only[zad]at b;subst b;have⟨A,o⟩:=Hg D;obtain⟨w,z,rfl,B,d1,d2⟩:=Xe hd;have⟨us,N,n⟩:=I.den _ (zap R (qp C));have⟨E,J⟩:=o hf hM d1 (λp b=>ho p (zap _ b)) n;have et:(w++z).take (DB ss)=w:=by rw[<-A,<-B,List.take_left]
  have G:(w++z).drop (DB ss)=z:=by rw[<-A,<-B,List.drop_left]
  simp only[wG,et,G,zal,zav]at k;obtain rfl|k|k:=k;exact .inr ⟨⟨us,η,E⟩,⟨f,qp C⟩,⟨_,rfl⟩,ss,zat⟩;simp_all;rcases KV F I hf hM hβ d2 (λp b=>ho p (zaz _ b)) x k with h1|⟨h1,h2,O,H,L⟩;grind;grind;cases b;cases b
def rq(C:CS):List (Nat×List Shp)->Bool
 |[]=>Ta
 |(c,_)::l=>match Yv C c with
  |some (.box _)=>rq C l
  |_=>Tc
def E9{C:CS}:∀{l:List (Nat×List Shp)},rq C l=Ta->∀c ss,(c,ss)∈l->∃b,(c,Ch.box b)∈C
 |[],_,c,ss,h=>ε h
 |(c',ss')::l,hb,c,ss,h=>by simp only[rq]at hb;split at hb;rename_i b e;obtain h|h:=zal.1 h;grind [qp];exact E9 hb c ss h;cases hb
def pO:CS->Bool
 |[]=>Ta
 |(c,_)::l=>bif lK c l then pO l else Tc
def JQ:∀{l:CS},pO l=Ta->l.Pairwise λx y=>x.1≠y.1
 |[],_=>.nil
 |(c,k)::l,h=>by
  simp only[pO]at h;cases hn:lK c l with
  |false=>simp_all
  |true=>rw[hn]at h;exact zb2.2 ⟨λy b e=>pH hn y b e.symm,JQ h⟩
def allIn(S:List Nat):List Nat->Bool
 |[]=>Ta
 |i::l=>bif Fm S i then allIn S l else Tc
def Gb{l:ac0}(h:Fm l i=Ta):i∈l:=by
 induction l with
 |nil=>cases h
 |cons j l b=>simp only[Fm]at h;grind [zao,zat,zan]
def HV{S:ac0}:∀{l:ac0},allIn S l=Ta->∀i∈l,i∈S
 |[],_,i,h=>ε h
 |j::l,hl,i,h=>by
  simp only[allIn]at hl;cases hm:Fm S j with
  |false=>simp_all
  |true=>rw[hm]at hl;obtain rfl|h:=zal.1 h;exact Gb hm;exact HV hl i h
theorem Inv.pick{C F R:CS}(I:Inv h0 W M0 (C++R) γ h)(hnd:pO F=Ta)(hsrc:∀x∈F,aa0 h0.size γ h x.1 x.2/\∃k,(x.1,k)∈C/\blk γ x.1 k=blk γ x.1 x.2):Inv h0 W M0 (F++R) γ h where
 ag:=I.ag
 frame:=I.frame
 size:=I.size
 old:=I.old
 le:=I.le
 den:=λx hx=>by obtain hx|hx:=zav.1 hx;simp_all;exact I.den x (zaz _ hx)
 sep:=λx hx b hb=>by obtain hx|hx:=zav.1 hx;have⟨_,k,hk,e⟩:=hsrc x hx;exact I.sep _ (zap _ hk) b η;exact I.sep x (zaz _ hx) b hb
 apart:=by have hI:=I.apart;rw[List.pairwise_append]at hI ⊢;refine⟨(JQ hnd).imp_of_mem λ {x y} hx hy hne b hb hb'=>?_,hI.2.1,λx hx y hy b hb=>?_⟩;have⟨_,k,hk,e⟩:=hsrc x hx;have⟨_,k',a,e'⟩:=hsrc y hy;exact GP I (zap R hk) (zap R a) (λe2=>hne (Prod.mk.inj e2).1) b η η;grind
def uJ(J:aa3)(R:CS)(e:q9)(C:CS):Option (List Dy):=
 match sK e J.slots,tc C J.boxes with
 |some ps,some pb=>match tc (frzL (pE (ps++pb)) C) J.boxes with
  |some b=>match m0 R (ps++b) (frzL (pE (ps++pb)) C)with
   |some c=>bif rq c J.boxes then(bif allIn J.ids (kG (ps++b))then(match kN (frzL (pE (ps++pb)) C++R) c (ps++b)with
    |some f=>bif pO (nz J f)then Td f else Te
    |none=>Te)else Te)else Te
   |none=>Te
  |none=>Te
 |_,_=>Te
def BH{J:aa3}{e:q9}{k:List Dy}(b:uJ J R e C=Td k){n:Nat}{a:Act}(T:Fn n e γ a)(I:Inv h0 W M0 (C++R) γ h):∃c,Inv h0 W M0 (nz J k++R) c h/\GxS J.ids γ c/\∀x∈np J k,mW c (ql a) x:=by
 unfold uJ at b;split at b
 ·rename_i ps pb A G;split at b
  ·rename_i m f;split at b
   ·rename_i Q B;cases hbi:rq Q J.boxes with
    |false=>simp_all
    |true=>
    rw[hbi]at b;cases hai:allIn J.ids (kG (ps++m))with
    |false=>simp_all
    |true=>
    rw[hai]at b;simp only[zK]at b;split at b
    ·rename_i j o;cases hnd:pO (nz J j)with
     |false=>simp_all
     |true=>
     rw[hnd]at b;have b:=za9 (show Td j=Td k from b);subst b;have⟨γ0,l,g0⟩:=Inv.frzL (C:=C) (γ:=γ) (pE (ps++pb)) I;have r:=T.gx0 g0;have⟨c,q,g1,⟨D,P⟩,F⟩:=An B l;obtain⟨O,z,rfl,l1,d1,d2⟩:=Xe o;have⟨Z,t⟩:=Xg (n:=n) (a:=a) A;have⟨M,Y⟩:=t (w:=z) r l.fz D d1 (λp y=>F p (zap _ y));have u:=KV f l l.fz D P d2 (λp y=>F p (zaz _ y));have U:(O++z).drop (oS J.slots)=z:=by rw[<-Z,<-l1,List.drop_left]
     have H:GxS J.ids γ c:=⟨g0.1.trans g1.1,λi hi=>by have h2:=g1.2 i (λV=>hi (HV hai i V));have h1:=g0.2 i ξ;simp_all⟩;refine⟨c,q.pick hnd λx b=>?_,H,M⟩;unfold nz at b;rw[U]at b;obtain b|b:=zav.1 b;have:=Y x b;exact⟨q.den x (zap _ this),x.2,this,rfl⟩;obtain h1|⟨h1,_,⟨L,h2⟩,ss,S⟩:=u x b;exact⟨q.den x (zap _ h1),x.2,h1,rfl⟩;have⟨E,N⟩:=E9 hbi _ _ S;exact⟨h1,_,N,π h2⟩
    cases b
   cases b
  cases b
 cases b
def RY{α:Type}{R:α->α->Prop}(i:∀x y,R x y->R y x){l b:List α}(p:l.Perm b):l.Pairwise R->b.Pairwise R:=by
 induction p with
 |nil=>exact id
 |cons x p f=>intro h;rw[zb2]at h ⊢;grind
 |swap x y l=>simp_all
 |trans _ _ c e=>simp_all
theorem Inv.perm{cs cs':CS}(I:Inv h0 W M0 cs γ h)(p:cs.Perm cs'):Inv h0 W M0 cs' γ h where
 ag:=I.ag
 frame:=I.frame
 size:=I.size
 old:=I.old
 le:=I.le
 den:=λx hx=>I.den x (p.symm.subset hx)
 sep:=λx hx=>I.sep x (p.symm.subset hx)
 apart:=RY (λx y h b hb a=>h b a hb) p I.apart
end
section
variable {P:EM} {gl:Fr}
variable {h0 : zc} {W : Nat -> Prop} {M0 : Fr}
def mT(P:EM)(gl:Fr)(o:n9)(e:q9)(c:qj)(cs:CS)(K:AV->Prop):Prop:=
 match o.op with
 |.pick x a b=>xJ e c x a b K
 |_=>match W8 e c with
  |some g=>qA P gl o (iG e c) g cs K
  |none=>False
def rG(P:EM)(gl:Fr)(n:Nat)(ops:Array n9)(cs:CS)(K:q9->Prop):List n9->q9->Prop
 |[],e=>K e
 |o::rest,e=>match Ji ops e o.guard with
  |some c=>bif wj n c o.dst then mT P gl o e c cs λv=>rG P gl n ops cs K rest (xo e o.dst c v)else False
  |none=>False
def Kh(i:Fr.le gl M0){o:n9}{e:q9}{c:qj}{cs:CS}{K:AV->Prop}(H:mT P gl o e c cs K):∃av,K av/\∀(n:Nat) (γ:Gh) (a:Act) (h:zc),Fn n e γ a->Inv h0 W M0 cs γ h->CT (ql a) c->∃v,DP γ av v/\Bk P (hV a.eval o) h (.value v):=by unfold mT at H;split at H;rename_i x y z j;have⟨av,h1,h2⟩:=Xd H;refine⟨av,h1,λn γ a h b I f=>?_⟩;have⟨t,k,p⟩:=h2 n γ a b f;refine⟨_,p,λB d=>?_⟩;simp only[hV,j,k,asBool,DM,DQ,D0];split at H;rename_i g l;have⟨av,h1,h2⟩:=ud (h0:=h0) (W:=W) (M0:=M0) i H;exact⟨av,h1,λn γ a h b I f=>h2 (Zj b l f) γ h a.eval I λx av m=>qe b f m⟩;cases H
def Ac{P:EM}{gl:Fr}(q:Fr.le gl M0){n:Nat}{ops:Array n9}{cs:CS}{K:q9->Prop}{Q:Act->Prop}{γ:Gh}{h:zc}(I:Inv h0 W M0 cs γ h)(B:Nd)(d:Nat):∀(l:List n9) (e:q9) (a:Act),rG P gl n ops cs K l e->Fn n e γ a->(∀r k,Fn n r γ k->Same (w9 l) a k->K r->Q k)->wpStill P ops (mk B d h) Q l a
 |[],e,a,H,hs,hQ=>hQ _ _ hs (Same.refl _ _) H
 |o::rest,e,a,H,hs,hQ=>by
  unfold rG at H;split at H;rename_i c D;cases hd:wj n c o.dst with
  |false=>rw[hd]at H;cases H
  |true=>
   rw[hd]at H;simp only[zK]at H;have w:=Zt hs D;have m:∀i,o.dst=Td i->i∈w9 (o::rest):=λi hi=>by simp[w9,hi]
   have j:∀x∈w9 rest,x∈w9 (o::rest):=λx t=>by unfold w9;split;exact zan _ t;exact t
   have⟨av,z,C⟩:=Kh (h0:=h0) (W:=W) (M0:=M0) q H;have b:∀u,(CT (ql a) c->DP γ av u)->(¬CT (ql a) c->u=undef)->wpStill P ops (mk B d h) Q rest (a.put o.dst u):=λu h1 h2=>
    Ac q I B d rest _ _ z (hs.putO hd h1 h2) λr k y E A=>hQ r k y ((Same.put a o.dst u m).trans (E.mono j)) A
   unfold wpStill;by_cases p:CT (ql a) c;rw[zA (w.2 p)];unfold Oper.still;have⟨v,h1,h2⟩:=C n γ a h hs I p;rw[h2 B d,Oper.stillUpon_value];exact b v (λ_=>h1) (λf=>absurd p f);rw[zv (λt=>p (w.1 t))];exact b undef (λf=>absurd f p) (λ_=>rfl)
  cases H
abbrev r8:=List (Nat×Nat)
def Cq(P:EM)(gl:Fr)(tr:Nw)(n:Nat)(f:r8)(id:Nat)(ops:Array n9)(b:Bool)(R:CS)(K:q9->CS->Prop)(e:q9)(C:CS):Prop:=
 bif b then(match A4 f id with
  |none=>bif Region.lexB .any ops then rG P gl n ops (C++R) (λc=>K (nN c) C) ops.toList e else False
  |some m=>bif Region.lexTailB .any ops m then rG P gl n ops (C++R) (λc=>nI P gl tr n ops R K (ops.toList.drop m) c C) (ops.toList.take m) e else False)
 else nI P gl tr n ops R K ops.toList e C
def zqj(F:P.follows .mixedOrders=Ta)(f:Fr.le gl M0){tr:Nw}{n:Nat}{G:r8}{id:Nat}{ops:Array n9}{c:Bool}{R C:CS}{K:q9->CS->Prop}{e:q9} (H:Cq P gl tr n G id ops c R K e C) {γ:Gh} {h:zc} (B:Nd) (d:Nat) {a:Act} (z:Fn n e γ a) (I:Inv h0 W M0 (C++R) γ h) {Q:Exit->Act->Nd->Prop}(r:∀k E γ' i O h',Fn n k γ' i->Inv h0 W M0 (E++R) γ' h'->Same (w9 ops.toList) a i->GxS (w9 ops.toList) γ γ'->K k E->Q .normal i (mk B O h')):(ze7 id ops c).wp P Q a (mk B d h):=by
 unfold Cq at H;cases c with
 |false=>exact wp_region_list (xP f B _ _ _ _ _ _ _ H z I r)
 |true=>
  simp only[zK]at H;split at H;cases hB:Region.lexB .any ops with
  |false=>rw[hB]at H;cases H
  |true=>rw[hB]at H;refine wp_region_still F hB ?_;exact Ac f I B (d+1) _ _ _ H z λk i t A u=>r _ _ _ _ _ _ t.clean I A (GxS.refl _ _) u
  rename_i m _;cases hB:Region.lexTailB .any ops m with
  |false=>rw[hB]at H;cases H
  |true=>
   rw[hB]at H;have b:w9 ops.toList=w9 (ops.toList.take m)++w9 (ops.toList.drop m):=by rw[<-Yp,zbz]
   have:=wp_region_still_tail (id:=id) (Q:=Q) (a:=a) (w:=mk B d h) (l:=ops.toList) m F (ψ hB) (by simp only[Array.toArray_toList];refine Ac f I B (d+1) _ _ _ H z λk i t A u=>?_;refine xP f B _ _ _ _ _ _ (d+1) u t I λp q D o y g N M L J S=>r p q D o y g N M ?_ ?_ S;rw[b];exact(A.mono λx j=>zap _ j).trans (L.mono λx j=>zaz _ j);rw[b];exact J.mono λx j=>zaz _ j);simpa using this
end
section
variable {P:EM} {t tr tx:Nw} {n d m i id:Nat} {cs R C:CS} {γ:Gh} {h:zc} {o:n9} {sv:AV} {gl:Fr} {c:qj} {ops:Array n9} {listed pl:Array Bool} {a:Act} {ord:List Nat}
variable {h0 : zc} {W : Nat -> Prop} {M0 : Fr}
structure It where
 k:Nat
 dst:Option Nat
 ch:qj
 av:AV
 nb:Option (Nat×Ch)
 us:Option Nat:=Te
def iM:List It->q9
 |[]=>[]
 |i::l=>match i.dst with
  |some s=>(s,i.ch,i.av)::iM l
  |none=>iM l
def fR:List It->CS
 |[]=>[]
 |i::l=>match i.nb with
  |some b=>b::fR l
  |none=>fR l
theorem nE{x:Nat×qj×AV}:∀{l:List It},x∈iM l↔∃i∈l,i.dst=Td x.1/\i.ch=x.2.1/\i.av=x.2.2
 |[]=>by simp[iM]
 |i::l=>by simp only[iM];split;rename_i s e;rw[zal,nE (l:=l)];constructor;rintro(rfl|⟨j,b,h⟩);exact⟨i,zat,e,rfl,rfl⟩;exact⟨j,zan _ b,h⟩;rintro⟨j,b,h1,h2,c⟩;obtain rfl|b:=zal.1 b;left;rw[e]at h1;cases h1;rw[h2,c];exact .inr ⟨j,b,h1,h2,c⟩;rename_i e;rw[nE (l:=l)];constructor;rintro⟨j,b,h⟩;exact⟨j,zan _ b,h⟩;rintro⟨j,b,h1,h2,c⟩;obtain rfl|b:=zal.1 b;rw[e]at h1;cases h1;exact⟨j,b,h1,h2,c⟩
def X7(S:List Nat):q9->q9
 |[]=>[]
 |(i,c,v)::e=>bif Fm S i then(i,c,v)::X7 S e else X7 S e
def Wl{S:ac0}{x:Nat×qj×AV}:∀{e:q9},x∈X7 S e->x∈e/\x.1∈S
 |[],h=>ε h
 |(i,c,v)::e,h=>by
  simp only[X7]at h;cases hm:Fm S i with
  |true=>rw[hm]at h;obtain rfl|h:=zal.1 h;exact⟨zat,Gb hm⟩;exact⟨zan _ (Wl h).1,(Wl h).2⟩
  |false=>rw[hm]at h;exact⟨zan _ (Wl h).1,(Wl h).2⟩
def DR(P:EM)(tr:Nw)(t:Nw)(n:Nat)(ps:List (Nat×AV))(cs:CS)(K:AV->Prop):Prop:=
 match m8 P t with
 |some el=>match ni P tr 8 el,pN P el (n*yo P el)with
  |some ty,some zs=>bif mv (yo P el) (sz ty)then(bif Nat.ble (n*yo P el) 16777216 then(bif Nat.blt 0 (yo P el)then(match oe (λi=>Td (i*yo P el,yo P el)) (zs.map .v) ps with
   |some r=>match Xa cs ty n r with
    |some (ys,[])=>K (.g (.a (.dc ty ys)))
    |_=>False
   |none=>False)else False)else False)else False
  |_,_=>False
 |none=>False
def znj{t el:Nw}(p:P.underlying t=Td (.slice el))(l:yf P el=Ta)(u:n*yo P el<=16777216){k:ac1}(b:pN P el (n*yo P el)=Td k){ps:Array (Nat×Value)}{c1:ac1} (o:zfe (λi=>Td (i*yo P el,yo P el)) k.toArray ps.toList=Td c1.toArray) (B:Nd) (e:Nat) (h:zc):(Instr.buildSlice t n ps).run P (mk B e h)=.ok (.slice (Td ⟨h.size,0,Te⟩) n n) (mk B e (h.push (.cells c1.toArray el))):=by
 have r:=Bk.underlying (h:=h) p B e;have q:=Bk.sizeOf (P:=P) (h:=h) (jv l).choose_spec B e;unfold Instr.buildSlice;rw[DM,r];simp only[D0];rw[DM,q];simp only[D0];rw[zv ω];unfold pN at b;by_cases c:n*yo P el=0;rw[zA c];rw[c]at b ⊢;simp at b;subst b;simp only[DM,DQ,D0];have j:Array.map (λx=>(#[]:ac2)[x % (#[]:ac2).size]!) (zfb 0)=([]:ac1).toArray:=ξ
 rw[j,o];rfl;rw[zv c];have hb:mv (n*yo P el) 0=Tc:=by
  cases hh:mv (n*yo P el) 0 with
  |false=>rfl
  |true=>exact absurd (zao hh) c
 rw[hb]at b;simp only[zL]at b;split at b;rename_i z m;have f:=Wi m h B e;simp only[zad]at b;rw[DM,f];simp only[D0,DM,DQ];have j:Array.map (λx=>z.cells[x % z.cells.size]!) (zfb (n*yo P el))=k.toArray:=by rw[<-b]
 rw[j,o];rfl;cases b
theorem Inv.newFrozen(I:Inv h0 W M0 cs γ h)(c:ac2)(el:Nw):Inv h0 W M0 cs (iE γ h.size c) (h.push (.cells c el))/\Gx Te γ (iE γ h.size c)/\(iE γ h.size c).M h.size=Td c:=by
 have j:γ.M h.size=Te:=I.ag.none (zac _);have k:Fr.le γ.M (iE γ h.size c).M:=by
  intro b f e;have:mv b h.size=Tc:=by
   cases hb:mv b h.size with
   |false=>rfl
   |true=>rw[zao hb,j]at e;cases e
  simp[iE,this,e]
 have i:AgM (iE γ h.size c).M (h.push (.cells c el)):=by
  intro b f e;by_cases hb:b=h.size;subst hb;have:f=c:=by simp[iE]at e;exact e.symm
  subst this;exact⟨_,_,ye _ _⟩;have:mv b h.size=Tc:=by
   cases hb':mv b h.size with
   |false=>rfl
   |true=>exact absurd (zao hb') hb
  simp only[iE,this,zL]at e;have⟨l,m,n⟩:=I.ag b f e;exact⟨l,m,by rw[Array.getElem?_push,zv hb];exact n⟩
 refine⟨I.call (ur h _ (zac _)) k (λb hb=>?_) i,⟨k,λ_ _=>⟨rfl,rfl⟩⟩,by simp[iE]⟩;have:mv b h.size=Tc:=by
  cases hb':mv b h.size with
  |false=>rfl
  |true=>have:=zao hb';omega
 simp[this]
def oh:Option (Nat×Ch)->CS->CS
 |none,C=>C
 |some c,C=>W6 c.1 C
def oX(h0:zc)(W:Nat->Prop)(M0:Fr)(P:EM)(o:n9)(a:Act)(γ:Gh)(h:zc)(cs:CS)(b:Option (Nat×Ch))(c:AV->Prop)(eat:Option (Nat×Ch):=Te):Prop:=
 ExA P (hV a.eval o) h λv h'=>∃av γ',c av/\DP γ' av v/\Inv h0 W M0 (b.toList++oh eat cs) γ' h'/\Gx (b.map (·.1)) γ γ'
def Nq{f:Array (Nat×n7)}(F:o.op=.buildSlice t n f){ps:List (Nat×AV)}{ρ:n7->Option AV}(y:mX ρ f.toList=Td ps){K:AV->Prop}(H:DR P tr t n ps cs K):∃av,K av/\∀(γ:Gh) (h:zc) (a:Act) (Y:CS),Inv h0 W M0 (Y++cs) γ h->(∀x av,ρ x=Td av->DP γ av (a.eval x))->oX h0 W M0 P o a γ h (Y++cs) Te (· = av):=by
 unfold DR at H;split at H
 ·rename_i el l;have⟨G,q⟩:=Wg l;split at H
  ·rename_i ty D J p;cases hz:mv (yo P el) (sz ty)with
   |false=>rw[hz]at H;cases H
   |true=>
   rw[hz]at H;cases hb1:Nat.ble (n*yo P el) 16777216 with
   |false=>rw[hb1]at H;cases H
   |true=>
   rw[hb1]at H;cases hb2:Nat.blt 0 (yo P el)with
   |false=>rw[hb2]at H;cases H
   |true=>
   rw[hb2]at H;simp only[zK]at H;split at H
   ·rename_i r Q;split at H
    ·rename_i ys m;refine⟨_,H,λγ h a Y I S=>?_⟩;have M:Inv h0 W M0 cs γ h:=I.sub ξ;have⟨ws,L,E⟩:=W9 Q (Qo γ D) (yC S y);obtain⟨c1,c2,rfl,A,u,O⟩:=CY M.fz m E;cases c2 with
     |cons _ _=>cases O
     |nil=>
     rw[zbi]at *;have i:=zao hz;have j:0<yo P el:=by simpa[zdl]using hb2
     have z:n*yo P el<=16777216:=zci hb1;have U:n<=n*yo P el:=zec _ j;have T:c1.length=n*yo P el:=by rw[A.1,u,i]
     have⟨N,g2,w⟩:=I.newFrozen c1.toArray el;intro B e;refine .inl ⟨.slice (Td ⟨h.size,0,Te⟩) n n,e,_,?_,_,_,rfl,?_,N,g2⟩;have C:(f.map λx=>(x.1,a.eval x.2)).toList=f.toList.map λx=>(x.1,a.eval x.2):=by rw[zdx]
     simp only[hV,F];refine J7 ?_;exact znj G q z p (by show zfe _ _ (f.map λx=>(x.1,a.eval x.2)).toList=_;rw[C];exact L) B e h;have k:=(A.mono g2.1).rd (b:=h.size) (o:=0) (c:=n) (cs:=c1.toArray) w (by rw[zcn,zb0 (by rw[u,<-i];simp;omega)]) ⟨ω,ω⟩;rw[u]at k;exact⟨⟨Td ⟨h.size,0,Te⟩,n,n⟩,rfl,rfl,k⟩
    cases H
   cases H
  cases H
 cases H
def Dk:AV->Bool
 |.g (.a (.dc _ _))=>Ta
 |_=>Tc
def Vu{bv sv:AV}{c:Call}(ho:o.op=.call c)(hc:c.callee=.builtin .append){s x:n7}(n:c.args.toList=[s,x])(F:c.argTypes.toList=[t,tx]){K:AV->Prop}(w:Dk bv=Ta) (H:nP P tr t tx bv sv 0 [] cs (λav _ _=>K av)) {ρ:n7->Option AV} (hs:ρ s=Td bv) (hx:ρ x=Td sv):∀(γ:Gh) (h:zc) (a:Act) (Y:CS),Inv h0 W M0 (Y++cs) γ h->(∀x av,ρ x=Td av->DP γ av (a.eval x))->oX h0 W M0 P o a γ h (Y++cs) Te K:=by
 intro γ h a Y I hρ;have L:=hρ _ _ hs;have Z:=hρ _ _ hx;have I1:Inv h0 W M0 ([]++cs) γ h:=I.sub ξ;have key:∀{O:vvv},qq P (zaj #[t,tx] o.type #[a.eval s,a.eval x]) h O->ExA P (hV a.eval o) h O:=by
  intro O Q B e;have⟨v,d',h',r,hp⟩:=Q B e;refine .inl ⟨v,d',h',?_,hp⟩;have ee:hV a.eval o=(zaj c.argTypes o.type (c.args.map a.eval) >>= λx=>(zd3 (zd8 x):Sem Next)):=by simp only[hV,ho,resolve,hc];rfl
  rw[ee,toList_eq n,toList_eq F];refine J7 ?_;simpa using r
 refine key ?_;clear key;unfold nP at H;split at H;rename_i el S;have⟨hu,af⟩:=Wg S;split at H;rename_i ty ae;split at H;rename_i b ys hb U;have⟨⟨z,T⟩,C⟩:=IM hu hb;have⟨news,k,m⟩:=E7 I1 U T.pos Z;split at H;cases w;cases w;rename_i t' ak;split at H;rename_i xs q;have⟨A,hK⟩:=H;have D:=xT C A;have⟨e1,e2⟩:=Y1 q;subst e1;simp only at e2;subst e2;generalize a.eval s=u at *;generalize a.eval x=v at *;have⟨s2,e,al,E⟩:=(show ∃s:Sl,u=aK s/\s.cap=s.len/\Rd γ.M (.row t') xs [u]from L);subst e;have⟨s3,e,f,ai,cells,i,y⟩:=E.rowC I.ag;have e':s2=s3:=by cases s2;cases s3;simp only[aK,zbc]at e;simp[e]
 subst e';have l:cells.length=s2.len*sz t':=by rw[f];exact i.1
 intro B J;by_cases hm:ys.length=0;have V:ys=[]:=za4 hm;subst V;have ab:news=[]:=za4 (by rw[k.1];simp);subst ab;have hr:=Y0 (P:=P) (ty:=o.type) T (s:=s2) (h':=h) (m B J) φ (λp hp=>by simp[storeCells]) (λ_=>rfl);refine⟨_,J,h,hr,_,γ,hK,?_,I,Gx.refl _ _⟩;rw[zbi];exact E;have⟨cp,j,hr,ac,ah,aj,N⟩:=Xc (P:=P) (ty:=o.type) (base:=0) T l (λB d=>Yz y l T.pos B d) m (ϖ f A) (ϖ f D) (Nat.zero_le _) ω B J;have⟨I2,g2,aa⟩:=I.newFrozen j el;refine⟨_,J+1,_,hr,_,_,hK,?_,I2,g2⟩;have G:=((i.append k).mono g2.1).rd (b:=h.size) (o:=0) (c:=cp) (cs:=j) aa (by rw[zcn,zah,<-f];exact N) (by rw[zah,<-f];exact⟨ϖ f D,ac⟩);rw[zah,<-f]at G;exact G;cases H;cases H;cases H;cases H;cases H
def yU(P:EM)(gl:Fr)(tr:Nw)(o:n9)(ρ:n7->Option AV)(cs:CS)(K:AV->Prop):Prop:=
 match o.op with
 |.call c=>match c.callee with
  |.value x=>match rK x with
   |some f=>bif zy P f then(match AW P tr f,oK ρ c.args.toList with
    |some (ts,rt),some vs=>match jz cs ts vs with
     |some args=>PC P gl f args rt λr=>K (pJ rt r)
     |none=>False
    |_,_=>False)else False
   |none=>False
  |_=>False
 |_=>False
def MR(j:Fr.le gl M0){ρ:n7->Option AV}{K:AV->Prop}(H:yU P gl tr o ρ cs K):∀(γ:Gh) (h:zc) (a:Act) (Y:CS),Inv h0 W M0 (Y++cs) γ h->(∀x av,ρ x=Td av->DP γ av (a.eval x))->oX h0 W M0 P o a γ h (Y++cs) Te K:=by
 intro γ h a Y I u;unfold yU at H;split at H;rename_i c p;split at H;rename_i x t;split at H;rename_i f n;cases hcal:zy P f with
 |false=>rw[hcal]at H;cases H
 |true=>
  rw[hcal]at H;simp only[zK]at H;split at H;rename_i ts y vs z i;split at H;rename_i args b;intro B d;have e:=wK n;subst e;have k:Inv h0 W M0 cs γ h:=I.sub ξ;have w:=xg k.fz b (tH u i);refine .inr (.inr ⟨f,c.args.map a.eval,v7 p t hcal rfl _,?_⟩);have m:c.args.map a.eval=(c.args.toList.map a.eval).toArray:=by rw[<-zdx]
  rw[m];refine(wF j H I w).mono ?_;rintro v h' ⟨r,γ',h1,h2,q,l,_⟩;exact⟨_,γ',h1,h2,q,l⟩;cases H;cases H
 cases H;cases H;cases H
def Ot(k:Fr.le gl M0){ρ:n7->Option AV}{b:Bool}{K:AV->Prop}(H:pa P gl tr o ρ b cs K)(hb:b=Ta):∀(γ:Gh) (h:zc) (a:Act) (Y:CS),Inv h0 W M0 (Y++cs) γ h->(∀x av,ρ x=Td av->DP γ av (a.eval x))->oX h0 W M0 P o a γ h (Y++cs) Te K:=by
 intro γ h a Y I u;unfold pa at H;split at H;rename_i c q;split at H;rename_i x t;split at H;rename_i f n;cases hcal:zy P f with
 |false=>rw[hcal]at H;cases H
 |true=>
  rw[hcal]at H;simp only[zK]at H;split at H;rename_i ts z vs A j;split at H;rename_i args i;have⟨J,h1,h2⟩:=H;intro B d;have e:=wK n;subst e;have l:Inv h0 W M0 cs γ h:=I.sub ξ;have w:=xg l.fz i (tH u j);refine .inr (.inr ⟨f,c.args.map a.eval,v7 q t hcal rfl _,?_⟩);have m:c.args.map a.eval=(c.args.toList.map a.eval).toArray:=by rw[<-zdx]
  rw[m];refine(wF k (h1 hb) I w).mono ?_;rintro v h' ⟨r,γ',g1,g2,y,p,_⟩;exact⟨_,γ',h2 r (λ_=>g1),g2,y,p⟩;cases H;cases H
 cases H;cases H;cases H
def Oq(i:o.op=.alloc t){z:Value}(hz:VQ P t=Td z)(b:iY (z.cells.toList.map .v)=Tc):∀(γ:Gh) (h:zc) (a:Act) (Y:CS),Inv h0 W M0 (Y++cs) γ h->ya d (Y++cs)=Ta->oX h0 W M0 P o a γ h (Y++cs) (Td (d,.box (z.cells.toList.map .v))) (· = .g (.a (.box d 0))):=by intro γ h a Y I j B e;refine .inl ⟨.pointer (Td ⟨h.size,0,Te⟩),e,h.push (.cells z.cells t),?_,_,lD γ d h.size,rfl,?_,?_,nG _ _ _⟩;have f:=Wi hz h B e;simp only[hV,i];refine J7 ?_;unfold Instr.alloc;rw[DM,f];simp only[D0];rw[DM,yH];rfl;simp only[DP,PT,DH,Ql];have:=Inv.newBox (C:=[]) (R:=Y++cs) (ψ I) (c:=d) j (Qo γ z.cells.toList) (yO d _) b t;simpa[yg,oh]using this
def OV{x:n7}(i:o.op=.box t x){l:List AA}(f:jD d l=Tc)(b:iY l=Tc):∀(γ:Gh) (h:zc) (a:Act) (Y:CS),Inv h0 W M0 (Y++cs) γ h->ya d (Y++cs)=Ta->Fk (DH γ) l (a.eval x).cells.toList->oX h0 W M0 P o a γ h (Y++cs) (Td (d,.box l)) (· = .g (.a (.box d 0))):=by intro γ h a Y I k j B e;refine .inl ⟨.pointer (Td ⟨h.size,0,Te⟩),e,h.push (.cells (a.eval x).cells t),?_,_,lD γ d h.size,rfl,?_,?_,nG _ _ _⟩;simp only[hV,i];refine J7 ?_;unfold Instr.box;rw[DM,yH];rfl;simp only[DP,PT,DH,Ql];have:=Inv.newBox (C:=[]) (R:=Y++cs) (ψ I) (c:=d) k j f b t;simpa[yg,oh]using this
def yx(o:n9):Bool:=match o.op with
 |.call c=>match c.callee with
  |.builtin .append=>Ta
  |.builtin _=>Tc
  |_=>Ta
 |_=>Tc
def nc:List AA->Bool
 |[]=>Ta
 |.v _::l=>nc l
 |.d _ _::l=>nc l
 |.elt _ _ _::l=>nc l
 |.dc _ _::l=>nc l
 |_::_=>Tc
def Yj{c:Nat}:∀{l:List AA},nc l=Ta->jD c l=Tc
 |[],_=>rfl
 |.v _::l,h=>by simp only[jD,kZ,zL];exact Yj (l:=l) h
 |.d _ _::l,h=>by simp only[jD,kZ,zL];exact Yj (l:=l) h
 |.elt _ _ _::l,h=>by simp only[jD,kZ,zL];exact Yj (l:=l) h
 |.dc _ _::l,h=>by simp only[jD,kZ,zL];exact Yj (l:=l) h
 |.box _ _::_,h=>by cases h
 |.own _::_,h=>by cases h
 |.oelt _ _ _ _::_,h=>by cases h
def HF:∀l:List Value,nc (l.map .v)=Ta
 |[]=>rfl
 |_::l=>HF l
def r9(P:EM)(gl:Fr)(tr:Nw)(o:n9)(e:q9)(ch:qj)(cs:CS)(K:AV->Option (Nat×Ch)->Prop):Prop:=
 match o.op with
 |.alloc t=>match ch,o.dst,VQ P t with
  |[],Td d,some z=>bif ya d cs then(bif iY (z.cells.toList.map .v)then False else K (.g (.a (.box d 0))) (Td (d,.box (z.cells.toList.map .v))))else False
  |_,_,_=>False
 |.box t x=>match ch,o.dst,iG e [] x with
  |[],Td d,some av=>match qH av with
   |some l=>bif ya d cs then(bif nc l then(bif iY l then False else K (.g (.a (.box d 0))) (Td (d,.box l)))else False)else False
   |none=>False
  |_,_,_=>False
 |.buildSlice t n f=>match ch,mX (iG e []) f.toList with
  |[],some ps=>DR P tr t n ps cs λav=>K av Te
  |_,_=>False
 |.call c=>match c.callee with
  |.builtin .append=>match ch,c.args.toList,c.argTypes.toList with
   |[],[s,x],[t,tx]=>match iG e [] s,iG e [] x with
    |some bv,some sv=>bif Dk bv then nP P tr t tx bv sv 0 [] cs (λav _ _=>K av Te)else False
    |_,_=>False
   |_,_,_=>False
  |.builtin _=>mT P gl o e ch cs λav=>K av Te
  |_=>match ch with
   |[]=>yU P gl tr o (iG e []) cs λav=>K av Te
   |_=>match W8 e ch with
    |some (Td b)=>pa P gl tr o (iG e ch) b cs λav=>K av Te
    |_=>False
 |_=>mT P gl o e ch cs λav=>K av Te
structure Spec (h0:zc) (W:Nat->Prop) (M0:Fr) (P:EM) (o:n9) (e:q9) (ch:qj) (cs:CS) (nb:Option (Nat×Ch)) (Kan:AV->Prop) (eat:Option (Nat×Ch):=Te):Prop where
 yes:∀(n:Nat) (γ:Gh) (h:zc) (a:Act) (Y:CS),Fn n e γ a->Inv h0 W M0 (Y++cs) γ h->(∀b,nb=Td b->ya b.1 (Y++cs)=Ta)->(∀c,eat=Td c->c∈Y++cs/\∀x∈Y++cs,x.1=c.1->x.2=c.2)->(∀d,o.dst=Td d->eat≠Te->ya d (Y++cs)=Ta)->CT (ql a) ch->oX h0 W M0 P o a γ h (Y++cs) nb Kan eat
 no:∀(n:Nat) (γ:Gh) (a:Act),Fn n e γ a->¬CT (ql a) ch->nb=Te/\eat=Te/\∃av,Kan av
 box:∀b,nb=Td b->ya b.1 cs=Ta/\o.dst=Td b.1/\(((∃l,b.2=.box l/\nc l=Ta)/\Kan=(· = .g (.a (.box b.1 0))))\/((∃e t xs,b.2=.row e t xs)/\Kan=(· = .g (.a (.own b.1)))))
 dn:eat≠Te->∃d,o.dst=Td d/\ya d cs=Ta
theorem Spec.ofQ(c:Fr.le gl M0){e:q9}{ch:qj}{K:AV->Option (Nat×Ch)->Prop}(H:mT P gl o e ch cs λav=>K av Te):∃i Kan,Spec h0 W M0 P o e ch cs i Kan/\(∀av,Kan av->K av i)/\∃av,Kan=(· = av):=by have⟨av,h1,h2⟩:=Kh (h0:=h0) (W:=W) (M0:=M0) c H;refine⟨Te,(· = av),⟨λn γ h a Y f I _ _ _ j=>?_,λn γ a f j=>⟨rfl,rfl,av,rfl⟩,λb hb=>(ε hb),λl=>absurd rfl l⟩,λp e=>e ▸ h1,av,rfl⟩;have⟨v,k,m⟩:=h2 n γ a h f (I.sub ξ) j;exact λB d=>.inl ⟨v,d,h,m B d,av,γ,rfl,k,I,Gx.refl _ _⟩
def ZX(q:Fr.le gl M0){e:q9}{ch:qj}{K:AV->Option (Nat×Ch)->Prop}(H:r9 P gl tr o e ch cs K):∃u N,Spec h0 W M0 P o e ch cs u N/\(∀av,N av->K av u)/\(yx o=Tc->∃av,N=(· = av)):=by
 unfold r9 at H;split at H
 ·rename_i t p;split at H
  ·rename_i d z y hz;cases hR:ya d cs with
   |false=>rw[hR]at H;cases H
   |true=>
    rw[hR]at H;cases hit:iY (z.cells.toList.map .v)with
    |true=>rw[hit]at H;cases H
    |false=>
    rw[hit]at H;refine⟨_,(· = .g (.a (.box d 0))),⟨λn γ h a Y j I m _ _ _=>Oq p hz hit γ h a Y I (m _ rfl),λn γ a j k=>absurd trivial k,λb hb=>?_,λi=>absurd rfl i⟩,λav e=>e ▸ H,λ_=>⟨_,rfl⟩⟩;cases hb;exact⟨hR,y,.inl ⟨⟨_,rfl,HF _⟩,rfl⟩⟩
  cases H
 ·rename_i t x p;split at H
  ·rename_i d av y A;split at H
   ·rename_i l M;cases hR:ya d cs with
    |false=>rw[hR]at H;cases H
    |true=>
     rw[hR]at H;cases hm:nc l with
     |false=>rw[hm]at H;cases H
     |true=>
      rw[hm]at H;cases hit:iY l with
      |true=>rw[hit]at H;cases H
      |false=>
      rw[hit]at H;refine⟨_,(· = .g (.a (.box d 0))),⟨λn γ h a Y j I m _ _ _=>OV p (Yj hm) hit γ h a Y I (m _ rfl) (wx M (qe j (c:=[]) trivial A)),λn γ a j k=>absurd trivial k,λb hb=>?_,λi=>absurd rfl i⟩,λav e=>e ▸ H,λ_=>⟨_,rfl⟩⟩;cases hb;exact⟨hR,y,.inl ⟨⟨_,rfl,hm⟩,rfl⟩⟩
   cases H
  cases H
 rename_i t n F p;split at H;rename_i ps E;have⟨av,h1,h2⟩:=Nq (h0:=h0) (W:=W) (M0:=M0) p E H;exact⟨Te,(· = av),⟨λn γ h a Y j I _ _ _ _=>h2 γ h a Y I λx av i=>qe j (c:=[]) trivial i,λn γ a j k=>absurd trivial k,λb hb=>(ε hb),λi=>absurd rfl i⟩,λN e=>e ▸ h1,λ_=>⟨_,rfl⟩⟩;cases H;rename_i c p;split at H;rename_i L;have f:yx o=Ta:=by simp[yx,p,L]
 split at H;rename_i s x t tx r w;split at H;rename_i bv sv C B;cases hdc:Dk bv with
 |false=>rw[hdc]at H;cases H
 |true=>rw[hdc]at H;simp only[zK]at H;exact⟨Te,λav=>K av Te,⟨λn γ h a Y j I _ _ _ _=>Vu p L r w hdc H C B γ h a Y I λx av i=>qe j (c:=[]) trivial i,λn γ a j k=>absurd trivial k,λb hb=>(ε hb),λi=>absurd rfl i⟩,λav e=>e,λm=>ς f m⟩
 cases H;cases H;have⟨u,N,h1,h2,D⟩:=Spec.ofQ (h0:=h0) (W:=W) (M0:=M0) q H;exact⟨u,N,h1,h2,λ_=>D⟩;rename_i J G;have f:yx o=Ta:=by simp only[yx,p]
 split at H;exact⟨Te,λav=>K av Te,⟨λn γ h a Y j I _ _ _ _=>MR q H γ h a Y I λx av i=>qe j (c:=[]) trivial i,λn γ a j k=>absurd trivial k,λb hb=>(ε hb),λi=>absurd rfl i⟩,λav e=>e,λm=>ς f m⟩;split at H;rename_i b hb;refine⟨Te,λav=>K av Te,⟨λn γ h a Y j I _ _ _ k=>Ot q H (Zj j hb k) γ h a Y I λx av i=>qe j k i,λn γ a j k=>⟨rfl,rfl,?_⟩,λb hb=>(ε hb),λi=>absurd rfl i⟩,λav e=>e,λm=>ς f m⟩;have:=yX j hb k;simp only[zad]at this;exact(Bw (h0:=#[]) (W:=λ_=>False) (M0:=λ_=>Te) H).1 this;cases H;have⟨u,N,h1,h2,D⟩:=Spec.ofQ (h0:=h0) (W:=W) (M0:=M0) q H;exact⟨u,N,h1,h2,λ_=>D⟩
def uh:List Nat->Nat->Option (Option Nat)
 |[],_=>Te
 |x::l,k=>bif Nat.ble 2000000 x then(bif mv (x-2000000) k then Td Te else uh l k)else(bif Nat.ble 1000000 x then(bif mv ((x-1000000) / 1000) k then Td (Td ((x-1000000) % 1000))else uh l k)else uh l k)
def qM(k:Nat):List It->Option (Nat×Ch)
 |[]=>Te
 |i::l=>bif (match i.us with
  |some j=>mv j k
  |none=>Tc)then(match i.nb with
  |some b=>Td b
  |none=>qM k l)else qM k l
def AO{k:Nat}{c:Nat×Ch}:∀{l:List It},qM k l=Td c->∃i∈l,i.nb=Td c/\i.us=Td k
 |[],h=>by cases h
 |i::l,h=>by
  simp only[qM]at h;cases hb:(match i.us with
   |some j=>mv j k
   |none=>Tc)with
  |false=>rw[hb]at h;have⟨x,f,q⟩:=AO h;exact⟨x,zan _ f,q⟩
  |true=>rw[hb]at h;simp only[zK]at h;split at h;rename_i b e;cases h;refine⟨i,zat,e,?_⟩;split at hb;rename_i j m;rw[m,zao hb];cases hb;have⟨x,f,q⟩:=AO h;exact⟨x,zan _ f,q⟩
def BO(P:EM)(tr:Nw)(t:Nw)(n:Nat)(K:Ch->Prop):Prop:=bif mv n 0 then(match m8 P t with
 |some el=>match ni P tr 8 el,pN P el (0*yo P el)with
  |some ty,Td []=>bif mv (yo P el) (sz ty)then(bif Nat.ble (0*yo P el) 16777216 then(bif Nat.blt 0 (yo P el)then K (.row el ty [])else False)else False)else False
  |_,_=>False
 |none=>False)else False
def VL{b:Array (Nat×n7)}(m:o.op=.buildSlice t n b)(k:b.toList=[]){K:Ch->Prop}(H:BO P tr t n K):∃el ty,K (.row el ty [])/\∀(γ:Gh) (h:zc) (a:Act) (L:CS),Inv h0 W M0 L γ h->ya d L=Ta->ExA P (hV a.eval o) h (kj h0 W M0 L γ λav l c=>av=.g (.a (.own d))/\l=[(d,.row el ty [])]/\c=Td d):=by
 unfold BO at H;cases hn:mv n 0 with
 |false=>rw[hn]at H;cases H
 |true=>
  rw[hn]at H;obtain rfl:=zao hn;simp only[zK]at H;split at H;rename_i el i;split at H;rename_i ty e f;cases h1:mv (yo P el) (sz ty)with
  |false=>rw[h1]at H;cases H
  |true=>
   rw[h1]at H;cases h2:Nat.ble (0*yo P el) 16777216 with
   |false=>rw[h2]at H;cases H
   |true=>
    rw[h2]at H;cases h3:Nat.blt 0 (yo P el)with
    |false=>rw[h3]at H;cases H
    |true=>rw[h3]at H;refine⟨el,ty,H,λγ h a L I j=>?_⟩;refine Eg (tr:=tr) (ps:=[]) m (ρ:=λ_=>Te) (π k) (C:=[]) (R:=L) (d:=d) ?_ (ψ I) (λx av p=>ε p);unfold Xb;rw[i];simp only;rw[e,f];simp only;rw[h1,h2,h3,j];simp[oe,Xa,sH,X6,frzL,yg]
  cases H;cases H
def Bl(P:EM)(tx:Nw)(ty:Ty):AV->Option (List (El ty))
 |.g (.a (.d (.row t) xs))=>match P.underlying tx with
  |some (.slice _)=>Qz (.row t) (.row ty) xs
  |_=>Te
 |.g (.a (.dc t xs))=>match P.underlying tx with
  |some (.slice _)=>Qz (.row t) (.row ty) xs
  |_=>Te
 |.g (.a (.v (.slice Te 0 0)))=>match P.underlying tx with
  |some (.slice _)=>Td []
  |_=>Te
 |_=>Te
def Ck(P:EM)(tr:Nw)(t tx:Nw)(e:Nw)(c:Ty)(xs:List (El c))(sv:AV)(K:Nw->(ty:Ty)->List (El ty)->Prop):Prop:=match m8 P t with
 |some el=>match ni P tr 8 el with
  |some ty=>match vP P el ty,Bl P tx ty sv with
   |some b,some ys=>match Qz (.row c) (.row ty) xs with
    |some xs=>bif mv e el then((xs.length+ys.length)*b<=140737488355328/\K el ty (xs++ys))else False
    |none=>False
   |_,_=>False
  |none=>False
 |none=>False
theorem U4{L:CS}{ty:Ty}{ys:List (El ty)}(h:Bl P tx ty sv=Td ys):oD P L tx ty sv=Td ys:=by unfold Bl at h;split at h;rename_i t xs;split at h;rename_i e b;simp only[oD,b,aa1];exact h;cases h;rename_i t xs;split at h;rename_i e b;simp only[oD,b,aa1];exact h;cases h;split at h;rename_i e b;simp only[oD,b];exact h;cases h;cases h
theorem HZ{c:Nat}:∀{l:CS},ya c l=Ta->yg c l=l
 |[],_=>rfl
 |(j,k)::l,h=>by
  simp only[ya]at h;cases hb:(cond (mv j c) Ta (kP c k))with
  |true=>rw[hb]at h;cases h
  |false=>rw[hb]at h;simp only[yg];rw[hb,zL,HZ h]
theorem yE{c d:Nat}:∀{l:CS},ya c l=Ta->ya c (W6 d l)=Ta
 |[],_=>rfl
 |(j,k)::l,h=>by
  simp only[ya]at h;cases hb:(cond (mv j c) Ta (kP c k))with
  |true=>rw[hb]at h;cases h
  |false=>
   rw[hb]at h;simp only[W6];cases mv j d with
   |true=>exact yE h
   |false=>simp only[zL,ya];rw[hb];exact yE h
def EX{c:Nat×Ch}:∀{l:CS},c∈l->(∀x∈l,x.1=c.1->x.2=c.2)->Yv l c.1=Td c.2
 |[],h,_=>ε h
 |(j,k)::l,h,hu=>by
  simp only[Yv];cases hb:mv c.1 j with
  |true=>have:=zao hb;have:=hu (j,k) zat this.symm;simp only at this;rw[zK,this]
  |false=>rw[zL];obtain rfl|h:=zal.1 h;simp at hb;exact EX h λx b=>hu x (zan _ b)
def Vf{c:Call}(G:o.op=.call c)(O:c.callee=.builtin .append){s x:n7}(f:c.args.toList=[s,x])(l:c.argTypes.toList=[t,tx]){n:Nw}{z:Ty}{xs:List (El z)}{K:Nw->(ty:Ty)->List (El ty)->Prop}(H:Ck P tr t tx n z xs sv K):∃el ty ys,K el ty ys/\∀(γ:Gh) (h:zc) (a:Act) (L:CS) (k:Nat),Inv h0 W M0 L γ h->Yv L k=Td (.row n z xs)->DP γ (.g (.a (.own k))) (a.eval s)->DP γ sv (a.eval x)->ExA P (hV a.eval o) h (kj h0 W M0 [] γ λav p q=>av=.g (.a (.own d))/\p=(d,.row el ty ys)::yg d (W6 k L)/\q=Td d):=by
 unfold Ck at H;split at H;rename_i el u;split at H;rename_i ty A;split at H;rename_i b ys hb y;split at H;rename_i m i;cases hee:mv n el with
 |false=>rw[hee]at H;cases H
 |true=>
  rw[hee]at H;have⟨j,C⟩:=H;refine⟨el,ty,m++ys,C,λγ h a L k I F M N=>?_⟩;have w:nP P tr t tx (.g (.a (.own k))) sv d L [] (λav p q=>av=.g (.a (.own d))/\p=(d,.row el ty (m++ys))::yg d (W6 k L)/\q=Td d):=by unfold nP;rw[u];simp only;rw[A];simp only;rw[hb,zbi,U4 y];simp only;rw[F];simp only;rw[i];simp only;rw[hee];first|exact⟨j,rfl,rfl,rfl⟩|exact⟨j,trivial,trivial,trivial⟩|exact⟨j,ξ⟩
  have:=Ga (ty':=o.type) w (ψ I) M N;intro B e;have⟨v,J,h',r,E⟩:=this B e;refine .inl ⟨v,J,h',?_,E⟩;have D:hV a.eval o=(zaj c.argTypes o.type (c.args.map a.eval) >>= λx=>(zd3 (zd8 x):Sem Next)):=by simp only[hV,G,resolve,O];rfl
  rw[D,toList_eq f,toList_eq l];refine J7 ?_;simpa using r
 cases H;cases H;cases H;cases H
def Bz(P:EM)(tr:Nw)(o:n9)(k:Nat)(e:q9)(b:List It)(cs:CS)(own:Bool)(K:AV->Option (Nat×Ch)->Option (Nat×Ch)->Prop):Prop:=
 match o.op,o.dst with
 |.buildSlice t n parts,some d=>bif own then(bif ya d cs then(match parts.toList with
  |[]=>BO P tr t n λch=>K (.g (.a (.own d))) (Td (d,ch)) Te
  |_=>False)else False)else False
 |.call c,some d=>match c.callee,c.args.toList,c.argTypes.toList,qM k b with
  |.builtin .append,[s,x],[t,tx],Td (c0,.row e0 t0 xs)=>match iG e [] s,iG e [] x with
   |some (.g (.a (.own c1))),some sv=>bif mv c1 c0 then(bif ya d cs then Ck P tr t tx e0 t0 xs sv (λel ty ys=>bif own then K (.g (.a (.own d))) (Td (d,.row el ty ys)) (Td (c0,.row e0 t0 xs))else K (.g (.a (.d (.row ty) ys))) Te (Td (c0,.row e0 t0 xs)))else False)else False
   |_,_=>False
  |_,_,_,_=>False
 |_,_=>False
def YF{k:Nat}{e:q9}{IL:List It}{own:Bool}{K:AV->Option (Nat×Ch)->Option (Nat×Ch)->Prop}(H:Bz P tr o k e IL cs own K):∃nb eat av,Spec h0 W M0 P o e [] cs nb (· = av) eat/\K av nb eat/\∀c,eat=Td c->qM k IL=Td c:=by
 unfold Bz at H;split at H;rename_i t n Z d T r;cases own with
 |false=>cases H
 |true=>
  simp only[zK]at H;cases hR:ya d cs with
  |false=>rw[hR]at H;cases H
  |true=>rw[hR]at H;simp only[zK]at H;split at H;rename_i hp;have⟨el,ty,L,f⟩:=VL (h0:=h0) (W:=W) (M0:=M0) (d:=d) T hp H;refine⟨_,Te,_,⟨λn γ h a Y j I w _ _ _=>?_,λn γ a j l=>absurd trivial l,λb hb=>?_,λf=>absurd rfl f⟩,L,λc m=>ε m⟩;refine(f γ h a (Y++cs) I (w _ rfl)).mono ?_;rintro v h' ⟨av,C',c,γ',⟨rfl,rfl,rfl⟩,h2,h3,h4⟩;exact⟨_,γ',rfl,h2,h3,h4⟩;cases hb;exact⟨hR,r,.inr ⟨⟨_,_,_,rfl⟩,rfl⟩⟩;cases H
 ·rename_i c d T r;split at H
  ·rename_i s x t tx c0 O S xs m p D J;split at H
   ·rename_i c1 sv U Q;cases hb:mv c1 c0 with
    |false=>rw[hb]at H;cases H
    |true=>
     obtain rfl:=zao hb;rw[hb]at H;simp only[zK]at H;cases hR:ya d cs with
     |false=>rw[hR]at H;cases H
     |true=>
      rw[hR]at H;simp only[zK]at H;have⟨el,ty,ys,L,f⟩:=Vf (h0:=h0) (W:=W) (M0:=M0) (d:=d) T m p D H;have run:∀(n:Nat) (γ:Gh) (h:zc) (a:Act) (Y:CS),Fn n e γ a->Inv h0 W M0 (Y++cs) γ h->(∀E,(Td (c1,Ch.row O S xs):Option (Nat×Ch))=Td E->E∈Y++cs/\∀x∈Y++cs,x.1=E.1->x.2=E.2)->ya d (Y++cs)=Ta ->
       ExA P (hV a.eval o) h λv h'=>∃γ',DP γ' (.g (.a (.own d))) v/\Inv h0 W M0 ((d,.row el ty ys)::W6 c1 (Y++cs)) γ' h'/\Gx (Td d) γ γ':=by
       intro n γ h a Y j I B w;have⟨h1,h2⟩:=B _ rfl;have hf:=EX h1 h2;refine(f γ h a (Y++cs) c1 I hf (qe j (c:=[]) trivial U) (qe j (c:=[]) trivial Q)).mono ?_;rintro v h' ⟨av,C',E,γ',⟨rfl,rfl,rfl⟩,C,q,u⟩;rw[zbi,HZ (yE w)]at q;exact⟨γ',C,q,u⟩
      cases own with
      |true=>refine⟨Td (d,.row el ty ys),Td (c1,.row O S xs),.g (.a (.own d)),⟨λn γ h a Y j I w B z _=>?_,λn γ a j l=>absurd trivial l,λb hb=>?_,λ_=>⟨d,r,hR⟩⟩,L,λc m=>by cases m;exact J⟩;refine(run n γ h a Y j I B (w _ rfl)).mono ?_;rintro v h' ⟨γ',C,q,u⟩;exact⟨_,γ',rfl,C,q,u⟩;cases hb;exact⟨hR,r,.inr ⟨⟨_,_,_,rfl⟩,rfl⟩⟩
      |false=>refine⟨Te,Td (c1,.row O S xs),.g (.a (.d (.row ty) ys)),⟨λn γ h a Y j I w B z _=>?_,λn γ a j l=>absurd trivial l,λb hb=>(ε hb),λ_=>⟨d,r,hR⟩⟩,L,λc m=>by cases m;exact J⟩;have F:=z d r ξ;refine(run n γ h a Y j I B F).mono ?_;rintro v h' ⟨γ',C,q,u⟩;have⟨y,N,g2⟩:=Inv.freeze1 (A:=[]) q;have V:Rd y.M (.row ty) ys [aK (y.σ d)]:=N.den (d,.fz ty ys) ξ;have l:v=aK (γ'.σ d):=C;have hσ:y.σ d=γ'.σ d:=(g2.2 d ξ).2;have G:=Yw (yE (d:=c1) F);refine⟨_,{ y with β:=γ.β,σ:=γ.σ },rfl,?_,?_,⟨u.1.trans g2.1,λi _=>⟨rfl,rfl⟩⟩⟩;show Rd y.M (.row ty) ys [v];rw[l,<-hσ];exact V;refine N.rest (by simp[oh]) (c:=Td d) ⟨Fr.le.refl _,λi hi=>?_⟩ (λx f=>⟨(G x f).1,(G x f).2⟩) (λx f b hb=>⟨rfl,(N.sep x (by simp;exact .inr f) b hb).2⟩) N.ag (λ_ _ _=>rfl) (zac _) (λ_ _=>rfl);have a1:=u.2 i hi;have a2:=g2.2 i ξ;exact⟨a1.1.symm.trans a2.1.symm,a1.2.symm.trans a2.2.symm⟩
   cases H
  cases H
 cases H
def yq(ops:Array n9)(m:Nat):List Nat:=w9 (ops.toList.take m)
def Jj(av:AV):List Nat->Bool
 |[]=>Ta
 |s::l=>bif l6 s av then Tc else Jj av l
def Ij{av:AV}:∀{l:ac0},Jj av l=Ta->∀s∈l,l6 s av=Tc
 |[],_,s,b=>ε b
 |x::l,h,s,b=>by
  simp only[Jj]at h;cases hb:l6 x av with
  |true=>rw[hb]at h;cases h
  |false=>rw[hb]at h;obtain rfl|b:=zal.1 b;exact hb;exact Ij h s b
def lz(S:List Nat):q9->q9
 |[]=>[]
 |(i,[],v)::e=>bif Fm S i then lz S e else(bif Jj v S then(i,[],v)::lz S e else lz S e)
 |(_,_::_,_)::e=>lz S e
def xh{S:ac0}{x:Nat×qj×AV}:∀{e:q9},x∈lz S e->x∈e/\x.2.1=[]/\x.1∉S/\Jj x.2.2 S=Ta
 |[],h=>ε h
 |(i,[],v)::e,h=>by
  simp only[lz]at h;cases hm:Fm S i with
  |true=>rw[hm]at h;exact⟨zan _ (xh h).1,(xh h).2⟩
  |false=>
   rw[hm]at h;simp only[zL]at h;cases hn:Jj v S with
   |false=>rw[hn]at h;exact⟨zan _ (xh h).1,(xh h).2⟩
   |true=>rw[hn]at h;obtain rfl|h:=zal.1 h;exact⟨zat,rfl,Yh hm,hn⟩;exact⟨zan _ (xh h).1,(xh h).2⟩
 |(_,_::_,_)::e,h=>⟨zan _ (xh (e:=e) h).1,(xh (e:=e) h).2⟩
def BE(ops:Array n9)(o:n9):qj->Bool
 |[]=>Ta
 |[(g,_)]=>match o.guard with
  |some (j,_)=>match jg ops j with
   |some g'=>mv g g'
   |none=>Tc
  |none=>Tc
 |_=>Tc
def GB:List Nat->Nat->Bool
 |[x],k=>mv x k
 |_,_=>Tc
def uV:List Nat->Nat->Bool
 |[],_=>Tc
 |x::l,k=>bif mv x k then Ta else uV l k
def F8{k:Nat}:∀{l:ac0},uV l k=Ta->k∈l
 |[],h=>by cases h
 |x::l,h=>by
  simp only[uV]at h;cases hb:mv x k with
  |true=>rw[zao hb];exact zat
  |false=>rw[hb]at h;exact zan _ (F8 h)
def oZ(ops:Array n9)(m:Nat)(o:n9)(k:Nat)(pl:Array Bool):Bool:=
 bif Nat.blt k m then(bif Yo ops k (Qe ops o) m then(bif yx o then GB (Region.ready .any ops pl) k else uV (Region.ready .any ops pl) k)else Tc)else Tc
def sC(S:List Nat)(av:AV)(b:Option (Nat×Ch)):Bool:=match b with
 |none=>Jj av S
 |some _=>Ta
def pF(pl:Array Bool):Nat->Bool
 |0=>Ta
 |k+1=>bif pl.getD k Tc then pF pl k else Tc
theorem Lo{pl:ad1}:∀{m:Nat},pF pl m=Ta->∀k,k<m->pl.getD k Tc=Ta
 |0,_,k,hk=>ω
 |m+1,h,k,hk=>by
  simp only[pF]at h;cases hb:pl.getD m Tc with
  |false=>rw[hb]at h;cases h
  |true=>
   rw[hb]at h;obtain h1|h1:=zbv k m;exact Lo h k h1;have:k=m:=ω
   subst this;exact hb
def xD(P:EM)(ρ:n7->Option AV)(o:n9):Bool:=bif mt o then(bif l7 P o then(bif Js o.op then ov ρ o.op.operands.toList else Tc)else Tc)else Tc
def kO(P:EM)(e:q9)(c:qj)(o:n9):Bool:=match o.op with
 |.pick _ _ _=>Ta
 |.move _=>Ta
 |.assign _=>Ta
 |.extract _ _=>Ta
 |.alloc _=>Tc
 |.box _ _=>Tc
 |.buildSlice _ _ _=>Tc
 |.call _=>Tc
 |.load _ _=>Tc
 |.indexAddr _ _ _=>Tc
 |_=>xD P (iG e c) o
def YY{e:q9}(h:kO P e c o=Ta):yx o=Tc:=by unfold yx;split;rename_i c b;rw[kO,b]at h;cases h;rfl
def sM(P:EM)(o:n9)(e:q9)(ch:qj)(Kan:AV->Prop):Prop:=
 ∀av,Kan av->∀(n:Nat) (γ:Gh) (a:Act),Fn n e γ a->CT (ql a) ch->∃v,DP γ av v/\∀w,(hV a.eval o).run P w=.ok (.value v) w
theorem Bk.all{α:Type}{s:Sem α}{x:α}(H:∀h,Bk P s h x)(w:Nd):s.run P w=.ok x w:=H w.heap w w.drawn
def z6d{e:q9}{K:AV->Prop}(H:mT P gl o e c cs K)(A:kO P e c o=Ta):∃av,K av/\sM P o e c (· = av):=by
 unfold mT at H;split at H;rename_i x y z q;have⟨av,h1,h2⟩:=Xd H;refine⟨av,h1,λr m n γ a f j=>?_⟩;have⟨t,O,L⟩:=h2 n γ a f j;subst m;refine⟨_,L,Bk.all λh B d=>?_⟩;simp only[hV,q,O,asBool,DM,DQ,D0];rename_i I;split at H;rename_i g G;unfold qA at H;split at H;rename_i b hb;exact⟨_,H,λr m n γ a f j=>⟨_,m ▸ (show DP γ (.g (.a (.v (.bool b)))) _ from rfl),Bk.all λh=>IE hb (λx av D=>qe f j D) h⟩⟩;split at H;rename_i b hb;exact⟨_,H,λr m n γ a f j=>⟨_,m ▸ (show DP γ (.g (.a (.v (.bool b)))) _ from rfl),Bk.all λh=>GG hb (λx av D=>qe f j D) h⟩⟩;split at H;rename_i t b off w;exfalso;unfold CZ at w;split at w;rename_i t' x q;rw[kO,q]at A;cases A;cases w;split at H;rename_i b off n len z w;exfalso;unfold AN at w;split at w;rename_i t' x i q;rw[kO,q]at A;cases A;cases w;unfold wB at H;cases hb:xD P (iG e c) o with
 |true=>
  unfold xD at hb;rw[hb]at H;cases hfam:mt o with
  |false=>rw[hfam]at hb;cases hb
  |true=>
   cases hq:l7 P o with
   |false=>rw[hfam,hq]at hb;cases hb
   |true=>
    cases hns:Js o.op with
    |false=>rw[hfam,hq,hns]at hb;cases hb
    |true=>rw[hfam,hq,hns]at hb;simp only[zK]at hb H;have⟨v,h1,h2⟩:=vc hfam H;refine⟨_,h1,λr m n γ a f j=>⟨v,m ▸ We γ v,Bk.all λh=>?_⟩⟩;rw[Km (γ:=γ) (λx av D=>qe f j D) hns hb];exact h2 (Zj f G j) h ⟨ξ,λi hi=>absurd hi ξ⟩
 |false=>
  have E:=hb;unfold xD at E;rw[E]at H;simp only[zL]at H;unfold kO at A;split at A;rename_i x y z q;exact absurd q (I x y z);rename_i x q;rw[q]at H;simp only at H;split at H;rename_i av k;exact⟨av,H,λr m n γ a f j=>⟨_,m ▸ qe f j k,Bk.all λh=>by simp only[hV,q];exact Bk.pure _⟩⟩;cases H;rename_i x q;rw[q]at H;simp only at H;split at H;rename_i av k;exact⟨av,H,λr m n γ a f j=>⟨_,m ▸ qe f j k,Bk.all λh=>by simp only[hV,q];exact Bk.pure _⟩⟩;cases H;rename_i x i q;rw[q]at H;simp only at H;split at H;rename_i l k;split at H;rename_i ag F;refine⟨_,H,λr m n γ a f j=>?_⟩;subst m;have⟨us,C,h2⟩:=qe f j k;have⟨u,N,J⟩:=h2.get F;refine⟨u,J,Bk.all λh=>?_⟩;simp only[hV,q,C];refine Bk.val λB d=>?_;unfold Instr.extract;simp[N];cases H;rename_i b p c k;split at H;refine⟨_,H,λr m n γ a f j=>⟨_,m ▸ (show DP γ (.g (.a (.v (.bool b)))) _ from rfl),Bk.all λh=>?_⟩⟩;have⟨C,M⟩:=qe f j k;simp only[hV,q];refine Bk.val λB d=>?_;cases b with
  |true=>rw[C rfl];rfl
  |false=>rw[M rfl];rfl
  refine⟨_,H.2,λr m n γ a f j=>⟨_,m ▸ (show DP γ (.g (.a (.v (.int .i64 p)))) _ from rfl),Bk.all λh=>?_⟩⟩;have⟨C,_⟩:=qe f j k;simp only[hV,q,C (H.1.out (Zj f G j))];exact Bk.val λB d=>rfl;refine⟨_,H.2,λr m n γ a f j=>⟨_,m ▸ (show DP γ (.g (.a (.v (.int .i32 c)))) _ from rfl),Bk.all λh=>?_⟩⟩;have⟨C,_⟩:=qe f j k;simp only[hV,q,C (H.1.out (Zj f G j))];exact Bk.val λB d=>rfl;cases H;cases H;cases A;cases A;cases A;cases A;cases A;cases A;rw[hb]at A;cases A
 cases H
def QU{e:q9}{ch:qj}{K:AV->Option (Nat×Ch)->Prop}(H:r9 P gl tr o e ch cs K)(f:kO P e ch o=Ta):∃av,Spec h0 W M0 P o e ch cs Te (· = av)/\K av Te/\sM P o e ch (· = av):=by
 have q:mT P gl o e ch cs λav=>K av Te:=by unfold r9 at H;split at H;rename_i t i;rw[kO,i]at f;cases f;rename_i t x i;rw[kO,i]at f;cases f;rename_i t n ps i;rw[kO,i]at f;cases f;rename_i c i;rw[kO,i]at f;cases f;exact H
 have⟨av,h1,h2⟩:=z6d q f;refine⟨av,⟨λn γ h a Y j I _ _ _ k=>?_,λn γ a j k=>⟨rfl,rfl,av,rfl⟩,λb hb=>(ε hb),λm=>absurd rfl m⟩,h1,h2⟩;have⟨v,l,p⟩:=h2 av rfl n γ a j k;exact λB d=>.inl ⟨v,d,h,p _,av,γ,rfl,l,I,Gx.refl _ _⟩
def D5(ops:Array n9)(k:Nat)(o:n9)(j:Nat):Bool:=bif mv j k then Ta else bif qr .any ops j k then Ta else bif qr .any ops k j then Ta else match ops[j]? with
 |some b=>o.apart ops b
 |none=>Ta
def oQ(ops:Array n9)(k:Nat)(o:n9):Nat->Bool
 |0=>Ta
 |j+1=>bif D5 ops k o j then oQ ops k o j else Tc
def HH{ops:Array n9}{k:Nat}{o:n9}:∀{n:Nat},oQ ops k o n=Ta->∀j c,j<n->ops[j]?=Td c->j≠k->qr .any ops j k=Tc->qr .any ops k j=Tc->o.apart ops c=Ta
 |0,_,j,c,hj,_,_,_,_=>ω
 |n+1,h,j,c,hj,ho,h1,h2,h3=>by
  simp only[oQ]at h;cases hx:D5 ops k o n with
  |false=>rw[hx]at h;cases h
  |true=>
   rw[hx]at h;obtain b|b:=zbv j n;exact HH h j c b ho h1 h2 h3;have:j=n:=ω
   subst this;have e:mv j k=Tc:=by
    cases hb:mv j k with
    |false=>rfl
    |true=>exact absurd (zao hb) h1
   unfold D5 at hx;rw[e,h2,h3,ho]at hx;exact hx
def Ak(P:EM)(ops:Array n9)(pu:List Nat)(o:n9)(k:Nat)(e:q9)(ch:qj):Bool:=
 bif Fm pu k then(bif kO P e ch o then oQ ops k o ops.size else Tc)else Ta
def BQ(ops:Array n9)(m k:Nat):Option Nat->Bool
 |none=>Ta
 |some j=>bif Nat.blt j m then qr .any ops j k else Tc
def uC(pu:List Nat)(k:Nat):Option (Option Nat):=bif Fm pu k then Te else uh pu k
def o5:List It->List It
 |[]=>[]
 |i::l=>(match i.us with
  |some _=>{ i with nb:=Te }
  |none=>i)::o5 l
def dW(P:EM)(gl:Fr)(tr:Nw)(n:Nat)(ops:Array n9)(m:Nat)(pu:List Nat)(b:q9)(cs:CS)(Kt:List It->Prop):List Nat->Array Bool->List It->Prop
 |[],pl,IL=>bif pF pl m then Kt (o5 IL)else False
 |k::ord,pl,IL=>match ops[k]? with
  |none=>False
  |some o=>bif oZ ops m o k pl then(match Ji ops (X7 (Qe ops o) (iM IL++b)) o.guard with
   |some ch=>bif BE ops o ch then(bif wj n ch o.dst then(bif Ak P ops pu o k (X7 (Qe ops o) (iM IL++b)) ch then(match uC pu k with
    |none=>r9 P gl tr o (X7 (Qe ops o) (iM IL++b)) ch cs (λav c=>bif sC (yq ops m) av c then dW P gl tr n ops m pu b cs Kt ord (pl.setIfInBounds k Ta) (⟨k,o.dst,ch,av,c,Te⟩::IL)else False)
    |some us=>bif BQ ops m k us then(match ch with
     |[]=>Bz P tr o k (X7 (Qe ops o) (iM IL++b)) IL cs us.isSome (λav c _=>bif sC (yq ops m) av c then dW P gl tr n ops m pu b cs Kt ord (pl.setIfInBounds k Ta) (⟨k,o.dst,[],av,c,us⟩::IL)else False)
     |_=>False)else False)else False)else False)else False
   |none=>False)else False
def Nl(listed:Array Bool)(i:It):It:=match i.us with
 |some j=>bif listed.getD j Tc then { i with nb:=Te } else i
 |none=>i
theorem pP(listed:ad1)(i:It):(Nl listed i).k=i.k/\(Nl listed i).dst=i.dst/\(Nl listed i).ch=i.ch/\(Nl listed i).av=i.av/\(Nl listed i).us=i.us/\((Nl listed i).nb=i.nb\/(Nl listed i).nb=Te):=by
 unfold Nl;split;cases listed.getD _ Tc with
 |true=>exact⟨rfl,rfl,rfl,rfl,rfl,.inr rfl⟩
 |false=>exact⟨rfl,rfl,rfl,rfl,rfl,.inl rfl⟩
 exact⟨rfl,rfl,rfl,rfl,rfl,.inl rfl⟩
def iD(k:Nat)(i:It):It:=match i.us with
 |some j=>bif mv j k then { i with nb:=Te } else i
 |none=>i
def xU(k:Nat)(i:It):(iD k i).k=i.k/\(iD k i).dst=i.dst/\(iD k i).ch=i.ch/\(iD k i).av=i.av/\(iD k i).us=i.us/\((iD k i).nb=i.nb\/(iD k i).nb=Te):=by
 unfold iD;split;cases mv _ k with
 |true=>exact⟨rfl,rfl,rfl,rfl,rfl,.inr rfl⟩
 |false=>exact⟨rfl,rfl,rfl,rfl,rfl,.inl rfl⟩
 exact⟨rfl,rfl,rfl,rfl,rfl,.inl rfl⟩
def Qx(listed:Array Bool):List It->List It
 |[]=>[]
 |i::l=>bif listed.getD i.k Tc then Nl listed i::Qx listed l else Qx listed l
def xX{listed:ad1}{i:It}:∀{l:List It},i∈l->listed.getD i.k Tc=Ta->Nl listed i∈Qx listed l
 |j::l,h,hl=>by
  simp only[Qx];obtain rfl|h:=zal.1 h;rw[hl];exact zat;cases listed.getD j.k Tc with
  |true=>exact zan _ (xX h hl)
  |false=>exact xX h hl
def Xh{listed:ad1}{x:It}:∀{l:List It},x∈Qx listed l->∃i∈l,listed.getD i.k Tc=Ta/\x=Nl listed i
 |j::l,h=>by
  simp only[Qx]at h;cases hl:listed.getD j.k Tc with
  |true=>rw[hl]at h;obtain rfl|h:=zal.1 h;exact⟨j,zat,hl,rfl⟩;have⟨i,hi,q⟩:=Xh h;exact⟨i,zan _ hi,q⟩
  |false=>rw[hl]at h;have⟨i,hi,q⟩:=Xh h;exact⟨i,zan _ hi,q⟩
structure YT (h0:zc) (W:Nat->Prop) (M0:Fr) (P:EM) (n:Nat) (ops:Array n9) (m:Nat) (pu:List Nat) (e0:q9) (cs:CS) (IL:List It) (it:It) (Kan:AV->Prop):Prop where
 lt:it.k<m
 dst:jg ops it.k=it.dst
 ok:wj n it.ch it.dst=Ta
 chw:∀x∈it.ch,∀p,p<m->jg ops p=Td x.1->qr .any ops it.k p=Ta
 ex:∃o e eat,ops[it.k]?=Td o/\Ji ops e o.guard=Td it.ch/\Spec h0 W M0 P o e it.ch cs it.nb Kan eat /\
  (∀x∈e,x∈e0\/(x∈iM IL/\∀p,p<m->jg ops p=Td x.1->qr .any ops it.k p=Ta)) /\
  (Fm pu it.k=Ta->it.nb=Te/\sM P o e it.ch Kan/\oQ ops it.k o ops.size=Ta/\yx o=Tc) /\
  (∀c,eat=Td c->∃i∈IL,i.nb=Td c/\i.us=Td it.k)
 use:∀j,it.us=Td j->j<m/\qr .any ops j it.k=Ta
 men:∀av,Kan av->it.nb=Te->Jj av (yq ops m)=Ta
theorem YT.mono{pu:ac0}{j:q9}{l b:List It}{it:It}{Kan:AV->Prop}(H:YT h0 W M0 P n ops m pu j cs l it Kan)(k:∀i∈l,i∈b):YT h0 W M0 P n ops m pu j cs b it Kan:= {lt:=H.lt,dst:=H.dst,ok:=H.ok,chw:=H.chw,men:=H.men,use:=H.use,ex:=by have⟨o,e,a,h1,h2,p,u,h,f⟩:=H.ex;refine⟨o,e,a,h1,h2,p,λx r=>(u x r).imp id λ⟨w,t⟩=>⟨?_,t⟩,h,λc y=>by have⟨i,hi,q⟩:=f c y;exact⟨i,k i hi,q⟩⟩;have⟨i,hi,q⟩:=nE.1 w;exact nE.2 ⟨i,k i hi,q⟩ }
theorem Qq{i p:Nat}(hi:i∈Region.ready .any ops listed)(h:qr .any ops i p=Ta):listed.getD p Tc=Ta:=by have⟨l,f,e,k,hb,c⟩:=Region.waitsFor_spec h;have⟨_,o,j,b⟩:=mem_ready.1 hi;have:l=o:=za9 (f.symm.trans j);subst this;rw[<-c];exact b e k hb
structure Mid (h0:zc) (W:Nat->Prop) (M0:Fr) (P:EM) (n:Nat) (ops:Array n9) (m:Nat) (e0:q9) (cs:CS) (listed:Array Bool) (IL:List It) (γ:Gh) (a:Act) (h:zc):Prop where
 sat:Fn n (iM (Qx listed IL)++e0) γ a
 inv:Inv h0 W M0 (fR (Qx listed IL)++cs) γ h
theorem Xi{k:Nat}(h:ops[k]?=Td o):jg ops k=o.dst:=by simp[jg,h]
def BY{m k t:Nat}(e:k<m)(h:jg ops k=Td t):t∈yq ops m:=by
 unfold jg at h;split at h;rename_i o f;unfold yq;have b:o∈ops.toList.take m:=by rw[List.mem_iff_getElem?];exact⟨k,by rw[zbq,zA e];simpa using f⟩
 generalize ops.toList.take m=l at b;induction l with
 |nil=>cases b
 |cons x l c=>simp only[w9];obtain rfl|b:=zal.1 b;rw[h];exact zat;split;exact zan _ (c b);exact c b
 cases h
theorem sT{x:Nat×Ch}:∀{l:List It},x∈fR l↔∃i∈l,i.nb=Td x
 |[]=>by simp[fR]
 |i::l=>by simp only[fR];split;rename_i b hb;rw[zal,sT (l:=l)];constructor;rintro(rfl|⟨j,c,h⟩);exact⟨i,zat,hb⟩;exact⟨j,zan _ c,h⟩;rintro⟨j,c,h⟩;obtain rfl|c:=zal.1 c;left;rw[hb]at h;exact(za9 h).symm;exact .inr ⟨j,c,h⟩;rename_i hb;rw[sT (l:=l)];constructor;rintro⟨j,c,h⟩;exact⟨j,zan _ c,h⟩;rintro⟨j,c,h⟩;obtain rfl|c:=zal.1 c;rw[hb]at h;cases h;exact⟨j,c,h⟩
def JA{c:Nat}:∀{l:CS},(∀x∈l,x.1≠c/\kP c x.2=Tc)->ya c l=Ta
 |[],_=>rfl
 |(j,k)::l,h=>by
  have⟨h1,h2⟩:=h _ zat;simp only[ya];have:mv j c=Tc:=by
   cases hb:mv j c with
   |false=>rfl
   |true=>exact absurd (zao hb) h1
  rw[this,h2];exact JA λx b=>h x (zan _ b)
def Em{pu:ac0}{e0:q9}(ab:J8 ops m=Ta)(aL:∀x∈e0,x.2.1=[]/\x.1∉yq ops m/\Jj x.2.2 (yq ops m)=Ta){t:List It} (F:∀i∈t,∃Kan,YT h0 W M0 P n ops m pu e0 cs t i Kan/\Kan i.av) (an:∀i∈t,∀j∈t,i.k=j.k->i=j) (a7:HeadInv .any ops m listed) (M:Mid h0 W M0 P n ops m e0 cs listed t γ a h){it:It} {Kan:AV->Prop} (T:YT h0 W M0 P n ops m pu e0 cs t it Kan) (hr:it.k∈Region.ready .any ops listed):∃o e v,ops[it.k]?=Td o/\o.dst=it.dst/\Fn n e γ a/\Ji ops e o.guard=Td it.ch/\Spec h0 W M0 P o e it.ch cs it.nb Kan v/\(Fm pu it.k=Ta->it.nb=Te/\sM P o e it.ch Kan/\oQ ops it.k o ops.size=Ta/\yx o=Tc) /\(∀b,it.nb=Td b->ya b.1 (fR (Qx listed t)++cs)=Ta) /\(∀c,v=Td c->c∈fR (Qx listed t)++cs/\∀x∈fR (Qx listed t)++cs,x.1=c.1->x.2=c.2)/\(∀d,o.dst=Td d->v≠Te->ya d (fR (Qx listed t)++cs)=Ta) /\ ∀av u γ' h',Kan av->(CT (ql a) it.ch->DP γ' av u)->(¬CT (ql a) it.ch->u=undef)->Inv h0 W M0 (it.nb.toList++oh v (fR (Qx listed t)++cs)) γ' h'->Gx (it.nb.map (·.1)) γ γ' ->∀L':List It,L'.Perm ({ it with av:=av }::(Qx listed t).map (iD it.k))->Fn n (iM L'++e0) γ' (a.put it.dst u)/\Inv h0 W M0 (fR L'++cs) γ' h':=by
 have⟨o,e,v,ho,aD,sp,aA,aH,S⟩:=T.ex
 have ac:o.dst=it.dst:=by rw[<-Xi ho];exact T.dst
 have au:listed.getD it.k Ta=Tc:=(mem_ready.1 hr).1
 have ah:Fn n e γ a:=M.sat.sub λx r=>by
  obtain h1|⟨h1,h2⟩:=aA x r
  ·exact zaz _ h1
  ·refine zap _ ?_
   have⟨i,hi,q⟩:=nE.1 h1
   have⟨Ki,E,_⟩:=F i hi
   have hw:=h2 i.k E.lt (by rw[E.dst];exact q.1)
   have⟨f1,f2,f3,f4,_⟩:=pP listed i
   exact nE.2 ⟨Nl listed i,xX hi (Qq hr hw),by rw[f2];exact q.1,by rw[f3];exact q.2.1,by rw[f4];exact q.2.2⟩
 have hw:=Zt ah aD
 have ae:∀i∈Qx listed t,i.k≠it.k:=by
  intro x hi e
  obtain⟨i,B,this,rfl⟩:=Xh hi
  rw[(pP listed i).1]at e
  rw[e]at this
  have h2:=getD_both au
  rw[h2]at this
  cases this
 have ai:∀d,o.dst=Td d->ya d cs=Ta->ya d (fR (Qx listed t)++cs)=Ta:=by
  intro d h2 h1
  refine JA λx r=>?_
  obtain r|r:=zav.1 r
  ·have⟨i',hi,z⟩:=sT.1 r
   obtain⟨i,B,Z,rfl⟩:=Xh hi
   have Y:=ae _ hi
   have⟨f1,_,_,_,_,D⟩:=pP listed i
   have w:i.nb=Td x:=by
    obtain D|D:=D
    ·rw[<-D];exact z
    ·rw[D]at z;cases z
   have⟨Ki,E,am⟩:=F i B
   have⟨oi,ei,aI,N,_,O,_,_⟩:=E.ex
   have⟨_,h4,L⟩:=O.box x w
   refine⟨λe=>Y ?_,?_⟩
   ·rw[f1]
    refine wq ab i.k it.k d E.lt T.lt ?_ (by rw[T.dst,<-ac];exact h2)
    rw[Xi N,h4,e]
   ·obtain⟨⟨l,L,h6⟩,_⟩|⟨⟨e',t',ba,L⟩,_⟩:=L
    ·rw[L];exact Yj h6
    ·rw[L];rfl
  ·have⟨e1,e2⟩:=Yw h1 x r
   exact⟨λe=>e1 (ϕ e),e2⟩
 have aG:∀b,it.nb=Td b->ya b.1 (fR (Qx listed t)++cs)=Ta:=by
  intro b hb
  have⟨h1,h2,_⟩:=sp.box b hb
  exact ai b.1 h2 h1
 have aO:∀d,o.dst=Td d->v≠Te->ya d (fR (Qx listed t)++cs)=Ta:=by
  intro d hd he
  have⟨d',aP,hn⟩:=sp.dn he
  have:d'=d:=za9 (aP.symm.trans hd)
  subst this
  exact ai d' hd hn
 have aC:∀c,v=Td c->∀i∈t,∀b,i.nb=Td b->b.1=c.1->i.us=Td it.k/\b=c:=by
  intro c A i hi b hb e1
  have⟨U,H,G,I⟩:=S c A
  have⟨Ki,E,_⟩:=F i hi
  have⟨K3,T3,_⟩:=F U H
  have⟨oi,ei,aI,N,_,O,_⟩:=E.ex
  have⟨o3,e3,aQ,aE,_,ar,_⟩:=T3.ex
  have⟨_,d1,_⟩:=O.box b hb
  have⟨_,d3,_⟩:=ar.box c G
  have hk:i.k=U.k:=wq ab i.k U.k c.1 E.lt T3.lt (by rw[Xi N,d1,e1]) (by rw[Xi aE,d3])
  have:i=U:=an i hi U H hk
  subst this
  exact⟨I,za9 (hb.symm.trans G)⟩
 have aF:∀c,v=Td c->ya c.1 cs=Ta:=by
  intro c A
  have⟨U,H,G,I⟩:=S c A
  have⟨K3,T3,_⟩:=F U H
  have⟨o3,e3,aQ,aE,_,ar,_⟩:=T3.ex
  exact(ar.box c G).1
 have aY:∀x∈fR (Qx listed t),∃i∈t,i.nb=Td x:=by
  intro x r
  have⟨i',hi,z⟩:=sT.1 r
  obtain⟨i,B,Z,rfl⟩:=Xh hi
  obtain D|D:=(pP listed i).2.2.2.2.2
  ·exact⟨i,B,by rw[<-D];exact z⟩
  ·rw[D]at z;cases z
 have aj:∀c,v=Td c->c∈fR (Qx listed t)++cs/\∀x∈fR (Qx listed t)++cs,x.1=c.1->x.2=c.2:=by
  intro c A
  refine⟨zap _ ?_,λx r e=>?_⟩
  ·have⟨U,H,G,I⟩:=S c A
   have⟨K3,T3,_⟩:=F U H
   have hw:=(T3.use _ I).2
   have hl:=Qq hr hw
   refine sT.2 ⟨Nl listed U,xX H hl,?_⟩
   unfold Nl
   rw[I]
   simp only
   rw[getD_both au]
   exact G
  ·obtain r|r:=zav.1 r
   ·have⟨i,hi,w⟩:=aY x r
    rw[(aC c A i hi x w e).2]
   ·exact absurd (ϕ e) (Yw (aF c A) x r).1
 refine⟨o,e,v,ho,ac,ah,aD,sp,aH,aG,aj,aO,?_⟩
 ·intro av u γ' h' a8 hy hn I' g L' hp
  refine⟨?_,?_⟩
  ·refine⟨by rw[Zf];exact M.sat.defers,by rw[SM];exact M.sat.size,λx r=>?_⟩
   have old:∀x:Nat×qj×AV,x∈iM (Qx listed t)++e0->(∀s,it.dst=Td s->x.1≠s/\mentions x.2.1 s=Tc)->lJ l6 (it.nb.map (·.1)) x.2.2=Tc->mW γ' (ql (a.put it.dst u)) x:=by
    intro x r hs V
    have hf:=M.sat.all x r
    cases hd:it.dst with
    |none=>
     exact⟨λhv=>(hf.1 hv).gx g V,hf.2⟩
    |some s=>
     have⟨h1,h2⟩:=hs s hd
     have hv:=Qb (σ:=ql (a.put (Td s) u)) (τ:=ql a) h2 (λj hj=>qy hj)
     refine⟨λA=>?_,λA=>?_⟩
     ·rw[qy h1];exact(hf.1 (hv.1 A)).gx g V
     ·exact(qy h1).trans (hf.2 λal=>A (hv.2 al))
   have az:∀s,it.dst=Td s->s∈yq ops m:=λs hs=>BY T.lt (by rw[T.dst];exact hs)
   have af:∀ax,(Jj ax (yq ops m)=Ta)->lJ l6 (it.nb.map (·.1)) ax=Tc:=by
    intro ax h1
    cases w:it.nb with
    |none=>rfl
    |some b=>
     have⟨_,h2,_⟩:=sp.box b w
     exact Ij h1 b.1 (az _ (by rw[<-ac];exact h2))
   obtain r|r:=zav.1 r
   ·have⟨i,hi,G,I,q3⟩:=nE.1 r
    obtain rfl|J:=zal.1 (hp.subset hi)
    ·-- the new fact
     simp only at G I q3
     have ay:x.1<a.tmps.size:=by
      rw[M.sat.size]
      have:=T.ok
      rw[G]at this
      simp only[wj]at this
      cases V:mentions it.ch x.1 with
      |true=>rw[V]at this;cases this
      |false=>rw[V]at this;simpa[zdl]using this
     have aB:mentions it.ch x.1=Tc:=by
      have:=T.ok
      rw[G]at this
      simp only[wj]at this
      cases V:mentions it.ch x.1 with
      |true=>rw[V]at this;cases this
      |false=>rfl
     rw[G]
     have hv:=Qb (σ:=ql (a.put (Td x.1) u)) (τ:=ql a) aB (λj hj=>qy hj)
     refine⟨λA=>?_,λA=>?_⟩
     ·rw[xu ay,<-q3];rw[<-I]at A;exact hy (hv.1 A)
     ·rw[xu ay];rw[<-I]at A;exact hn λal=>A (hv.2 al)
    ·obtain⟨i1,aJ,rfl⟩:=zbr.1 J
     have⟨c1,c2,c3,c4,_⟩:=xU it.k i1
     rw[c2]at G
     rw[c3]at I
     rw[c4]at q3
     have J:=aJ
     obtain⟨i,B,Z,rfl⟩:=Xh J
     have⟨f1,f2,f3,f4,_⟩:=pP listed i
     have aU:=nE.2 ⟨Nl listed i,J,G,I,q3⟩
     rw[f2]at G
     rw[f3]at I
     rw[f4]at q3
     have Y:i.k≠it.k:=by rw[<-f1];exact ae _ J
     have⟨Ki,E,am⟩:=F i B
     have⟨oi,ei,aI,N,_,O,_,_⟩:=E.ex
     refine old x (zap _ aU) (λs hs=>⟨λe=>Y ?_,?_⟩) ?_
     ·exact wq ab i.k it.k s E.lt T.lt (by rw[E.dst,G,e]) (by rw[T.dst];exact hs)
     ·cases V:mentions x.2.1 s with
      |false=>rfl
      |true=>
       exfalso
       rw[<-I]at V
       have:∃y∈i.ch,y.1=s:=by
        have key:∀c:qj,mentions c s=Ta->∃y∈c,y.1=s:=by
         intro c
         induction c with
         |nil=>intro h;cases h
         |cons y c C=>
          intro h
          have⟨g,p⟩:=y
          simp only[mentions]at h
          cases hb:mv s g with
          |true=>exact⟨(g,p),zat,(zao hb).symm⟩
          |false=>
           rw[hb]at h
           have⟨y,hy,e⟩:=C h
           exact⟨y,zan _ hy,e⟩
        exact key _ V
       have⟨y,a6,aV⟩:=this
       have aZ:=E.chw y a6 it.k T.lt (by rw[T.dst,hs,aV])
       have⟨oj,aS,e',aN,aT,aM⟩:=Region.waitsFor_spec aZ
       have:=a7.closed i.k oj aS Z e' aN aT
       rw[aM,getD_both au]at this
       cases this
     ·rw[<-q3]
      cases hnbi:i.nb with
      |none=>exact af _ (E.men _ am hnbi)
      |some bi=>
       have⟨_,h4,L⟩:=O.box bi hnbi
       have Q:i.av=.g (.a (.box bi.1 0))\/i.av=.g (.a (.own bi.1)):=by
        have:=am
        obtain⟨_,L⟩|⟨_,L⟩:=L
        ·rw[L]at this;exact .inl this
        ·rw[L]at this;exact .inr this
       cases w:it.nb with
       |none=>rfl
       |some b=>
        have⟨_,h2,_⟩:=sp.box b w
        have:mv bi.1 b.1=Tc->lJ l6 (Option.map (λx=>x.fst) (Td b)) i.av=Tc:=λhq=>by
         obtain Q|Q:=Q
         ·rw[Q];exact hq
         ·rw[Q];exact hq
        apply this
        cases hb:mv bi.1 b.1 with
        |false=>rfl
        |true=>
         exfalso
         have:=zao hb
         exact Y (wq ab i.k it.k b.1 E.lt T.lt (by rw[Xi N,h4,this]) (by rw[T.dst,<-ac];exact h2))
   ·have⟨b1,b2,b3⟩:=aL x r
    exact old x (zaz _ r) (λs hs=>⟨λe=>b2 (e ▸ az s hs),π b1⟩) (af _ b3)
  ·have e1:fR ({ it with av:=av }::(Qx listed t).map (iD it.k))=it.nb.toList++fR ((Qx listed t).map (iD it.k)):=by
    simp only[fR]
    cases it.nb <;> rfl
   have ak:∀{l l':List It},l.Perm l'->(fR l).Perm (fR l'):=by
    intro l l' hp
    induction hp with
    |nil=>exact .nil
    |cons x p C=>simp only[fR];split;exact C.cons _;exact C
    |swap x y l=>
     simp only[fR]
     split <;> split <;> first|exact .swap _ _ _|exact .refl _
    |trans _ _ i1 i2=>exact i1.trans i2
   have sub:(fR ((Qx listed t).map (iD it.k))++cs).Sublist (oh v (fR (Qx listed t)++cs)):=by
    have s0:∀l:List It,(fR (l.map (iD it.k))).Sublist (fR l):=by
     intro l
     induction l with
     |nil=>exact .slnil
     |cons x l C=>
      simp only[zbk,fR]
      obtain f|f:=(xU it.k x).2.2.2.2.2
      ·rw[f]
       split
       ·exact C.cons_cons _
       ·exact C
      ·rw[f]
       simp only
       split
       ·exact C.cons _
       ·exact C
    cases he:v with
    |none=>exact(s0 _).append_right cs
    |some c=>
     show(_:CS).Sublist (W6 c.1 (fR (Qx listed t)++cs))
     have hd:W6 c.1 (fR (Qx listed t)++cs)=W6 c.1 (fR (Qx listed t))++cs:=by
      have ha:∀l m:CS,W6 c.1 (l++m)=W6 c.1 l++W6 c.1 m:=by
       intro l m
       induction l with
       |nil=>rfl
       |cons x l C=>
        simp only[zbs,W6]
        cases mv x.1 c.1 with
        |true=>exact C
        |false=>simp only[zL,C,zbs]
      have hb:∀l:CS,(∀x∈l,x.1≠c.1)->W6 c.1 l=l:=by
       intro l
       induction l with
       |nil=>intro _;rfl
       |cons x l C=>
        intro r
        simp only[W6]
        cases hq:mv x.1 c.1 with
        |true=>exact absurd (zao hq) (r x zat)
        |false=>rw[zL,C λy hy=>r y (zan _ hy)]
      rw[ha,hb cs λx r e=>(Yw (aF c he) x r).1 (ϕ e)]
     rw[hd]
     refine List.Sublist.append_right ?_ cs
     have s1:∀l:List It,(∀i∈l,∀b,i.nb=Td b->b.1=c.1->i.us=Td it.k)->(fR (l.map (iD it.k))).Sublist (W6 c.1 (fR l)):=by
      intro l
      induction l with
      |nil=>intro _;exact .slnil
      |cons x l C=>
       intro hl
       have aa:=C λi hi=>hl i (zan _ hi)
       simp only[zbk,fR]
       cases w:x.nb with
       |none=>
        have:(iD it.k x).nb=Te:=by
         obtain f|f:=(xU it.k x).2.2.2.2.2
         ·rw[f,w]
         ·exact f
        rw[this]
        exact aa
       |some b=>
        simp only[W6]
        cases hq:mv b.1 c.1 with
        |true=>
         have hu:=hl x zat b w (zao hq)
         have:(iD it.k x).nb=Te:=by
          unfold iD
          rw[hu]
          simp
         rw[this,zK]
         exact aa
        |false=>
         rw[zL]
         obtain f|f:=(xU it.k x).2.2.2.2.2
         ·rw[f,w];exact aa.cons_cons _
         ·rw[f];exact aa.cons _
     refine s1 _ λx r b hb e=>?_
     obtain⟨i,B,Z,rfl⟩:=Xh r
     have⟨_,_,_,_,f5,D⟩:=pP listed i
     rw[f5]
     obtain D|D:=D
     ·exact(aC c he i B b (by rw[<-D];exact hb) e).1
     ·rw[D]at hb;cases hb
   have I2:Inv h0 W M0 (it.nb.toList++(fR ((Qx listed t).map (iD it.k))++cs)) γ' h':=I'.sub (sub.append_left _)
   rw[<-za3,<-e1]at I2
   exact I2.perm ((ak hp.symm).append_right cs)
def KC{pu:ac0}{t:q9}{Q:Exit->Act->Nd->Prop}(G:J8 ops m=Ta)(D:∀x∈t,x.2.1=[]/\x.1∉yq ops m/\Jj x.2.2 (yq ops m)=Ta) {c:List It} (E:∀i∈c,∃Kan,YT h0 W M0 P n ops m pu t cs c i Kan/\Kan i.av) (l:∀i∈c,∀j∈c,i.k=j.k->i=j) (J:HeadInv .any ops m listed) (M:Mid h0 W M0 P n ops m t cs listed c γ a h) {it:It} {Kan:AV->Prop} (T:YT h0 W M0 P n ops m pu t cs c it Kan) (Y:it.k∈Region.ready .any ops listed) {N:Act->Nd->Prop} (B:Nd) (d:Nat) (O:∀av u γ' h' F,Kan av->(∀L':List It,L'.Perm ({ it with av:=av }::(Qx listed c).map (iD it.k))->Fn n (iM L'++t) γ' (a.put it.dst u)/\Inv h0 W M0 (fR L'++cs) γ' h')->Gx (it.nb.map (·.1)) γ γ'->N (a.put it.dst u) (mk B F h')):wpOp P ops Q it.k N a (mk B d h):=by
 have⟨o,e,g,V,C,b,L,sp,U,w,q,H,fin⟩:=Em G D E l J M T Y;have S:=Zt b L;unfold wpOp;rw[V];simp only;by_cases r:CT (ql a) it.ch;rw[zA (S.2 r)];left;have I:=sp.yes n γ h a (fR (Qx listed c)) b M.inv w q H r;refine(ExA.upon I B d ?_);rintro v F h' ⟨av,γ',g1,g2,Z,z⟩;rw[C];exact O av v γ' h' F g1 (fin av v γ' h' g1 (λ_=>g2) (λp=>absurd r p) Z z) z;rw[zv λI=>r (S.1 I)];have⟨A,y,av,f⟩:=sp.no n γ a b r;rw[C];have z:Gx (it.nb.map (·.1)) γ γ:=by rw[A];exact Gx.refl _ _
 exact O av undef γ h d f (fin av undef γ h f (λp=>absurd p r) (λ_=>rfl) (by rw[A,y];exact M.inv) z) z
def UQ{pu:ac0}{C:q9}{Q:Exit->Act->Nd->Prop}(ae:J8 ops m=Ta)(O:∀x∈C,x.2.1=[]/\x.1∉yq ops m/\Jj x.2.2 (yq ops m)=Ta) {q:List It} (ab:∀i∈q,∃Kan,YT h0 W M0 P n ops m pu C cs q i Kan/\Kan i.av) (r:∀i∈q,∀j∈q,i.k=j.k->i=j) (ak:HeadInv .any ops m listed) (M:Mid h0 W M0 P n ops m C cs listed q γ a h) {it:It} {Kan:AV->Prop} (T:YT h0 W M0 P n ops m pu C cs q it Kan) (t:Kan it.av) (J:it.k∈Region.ready .any ops listed) (ah:Fm pu it.k=Ta) (l:Region.noSelect ops=Ta) (hQ:∀c a w,¬Q (.panic c) a w) (B:Nd) (d:Nat) {f:Nat} (hK:∀u,(∀L':List It,L'.Perm (it::(Qx listed q).map (iD it.k))->Fn n (iM L'++C) γ (a.put it.dst u)/\Inv h0 W M0 (fR L'++cs) γ h)->Gx (it.nb.map (·.1)) γ γ->wpAny P .any ops Q f (listed.setIfInBounds it.k Ta) (a.put it.dst u) (mk B d h)):wpAny P .any ops Q (f+1) listed a (mk B d h):=by
 have⟨o,e,g,ho,H,p,al,sp,E,am,Y,an,fin⟩:=Em ae O ab r ak M T J;have⟨G,ai,y,_⟩:=E ah;have b:Inv h0 W M0 (it.nb.toList++oh g (fR (Qx listed q)++cs)) γ h:=by
  rw[G];refine M.inv.sub ?_;cases g with
  |none=>exact List.Sublist.refl _
  |some c=>exact xx c.1 _
 have hw:=Zt p al;have I:Gx (it.nb.map (·.1)) γ γ:=by rw[G];exact Gx.refl _ _
 have D:∀j A,ops[j]?=Td A->j≠it.k->listed.getD j Ta=Tc->(∀e∈A.after,Region.binds .any e=Ta->e.on≠it.k)->o.apart ops A=Ta:=by
  intro j A hj V af L;have N:j<ops.size:=(zaq.1 hj).1;refine HH y j A N hj V ?_ ?_;cases hb:qr .any ops j it.k with
  |false=>rfl
  |true=>have⟨aa,ac,e',Z,aj,S⟩:=Region.waitsFor_spec hb;have:aa=A:=za9 (ac.symm.trans hj);subst this;exact absurd S (L e' Z aj)
  cases hb:qr .any ops it.k j with
  |false=>rfl
  |true=>have:=Qq J hb;rw[getD_both af]at this;cases this
 by_cases F:CT (ql a) it.ch;have⟨v,hd,hx⟩:=ai it.av t n γ a p F;refine wpAny_first ho (Region.noSelect_spec l) (λc a w U=>absurd U (hQ c _ w)) f listed a (mk B d h) D J (.inl ⟨hw.2 F,hx⟩) ?_;rw[H];exact hK v (fin it.av v γ h t (λ_=>hd) (λz=>absurd F z) b I) I;refine wpAny_first ho (Region.noSelect_spec l) (λc a w U=>absurd U (hQ c _ w)) f listed a (mk B d h) D J (.inr ⟨ψ (λhx=>F (hw.1 hx)),rfl⟩) ?_;rw[H];exact hK undef (fin it.av undef γ h t (λz=>absurd z F) (λ_=>rfl) b I) I
structure GInv (h0:zc) (W:Nat->Prop) (M0:Fr) (P:EM) (n:Nat) (ops:Array n9) (m:Nat) (pu:List Nat) (e0:q9) (cs:CS) (listed pl:Array Bool) (IL:List It):Prop where
 size:pl.size=ops.size
 mem:∀k,pl.getD k Tc=Ta↔∃i∈IL,i.k=k
 dist:IL.Pairwise λi j=>i.k≠j.k
 aa7:∀i∈IL,∃Kan,YT h0 W M0 P n ops m pu e0 cs IL i Kan/\Kan i.av/\(listed.getD i.k Tc=Tc->Kan=(· = i.av))
 sub:∀k,listed.getD k Tc=Ta->pl.getD k Tc=Ta
def wc(ops:Array n9):List Nat->Bool
 |[]=>Ta
 |k::_=>match ops[k]? with
  |some o=>yx o
  |none=>Tc
theorem aa5{k:Nat}(h:k<pl.size):pl.getD k Ta=pl.getD k Tc:=ϑ h
def A0(S:Fr.le gl M0){pu:ac0}{l:q9}{Kt:List It->Prop}{k:Nat}{h:List It}(H:dW P gl tr n ops m pu l cs Kt (k::ord) pl h):∃o ch b us a,ops[k]?=Td o/\oZ ops m o k pl=Ta/\(∀av,YT h0 W M0 P n ops m pu l cs h ⟨k,o.dst,ch,av,b,us⟩ a)/\(∀av,a av->dW P gl tr n ops m pu l cs Kt ord (pl.setIfInBounds k Ta) (⟨k,o.dst,ch,av,b,us⟩::h))/\(yx o=Tc->∃av,a=(· = av)):=by
 unfold dW at H
 split at H
 ·cases H
 ·rename_i o Q
  cases hst:oZ ops m o k pl with
  |false=>rw[hst]at H;cases H
  |true=>
   rw[hst]at H
   simp only[zK]at H
   split at H
   ·rename_i ch T
    cases hco:BE ops o ch with
    |false=>rw[hco]at H;cases H
    |true=>
     rw[hco]at H
     cases hok:wj n ch o.dst with
     |false=>rw[hok]at H;cases H
     |true=>
      rw[hok]at H
      simp only[zK]at H
      cases hpo:Ak P ops pu o k (X7 (Qe ops o) (iM h++l)) ch with
      |false=>rw[hpo]at H;cases H
      |true=>
      rw[hpo]at H
      simp only[zK]at H
      have t:∃b us d a,Spec h0 W M0 P o (X7 (Qe ops o) (iM h++l)) ch cs b a d/\(∀av,a av->(cond (sC (yq ops m) av b) (dW P gl tr n ops m pu l cs Kt ord (pl.setIfInBounds k Ta) (⟨k,o.dst,ch,av,b,us⟩::h)) False))/\(yx o=Tc->∃av,a=(· = av)) /\
       (Fm pu k=Ta->b=Te/\sM P o (X7 (Qe ops o) (iM h++l)) ch a/\oQ ops k o ops.size=Ta/\yx o=Tc) /\
       (∀c,d=Td c->∃i∈h,i.nb=Td c/\i.us=Td k)/\(∀j,us=Td j->j<m/\qr .any ops j k=Ta):=by
       unfold Ak at hpo
       unfold uC at H
       cases hmp:Fm pu k with
       |false=>
        rw[hmp,zL]at H
        split at H
        ·have⟨b,a,h1,h2,B⟩:=ZX (h0:=h0) (W:=W) (M0:=M0) S H
         exact⟨b,Te,Te,a,h1,h2,B,λr=>(ε r),λc r=>(ε r),λj D=>ε D⟩
        ·rename_i us V
         cases huo:BQ ops m k us with
         |false=>rw[huo]at H;cases H
         |true=>
          rw[huo,zK]at H
          split at H
          ·have⟨b,d,av,h1,h2,B⟩:=YF (h0:=h0) (W:=W) (M0:=M0) H
           refine⟨b,us,d,(· = av),h1,λu e=>e ▸ h2,λ_=>⟨av,rfl⟩,λr=>(ε r),λc r=>AO (B c r),λj D=>?_⟩
           subst D
           simp only[BQ]at huo
           cases hq:Nat.blt j m with
           |false=>rw[hq]at huo;cases huo
           |true=>rw[hq]at huo;exact⟨by simpa[zdl]using hq,huo⟩
          ·cases H
       |true=>
        rw[hmp]at hpo
        simp only[zK]at hpo
        rw[hmp,zK]at H
        simp only at H
        cases hpb:kO P (X7 (Qe ops o) (iM h++l)) ch o with
        |false=>rw[hpb]at hpo;cases hpo
        |true=>
         rw[hpb]at hpo
         have⟨av,h1,h2,B⟩:=QU (h0:=h0) (W:=W) (M0:=M0) H hpb
         exact⟨Te,Te,Te,(· = av),h1,λu e=>e ▸ h2,λ_=>⟨av,rfl⟩,λ_=>⟨rfl,B,hpo,YY hpb⟩,λc r=>(ε r),λj D=>ε D⟩
      have⟨b,us,d,a,sp,U,y,C,A,w⟩:=t
      have E:Yo ops k (Qe ops o) m=Ta:=by
       unfold oZ at hst
       cases h1:Nat.blt k m with
       |false=>rw[h1]at hst;cases hst
       |true=>
        rw[h1]at hst
        cases h2:Yo ops k (Qe ops o) m with
        |false=>rw[h2]at hst;cases hst
        |true=>rfl
      have L:k<m:=by
       unfold oZ at hst
       cases h1:Nat.blt k m with
       |false=>rw[h1]at hst;cases hst
       |true=>simpa[zdl]using h1
      have z:∀av,a av->sC (yq ops m) av b=Ta/\dW P gl tr n ops m pu l cs Kt ord (pl.setIfInBounds k Ta) (⟨k,o.dst,ch,av,b,us⟩::h):=by
       intro av f
       have:=U av f
       cases hio:sC (yq ops m) av b with
       |false=>rw[hio]at this;cases this
       |true=>rw[hio]at this;exact⟨rfl,this⟩
      refine⟨o,ch,b,us,a,Q,hst,λav=>⟨L,Xi Q,hok,?_,⟨o,_,d,Q,T,sp,λx G=>?_,C,A⟩,w,λu f F=>?_⟩,λav f=>(z av f).2,y⟩
      ·-- the chain's slots
       intro x G p O I
       refine Zg E p x.1 O I ?_
       unfold BE at hco
       split at hco
       ·cases G
       ·rename_i g q
        have M:x=(g,q):=ψ G
        subst M
        split at hco
        ·rename_i j Y J
         split at hco
         ·rename_i g' N
          have e:=zao hco
          unfold Qe
          rw[J]
          simp only[N]
          rw[e]
          exact zap _ zat
         ·cases hco
        ·cases hco
       ·cases hco
      ·have⟨h1,h2⟩:=Wl G
       obtain h1|h1:=zav.1 h1
       ·exact .inr ⟨h1,λp O I=>Zg E p x.1 O I h2⟩
       ·exact .inl h1
      ·have:=(z u f).1
       simp only at F
       subst F
       exact this
   ·cases H
def DL{k:Nat}(h:oZ ops m o k pl=Ta):k∈Region.ready .any ops pl/\(yx o=Ta->Region.ready .any ops pl=[k]):=by
 unfold oZ at h;cases h1:Nat.blt k m with
 |false=>rw[h1]at h;cases h
 |true=>
  rw[h1]at h;cases h2:Yo ops k (Qe ops o) m with
  |false=>rw[h2]at h;cases h
  |true=>
   rw[h2]at h;simp only[zK]at h;cases ha:yx o with
   |false=>rw[ha]at h;exact⟨F8 h,λb=>by cases b⟩
   |true=>
    rw[ha]at h;simp only[zK]at h;have:Region.ready .any ops pl=[k]:=by unfold GB at h;split at h;rename_i x _ c;rw[c,zao h];cases h
    exact⟨by rw[this];exact zat,λ_=>this⟩
def Aw{P:EM}{gl:Fr}(u:Fr.le gl M0){tr:Nw}{n:Nat}{ops:Array n9}{m:Nat}{pu:ac0}{r:q9}{cs:CS}{Kt:List It->Prop}{listed:ad1}:∀{ord:ac0} {pl:ad1} {p:List It},dW P gl tr n ops m pu r cs Kt ord pl p->GInv h0 W M0 P n ops m pu r cs listed pl p ->∃b l new,dW P gl tr n ops m pu r cs Kt b l (new++p)/\GInv h0 W M0 P n ops m pu r cs listed l (new++p)/\wc ops b=Ta/\∀i∈new,listed.getD i.k Tc=Tc
 |[],pl,p,H,G=>⟨[],pl,[],H,G,rfl,λi hi=>ε hi⟩
 |k::ord,pl,p,H,G=>by
  have⟨o,ch,E,us,a,M,z,A,L,t⟩:=A0 (h0:=h0) (W:=W) (M0:=M0) u H;cases ha:yx o with
  |true=>exact⟨k::ord,pl,[],H,G,by simp[wc,M,ha],λi hi=>ε hi⟩
  |false=>
   obtain⟨av,rfl⟩:=t ha;have D:=(DL z).1;have w:pl.getD k Ta=Tc:=(mem_ready.1 D).1;have q:k<pl.size:=by obtain h|h:=zbv k pl.size;exact h;simp[Array.getElem?_eq_none h]at w
   have c:pl.getD k Tc=Tc:=by rw[<-aa5 q];exact w
   have y:listed.getD k Tc=Tc:=by
    cases hb:listed.getD k Tc with
    |false=>rfl
    |true=>rw[G.sub k hb]at c;cases c
   have x:∀i∈p,i.k≠k:=λi hi e=>by have:=(G.mem k).2 ⟨i,hi,e⟩;rw[this]at c;cases c
   have I:GInv h0 W M0 P n ops m pu r cs listed (pl.setIfInBounds k Ta) (⟨k,o.dst,ch,av,E,us⟩::p):=by refine⟨by simp[G.size],λj=>?_,zb2.2 ⟨λj C=>(x j C).symm,G.dist⟩,λi hi=>?_,λj C=>?_⟩;by_cases f:k=j;subst f;simp only[zal,exists_eq_or_imp,true_or,iff_true];simp[q];rw[getD_set_ne Tc f,G.mem j];simp only[zal,exists_eq_or_imp,f,false_or];obtain rfl|hi:=zal.1 hi;exact⟨(· = av),(A av).mono λi hi=>zan _ hi,rfl,λ_=>rfl⟩;have⟨F,h1,h2,B⟩:=G.aa7 i hi;exact⟨F,h1.mono λi hi=>zan _ hi,h2,B⟩;by_cases f:k=j;subst f;simp[q];rw[getD_set_ne Tc f];exact G.sub j C
   have⟨b,l,new,h1,h2,B,J⟩:=Aw u (L av rfl) I;refine⟨b,l,new++[⟨k,o.dst,ch,av,E,us⟩],ψ h1,ψ h2,B,λi hi=>?_⟩;obtain hi|hi:=zav.1 hi;exact J i hi;simp only[List.mem_singleton]at hi;subst hi;exact y
theorem EC{k:Nat}(e:k<listed.size)(c:listed.getD k Tc=Tc)(i:It):Nl (listed.setIfInBounds k Ta) i=iD k (Nl listed i):=by
 unfold Nl iD;cases hu:i.us with
 |none=>simp[hu]
 |some j=>
  simp only;by_cases b:j=k;subst b;have f:(listed.setIfInBounds j Ta).getD j Tc=Ta:=ϑ e
  rw[f,c];simp[hu];rw[getD_set_ne Tc (Ne.symm b)];have hb:mv j k=Tc:=by
   cases hq:mv j k with
   |false=>rfl
   |true=>exact absurd (zao hq) b
  cases listed.getD j Tc with
  |true=>simp[hb]
  |false=>simp[hu,hb]
theorem Cn{listed:ad1}{k:Nat}(c:k<listed.size)(b:listed.getD k Tc=Tc):∀{l:List It},(∀j∈l,k≠j.k)->Qx (listed.setIfInBounds k Ta) l=(Qx listed l).map (iD k)
 |[],_=>rfl
 |j::l,hj=>by
  simp only[Qx];rw[getD_set_ne Tc (hj j zat),Cn c b λx e=>hj x (zan _ e)];cases listed.getD j.k Tc with
  |true=>simp only[zK,zbk];rw[EC c b]
  |false=>rfl
theorem G4{it:It}(c:∀j,it.us=Td j->listed.getD j Tc=Tc):Nl listed it=it:=by unfold Nl;split;rename_i j b;rw[c j b];rfl;rfl
def FN{listed:ad1}{it:It}(c:it.k<listed.size)(b:listed.getD it.k Tc=Tc)(n:∀j,it.us=Td j->(listed.setIfInBounds it.k Ta).getD j Tc=Tc):∀{e:List It},e.Pairwise (λi j=>i.k≠j.k)->it∈e->(Qx (listed.setIfInBounds it.k Ta) e).Perm (it::(Qx listed e).map (iD it.k))
 |[],_,h=>ε h
 |i::l,hd,h=>by
  rw[zb2]at hd;simp only[Qx];obtain rfl|h:=zal.1 h;have o:(listed.setIfInBounds it.k Ta).getD it.k Tc=Ta:=ϑ c
  rw[o,b,Cn c b hd.1,G4 n];exact .refl _;have f:i.k≠it.k:=hd.1 it h;rw[getD_set_ne Tc (Ne.symm f)];have m:=FN c b n hd.2 h;cases listed.getD i.k Tc with
  |true=>simp only[zK,zbk];rw[EC c b];exact(m.cons _).trans (.swap _ _ _)
  |false=>exact m
theorem yI{listed:ad1}{b:List It}:∀{new:List It},(∀i∈new,listed.getD i.k Tc=Tc)->Qx listed (new++b)=Qx listed b
 |[],_=>rfl
 |i::l,h=>by simp only[zbs,Qx];rw[h i zat];exact yI λx c=>h x (zan _ c)
theorem IR{listed:ad1}:∀{l:List It},(∀i∈l,listed.getD i.k Tc=Ta/\∀j,i.us=Td j->listed.getD j Tc=Ta)->Qx listed l=o5 l
 |[],_=>rfl
 |i::l,h=>by simp only[Qx,o5];have⟨h1,h2⟩:=h i zat;rw[h1,IR λx c=>h x (zan _ c),zK];congr 1;unfold Nl;split;rename_i j b;rw[h2 j b];rfl;rfl
theorem GInv.ready_pl{pu:ac0}{j:q9}{l:List It}(G:GInv h0 W M0 P n ops m pu j cs listed pl l)(hi:i∈Region.ready .any ops listed)(h:pl.getD i Tc=Tc):i∈Region.ready .any ops pl:=by have⟨_,o,f,b⟩:=mem_ready.1 hi;have c:i<ops.size:=(zaq.1 f).1;exact mem_ready.2 ⟨by rw[aa5 (by rw[G.size];exact c)];exact h,o,f,λe k hb=>G.sub _ (b e k hb)⟩
def z2o(l:m<=ops.size)(b:wo ops ops.size=Ta)(j:listed.size=ops.size)(c:∃k,k<m/\listed.getD k Tc=Tc):∃k,k<m/\k∈Region.ready .any ops listed:=by
 have⟨k,⟨h1,h2⟩,i⟩:=exists_least c;refine⟨k,h1,mem_ready.2 ⟨by rw[aa5 ω];exact h2,ops[k],zcc ω,λe h hb=>?_⟩⟩;have f:=je b k ops[k] ω (zcc ω) e h hb;cases hb':listed.getD e.on Tc with
 |true=>rfl
 |false=>have:=i e.on ⟨ω,hb'⟩;omega
def Xj(N m:Nat):Array Bool:=((za7 N).map λk=>Nat.blt k m).toArray
theorem YV(f:m<=ops.size)(inv:HeadInv .any ops m listed)(b:∀k,k<m->listed.getD k Tc=Ta):listed=Xj ops.size m:=by
 refine Array.ext (by simp[Xj,inv.size]) λi h1 h2=>?_;have hi:i<ops.size:=by rw[<-inv.size];exact h1
 have e:(Xj ops.size m)[i]=Nat.blt i m:=by simp[Xj]
 rw[e];obtain h|h:=zbv i m;have:=b i h;simp only[Array.getD,h1,dite_true]at this;rw[show Nat.blt i m=Ta by simpa[zdl]using h];exact this;have:=inv.tail i h hi;simp only[Array.getD,h1,dite_true]at this;have c:Nat.blt i m=Tc:=by
  cases hb:Nat.blt i m with
  |false=>rfl
  |true=>have:=zdl.mp hb;omega
 rw[c];exact this
def sJ(ops:Array n9)(pu:List Nat)(m i:Nat):Nat->Bool
 |0=>Tc
 |j+1=>bif (bif qr .any ops j i then(bif mv j m then Ta else !(Fm pu j))else Tc)then Nat.blt i j else sJ ops pu m i j
def FA{ops:Array n9}{pu:ac0}{m i:Nat}:∀{n:Nat},sJ ops pu m i n=Ta->∃j,j<n/\i<j/\qr .any ops j i=Ta/\(j=m\/Fm pu j=Tc)
 |0,h=>by cases h
 |n+1,h=>by
  simp only[sJ]at h;cases hb:(cond (qr .any ops n i) (cond (mv n m) Ta (!(Fm pu n))) Tc)with
  |false=>rw[hb]at h;have⟨j,h1,h2⟩:=FA h;exact⟨j,ω,h2⟩
  |true=>
   rw[hb]at h;refine⟨n,ω,by simpa[zdl]using h,?_⟩;cases hw:qr .any ops n i with
   |false=>rw[hw]at hb;cases hb
   |true=>
    rw[hw]at hb;refine⟨rfl,?_⟩;cases hm:mv n m with
    |true=>exact .inl (zao hm)
    |false=>rw[hm]at hb;exact .inr (ψ hb)
def pI(ops:Array n9)(pu:List Nat)(m:Nat):Nat->Bool
 |0=>Ta
 |i+1=>bif (bif Fm pu i then Ta else sJ ops pu m i (m+1))then pI ops pu m i else Tc
def II{ops:Array n9}{pu:ac0}{m:Nat}:∀{n:Nat},pI ops pu m n=Ta->∀i,i<n->Fm pu i=Tc->∃j,j<=m/\i<j/\qr .any ops j i=Ta/\(j=m\/Fm pu j=Tc)
 |0,_,i,hi,_=>ω
 |n+1,h,i,hi,hp=>by
  simp only[pI]at h;cases hb:(cond (Fm pu n) Ta (sJ ops pu m n (m+1)))with
  |false=>rw[hb]at h;cases h
  |true=>
   rw[hb]at h;obtain h1|h1:=zbv i n;exact II h i h1 hp;have:i=n:=ω
   subst this;rw[hp]at hb;have⟨j,a1,a2⟩:=FA hb;exact⟨j,ω,a2⟩
def p7(ops:Array n9)(pu:List Nat)(m:Nat):Bool:=bif mv m ops.size then Ta else bif pI ops pu m m then Region.chainB .any ops m else Tc
def UG{pu:ac0}(E:m<ops.size)(w:pI ops pu m m=Ta)(A:Region.chainB .any ops m=Ta)(inv:HeadInv .any ops m listed):∀(d i:Nat),m-i=d->i<m->listed.getD i Tc=Tc->Fm pu i=Tc->∀t,m<=t->t∉Region.ready .any ops listed:=by
 intro d;induction d using Nat.strongRecOn with
 |_ d y=>
  intro i C hi b l t D h;have⟨_,F,p,u⟩:=mem_ready.1 h;have f:t<ops.size:=(zaq.1 p).1;by_cases q:t=m;subst q;have⟨j,h1,h2,r,z⟩:=II w i hi l;by_cases c:j=t;subst c;rw[Qq h r]at b;cases b;have k:Fm pu j=Tc:=z.resolve_left c;cases hl:listed.getD j Tc with
  |true=>have⟨B,o,e,x,hb,n⟩:=Region.waitsFor_spec r;have:=inv.closed j B o hl e x hb;rw[n,b]at this;cases this
  |false=>exact y (t-j) ω j rfl ω hl k t (zac _) h
  have h1:=zbl.1 A t (zcs.2 f);simp only[zek,zG]at h1;obtain h1|h1:=h1;omega;have:=Qq h h1;rw[getD_both (inv.tail (t-1) ω ω)]at this;cases this
def VI{pu:ac0}(l:m<=ops.size)(b:p7 ops pu m=Ta)(inv:HeadInv .any ops m listed)(c:∃k,k<m/\k∈Region.ready .any ops listed/\Fm pu k=Tc):∀i∈Region.ready .any ops listed,i<m:=by
 intro i hi;have⟨_,o,f,_⟩:=mem_ready.1 hi;have e:i<ops.size:=(zaq.1 f).1;obtain h|h:=zbv i m;exact h;exfalso;unfold p7 at b;cases hb:mv m ops.size with
 |true=>have:=zao hb;omega
 |false=>
  rw[hb]at b;simp only[zL]at b;cases hs:pI ops pu m m with
  |false=>rw[hs]at b;cases b
  |true=>rw[hs]at b;have⟨k,h1,h2,j⟩:=c;exact UG ω hs b inv _ k rfl h1 (getD_both (mem_ready.1 h2).1) j i h hi
theorem XA(hgl:Fr.le gl M0){pu:List Nat}{e0:q9}{Kt:List It->Prop}{Q:Exit->Act->Nd->Prop}(hm:m<=ops.size)(hnd:J8 ops m=Ta)(hback:wo ops ops.size=Ta)(hends:p7 ops pu m=Ta)(hsel:Region.noSelect ops=Ta)(hQp:∀c a w,¬Q (.panic c) a w) (he0:∀x∈e0,x.2.1=[]/\x.1∉yq ops m/\Jj x.2.2 (yq ops m)=Ta) (B:Nd) {g:Nat} {a0:Act} {γ0:Gh} (hQ:∀IL γ a d h,Fn n (iM IL++e0) γ a->Inv h0 W M0 (fR IL++cs) γ h->Same (yq ops m) a0 a->GxS (yq ops m) γ0 γ->Kt IL->wpAny P .any ops Q g (Xj ops.size m) a (mk B d h)):
    ∀(N:Nat) (U:List Nat) (listed:Array Bool) (ord:List Nat) (pl:Array Bool) (IL:List It) (γ:Gh) (a:Act) (d:Nat) (h:zc),U.length=N->U.Nodup->(∀k,k∈U↔k<m/\listed.getD k Tc=Tc)->HeadInv .any ops m listed -> dW P gl tr n ops m pu e0 cs Kt ord pl IL->wc ops ord=Ta->GInv h0 W M0 P n ops m pu e0 cs listed pl IL->Mid h0 W M0 P n ops m e0 cs listed IL γ a h->Same (yq ops m) a0 a->GxS (yq ops m) γ0 γ -> wpAny P .any ops Q (N+g) listed a (mk B d h):=by
  intro N;induction N with
  |zero=>
    intro U listed ord pl IL γ a d h hU _ hmem inv H hanch G M hsame hgx;have hUn:U=[]:=zdr.1 hU;subst hUn;have hall:∀k,k<m->listed.getD k Tc=Ta:=λk hk=>by
      cases hb:listed.getD k Tc with
      |true=>rfl
      |false=>exact absurd ((hmem k).2 ⟨hk,hb⟩) ξ
    have hKt:Kt (o5 IL):=by
      cases ord with
      |nil=>
        unfold dW at H;cases hb:pF pl m with
        |true=>rw[hb]at H;exact H
        |false=>rw[hb]at H;exact H.elim
      |cons k ord=>exfalso;obtain⟨o,ch,nb,us,Kan,ho,hst,hit,_,_⟩:=A0 (h0:=h0) (W:=W) (M0:=M0) hgl H;have hk:k<m:=(hit (.g (.a (.v undef)))).lt;have h1:=(mem_ready.1 (DL hst).1).1;rw[aa5 (by rw[G.size];omega),G.sub k (hall k hk)]at h1;cases h1
    have hact:Qx listed IL=o5 IL:=IR λi hi=>by obtain⟨Ki,Ti,_⟩:=G.aa7 i hi;exact⟨hall _ Ti.lt,λj hj=>hall j (Ti.use j hj).1⟩
    have h1:=M.sat;have h2:=M.inv;rw[hact]at h1 h2;rw[zax,YV hm inv hall];exact hQ (o5 IL) γ a d h h1 h2 hsame hgx hKt
  |succ N ih=>
    intro U listed ord pl IL γ a d h hU hdup hmem inv H hanch G M hsame hgx;have hex:∃k,k<m/\listed.getD k Tc=Tc:=by
      cases U with
      |nil=>cases hU
      |cons k U=>exact⟨k,(hmem k).1 zat⟩
    obtain⟨k0,hk0m,hk0⟩:=z2o hm hback inv.size hex;rw[show N+1+g=(N+g)+1 by omega];have gen:∀i,i∈Region.ready .any ops listed->i<m->(Fm pu i=Ta->wpAny P .any ops Q (N+g+1) listed a (mk B d h))/\wpOp P ops Q i (wpAny P .any ops Q (N+g) (listed.setIfInBounds i Ta)) a (mk B d h):=by
      intro i hi him;have hun:listed.getD i Tc=Tc:=getD_both (mem_ready.1 hi).1;have hils:i<listed.size:=by rw[inv.size];omega
      have hU':(U.erase i).length=N:=by rw[List.length_erase_of_mem ((hmem i).2 ⟨him,hun⟩),hU];rfl
      have hdup':(U.erase i).Nodup:=hdup.erase i;have hmem':∀k,k∈U.erase i↔k<m/\(listed.setIfInBounds i Ta).getD k Tc=Tc:=λk=>by rw[hdup.mem_erase_iff,hmem k];by_cases hk:i=k;subst hk;simp[hils];rw[getD_set_ne Tc hk];exact⟨λhx=>hx.2,λhx=>⟨λe=>hk e.symm,hx⟩⟩
      have inv':=inv.set hi him;have toS:∀{it:It} {Kan:AV->Prop},YT h0 W M0 P n ops m pu e0 cs IL it Kan->∀{γ':Gh},Gx (it.nb.map (·.1)) γ γ'->GxS (yq ops m) γ γ':=by
        intro it Kan T γ' gx;refine⟨gx.1,λj hj=>?_⟩;refine gx.2 j λhc=>hj ?_;obtain⟨o,e,eat,ho,_,sp,_,_⟩:=T.ex;cases hnb:it.nb with
        |none=>rw[hnb]at hc;cases hc
        |some b=>
          rw[hnb]at hc;have:b.1=j:=ψ hc
          subst this;obtain⟨_,h2,_⟩:=sp.box b hnb;exact BY T.lt (by rw[Xi ho];exact h2)
      have toSame:∀{it:It} {Kan:AV->Prop},YT h0 W M0 P n ops m pu e0 cs IL it Kan->∀u,Same (yq ops m) a (a.put it.dst u):=λ {it} {Kan} T u=>
        Same.put a it.dst u λj hj=>BY T.lt (by rw[T.dst];exact hj)
      have hILk:∀x∈IL,∃Kan,YT h0 W M0 P n ops m pu e0 cs IL x Kan/\Kan x.av:=λx hx=>by obtain⟨Kx,h1,h2,_⟩:=G.aa7 x hx;exact⟨Kx,h1,h2⟩
      have hdist:∀x∈IL,∀y∈IL,x.k=y.k->x=y:=by
        have key:∀l:List It,l.Pairwise (λi j=>i.k≠j.k)->∀x∈l,∀y∈l,x.k=y.k->x=y:=by
          intro l;induction l with
          |nil=>intro _ x hx;cases hx
          |cons z l ihl=>intro hp x hx y hy e;rw[zb2]at hp;obtain hx1|hx1:=zal.1 hx;obtain hy1|hy1:=zal.1 hy;rw[hx1,hy1];rw[hx1]at e;exact absurd e (hp.1 y hy1);obtain hy1|hy1:=zal.1 hy;rw[hy1]at e;exact absurd e.symm (hp.1 x hx1);exact ihl hp.2 x hx1 y hy1 e
        exact key IL G.dist
      cases hpl:pl.getD i Tc with
      |true=>
        obtain⟨it,hit,hik⟩:=(G.mem i).1 hpl;subst hik;obtain⟨Kan,T,_,hdet⟩:=G.aa7 it hit;have fwd:∀u γ' h' d',(∀L':List It,L'.Perm (it::(Qx listed IL).map (iD it.k))->Fn n (iM L'++e0) γ' (a.put it.dst u)/\Inv h0 W M0 (fR L'++cs) γ' h')->Gx (it.nb.map (·.1)) γ γ'->wpAny P .any ops Q (N+g) (listed.setIfInBounds it.k Ta) (a.put it.dst u) (mk B d' h'):=by
         intro u γ' h' d' hst hgx';have huse:∀j,it.us=Td j->(listed.setIfInBounds it.k Ta).getD j Tc=Tc:=by
           intro j hj;have hw:=(T.use j hj).2;obtain⟨oj,hoj,e,he,hb,hon⟩:=Region.waitsFor_spec hw;have hjk:it.k≠j:=λe'=>χ (je hback j oj (zaq.1 hoj).1 hoj e he hb)
           rw[getD_set_ne Tc hjk];cases hl:listed.getD j Tc with
           |false=>rfl
           |true=>have:=inv.closed j oj hoj hl e he hb;rw[hon,hun]at this;cases this
         obtain⟨s1,s2⟩:=hst _ (FN hils hun huse G.dist hit);refine ih _ _ ord pl IL γ' _ d' h' hU' hdup' hmem' inv' H hanch ⟨G.size,G.mem,G.dist,λx hx=>?_,λk hk=>?_⟩ ⟨s1,s2⟩ (hsame.trans (toSame T u)) (hgx.trans (toS T hgx'));obtain⟨Kx,h1,h2,h3⟩:=G.aa7 x hx;refine⟨Kx,h1,h2,λhf=>h3 ?_⟩;by_cases hk:it.k=x.k;rw[<-hk];exact hun;rw[getD_set_ne Tc hk]at hf;exact hf;by_cases hk':it.k=k;subst hk';exact hpl;rw[getD_set_ne Tc hk']at hk;exact G.sub k hk
        have hK0:Kan it.av:=by rw[hdet hun]
        refine⟨λhp=>UQ hnd he0 hILk hdist inv M T hK0 hi hp hsel hQp B d λu hst hgx'=>fwd u γ h d hst hgx',KC hnd he0 hILk hdist inv M T hi B d λav u γ' h' d' hav hst hgx'=>?_⟩;have hav':av=it.av:=by rw[hdet hun]at hav;exact hav
        subst hav';exact fwd u γ' h' d' hst hgx'
      |false=>
        have hrp:=G.ready_pl hi hpl;cases ord with
        |nil=>
          exfalso;unfold dW at H;cases hb:pF pl m with
          |true=>rw[Lo hb i him]at hpl;cases hpl
          |false=>rw[hb]at H;exact H
        |cons k ord=>
          obtain⟨o,ch,nb,us,Kan,ho,hst,hit,hK,_⟩:=A0 (h0:=h0) (W:=W) (M0:=M0) hgl H;have hanc:yx o=Ta:=by simpa[wc,ho]using hanch
          have hrk:=(DL hst).2 hanc;rw[hrk]at hrp;have hik:i=k:=ψ hrp
          subst hik;refine⟨λhp=>?_,KC hnd he0 hILk hdist inv M (hit (.g (.a (.v undef)))) hi B d λav u γ' h' d' hav hst' hgx'=>?_⟩;obtain⟨o',_,_,ho',_,_,_,hpp,_⟩:=(hit (.g (.a (.v undef)))).ex;have:=(hpp hp).2.2.2;have e':o'=o:=za9 (ho'.symm.trans ho);rw[e',hanc]at this;cases this;have hne:∀j∈IL,i≠j.k:=λj hj e=>by have:=(G.mem i).2 ⟨j,hj,e.symm⟩;rw[hpl]at this;cases this
          have hips:i<pl.size:=by rw[G.size,<-inv.size];exact hils
          have G':GInv h0 W M0 P n ops m pu e0 cs (listed.setIfInBounds i Ta) (pl.setIfInBounds i Ta) (⟨i,o.dst,ch,av,nb,us⟩::IL):=by refine⟨by simp[G.size],λj=>?_,zb2.2 ⟨λj hj=>hne j hj,G.dist⟩,λx hx=>?_,λj hj=>?_⟩;by_cases hjk:i=j;subst hjk;simp only[zal,exists_eq_or_imp,true_or,iff_true];simp[hips];rw[getD_set_ne Tc hjk,G.mem j];simp only[zal,exists_eq_or_imp,hjk,false_or];obtain rfl|hx:=zal.1 hx;exact⟨Kan,(hit av).mono λx hx=>zan _ hx,hav,λhf=>by simp[hils]at hf⟩;obtain⟨Kx,h1,h2,h3⟩:=G.aa7 x hx;refine⟨Kx,h1.mono λx hx=>zan _ hx,h2,λhf=>h3 ?_⟩;rw[getD_set_ne Tc (hne x hx)]at hf;exact hf;by_cases hjk:i=j;subst hjk;simp[hips];rw[getD_set_ne Tc hjk]at hj ⊢;exact G.sub j hj
          obtain⟨ord',pl',new,h1,h2,h3,h4⟩:=Aw hgl (hK av hav) G';have hact:Qx (listed.setIfInBounds i Ta) (new++⟨i,o.dst,ch,av,nb,us⟩::IL)=⟨i,o.dst,ch,av,nb,us⟩::(Qx listed IL).map (iD i):=by
            rw[yI h4];simp only[Qx];rw[show(listed.setIfInBounds i Ta).getD i Tc=Ta by simp[hils],Cn hils hun hne,zK,G4 ?_];intro j hj;have hw:=((hit av).use j hj).2;obtain⟨oj,hoj,e,he,hb,hon⟩:=Region.waitsFor_spec hw;have hon:e.on=i:=hon;have hjk:i≠j:=λe'=>χ (je hback j oj (zaq.1 hoj).1 hoj e he hb)
            rw[getD_set_ne Tc hjk];cases hl:listed.getD j Tc with
            |false=>rfl
            |true=>have:=inv.closed j oj hoj hl e he hb;rw[hon,hun]at this;cases this
          obtain⟨s1,s2⟩:=hst' (⟨i,o.dst,ch,av,nb,us⟩::(Qx listed IL).map (iD i)) (.refl _);exact ih _ _ ord' pl' _ γ' _ d' h' hU' hdup' hmem' inv' h1 h3 h2 ⟨by rw[hact];exact s1,by rw[hact];exact s2⟩ (hsame.trans (toSame (hit av) u)) (hgx.trans (toS (hit av) hgx'))
    by_cases hpe:∃i,i∈Region.ready .any ops listed/\i<m/\Fm pu i=Ta;obtain⟨i,hi,him,hp⟩:=hpe;exact(gen i hi him).1 hp;refine⟨λhc=>(by rw[hc]at hk0;cases hk0),λi hi=>(gen i hi (VI hm hends inv ⟨k0,hk0m,hk0,?_⟩ i hi)).2⟩;cases hb:Fm pu k0 with
    |false=>rfl
    |true=>exact absurd ⟨k0,hk0,hk0m,hb⟩ hpe
def AY(ops:Array n9)(m:Nat)(pu:List Nat):Bool:=
 bif Nat.ble m ops.size then(bif J8 ops m then(bif wo ops ops.size then(bif p7 ops pu m then(bif Region.noSelect ops then Region.seqB .any ops (ops.size-m) m (Xj ops.size m)else Tc)else Tc)else Tc)else Tc)else Tc
def AB(P:EM)(gl:Fr)(tr:Nw)(n:Nat)(ops:Array n9)(m:Nat)(ord pu:List Nat)(R:CS)(K:q9->CS->Prop)(e:q9)(C:CS):Prop:=
 bif AY ops m pu then dW P gl tr n ops m pu (lz (yq ops m) e) (C++R) (λb=>nI P gl tr n ops R K (ops.toList.drop m) (iM b++lz (yq ops m) e) (fR b++C)) ord (zcf ops.size Tc) []else False
def QZ(hm:P.follows .mixedOrders=Ta)(q:Fr.le gl M0){ord pu:ac0}{K:q9->CS->Prop}{e:q9} (H:AB P gl tr n ops m ord pu R K e C) (B:Nd) (d:Nat) (hs:Fn n e γ a) (I:Inv h0 W M0 (C++R) γ h) {Q:Exit->Act->Nd->Prop}(hQ:∀e' C' γ' u O h',Fn n e' γ' u->Inv h0 W M0 (C'++R) γ' h'->Same (w9 ops.toList) a u->GxS (w9 ops.toList) γ γ'->K e' C'->Q .normal u (mk B O h')):(ze7 id ops Ta).wp P Q a (mk B d h):=by
 unfold AB at H;cases hB:AY ops m pu with
 |false=>rw[hB]at H;cases H
 |true=>
  rw[hB]at H;simp only[zK]at H;have ab:m<=ops.size/\J8 ops m=Ta/\wo ops ops.size=Ta/\p7 ops pu m=Ta/\Region.noSelect ops=Ta/\Region.seqB .any ops (ops.size-m) m (Xj ops.size m)=Ta:=by
   unfold AY at hB;cases h1:Nat.ble m ops.size with
   |false=>rw[h1]at hB;cases hB
   |true=>
    rw[h1]at hB;cases h2:J8 ops m with
    |false=>rw[h2]at hB;cases hB
    |true=>
     rw[h2]at hB;cases G:wo ops ops.size with
     |false=>rw[G]at hB;cases hB
     |true=>
      rw[G]at hB;cases F:p7 ops pu m with
      |false=>rw[F]at hB;cases hB
      |true=>
       rw[F]at hB;cases h5:Region.noSelect ops with
       |false=>rw[h5]at hB;cases hB
       |true=>rw[h5]at hB;exact⟨zci h1,rfl,rfl,rfl,rfl,hB⟩
  have⟨V,aa,p,r,E,z⟩:=ab;have b:w9 ops.toList=w9 (ops.toList.take m)++w9 (ops.toList.drop m):=by rw[<-Yp,zbz]
  have J:∀x∈lz (yq ops m) e,x.2.1=[]/\x.1∉yq ops m/\Jj x.2.2 (yq ops m)=Ta:=λx f=>(xh f).2;have A:HeadInv .any ops m (zcf ops.size Tc):= ⟨ξ,λj oj _ hl=>(by rw[getD_replicate_false]at hl;cases hl),λt _ ht=>getD_in (ψ ht) (getD_replicate_false _ _)⟩;have G0:GInv h0 W M0 P n ops m pu (lz (yq ops m) e) (C++R) (zcf ops.size Tc) (zcf ops.size Tc) []:= ⟨ξ,λk=>by rw[getD_replicate_false];simp,zfc,λi hi=>(ε hi),λk hk=>hk⟩;have⟨D,S,new,h1,h2,G,F⟩:=Aw q H G0;have o:Qx (zcf ops.size Tc) (new++[])=[]:=by rw[yI F];rfl
  have y:Fn n (lz (yq ops m) e) γ a:=hs.sub λx f=>(xh f).1;let Qn:Exit->Act->Nd->Prop:=λx a w=>x=.normal/\Q .normal a w;refine wp_mono (Q':=Q) (Q:=Qn) ?_ (λx a w Y=>by obtain⟨rfl,h⟩:=Y;exact h);refine wp_region_any hm ?_;have N:ops.size=m+(ops.size-m):=ω
  have key:=XA (n:=n) (Q:=Qn) (pu:=pu) q V aa p r E (λc a w Y=>by cases Y.1) J B (g:=ops.size-m) (a0:=a) (γ0:=γ) (Kt:=λIL=>nI P gl tr n ops R K (ops.toList.drop m) (iM IL++lz (yq ops m) e) (fR IL++C)) (λIL γ' u O h' s1 s2 s3 s4 s5=>?_) m (za7 m) (zcf ops.size Tc) D S (new++[]) γ a (d+1) h List.length_range List.nodup_range (λk=>by rw[zcs,getD_replicate_false];simp) A h1 G h2 ⟨ϖ o y,ϖ o I⟩ (Same.refl _ _) (GxS.refl _ _);rw[<-N]at key;exact key;have l:(ops.toList.drop m).length=ops.size-m:=ξ
  rw[<-l];refine wpAny_of_seq (md:=.any) (ops.toList.drop m) m _ u _ (λj=>by simp[zb1]) (ϖ l z) ?_;refine xP q B _ _ _ _ _ _ O s5 s1 (by rw[za3];exact s2) λL M T U Z c q4 q5 q6 q7 q8=>⟨rfl,hQ L M T U Z c q4 q5 ?_ ?_ q8⟩;rw[b];exact(s3.mono λx f=>zap _ f).trans (q6.mono λx f=>zaz _ f);rw[b];exact(s4.mono λx f=>zap _ f).trans (q7.mono λx f=>zaz _ f)
abbrev wP:=List (Nat×Nat×List Nat×List Nat×List Nat)
def Kj:wP->Nat->Option (Nat×List Nat×List Nat×List Nat)
 |[],_=>Te
 |(j,x)::l,i=>bif mv i j then Td x else Kj l i
def A2(P:EM)(gl:Fr)(tr:Nw)(n:Nat)(c:r8)(f:wP)(id:Nat)(ops:Array n9)(b:Bool)(R:CS)(K:q9->CS->Prop)(e:q9)(C:CS):Prop:=
 match Kj f id with
 |none=>Cq P gl tr n c id ops b R K e C
 |some (m,fz,ord,pu)=>bif b then AB P gl tr n ops m ord pu R K e (frzL fz C)else False
def WH(q:P.follows .mixedOrders=Ta)(c:Fr.le gl M0){r:r8}{u:wP}{b:Bool}{K:q9->CS->Prop}{e:q9} (H:A2 P gl tr n r u id ops b R K e C) (B:Nd) (d:Nat) (o:Fn n e γ a) (I:Inv h0 W M0 (C++R) γ h) {Q:Exit->Act->Nd->Prop}(p:∀k j γ' f l h',Fn n k γ' f->Inv h0 W M0 (j++R) γ' h'->Same (w9 ops.toList) a f->GxS (w9 ops.toList) γ γ'->K k j->Q .normal f (mk B l h')):(ze7 id ops b).wp P Q a (mk B d h):=by
 unfold A2 at H;split at H;exact zqj q c H B d o I p;rename_i m fz g pu _;cases b with
 |false=>cases H
 |true=>have⟨D,w,g1⟩:=Inv.frzL (C:=C) (γ:=γ) fz I;refine QZ q c H B d (o.gx g1) w λk j γ' f l h' x z y t A=>p k j γ' f l h' x z y (GxS.trans ⟨g1.1,λi _=>g1.2 i ξ⟩ t) A
end
section
variable {S:List Nat} {γ γ':Gh} {u:Value} {C R:CS} {h:zc} {n:Nat} {a:Act} {P:EM} {f:FuncId}
variable {h0 : zc} {W : Nat -> Prop} {M0 : Fr}
structure PlanA where
 tails:r8
 draws:wP
 loops:List (Nat×aa3)
 joins:List (Nat×aa3)
def tq:List (Nat×aa3)->Option Nat->Option aa3
 |[],_=>Te
 |(j,m)::l,some i=>bif mv i j then Td m else tq l (Td i)
 |_,none=>Te
def pA:AA->List Nat
 |.box j _=>[j]
 |.own j=>[j]
 |.oelt j _ _ _=>[j]
 |_=>[]
def sB(S:List Nat):List AA->Bool
 |[]=>Ta
 |x::l=>bif (match pA x with
  |[]=>Ta
  |j::_=>!(Fm S j))then sB S l else Tc
def vT(S:List Nat):AG->Bool
 |.a x=>sB S [x]
 |.agg l=>sB S l
def wA(S:List Nat):List AG->Bool
 |[]=>Ta
 |x::l=>bif vT S x then wA S l else Tc
def Ap(S:List Nat):AV->Bool
 |.g x=>vT S x
 |.tup l=>wA S l
 |.nx _ _ _=>Ta
theorem DH.gxS(g:GxS S γ γ'){x:AA}(c:(match pA x with |[]=>Ta |j::_=>!(Fm S j))=Ta)(h:DH γ x u):DH γ' x u:=by
 have key:∀j,Fm S j=Tc->γ'.β j=γ.β j/\γ'.σ j=γ.σ j:=λj m=>g.2 j (Yh m);cases x with
 |v y=>exact h
 |d t y=>exact Rd.mono g.1 h
 |box j o=>rw[show u=_ from h];simp only[DH,(key j (by simpa[pA]using c)).1]
 |own j=>rw[show u=_ from h];simp only[DH,(key j (by simpa[pA]using c)).2]
 |oelt j z i o=>have⟨b,k,l⟩:=h;exact⟨b,by rw[(key j (by simpa[pA]using c)).2];exact k,l⟩
 |elt t y o=>have⟨b,f,cs,e,h1,h2⟩:=h;exact⟨b,f,cs,e,g.1 _ _ h1,Rd.mono g.1 h2⟩
 |dc t xs=>have⟨s,k,l,h⟩:=h;exact⟨s,k,l,Rd.mono g.1 h⟩
theorem DenL.gxS{S:ac0}{γ γ':Gh}(g:GxS S γ γ'):∀{l:List AA} {us:ac1},sB S l=Ta->Fk (DH γ) l us->Fk (DH γ') l us
 |[],[],_,_=>trivial
 |[],_::_,_,h=>h.elim
 |_::_,[],_,h=>h.elim
 |x::l,u::us,hm,h=>by
  simp only[sB]at hm;cases hx:(match pA x with
   |[]=>Ta
   |j::_=>!(Fm S j))with
  |false=>simp_all
  |true=>rw[hx]at hm;exact⟨DH.gxS g hx h.1,DenL.gxS g hm h.2⟩
theorem PT.gxS(g:GxS S γ γ'){x:AG}(b:vT S x=Ta)(h:PT γ x u):PT γ' x u:=by
 cases x with
 |a x=>have:Fk (DH γ') [x] [u]:=DenL.gxS g b (show Fk (DH γ) [x] [u]from⟨h,trivial⟩);exact this.1
 |agg l=>have⟨us,e,h⟩:=h;exact⟨us,e,DenL.gxS g b h⟩
theorem DP.gxS(g:GxS S γ γ'){x:AV}(f:Ap S x=Ta)(h:DP γ x u):DP γ' x u:=by
 cases x with
 |g x=>exact PT.gxS g f h
 |tup l=>
  have⟨us,e,h⟩:=h;refine⟨us,e,?_⟩;have:∀{l:List AG} {us:ac1},wA S l=Ta->Fk (PT γ) l us->Fk (PT γ') l us:=by
   intro l;induction l with
   |nil=>intro us _ h;cases us with
    |nil=>trivial
    |cons _ _=>cases h
   |cons x l i=>
    intro us f h;cases us with
    |nil=>cases h
    |cons u us=>
     simp only[wA]at f;cases hx:vT S x with
     |false=>simp_all
     |true=>rw[hx]at f;exact⟨PT.gxS g hx h.1,i f h.2⟩
  exact this f h
 |nx b p c=>exact h
def l5(ms S:List Nat):q9->q9
 |[]=>[]
 |(i,[],v)::e=>bif Fm ms i then l5 ms S e else(bif Ap S v then(i,[],v)::l5 ms S e else l5 ms S e)
 |(_,_::_,_)::e=>l5 ms S e
def Xk{ms S:ac0}{γ j:Gh}{a a1:Act}(g:GxS S γ j)(b:Same ms a a1):∀{e:q9},(∀x∈e,mW γ (ql a) x)->∀x∈l5 ms S e,mW j (ql a1) x
 |[],_,x,c=>ε c
 |(i,[],v)::e,h,x,c=>by
  have k:=Xk g b (e:=e) λx c=>h x (zan _ c);simp only[l5]at c;cases hm:Fm ms i with
  |true=>simp_all
  |false=>
   rw[hm]at c;simp only[zL]at c;cases hn:Ap S v with
   |false=>simp_all
   |true=>rw[hn]at c;obtain rfl|c:=zal.1 c;refine⟨λ_=>?_,λf=>absurd trivial f⟩;have:=(h _ zat).1 trivial;simp only at this ⊢;rw[b _ (Yh hm)];exact this.gxS g hn;grind
 |(_,_::_,_)::e,h,x,c=>Xk g b (e:=e) (λx c=>h x (zan _ c)) x c
def jT(ro:List Nat):CS->CS
 |[]=>[]
 |(c,k)::l=>bif Fm ro c then(c,k)::jT ro l else jT ro l
def ox(ro:List Nat):CS->CS
 |[]=>[]
 |(c,k)::l=>bif Fm ro c then ox ro l else(c,k)::ox ro l
def IP(ro:ac0):∀C:CS,(ox ro C++jT ro C).Perm C
 |[]=>.nil
 |(c,k)::l=>by
  have b:=IP ro l;simp only[jT,ox];cases Fm ro c with
  |true=>exact List.perm_middle.trans (b.cons _)
  |false=>exact b.cons _
theorem Inv.part(I:Inv h0 W M0 (C++R) γ h)(ro:ac0):Inv h0 W M0 (ox ro C++(jT ro C++R)) γ h:=by rw[<-za3];exact I.perm ((IP ro C).symm.append_right R)
abbrev mH:=Exit->q9->CS->Prop
def U5(K:q9->CS->Prop)(Q:mH):mH
 |.normal,e,C=>K e C
 |x,e,C=>Q x e C
def Ex(id:Nat)(Q:mH):mH
 |.exit i,e,C=>bif mv i id then Q .normal e C else Q (.exit i) e C
 |x,e,C=>Q x e C
def Ej(m:CS)(K:q9->CS->Prop)(Q:mH):mH
 |.normal,e,C=>K e C
 |x,e,C=>Q x e (C++m)
def iw(pl:PlanA):Code->List Nat
 |.region _ ops _=>w9 ops.toList
 |.seq a b=>iw pl a++(iw pl b++(match tq pl.joins (jf b)with
  |some J=>J.ids
  |none=>[]))
 |.cond _ a b=>iw pl a++iw pl b
 |.block _ b=>iw pl b
 |.loop b=>iw pl b++(match tq pl.loops (jf b)with
  |some J=>J.ids
  |none=>[])
 |_=>[]
def td{X:Type}(J:aa3)(R:CS)(F:kU (kc J) X)(e:q9)(C:CS)(k:X->Prop):Prop:=
 match uJ J R e C with
 |some b=>match ll (kc J) b F with
  |some q=>k q
  |none=>False
 |none=>False
def A9{X:Type}{J:aa3}{F:kU (kc J) X}{e:q9}{k:X->Prop}(h:td J R F e C k):∃b q,uJ J R e C=Td b/\ll (kc J) b F=Td q/\k q:=by unfold td at h;grind
def WA(P:EM)(gl:Fr)(tr:Nw)(n:Nat)(pl:PlanA):Code->CS->mH->q9->CS->Prop
 |.skip,_,Q,e,C=>Q .normal e C
 |.ret,_,Q,e,C=>Q .ret e C
 |.exit id,_,Q,e,C=>Q (.exit id) e C
 |.label _,_,Q,e,C=>Q .normal e C
 |.goto l,_,Q,e,C=>Q (.goto l) e C
 |.region id ops draw,R,Q,e,C=>A2 P gl tr n pl.tails pl.draws id ops draw R (λe C=>Q .normal e C) e C
 |.seq x y,R,Q,e,C=>match tq pl.joins (jf y)with
  |none=>WA P gl tr n pl x R (U5 (λe C=>WA P gl tr n pl y R Q e C) Q) e C
  |some J=>∀K:kU (kc J) Prop,sN (kc J) K (λf q=>WA P gl tr n pl y R Q (np J f++l5 (xz x) (J.ids++iw pl x) e) (nz J f++jT J.ro C)->q) ->
    WA P gl tr n pl x (jT J.ro C++R) (Ej (jT J.ro C) (λh i=>td J (jT J.ro C++R) K h i λq=>q) Q) e (ox J.ro C)
 |.cond c x y,R,Q,e,C=>match iG e [] c with
  |some v=>match pK v with
   |some b=>(b=Ta->WA P gl tr n pl x R Q e C)/\(b=Tc->WA P gl tr n pl y R Q e C)
   |none=>False
  |none=>False
 |.block id x,R,Q,e,C=>WA P gl tr n pl x R (Ex id Q) e C
 |.loop x,R,Q,e,C=>match tq pl.loops (jf x)with
  |some J=>∃(I:kU (kc J) Prop) (μ:kU (kc J) Nat),td J (jT J.ro C++R) (sQ (kc J) I μ) e (ox J.ro C) (λp=>p.1) /\
    sN (kc J) (sQ (kc J) I μ) λf p=>p.1->WA P gl tr n pl x (jT J.ro C++R) (Ej (jT J.ro C) (λh i=>td J (jT J.ro C++R) (sQ (kc J) I μ) h i λq=>q.1/\q.2<p.2) Q)
     (np J f++l5 (xz x) (J.ids++iw pl x) e) (nz J f)
  |none=>False
 |_,_,_,_,_=>False
def qk3(h0:zc)(W:Nat->Prop)(M0:Fr)(n:Nat)(B:Nd)(ms S:List Nat)(a0:Act)(b:Gh)(R:CS)(Q:mH):Exit->Act->Nd->Prop:=
 λx a w=>∃e C γ d h,w=mk B d h/\Fn n e γ a/\Inv h0 W M0 (C++R) γ h/\Same ms a0 a/\GxS S b γ/\Q x e C
def z2r{e:q9}{h γ f:Gh}{a a1:Act}(k:Fn n e h a){ms S ids:ac0}(j:a1.defers=[])(hz:a1.tmps.size=n)(c:Same ms a a1)(g:GxS S h γ)(g1:GxS ids γ f){J:aa3}{i:List Dy}(l:∀x∈np J i,mW f (ql a1) x):Fn n (np J i++l5 ms (ids++S) e) f a1:=by refine⟨j,hz,λx b=>?_⟩;obtain b|b:=zav.1 b;grind;exact Xk ((g.mono λx b=>zaz _ b).trans (g1.mono λx b=>zap _ b)) c k.all x b
def Sv(hm:P.follows .mixedOrders=Ta){gl:Fr}(ak:Fr.le gl M0){tr:Nw}{pl:PlanA}:∀(c:Code) (R:CS) (Q:mH) (e:q9) (C:CS),WA P gl tr n pl c R Q e C ->∀(γ:Gh) (h:zc) (B:Nd) (d:Nat) (a:Act),Fn n e γ a->Inv h0 W M0 (C++R) γ h->c.wp P (qk3 h0 W M0 n B (xz c) (iw pl c) a γ R Q) a (mk B d h):=by
 intro c;induction c with
 |skip=>exact λR Q e C H γ h B d a f I=>wp_skip ⟨e,C,γ,d,h,rfl,f,I,Same.refl _ _,GxS.refl _ _,H⟩
 |ret=>exact λR Q e C H γ h B d a f I=>wp_ret ⟨e,C,γ,d,h,rfl,f,I,Same.refl _ _,GxS.refl _ _,H⟩
 |exit id=>exact λR Q e C H γ h B d a f I=>wp_exit ⟨e,C,γ,d,h,rfl,f,I,Same.refl _ _,GxS.refl _ _,H⟩
 |label l=>exact λR Q e C H γ h B d a f I=>wp_label ⟨e,C,γ,d,h,rfl,f,I,Same.refl _ _,GxS.refl _ _,H⟩
 |goto l=>exact λR Q e C H γ h B d a f I=>wp_goto ⟨e,C,γ,d,h,rfl,f,I,Same.refl _ _,GxS.refl _ _,H⟩
 |region id ops aB=>exact λR Q e C H γ h B d a f I=>WH hm ak H B d f I λe' C' γ' a' d' h' o r q3 q4 q5=>⟨e',C',γ',d',h',rfl,o,r,q3,q4,q5⟩
 |seq x y E G=>
  intro R Q e C H γ h B d a f I;simp only[WA]at H;have S:∀i∈xz x,i∈xz (x.seq y):=λi hi=>zap _ hi;have hr:∀i∈xz y,i∈xz (x.seq y):=λi hi=>zaz _ hi;have T:∀i∈iw pl x,i∈iw pl (x.seq y):=λi hi=>zap _ hi;have kr:∀i∈iw pl y,i∈iw pl (x.seq y):=λi hi=>zaz _ (zap _ hi);split at H;refine wp_seq (wp_mono (E _ _ _ _ H γ h B d a f I) ?_);rintro ex a1 w1 ⟨M,O,j,d1,h1,rfl,s1,w,t,g1,o⟩;cases ex with
  |normal=>refine wp_mono (G _ _ _ _ o j h1 B d1 a1 s1 w) ?_;rintro ex a2 w2 ⟨D,F,A,d2,h2,rfl,s2,L,u,g2,r⟩;exact⟨D,F,A,d2,h2,rfl,s2,L,(t.mono S).trans (u.mono hr),(g1.mono T).trans (g2.mono kr),r⟩
  |_=>exact⟨M,O,j,d1,h1,rfl,s1,w,t.mono S,g1.mono T,o⟩
  rename_i J hJ;have kJ:∀i∈J.ids,i∈iw pl (x.seq y):=λi hi=>by simp only[iw,hJ];simp_all
  have H':=H (tK (kc J) λz=>WA P gl tr n pl y R Q (np J z++l5 (xz x) (J.ids++iw pl x) e) (nz J z++jT J.ro C)) (ET λz Y=>Y);refine wp_seq (wp_mono (E _ _ _ _ H' γ h B d a f (I.part J.ro)) ?_);rintro ex a1 w1 ⟨M,O,j,d1,h1,rfl,s1,w,t,g1,o⟩;cases ex with
  |normal=>have⟨z,q,hv,Y,hk⟩:=A9 o;have ai:=GZ Y;subst ai;have⟨aj,U,V,f1⟩:=BH hv s1 w;have aa:=z2r f s1.defers s1.size t g1 V f1;rw[<-za3]at U;refine wp_mono (G _ _ _ _ hk aj h1 B d1 a1 aa U) ?_;rintro ex a2 w2 ⟨D,F,A,d2,h2,rfl,s2,L,u,g2,r⟩;exact⟨D,F,A,d2,h2,rfl,s2,L,(t.mono S).trans (u.mono hr),((g1.mono T).trans (V.mono kJ)).trans (g2.mono kr),r⟩
  |_=>exact⟨M,O++jT J.ro C,j,d1,h1,rfl,s1,θ,t.mono S,g1.mono T,o⟩
 |cond c x y E G=>intro R Q e C H γ h B d a f I;simp only[WA]at H;have S:∀i∈xz x,i∈xz (ze4 c x y):=λi hi=>zap _ hi;have hr:∀i∈xz y,i∈xz (ze4 c x y):=λi hi=>zaz _ hi;have T:∀i∈iw pl x,i∈iw pl (ze4 c x y):=λi hi=>zap _ hi;have kr:∀i∈iw pl y,i∈iw pl (ze4 c x y):=λi hi=>zaz _ hi;split at H;rename_i v hv;split at H;rename_i b hb;refine wp_cond_split (C8 hb (qe f (c:=[]) trivial hv)) (λac=>?_) (λam=>?_);refine wp_mono (E _ _ _ _ (H.1 ac) γ h B d a f I) ?_;rintro ex a2 w2 ⟨D,F,A,d2,h2,rfl,s2,L,u,g2,r⟩;exact⟨D,F,A,d2,h2,rfl,s2,L,u.mono S,g2.mono T,r⟩;refine wp_mono (G _ _ _ _ (H.2 am) γ h B d a f I) ?_;rintro ex a2 w2 ⟨D,F,A,d2,h2,rfl,s2,L,u,g2,r⟩;exact⟨D,F,A,d2,h2,rfl,s2,L,u.mono hr,g2.mono kr,r⟩;cases H;cases H
 |block id x ih=>
  intro R Q e C H γ h B d a f I;refine wp_block (wp_mono (ih _ _ _ _ H γ h B d a f I) ?_);rintro ex a1 w1 ⟨M,O,j,d1,h1,rfl,s1,w,t,g1,o⟩;cases ex with
  |exit i=>simp only[Ex]at o;simp only[Exit.inBlock];by_cases hb:mv i id=Ta;rw[zA (zao hb)];simp only[hb,zK]at o;exact⟨M,O,j,d1,h1,rfl,s1,w,t,g1,o⟩;rw[zv (λhe=>hb (by rw[he];simp))];simp only[hb,zL]at o;exact⟨M,O,j,d1,h1,rfl,s1,w,t,g1,o⟩
  |_=>exact⟨M,O,j,d1,h1,rfl,s1,w,t,g1,o⟩
 |loop x ih=>
  intro R Q e C H γ h B d a f I;simp only[WA]at H;split at H;rename_i J hJ;have kx:∀i∈iw pl x,i∈iw pl (Code.loop x):=λi hi=>zap _ hi;have kJ:∀i∈J.ids,i∈iw pl (Code.loop x):=λi hi=>by simp only[iw,hJ];simp_all
  have kS:∀i∈J.ids++iw pl x,i∈iw pl (Code.loop x):=λi hi=>η
  have⟨Iv,μ,al,N⟩:=H;have⟨ab,p0,ay,az,ax⟩:=A9 al;have⟨γ0,I0,g0,f0⟩:=BH ay f (I.part J.ro);refine wp_loop_ghost (λm a1 w1=>∃d1 h1 j z p,w1=mk B d1 h1/\a1.defers=[]/\a1.tmps.size=n/\Same (xz x) a a1/\GxS (J.ids++iw pl x) γ j/\Inv h0 W M0 (nz J z++(jT J.ro C++R)) j h1/\(∀y∈np J z,mW j (ql a1) y)/\ll (kc J) z (sQ (kc J) Iv μ)=Td p/\p.1/\p.2=m) p0.2 ⟨d,h,γ0,ab,p0,rfl,f.defers,f.size,Same.refl _ _,g0.mono λi hi=>zap _ hi,I0,f0,az,ax,rfl⟩ ?_;rintro m a1 w1 ⟨d1,h1,j,z,p,rfl,af,au,k,g1,w,f1,hp,aA,rfl⟩;have s1:Fn n (np J z++l5 (xz x) (J.ids++iw pl x) e) j a1:=⟨af,au,λy Z=>by obtain Z|Z:=zav.1 Z;grind;exact Xk g1 k f.all y Z⟩;have hb:=Kg hp N aA;refine wp_mono (ih _ _ _ _ hb j h1 B d1 a1 s1 w) ?_;rintro ex a2 w2 ⟨D,F,A,d2,h2,rfl,s2,L,u,g2,r⟩;cases ex with
  |normal=>have⟨ae,q,ar,Y,ah,an⟩:=A9 r;have⟨γ3,I3,g3,f3⟩:=BH ar s2 L;exact⟨q.2,an,d2,h2,γ3,ae,q,rfl,s2.defers,s2.size,k.trans u,(g1.trans (g2.mono λi hi=>zaz _ hi)).trans (g3.mono λi hi=>zap _ hi),I3,f3,Y,ah,rfl⟩
  |_=>exact⟨D,F++jT J.ro C,A,d2,h2,rfl,s2,θ,k.trans u,(g1.mono kS).trans (g2.mono kx),r⟩
  cases H
 |_=>exact λR Q e C H=>H.elim
def oJ:Nat->List Arg->q9
 |_,[]=>[]
 |i,a::l=>(i,[],.g (tO a.t a.x))::oJ (i+1) l
def uX(e:q9)(i:Nat):Option AV:=match mY e i with
 |some ([],v)=>Td v
 |_=>Te
def m7(P:EM)(cs:CS)(e:q9):List ResultVar->(List AV->Prop)->Prop
 |[],K=>K []
 |.tmp t::l,K=>match uX e t with
  |some v=>m7 P cs e l λvs=>K (v::vs)
  |none=>False
 |.cell a t::l,K=>match uX e a with
  |some (.g (.a aa))=>qO P cs t aa Te λv=>m7 P cs e l λvs=>K (v::vs)
  |_=>False
def jk(cs:CS):(l:List Ty)->List AV->Option (ir l)
 |[],[]=>Td ()
 |[t],[v]=>rO cs t v
 |t::t'::l,v::vs=>match rO cs t v,jk cs (t'::l) vs with
  |some x,some y=>Td (x,y)
  |_,_=>Te
 |_,_=>Te
def Hb{γ:Gh}{cs:CS}(b:l8 γ cs):∀{l:List Ty} {vs:List AV} {r:ir l} {us:ac1},jk cs l vs=Td r->Fk (DP γ) vs us->xY γ.M l r us
 |[],[],r,[],_,_=>rfl
 |[],[],_,_::_,_,h=>h.elim
 |[t],[v],r,[u],h,hd=>⟨u,rfl,CP b (by simpa[jk]using h) hd.1⟩
 |[t],[v],_,[],_,h=>h.elim
 |[t],[v],_,_::_::_,_,h=>h.2.elim
 |t::t'::l,v::vs,r,[],_,h=>h.elim
 |t::t'::l,v::vs,r,u::us,h,hd=>by simp only[jk]at h;split at h;rename_i x y h1 h2;simp only[zad]at h;subst h;exact⟨u,us,rfl,CP b h1 hd.1,Hb b h2 hd.2⟩;cases h
 |[],_::_,_,_,h,_=>by simp[jk]at h
 |[t],[],_,_,h,_=>by simp[jk]at h
 |[t],_::_::_,_,_,h,_=>by simp[jk]at h
 |t::t'::l,[],_,_,h,_=>by simp[jk]at h
def BJ(P:EM)(rs:List ResultVar)(b:List Ty)(R:ir b->Prop):mH:=λx e C=>match x with
 |.normal=>m7 P C e rs λvs=>match jk (frzL (X6 vs) C) b vs with
  |some r=>R r
  |none=>False
 |.ret=>m7 P C e rs λvs=>match jk (frzL (X6 vs) C) b vs with
  |some r=>R r
  |none=>False
 |_=>False
def CG{P:EM}{n:Nat}{C:CS}{e:q9}{γ:Gh}{a:Act}{h:zc}(E:Fn n e γ a)(I:Inv h0 W M0 C γ h):∀{l:List ResultVar} {K:List AV->Prop},m7 P C e l K->∃vs us,K vs/\Fk (DP γ) vs us/\DB us=DB l/\Bk P (l.mapM (oV a.tmps)) h us
 |[],K,H=>⟨[],[],H,trivial,rfl,λ_ _=>ξ⟩
 |.tmp t::l,K,H=>by
  simp only[m7]at H;split at H;rename_i v A;have⟨vs,us,h1,h2,G,F⟩:=CG E I H;have j:DP γ v (ql a t):=by unfold uX at A;split at A;rename_i u q;simp only[zad]at A;subst A;exact(E.all _ (Qm q)).1 trivial;cases A
  refine⟨v::vs,ql a t::us,h1,⟨j,h2⟩,ϑ G,?_⟩;rw[zez];exact Bk.bind (x:=ql a t) (Bk.pure _) (F.bind (Bk.pure _));cases H
 |.cell x t::l,K,H=>by
  simp only[m7]at H;split at H;rename_i m w;have⟨v,N,M⟩:=FD (h0:=h0) (W:=W) (M0:=M0) H;have⟨vs,us,h1,h2,G,F⟩:=CG E I N;have j:DH γ m (ql a x):=by unfold uX at w;split at w;rename_i u q;simp only[zad]at w;subst w;exact(E.all _ (Qm q)).1 trivial;cases w
  have⟨u,O,B⟩:=M trivial γ h _ I j;refine⟨v::vs,u::us,h1,⟨O,h2⟩,ϑ G,?_⟩;rw[zez];refine Bk.bind (x:=u) ?_ (F.bind (Bk.pure _));have J:∃p,ql a x=.pointer (Td p):=by
   have D:∀m,(∀k,uw C k m=Te)->(∀c z i o,m≠.oelt c z i o)->DH γ m (ql a x)->qO P C t m Te (λv=>m7 P C e l λvs=>K (v::vs))->False:=by intro m S L _ q;unfold qO at q;split at q;simp_all;exact q
   cases m with
   |box c o=>exact⟨_,j⟩
   |oelt c z i o=>have⟨g,_,e⟩:=j;grind
   |elt t y o=>have⟨b,f,cs,e,_⟩:=j;grind
   |v y=>exact(D _ (λ_=>rfl) ξ j H).elim
   |d t y=>exact(D _ (λ_=>rfl) ξ j H).elim
   |own c=>exact(D _ (λ_=>rfl) ξ j H).elim
   |dc t y=>exact(D _ (λ_=>rfl) ξ j H).elim
  have⟨p,r⟩:=J;rw[r]at B;have Q:a.tmps.getD x undef=.pointer (Td p):=r;simp only[oV,Q];exact B;cases H
def MM{fn:Func}{rs:List ResultVar}(f:fn.results.toList=rs){us:ac1}(e:us.length=DB rs)(c:Bk P (rs.mapM (oV a.tmps)) h us):Bk P (results fn a.tmps) h (lZ us):=by
 intro B d;have b:results fn a.tmps=(fn.results.mapM (oV a.tmps) >>= λvs=>zd3 (if h:vs.size=1 then vs[0]else .tuple vs)):=by unfold results;congr 1
 rw[b,Array.mapM_eq_mapM_toList,f,DM,Sem.run_map,c B d];simp only[D0,DQ]
 match us,e with
 |[],_=>rfl
 |[v],_=>rfl
 |v::u::vs,_=>simp[lZ]
def Ic{γ:Gh}{σ:Nat->Value}:∀{l:List Arg} {i:Nat} {us:ac1},lF γ.M l us->(∀j v,us[j]?=Td v->σ (i+j)=v)->∀x∈oJ i l,mW γ σ x
 |[],_,_,_,_,x,b=>ε b
 |a::l,i,[],h,_,x,b=>h.elim
 |a::l,i,u::us,h,hσ,x,b=>by simp only[oJ,zal]at b;obtain rfl|b:=b;refine⟨λ_=>?_,λe=>absurd trivial e⟩;have:=hσ 0 u rfl;simp only at this ⊢;rw[show σ i=u from this];exact AR h.1;exact Ic h.2 (λj v c=>by have:=hσ (j+1) v (ψ c);grind) x b
theorem z2s(hm:P.follows .mixedOrders=Ta)(gl:Fr)(tr:Nw)(pl:PlanA)(args:List Arg){fn:Func}{rs:List ResultVar}{o:List Ty}(U:P.funcs[f]?=Td fn)(hb:Yt fn=Ta)(Y:fn.results.toList=rs)(hn:fn.ntmps=n)
 (hz:Nat.ble args.length n=Ta) {R:ir o->Prop} (H:WA P gl tr n pl (codeOf fn) [] (BJ P rs o R) (oJ 0 args) []):PC P gl f args o R:=by
 intro h M vs J y c B d;subst hn;have G:fn.body=Td (codeOf fn):=by unfold Yt at hb;unfold codeOf;split at hb;omega;cases hb
 refine calls_of_wp U G ?_;have t:vs.length=args.length:=(Fk.length c).symm;have aa:vs.length<=fn.ntmps:=by rw[t];exact zci hz
 let γ:Gh:=⟨M,λ_=>0,λ_=>⟨Te,0,0⟩⟩;have I:Inv h (λ_=>False) M ([]++[]) γ h:={ ag:=y,frame:=λ_ _ _=>rfl,size:=zac _,old:=λ_ _=>rfl,le:=Fr.le.refl _,den:=λx F=>(ε F),sep:=λx F=>(ε F),apart:=zfc };have hs:Fn fn.ntmps (oJ 0 args) γ { tmps:=vs.toArray++zcf (fn.ntmps-vs.toArray.size) undef,defers:=[] }:=by refine⟨rfl,φ,Ic c λj v Q=>?_⟩;have E:j<vs.length:=(zbb.1 Q).1;simp only[zax,ql,Array.getD_eq_getD_getElem?];rw[zdd (ψ E)];simp[Q]
 have fin:∀(e:q9) (C:CS) (γ':Gh) (h':zc) (a:Act),Fn fn.ntmps e γ' a->Inv h (λ_=>False) M (C++[]) γ' h'->(m7 P C e rs λvs=>match jk (frzL (X6 vs) C) o vs with|some r=>R r|none=>False) ->
  ∃v,Bk P (results fn a.tmps) h' v/\BT h.size h h'/\∃M' r,Fr.le M M'/\(∀b,b<h.size->M' b=M b)/\AgM M' h'/\Yx M' o r v/\R r:=by
  intro e C γ' h' a s1 m q;rw[zbi]at m;obtain⟨D,us,A,S,V,p⟩:=CG s1 m q;split at A;rename_i r hc;obtain⟨T,l,g2⟩:=Inv.frzL (C:=C) (R:=[]) (γ:=γ') (X6 D) (ψ m);rw[zbi]at l;refine⟨lZ us,MM Y V p,⟨l.size,λi hi=>l.frame i hi (λh=>h)⟩,T.M,r,l.le,l.old,l.ag,⟨us,Hb l.fz hc (S.imp λv _ u Z=>Z.gx g2 rfl),rfl⟩,A⟩;cases A
 refine wp_mono (Sv hm J _ _ _ _ _ H γ h B d _ hs I) ?_;rintro ex a w ⟨O,N,L,d1,h1,rfl,s1,m,m1,g1,z⟩;cases ex with
 |normal=>obtain⟨v,p,k,rest⟩:=fin O N L h1 a s1 m z;exact⟨s1.defers,v,p B d1,v,d1,h1,rfl,rfl,k,rest⟩
 |ret=>obtain⟨v,p,k,rest⟩:=fin O N L h1 a s1 m z;exact⟨s1.defers,v,p B d1,v,d1,h1,rfl,rfl,k,rest⟩
 |_=>cases z
def OA(c:P.follows .mixedOrders=Ta)(gl:Fr)(tr:Nw)(pl:PlanA)(args:List Arg){fn:Func}{rs:List ResultVar}{b:List Ty}(h:P.funcs[f]?=Td fn)(hb:Yt fn=Ta)(i:fn.results.toList=rs)(j:fn.ntmps=n)(hz:Nat.ble (DB args) n=Ta) {R:ir b->Prop} {F:Prop} (H:F) (e:F=WA P gl tr n pl (codeOf fn) [] (BJ P rs b R) (oJ 0 args) []):PC P gl f args b R:=
 z2s c gl tr pl args h hb i j hz (e ▸ H)
end
end
section
open Go.RowKit
section
variable {P:EM} {f:FuncId} {h:zc} {M gl:Fr} {v:Value} {us:List Value}
theorem XC.of_calls{args:ac2}{R:vvv}(H:∀B d,Calls P f args (mk B d h) λe w'=>∃v,e=.returned v/\w'.os=B.os/\w'.tape=B.tape/\w'.output=B.output/\R v w'.heap):XC P f args h R:=by intro B d;refine(H B d).mono ?_;rintro e w' ⟨v,rfl,h1,h2,c,b⟩;refine⟨v,w'.drawn,w'.heap,rfl,?_,b⟩;cases w';simp only[mk]at *;subst h1;subst h2;subst c;rfl
theorem AgM.ab0{h h':zc}(ag:AgM M h)(k:BT h.size h h'):AgM M h':=λb c e=>by have⟨T,m,f⟩:=ag b c e;exact⟨T,m,by rw[k.get b (ag.lt e)];exact f⟩
def pW:Arg->Option Value
 |⟨.int k,x⟩=>Td (.int k x)
 |⟨.bool,x⟩=>Td (.bool x)
 |⟨.str,x⟩=>Td (.string x)
 |_=>Te
def oq:List Arg->Option (List Value)
 |[]=>Td []
 |a::l=>match pW a,oq l with
  |some v,some vs=>Td (v::vs)
  |_,_=>Te
theorem Vr{a:Arg}{v u:Value}(h:pW a=Td v)(b:RdV M a.t a.x u):u=v:=by
 have⟨t,x⟩:=a;cases t with
 |int k=>simp only[pW,zad]at h;subst h;simpa[RdV,Rd,ig]using b
 |bool=>simp only[pW,zad]at h;subst h;simpa[RdV,Rd,ig]using b
 |str=>simp only[pW,zad]at h;subst h;simpa[RdV,Rd,ig]using b
 |_=>simp[pW]at h
theorem BV{M:Fr}:∀{l:List Arg} {vs us:ac1},oq l=Td vs->lF M l us->us=vs
 |[],vs,us,h,hd=>by
  simp only[oq,zad]at h;subst h;cases us with
  |nil=>rfl
  |cons _ _=>cases hd
 |a::l,vs,us,h,hd=>by
  simp only[oq]at h;split at h;rename_i v b h1 h2;simp only[zad]at h;subst h;cases us with
  |nil=>cases hd
  |cons u us=>rw[Vr h1 hd.1,BV h2 hd.2]
  cases h
theorem PC.of_scal{args:List Arg}{l:List Ty}{R:ir l->Prop}(j:oq args=Td us){r:ir l}(o:∀M,Yx M l r v)(p:R r)(H:∀w:Nd,AgM gl w.heap->Calls P f us.toArray w λe w'=>e=.returned v/\Below w.heap.size w w'):PC P gl f args l R:=by intro h M vs m ag n;rw[BV j n];refine XC.of_calls λB d=>(H (mk B d h) λb c e=>ag b c (m b c e)).mono ?_;rintro e w' ⟨rfl,i⟩;have k:BT h.size h w'.heap:=⟨i.size,i.block⟩;exact⟨v,rfl,i.os,i.tape,i.output,k,M,r,Fr.le.refl _,λ_ _=>rfl,ag.ab0 k,o M,p⟩
theorem PC.of_same{args:List Arg}{c:List Ty}{R:ir c->Prop}(b:oq args=Td us){r:ir c}(i:∀M,Yx M c r v)(j:R r)(H:∀w:Nd,AgM gl w.heap->Calls P f us.toArray w λe w'=>e=.returned v/\w'=w):PC P gl f args c R:=
 PC.of_scal b i j λw h=>(H w h).mono λe w' ⟨h1,h2⟩=>⟨h1,h2 ▸ Below.refl _ _⟩
def SD(k:IntKind)(i:Int):Yx M [.int k] i (.int k i):=⟨[_],⟨_,rfl,rfl⟩,rfl⟩
def XR(b:Bool):Yx M [.bool] b (.bool b):=⟨[_],⟨_,rfl,rfl⟩,rfl⟩
def o8(s:Bt):Yx M [.str] s (.string s):=⟨[_],⟨_,rfl,rfl⟩,rfl⟩
theorem AgM.glob{w:Nd}(ag:AgM gl w.heap){b o:Nat}{cs:ac2}(hb:gl b=Td cs)(c:cs[o]?=Td v):w.cell? ⟨b,o,Option.none⟩=Td v:=by have⟨T,m,e⟩:=ag b cs hb;simp[World.cell?,e,c]
def Vo{xs:List Bt}{cells:ac1}(H:KK M .str xs cells):cells=xs.map za0:=by
 have⟨h1,h2⟩:=H;simp only[sz,Nat.mul_one]at h1 h2;refine List.ext_getElem (ϑ h1) λi hi c=>?_;have b:i<DB xs:=ω
 have:=h2 i b;have e:(cells.drop i).take 1=[cells[i]]:=by rw[zbg hi];rfl
 rw[e]at this;have:=show[cells[i]]=[za0 xs[i]]from this;simpa using this
theorem PC.of_ex{args:List Arg}{l:List Ty}{R:ir l->Prop}(j:oq args=Td us)(H:∀w:Nd,AgM gl w.heap->Calls P f us.toArray w λe w'=>∃v r,e=.returned v/\(∀M,Yx M l r v)/\R r/\Below w.heap.size w w'):PC P gl f args l R:=by intro h M vs m ag n;rw[BV j n];refine XC.of_calls λB d=>(H (mk B d h) λb c e=>ag b c (m b c e)).mono ?_;rintro e w' ⟨v,r,rfl,o,p,i⟩;have k:BT h.size h w'.heap:=⟨i.size,i.block⟩;exact⟨v,rfl,i.os,i.tape,i.output,k,M,r,Fr.le.refl _,λ_ _=>rfl,ag.ab0 k,o M,p⟩
end
section
variable {P:EM} {gl M:Fr} {f:FuncId} {h h':zc} {vs cs:List Value} {K:Value -> zc -> Prop} {t:Ty} {u v:Value} {i:Int} {k:Nat}
def PX(P:EM)(f:FuncId)(vs:Array Value)(h:zc)(M:Fr)(c:List Ty)(R:ir c->Prop):Prop:=
 XC P f vs h λv h'=>BT h.size h h'/\∃M' r,Fr.le M M'/\(∀b,b<h.size->M' b=M b)/\AgM M' h'/\Yx M' c r v/\R r
theorem PC.px{args:List Arg}{b:List Ty}{R:ir b->Prop}(H:PC P gl f args b R)(c:Fr.le gl M)(ag:AgM M h)(e:lF M args vs):PX P f vs.toArray h M b R:=H h M vs c ag e
structure At (h:zc) (M:Fr) (h':zc) (M':Fr):Prop where
 ab0:BT h.size h h'
 le:Fr.le M M'
 old:∀b,b<h.size->M' b=M b
 ag:AgM M' h'
theorem At.refl(ag:AgM M h):At h M h M:=⟨BT.refl _ _,Fr.le.refl _,λ_ _=>rfl,ag⟩
theorem At.trans{h h' h'':zc}{M M' M'':Fr}(a:At h M h' M')(b:At h' M' h'' M''):At h M h'' M'':= ⟨a.ab0.trans b.ab0 a.ab0.size,a.le.trans b.le,λx c=>(b.old x (χ a.ab0.size)).trans (a.old x c),b.ag⟩
theorem At.same(ag:AgM M h)(k:BT h.size h h'):At h M h' M:=⟨k,Fr.le.refl _,λ_ _=>rfl,ag.ab0 k⟩
theorem At.push(ag:AgM M h)(o:Obj):At h M (h.push o) M:=At.same ag (ur _ _ (zac _))
theorem PX.go{vs:ac2}{b:List Ty}{R:ir b->Prop}(H:PX P f vs h M b R)(l:∀v h' M' r,At h M h' M'->Yx M' b r v->R r->K v h'):XC P f vs h K:= XC.mono H λv h' ⟨k,M',r,e,m,i,j,c⟩=>l v h' M' r ⟨k,e,m,i⟩ j c
theorem PX.of{vs:ac2}{b:List Ty}{R:ir b->Prop}(H:XC P f vs h λv h'=>∃M' r,At h M h' M'/\Yx M' b r v/\R r):PX P f vs h M b R:= XC.mono H λv h' ⟨M',r,l,e,c⟩=>⟨l.ab0,M',r,l.le,l.old,l.ag,e,c⟩
theorem PC.go{args:List Arg}{b:List Ty}{R:ir b->Prop}(H:PC P gl f args b R)(e:Fr.le gl M)(ag:AgM M h)(c:lF M args vs) (i:∀v h' M' r,At h M h' M'->Yx M' b r v->R r->K v h'):XC P f vs.toArray h K:=(H.px e ag c).go i
theorem J1{x:El t}(b:ig t=Tc):RdV M t x u↔Rd M t x [u]:=by unfold RdV;rw[b];simp
def Qr{x:El t}:Yx M [t] x v↔RdV M t x v:=by constructor;rintro⟨us,⟨u,rfl,h⟩,rfl⟩;exact h;intro h;exact⟨[v],⟨v,rfl,h⟩,rfl⟩
theorem Jb{b:Bool}(h:Yx M [.bool] b v):v=.bool b:=by have:=Qr.1 h;rw[J1 rfl]at this;simpa[Rd]using this
theorem WO{k:IntKind}(h:Yx M [.int k] i v):v=.int k i:=by have:=Qr.1 h;rw[J1 rfl]at this;simpa[Rd]using this
theorem kW{s:Bt}(h:Yx M [.str] s v):v=.string s:=by have:=Qr.1 h;rw[J1 rfl]at this;simpa[Rd]using this
def qc:lF M [] []:=trivial
def zo{a:Arg}{l:List Arg}{us:ac1}(h:RdV M a.t a.x u)(b:lF M l us):lF M (a::l) (u::us):=⟨h,b⟩
def GE(s:Bt):RdV M .str s (.string s):=by rw[J1 rfl];rfl
def Q9(k:IntKind)(i:Int):RdV M (.int k) i (.int k i):=by rw[J1 rfl];rfl
def GS(b:Bool):RdV M .bool b (.bool b):=by rw[J1 rfl];rfl
theorem w5{s:Bt}(h:RdV M .str s u):u=.string s:=by rw[J1 rfl]at h;simpa[Rd]using h
theorem Zu{k:IntKind}(h:RdV M (.int k) i u):u=.int k i:=by rw[J1 rfl]at h;simpa[Rd]using h
theorem qh{v:Tr}(h:RdV M .tree v u):∃sk si:Sl,u=.agg #[.int .i64 v.aa6,.string v.aa9,aK sk,aK si]/\Rd M (.row .str) v.aa8 [aK sk]/\Rd M (.row .tree) v.aa7 [aK si]:=by unfold RdV at h;simp only[ig,if_true]at h;obtain⟨cs,rfl,i⟩:=h;obtain⟨l,m,rfl,h1,h2⟩:=Tk.aa8 i;have c:=h1;have b:=h2;have⟨w1,e,a1,c1,j,_⟩:=c;have⟨w2,f,a2,c2,k,_⟩:=b;simp only[zcv,and_true]at e f;subst e;subst f;subst j;subst k;exact⟨⟨a1,DB v.aa8,c1⟩,⟨a2,DB v.aa7,c2⟩,rfl,h1,h2⟩
def zw{v:Tr}{sk si:Sl}(h1:Rd M (.row .str) v.aa8 [aK sk])(h2:Rd M (.row .tree) v.aa7 [aK si]):RdV M .tree v (.agg #[.int .i64 v.aa6,.string v.aa9,aK sk,aK si]):=by unfold RdV;simp only[ig,if_true];exact⟨[.int .i64 v.aa6,.string v.aa9,aK sk,aK si],rfl,by cases v;exact Tk.of h1 h2⟩
def jU{xs:List (El t)}(h:RdV M (.row t) xs u):∃s:Sl,u=aK s/\Rd M (.row t) xs [aK s]:=by rw[J1 rfl]at h;have h':=h;have⟨w,e,a,c,q,_⟩:=h';simp only[zcv,and_true]at e;subst e;subst q;exact⟨⟨a,DB xs,c⟩,rfl,h⟩
def CD{xs:List (El t)}{s:Sl}(h:Rd M (.row t) xs [aK s]):s.len=DB xs/\DB xs<=140737488355328/\DB xs<=s.cap:=by have⟨w,e,a,c,q,b,_⟩:=h;simp only[zcv,and_true]at e;subst e;simp only[aK,zbc]at q;omega
def aa2{xs:List (El t)}{s:Sl}(h:Rd M (.row t) xs [aK s])(f:k<DB xs):∃b o cs,s.a=Td ⟨b,o,Te⟩/\M b=Td cs/\Rd M t xs[k] (cut cs (o+k*sz t) (sz t)):=by have⟨w,e,a,c,q,j,i⟩:=h;simp only[zcv,and_true]at e;subst e;simp only[aK,zbc]at q;grind
def oP{M:Fr}{h:zc}(ag:AgM M h){b:Nat}{cs:ac2}(j:M b=Td cs):∀{vs:ac1} {o i:Nat},cut cs (o+i) (DB vs)=vs->ze h ⟨b,o,Te⟩ i vs
 |[],_,_,_=>trivial
 |v::vs,o,i,e=>by
  unfold cut at e;have c:o+i<DB cs.toList:=by obtain f|f:=zbv (o+i) (DB cs.toList);exact f;grind
  rw[zbg c,List.length_cons,List.take_succ_cons]at e;injection e with e1 e2;refine⟨?_,oP ag j (i:=i+1) e2⟩;rw[zh];refine ag.cell j ?_;grind
def uW(ag:AgM M h){b:Nat}{cs:ac2}(c:M b=Td cs){o:Nat}(e:cut cs o 1=[v]):zd h ⟨b,o,Te⟩=Td v:=by have:=oP (vs:=[v]) (o:=o) (i:=0) ag c (ψ e);exact this.1
theorem Jk(b o n:Nat):(⟨b,o,Te⟩:Addr).add n=⟨b,o+n,Te⟩:=zh b o n
def ke(ag:AgM M h){xs:List Bt}{s:Sl}(H:Rd M (.row .str) xs [aK s])(f:k<DB xs)(hi:i=(k:Int)){L:Nat}(hL:L=s.len){Q:Bt->Prop}(e:Q xs[k]):∃a:Addr,(s.a=Td a/\0<=i/\i<(L:Int))/\∃x:Bt,zd h (a.add (i.toNat*1))=Td (.string x)/\Q x:=by have⟨b,o,cs,j,c,l⟩:=aa2 H f;have m:=(CD H).1;refine⟨_,⟨j,ω,ω⟩,xs[k],?_,e⟩;rw[Jk,hi,zag];exact uW ag c l
def Qs(ag:AgM M h){xs:List Tr}{s:Sl}(H:Rd M (.row .tree) xs [aK s])(e:k<DB xs):∃(a:Addr) (sk si:Sl),s.a=Td a/\ze h (a.add (k*4)) 0 [.int .i64 xs[k].aa6,.string xs[k].aa9,aK sk,aK si]/\Rd M (.row .str) xs[k].aa8 [aK sk]/\Rd M (.row .tree) xs[k].aa7 [aK si]:=by
 have⟨b,o,cs,f,c,j⟩:=aa2 H e;have l:RdV M .tree xs[k] (.agg (cut cs (o+k*sz .tree) (sz .tree)).toArray):=by unfold RdV;simp only[ig,if_true];exact⟨_,rfl,j⟩
 have⟨sk,si,q,h1,h2⟩:=qh l;refine⟨_,sk,si,f,?_,h1,h2⟩;rw[Jk];refine oP ag c (i:=0) ?_;have:(cut cs (o+k*sz .tree) (sz .tree))=[.int .i64 xs[k].aa6,.string xs[k].aa9,aK sk,aK si]:=by injection q with q;exact congrArg Array.toList q
 exact this
def Mx(M:Fr)(b:Nat)(cs:Array Value):Fr:=λi=>if i=b then Td cs else M i
theorem At.frz(ag:AgM M h)(cs:ac2)(T:Nw):At h M (h.push (.cells cs T)) (Mx M h.size cs) where
 ab0:=ur _ _ (zac _)
 le:=λb c e=>by have:=ag.lt e;unfold Mx;grind
 old:=λb hb=>by unfold Mx;grind
 ag:=λb c e=>by unfold Mx at e;split at e;simp_all;have⟨T',m,e'⟩:=ag b c e;grind
def vY(M:Fr)(b:Nat)(cs:ac2):Mx M b cs b=Td cs:=by unfold Mx;simp
def tf{T:Nw}(k:BT (h.size+1) (h.push (.cells cs.toArray T)) h'):ze h' ⟨h.size,0,Te⟩ 0 cs:= ((Blk.new h cs.toArray T).ab0 (k.get _ ω)).ld
def QP{T:Nw}(k:BT (h.size+1) (h.push (.cells cs.toArray T)) h'){i:Nat}(b:cs[i]?=Td v):zd h' ((⟨h.size,0,Te⟩:Addr).add i)=Td v:=by have:=((Blk.new h cs.toArray T).ab0 (k.get _ ω));exact this.ab1 (o:=0) (ψ b)
end
end
section
open Go.ChangeShapes Go.WideShapes Go.RowKit
set_option linter.all false
section
variable {a:Addr} {cs:List Value} {fuel:Nat} {t e:Nw} {P:EM}
def Fz(W:Nd):Fr:=λb=>match W.heap[b]? with|some (.cells cs _ _)=>some cs|_=>none
theorem Fz.ag(W:Nd):AgM (Fz W) W.heap:=by intro b c e;unfold Fz at e;split at e;rename_i cs T m f;cases e;exact⟨T,m,f⟩;cases e
theorem Fz.cell{W:Nd}{v:Value}(h:W.cell? a=some v):∃b o c,a=⟨b,o,none⟩/\Fz W b=some c/\c[o]?=some v:=by
 have⟨b,o,sp⟩:=a;unfold World.cell? at h;split at h;rename_i c T m e;cases sp with
 |some x=>simp at h
 |none=>refine⟨b,o,c,rfl,?_,ψ h⟩;unfold Fz;change W.heap[b]?=_ at e;rw[e]
 cases h
theorem Fz.cells{W:Nd}{n:Nat}(h:W.cells? 0 a n=some cs)(q:0<n):∃b o c,a=⟨b,o,none⟩/\Fz W b=some c/\cut c o n=cs:=by
 have⟨_,r,l⟩:=World.cells?_some h;have h0:=l 0 q;rw[zam ω]at h0;have⟨b,o,c,e,hb,_⟩:=Fz.cell h0;have⟨p,k,sp⟩:=a;rw[show zab ⟨p,k,sp⟩ 0=⟨p,k,sp⟩from rfl]at e;cases e;refine⟨b,o,c,rfl,hb,?_⟩;have f:∀i,i<n->c[o+i]?=cs[i]?:=λi hi=>by have h1:=l i hi;rw[zam ω]at h1 ⊢;have⟨b2,t,c2,m,j,h2⟩:=Fz.cell h1;rw[zh]at m;cases m;rw[hb]at j;cases j;exact h2
 unfold cut;apply zbm;intro i;by_cases hi:i<n;rw[zbq,if_pos hi,zb1,<-f i hi];simp;rw[zbq,if_neg hi,List.getElem?_eq_none ω]
def qhz{α:Type}{Q:Nat->α->Prop}(n:Nat)(h:∀i,i<n->∃z,Q i z):∃xs:List α,DB xs=n/\∀i (hi:i<DB xs),Q i xs[i]:=by refine⟨List.ofFn λi:Fin n=>Classical.choose (h i i.2),ξ,λi hi=>?_⟩;rw[List.getElem_ofFn];exact Classical.choose_spec (h i (ψ hi))
section
variable {H : Type} {enc : Nw × Value -> H} {P : EM} {W : Nd} {sp : Nat -> Bool} {held : Bool}
def oF(P:EM)(t:Nw)(d:DataW H):Prop:=∀n∈d.weights P t,n<=reachBytes
def Ib{e:Nw}{y:DataW H}:∀{l:List (DataW H)},y∈l->∀n∈y.weights P e,n∈DataW.weightsAll P e l
 |x::l,b,n,hn=>by unfold DataW.weightsAll;obtain rfl|b:=zal.1 b;exact zap _ hn;exact zaz _ (Ib b n hn)
def EB{T:Ty}{x:DataW H×List MemPlace}(ht:P.underlying t=some (.slice e))(hz:P.cellsOf e=sz T)(hp:0<sz T)(hby:0<P.bytesOf e) (hel : ∀ n,n<fuel->∀ cs y,DataW.trod enc P W 0 sp held n e cs=some y->oF P e y.1->∃ z:El T,Rd (Fz W) T z cs)(h:DataW.trod enc P W 0 sp held fuel t cs=some x) (hw:oF P t x.1) : ∃ xs:List (El T),Rd (Fz W) (.row T) xs cs:=by
 obtain⟨rfl,_⟩ | ⟨a,len,cap,elems,rest,n,rfl,rfl,hx,_,hlc,hcap,hlen,hi,_,_⟩:=DataW.trod_slice ht h;exact ⟨[],_,rfl,none,0,rfl,⟨ξ,ξ⟩,.inl rfl⟩
 ·have l : ∀ m, m = ((DB elems) + (DB rest)) * P.bytesOf e \/ m ∈ DataW.weightsAll P e (elems.map (·.1)) -> m <= reachBytes := λm hm => hw m (by rw [hx];unfold DataW.weights;rw [ht];simp only [zal, zav, List.length_map];obtain hm | hm:=hm;exact .inl hm;exact .inr (.inl hm));have r : len <= 140737488355328 := by
   have h1:=l _ (.inl rfl);have h2:elems.length+DB rest<=(DB elems+DB rest) * P.bytesOf e:=zec _ hby;have h3:reachBytes<=140737488355328:=ζ
   omega
  have key : ∀ i,i<len->∃ z:El T,∃ b o c,a.add (i * sz T)=⟨b,o,none⟩/\Fz W b=some c/\Rd (Fz W) T z (cut c o (sz T)):=λi d=>by have h1:=hi i d;rw [zam ω,Option.bind_eq_some_iff] at h1;obtain ⟨cc,h2,h3⟩:=h1;rw [hz] at h2;obtain ⟨b,o,c,e1,e2,e3⟩:=Fz.cells h2 hp;obtain ⟨z,hz⟩:=hel n ω _ _ h3 λm hm=>l m (.inr (Ib (zbr.2 ⟨elems[i],zak ω,rfl⟩) m hm));exact ⟨z,b,o,c,e1,e2,by rw [e3];exact hz⟩
  obtain ⟨xs,p,f⟩:=qhz len key;subst p;refine ⟨xs,_,rfl,some a,cap,rfl,⟨ω,hlc⟩,?_⟩;by_cases h0:xs.length=0;exact .inl (za4 h0);obtain ⟨b,o,c,e1,e2,_⟩:=f 0 ω;obtain ⟨ab,ao,g⟩:=a;rw [Nat.zero_mul,show zab ⟨ab,ao,g⟩ 0=⟨ab,ao,g⟩ from rfl] at e1;cases e1;refine .inr ⟨b,o,c,rfl,e2,λi d=>?_⟩;obtain ⟨b',o',c',k,j,q⟩:=f i d;rw [zh] at k;cases k;rw [e2] at j;cases j;simpa using q
def Lu{x:DataW H×List MemPlace}(b:P.underlying t=some .string)(h:DataW.trod enc P W 0 sp held fuel t cs=some x):∃s:El .str,Rd (Fz W) .str s cs:=by obtain⟨s,rfl,_,_⟩:=DataW.trod_string b h;exact⟨s,rfl⟩
def Og{k:IntKind}{x:DataW H×List MemPlace}(b:P.underlying t=some (.int k))(h:DataW.trod enc P W 0 sp held fuel t cs=some x):∃s:El (.int k),Rd (Fz W) (.int k) s cs:=by obtain⟨s,rfl,_,_⟩:=DataW.trod_int b h;exact⟨s,rfl⟩
def Ox{x:DataW H×List MemPlace}(j:P.underlying t=some (.slice e))(f:P.underlying e=some .string)(k:P.cellsOf e=1)(b:0<P.bytesOf e)(h:DataW.trod enc P W 0 sp held fuel t cs=some x) (c:oF P t x.1):∃xs:List ByteArray,Rd (Fz W) (.row .str) xs cs:=
 EB (T:=.str) j k ζ b (λn _ cs y i _=>Lu f i) h c
def four{a b c d:Value}(f:cs.length=4)(h0:(cs.drop 0).take 1=[a])(h1:(cs.drop 1).take 1=[b])(h2:(cs.drop 2).take 1=[c])(e:(cs.drop 3).take 1=[d]):cs=[a,b,c,d]:=by
 match cs,f with
 |[w,x,y,z],_=>simp at h0 h1 h2 e;subst h0;subst h1;subst h2;subst e;rfl
def YE{c ts tss tvs tk:Nw}{f0 o e i:Field}(D:P.underlying c=some (.struct #[f0,o,e,i]))(C:P.cellsOf c=4) (S:f0.type=tk/\f0.offset=0/\o.type=ts/\o.offset=1/\e.type=tss/\e.offset=2/\i.type=tvs/\i.offset=3) (I:P.underlying tk=some (.int .i64)) (us:P.underlying ts=some .string) (u:P.underlying tss=some (.slice ts)) (r:P.underlying tvs=some (.slice c)) (O:P.cellsOf tk=1) (cs':P.cellsOf ts=1) (p:P.cellsOf tss=1) (w:P.cellsOf tvs=1) (bs:0<P.bytesOf ts) (bv:0<P.bytesOf c):∀(a:Nat) (cs:ac1) (x:DataW H×List MemPlace),DataW.trod enc P W 0 sp held a c cs=some x->oF P c x.1->∃t:Tr,Rd (Fz W) .tree t cs:=by
 intro a;induction a using Nat.strongRecOn with
 |_ a ih=>intro cs x h U;obtain⟨xs,n,rfl,hx,hl,q,b⟩:=DataW.trod_struct D h;have l:∀(j:Nat) (f:Field) (F:j<DB xs),(#[f0,o,e,i]:Array Field)[j]?=some f->oF P f.type (xs[j]).1:=λj f F V m E=>U m (by rw[hx];unfold DataW.weights;rw[D];exact DataW.weights_mem_each (j:=j) (t:=f.type) (d:=(xs[j]).1) (by rw[zb7,Array.getElem?_toList,V];rfl) (by rw[zb7,zam F];rfl) m E);have⟨a0,o0,a1,Q,a2,M,B,Z⟩:=S;have g0:=b 0 f0 rfl;have g1:=b 1 o rfl;have g2:=b 2 e rfl;have G:=b 3 i rfl;have A:xs.length=4:=q;rw[a0,o0,O,zam ω]at g0;rw[a1,Q,cs',zam ω]at g1;rw[a2,M,p,zam ω]at g2;rw[B,Z,w,zam ω]at G;have⟨k,J⟩:=Og I g0;have⟨s,e1⟩:=Lu us g1;have⟨ks,N⟩:=Ox u us cs' bs g2 (by have:=l 2 e ω rfl;rw[a2]at this;exact this);have⟨is,e3⟩:=EB (T:=.tree) r C ζ bv (λm E cs y hy z=>ih m ω cs y hy z) G (by have:=l 3 i ω rfl;rw[B]at this;exact this);have⟨Y,q2,h2⟩:=N;have⟨vi,L,h3⟩:=e3;have:=four (hl.trans C) J e1 q2 L;subst this;exact⟨.mk k s ks is,Tk.of ⟨Y,rfl,h2⟩ ⟨vi,rfl,h3⟩⟩
end
def Pn{f:FuncId}{W:Nd}{args:List Arg}{vs:ac2}(H:PC P (Fz W) f args [.bool] (λr=>r=true))(i:lF (Fz W) args vs.toList):Calls P f vs W λe w'=>e=.returned (.bool true)/\Below W.heap.size W w':=by have c:=H W.heap (Fz W) vs.toList (Fr.le.refl _) (Fz.ag W) i;rw[Array.toArray_toList]at c;refine(c W W.drawn).mono ?_;rintro e w' ⟨v,j,h',rfl,rfl,k,M',r,_,_,_,h,b⟩;have b:r=true:=b;subst b;rw[Jb h];exact⟨rfl,rfl,rfl,rfl,k.size,k.get⟩
def JH{M:Fr}{t:Tr}{cs:ac2}(h:Rd M .tree t cs.toList):RdV M .tree t (.agg cs):=by unfold RdV;simp only[ig,if_true];exact⟨cs.toList,ξ,h⟩
theorem Fz.var{W:Nd}{n:String}{g:Nat}{cs:ac2}(b:P.globalNamed n=some g)(h:W.var? P n=some cs):Fz W g=some cs:=by unfold World.var? at h;rw[b]at h;exact h
end
end
end Go.X
namespace Go.Proofs
section
theorem Tryz.mixed:zbe.follows .mixedOrders=true:=κ
noncomputable abbrev Tp:= zbe
end
end Go.Proofs
namespace Go.X
section
section
def PF{gl:Fr}{args:List Arg}{f:FuncId}{fn:Func}{b:List Ty}{R:ir b->Prop}{F:Prop}(pl:PlanA)(rs:List ResultVar)(n:Nat)(c:zbe.funcs[f]?=Td fn)(H:F)(hb:Yt fn=Ta:=by kernel_rfl)(h:fn.results.toList=rs:=by kernel_rfl)(i:fn.ntmps=n:=by kernel_rfl)(hz:Nat.ble (DB args) n=Ta:=by kernel_rfl)(e:F=WA Tp gl 25 n pl (codeOf fn) [] (BJ Tp rs b R) (oJ 0 args) []:=by kernel_rfl):PC Tp gl f args b R:=OA Tryz.mixed gl 25 pl args c hb h i hz H e
abbrev ab5(s:ByteArray):Value:=.string s
abbrev ab8(b:Bool):Value:=.bool b
abbrev ab6(a:_root_.Go.Addr):Value:=.pointer (Td a)
abbrev ab9(n:Int):Value:=.int .i64 n
abbrev ab7(h:Array Obj):_root_.Go.Addr:=⟨h.size,0,Te⟩
abbrev ad6:ByteArray:=⟨#[48,49,50,51,52,53,54,55,56,57]⟩
abbrev ad7:ByteArray:=⟨#[48,49,50,51,52,53,54,55,56,57,97,98,99,100,101,102]⟩
abbrev ad8:ByteArray:=⟨#[48,49,50,51,52,53,54,55,56,57,97,98,99,100,101,102,103,104,105,106,107,108,109,110,111,112,113,114,115,116,117,118,119,120,121,122]⟩
abbrev ad9:ByteArray:=⟨#[114,101,109,111,118,101,32,34,47,97,34,10,114,101,112,108,97,99,101,32,34,47,98,47,49,34,32,51,10,97,100,100,32,34,47,99,34,32,48,10]⟩
def Oj(gl:Fr)(f:Tr)(e:Int)(R:ad2) (H:PC Tp gl 53 [up .tree (Tr.mk f.aa6 f.aa9 f.aa8 f.aa7),up PJ e,up PJ 0] [.int .i64] (λa:Int=>∃b:Bool->Prop,(ph (a>=0)=Ta->PC Tp gl 54 [up .tree (Tr.mk f.aa6 f.aa9 f.aa8 f.aa7)] [.bool] b)/\∀c:Bool,(ph (a>=0)=Ta->b c)->R (cond (ph (a>=0)) c Tc))):PC Tp gl 12 [up .tree f,up PJ e] [.bool] R:=PF ⟨[],[],[],[]⟩ [.tmp 4] 15 func12 H
def zdq(gl:Fr)(a0:Tr)(b1:Tr)(R:ad2) (H:((cond (cond (cond (a0.aa6 != b1.aa6) Ta (!(a0.aa9.toList==b1.aa9.toList))) Ta ((DB a0.aa8:Int) != (DB b1.aa8:Int))) Ta ((DB a0.aa7:Int) != (DB b1.aa7:Int)))=Ta->R Tc)/\((cond (cond (cond (a0.aa6 != b1.aa6) Ta (!(a0.aa9.toList==b1.aa9.toList))) Ta ((DB a0.aa8:Int) != (DB b1.aa8:Int))) Ta ((DB a0.aa7:Int) != (DB b1.aa7:Int)))=Tc->∃(a:ad3) (b:Int->Nat),a 0/\∀c:Int,a c->((ph (c<DB a0.aa8)=Ta->∃d,(0<=c/\a0.aa8[c.toNat]?=Td d)/\∃e,(0<=c/\b1.aa8[c.toNat]?=Td e)/\((!(d.toList==e.toList))=Ta->R Tc)/\((!(d.toList==e.toList))=Tc->(a (w6 (c+1))/\b (w6 (c+1))<b c)))/\(ph (c<DB a0.aa8)=Tc->∃(f:ad3) (g:Int->Nat),f 0/\∀i:Int,f i->((ph (i<DB a0.aa7)=Ta->∃j,(0<=i/\a0.aa7[i.toNat]?=Td j)/\∃k,(0<=i/\b1.aa7[i.toNat]?=Td k)/\PC Tp gl 17 [up .tree (Tr.mk j.aa6 j.aa9 j.aa8 j.aa7),up .tree (Tr.mk k.aa6 k.aa9 k.aa8 k.aa7)] [.bool] (λl:Bool=>((!l)=Ta->R Tc)/\((!l)=Tc->(f (w6 (i+1))/\g (w6 (i+1))<g i))))/\(ph (i<DB a0.aa7)=Tc->R Ta)))))):PC Tp gl 17 [up .tree a0,up .tree b1] [.bool] R:=PF ⟨[(11,10)],[],[(4,⟨[(5,.one (.dat PJ))],[],[2,3],[100320]⟩),(9,⟨[(6,.one (.dat PJ))],[],[2,3],[100384]⟩)],[]⟩ [.tmp 4] 76 func17 H
def zho(gl:Fr)(b:List Bt)(c:List Tr)(R:Tr->Prop) (H:R (Tr.mk 6 (⟨#[]⟩:Bt) b c)):PC Tp gl 47 [up (.row .str) b,up (.row .tree) c] [.tree] R:=PF ⟨[],[],[],[]⟩ [.cell 4 25] 8 func47 H
def Uu(gl:Fr)(b:List Tr)(R:Tr->Prop) (H:R (Tr.mk 5 (⟨#[]⟩:Bt) [] b)):PC Tp gl 52 [up (.row .tree) b] [.tree] R:=PF ⟨[],[],[],[]⟩ [.cell 2 25] 5 func52 H
def zt6(gl:Fr)(n0:Int)(R:Tr->Prop) (H:PC Tp gl 93 [up PJ n0] [.pair .bool (.pair .str (.int .i64))] (λa:Bool×Bt×Int=>PC Tp gl 92 [up (.pair .bool (.pair .str (.int .i64))) (a.1,(a.2.1,a.2.2))] [.str] (λb:Bt=>R (Tr.mk 3 b [] [])))):PC Tp gl 51 [up PJ n0] [.tree] R:=PF ⟨[],[],[],[]⟩ [.cell 2 25] 7 func51 H
def VM(gl:Fr)(b:Bt)(R:ad2) (H:PC Tp gl 196 [up .str b] [.int .i64,.bool] (λa:Int×Bool=>R a.2)):PC Tp gl 137 [up .str b] [.bool] R:=PF ⟨[],[],[],[]⟩ [.tmp 2] 11 func137 H
def Pr(gl:Fr)(j:Tr)(i:Int)(h:Int)(R:ad3) (H:(ph (h>60)=Ta->R (-1))/\(ph (h>60)=Tc->∃(a:Int->Int->Prop) (b:Int->Int->Nat),a (w6 ((w6 (i-1))-(DB j.aa8:Int))) 0/\∀c d:Int,a c d->(((cond (ph (d<DB j.aa7)) (ph (c>=0)) Tc)=Ta->∃e,(0<=d/\j.aa7[d.toNat]?=Td e)/\PC Tp gl 53 [up .tree (Tr.mk e.aa6 e.aa9 e.aa8 e.aa7),up PJ c,up PJ (w6 (h+1))] [.int .i64] (λf:Int=>(a f (w6 (d+1))/\b f (w6 (d+1))<b c d)))/\((cond (ph (d<DB j.aa7)) (ph (c>=0)) Tc)=Tc->R c)))):PC Tp gl 53 [up .tree j,up PJ i,up PJ h] [.int .i64] R:=PF ⟨[],[],[(5,⟨[(1,.one (.dat PJ)),(7,.one (.dat PJ))],[],[3],[100064,100448]⟩)],[]⟩ [.tmp 6] 37 func53 H
def Sz(gl:Fr)(h:Tr)(R:ad2) (H:(ph ((h.aa9.size:Int)>2048)=Ta->R Tc)/\(ph ((h.aa9.size:Int)>2048)=Tc->∃(a:ad3) (b:Int->Nat),a 0/\∀c:Int,a c->((ph (c<DB h.aa8)=Ta->∃d,(0<=c/\h.aa8[c.toNat]?=Td d)/\(ph ((d.size:Int)>1024)=Ta->R Tc)/\(ph ((d.size:Int)>1024)=Tc->(a (w6 (c+1))/\b (w6 (c+1))<b c)))/\(ph (c<DB h.aa8)=Tc->∃(e:ad3) (f:Int->Nat),e 0/\∀g:Int,e g->((ph (g<DB h.aa7)=Ta->∃i,(0<=g/\h.aa7[g.toNat]?=Td i)/\PC Tp gl 54 [up .tree (Tr.mk i.aa6 i.aa9 i.aa8 i.aa7)] [.bool] (λj:Bool=>((!j)=Ta->R Tc)/\((!j)=Tc->(e (w6 (g+1))/\f (w6 (g+1))<f g))))/\(ph (g<DB h.aa7)=Tc->R Ta)))))):PC Tp gl 54 [up .tree h] [.bool] R:=PF ⟨[],[],[(4,⟨[(3,.one (.dat PJ))],[],[1],[100192]⟩),(9,⟨[(4,.one (.dat PJ))],[],[1],[100256]⟩)],[]⟩ [.tmp 2] 39 func54 H
def Vk(gl:Fr)(f:Tr)(R:ad2) (H:PC Tp gl 102 [up .tree (Tr.mk f.aa6 f.aa9 f.aa8 f.aa7)] [.int .i64] (λa:Int=>∃b:Int->Prop,(ph (a<=4096)=Ta->PC Tp gl 103 [up .tree (Tr.mk f.aa6 f.aa9 f.aa8 f.aa7)] [.int .i64] b)/\∀c:Int,(ph (a<=4096)=Ta->b c)->∃d:Bool->Prop,((cond (ph (a<=4096)) (ph (c<=32)) Tc)=Ta->PC Tp gl 104 [up .tree (Tr.mk f.aa6 f.aa9 f.aa8 f.aa7),up .bool Ta] [.bool] d)/\∀e:Bool,((cond (ph (a<=4096)) (ph (c<=32)) Tc)=Ta->d e)->R (cond (cond (ph (a<=4096)) (ph (c<=32)) Tc) e Tc))):PC Tp gl 106 [up .tree f] [.bool] R:=PF ⟨[],[],[],[]⟩ [.tmp 2] 15 func106 H
def Nz(gl:Fr)(f:Bt)(R:(Int×Bool)->Prop) (H:∃(a:ad3) (b:Int->Nat),a 0/\∀c:Int,a c->((ph (c<f.size)=Ta->PC Tp gl 258 [up .str f,up PJ c] [.bool] (λd:Bool=>((!d)=Ta->R (c,Tc))/\((!d)=Tc->PC Tp gl 259 [up .str f,up PJ c] [.int .i32,.int .i64] (λe:Int×Int=>(a (w6 (c+e.2))/\b (w6 (c+e.2))<b c)))))/\(ph (c<f.size)=Tc->R ((f.size:Int),Ta)))):PC Tp gl 203 [up .str f] [.int .i64,.bool] R:=PF ⟨[],[],[(2,⟨[(4,.one (.dat PJ))],[],[],[100256]⟩)],[]⟩ [.tmp 2,.tmp 3] 29 func203 H
def QE(gl:Fr)(n0:Bool×Bt×Int)(R:Bt->Prop) (H:PC Tp gl 158 [up (.pair .bool (.pair .str (.int .i64))) (n0.1,(n0.2.1,n0.2.2))] [.bool] (λa:Bool=>((!a)=Ta->R (⟨#[]⟩:Bt))/\((!a)=Tc->((n0.2.1.toList==(⟨#[]⟩:Bt).toList)=Ta->R (⟨#[48]⟩:Bt))/\((n0.2.1.toList==(⟨#[]⟩:Bt).toList)=Tc->∀b:Bt->Prop,(∀c:Bt,(((n0.2.2 != 0)=Ta->PC Tp gl 159 [up PJ n0.2.2] [.str] (λd:Bt=>qg (((⟨#[101]⟩:Bt)).size+d.size)/\qg (c.size+((⟨#[101]⟩:Bt)++d).size)/\R (c++((⟨#[101]⟩:Bt)++d))))/\((n0.2.2 != 0)=Tc->R c))->b c)->(n0.1=Ta->qg (((⟨#[45]⟩:Bt)).size+n0.2.1.size)/\b ((⟨#[45]⟩:Bt)++n0.2.1))/\(n0.1=Tc->b n0.2.1))))):PC Tp gl 92 [up (.pair .bool (.pair .str (.int .i64))) n0] [.str] R:=PF ⟨[],[],[],[(8,⟨[(3,.one (.dat .str))],[],[1],[100192]⟩)]⟩ [.tmp 2] 26 func92 H
def SK(gl:Fr)(n0:Int)(R:(Bool×Bt×Int)->Prop) (H:PC Tp gl 159 [up PJ n0] [.str] (λa:Bt=>PC Tp gl 160 [up .str a] [.pair .bool (.pair .str (.int .i64)),.int .i64] (λb:(Bool×Bt×Int)×Int=>R (b.1.1,(b.1.2.1,b.1.2.2))))):PC Tp gl 93 [up PJ n0] [.pair .bool (.pair .str (.int .i64))] R:=PF ⟨[],[],[],[]⟩ [.cell 2 110] 12 func93 H
def RG(gl:Fr)(f:Bt)(R:(Int×Bool)->Prop) (H:PC Tp gl 246 [up .str f] [.bool] (λa:Bool=>(a=Ta->R ((f.size:Int),Ta))/\(a=Tc->∃(b:(Bt×Nat)->Prop) (c:(Bt×Nat)->Nat),b (f,0)/\∀e:Bt×Nat,b e->(((iX e.1 e.2)=Ta->(iX e.1 e.2)=Ta/\(iX e.1 e.2)=Ta/\(((kI e.1 e.2:Int) != 65533)=Ta->(b (e.1,iQ e.1 e.2)/\c (e.1,iQ e.1 e.2)<c e))/\(((kI e.1 e.2:Int) != 65533)=Tc->(0<=(e.2:Int)/\(e.2:Int)<=(f.size:Int)/\(f.size:Int)<=(f.size:Int))/\PC Tp gl 247 [up .str (f.extract (e.2:Int).toNat (f.size:Int).toNat)] [.int .i32,.int .i64] (λd:Int×Int=>((d.2==1)=Ta->R ((e.2:Int),Tc))/\((d.2==1)=Tc->(b (e.1,iQ e.1 e.2)/\c (e.1,iQ e.1 e.2)<c e)))))/\((iX e.1 e.2)=Tc->R ((f.size:Int),Ta)))))):PC Tp gl 196 [up .str f] [.int .i64,.bool] R:=PF ⟨[],[],[(4,⟨[],[(13,[.dat .iter])],[],[1000832]⟩)],[]⟩ [.tmp 2,.tmp 3] 32 func196 H
def znm(gl:Fr)(e:Tr)(R:ad2) (H:PC Tp gl 43 [up .tree (Tr.mk e.aa6 e.aa9 e.aa8 e.aa7)] [.int .i64] (λa:Int=>∃b:Int->Prop,(ph (a<=4096)=Ta->PC Tp gl 144 [up .tree (Tr.mk e.aa6 e.aa9 e.aa8 e.aa7)] [.int .i64] b)/\∀c:Int,(ph (a<=4096)=Ta->b c)->R (cond (ph (a<=4096)) (ph (c<=32)) Tc))):PC Tp gl 86 [up .tree e] [.bool] R:=PF ⟨[],[],[],[]⟩ [.tmp 2] 11 func86 H
def T8(gl:Fr)(e:Tr)(R:ad2) (H:((e.aa6==5)=Ta->R (cond (!(ph ((DB e.aa8:Int)>0))) (e.aa9.toList==(⟨#[]⟩:Bt).toList) Tc))/\((e.aa6==5)=Tc->((e.aa6==6)=Ta->PC Tp gl 147 [up (.row .str) e.aa8,up PJ (DB e.aa7:Int)] [.bool] (λa:Bool=>R (cond a (e.aa9.toList==(⟨#[]⟩:Bt).toList) Tc)))/\((e.aa6==6)=Tc->((cond (ph ((DB e.aa8:Int)>0)) Ta (ph ((DB e.aa7:Int)>0)))=Ta->R Tc)/\((cond (ph ((DB e.aa8:Int)>0)) Ta (ph ((DB e.aa7:Int)>0)))=Tc->((e.aa6==1)=Ta->R (e.aa9.toList==(⟨#[]⟩:Bt).toList))/\((e.aa6==1)=Tc->((e.aa6==2)=Ta->R (cond (e.aa9.toList==(⟨#[116,114,117,101]⟩:Bt).toList) Ta (e.aa9.toList==(⟨#[102,97,108,115,101]⟩:Bt).toList)))/\((e.aa6==2)=Tc->((e.aa6==3)=Ta->PC Tp gl 148 [up .str e.aa9] [.pair .bool (.pair .str (.int .i64)),.bool] (λb:(Bool×Bt×Int)×Bool=>R b.2))/\((e.aa6==3)=Tc->((e.aa6==4)=Ta->PC Tp gl 149 [up .str e.aa9] [.bool] (λc:Bool=>R c))/\((e.aa6==4)=Tc->((e.aa6==7)=Ta->PC Tp gl 150 [up .str e.aa9] [.bool] (λd:Bool=>R d))/\((e.aa6==7)=Tc->R Tc))))))))):PC Tp gl 89 [up .tree e] [.bool] R:=PF ⟨[],[],[],[]⟩ [.tmp 2] 79 func89 H
def zfj(gl:Fr)(h:Tr)(R:ad3) (H:∃(a:Int->Int->Prop) (b:Int->Int->Nat),a 1 0/\∀c d:Int,a c d->((ph (d<DB h.aa7)=Ta->∃e,(0<=d/\h.aa7[d.toNat]?=Td e)/\PC Tp gl 102 [up .tree (Tr.mk e.aa6 e.aa9 e.aa8 e.aa7)] [.int .i64] (λf:Int=>(a (w6 (c+f)) (w6 (d+1))/\b (w6 (c+f)) (w6 (d+1))<b c d)))/\(ph (d<DB h.aa7)=Tc->R c))):PC Tp gl 102 [up .tree h] [.int .i64] R:=PF ⟨[],[],[(3,⟨[(3,.one (.dat PJ)),(4,.one (.dat PJ))],[],[1],[100192,100256]⟩)],[]⟩ [.tmp 2] 21 func102 H
def XD(gl:Fr)(h:Tr)(R:ad3) (H:∃(a:Int->Int->Prop) (b:Int->Int->Nat),a 0 0/\∀c d:Int,a c d->((ph (d<DB h.aa7)=Ta->∃e,(0<=d/\h.aa7[d.toNat]?=Td e)/\PC Tp gl 103 [up .tree (Tr.mk e.aa6 e.aa9 e.aa8 e.aa7)] [.int .i64] (λf:Int=>(a (ite (c<f) f c) (w6 (d+1))/\b (ite (c<f) f c) (w6 (d+1))<b c d)))/\(ph (d<DB h.aa7)=Tc->R (w6 (c+1))))):PC Tp gl 103 [up .tree h] [.int .i64] R:=PF ⟨[],[],[(3,⟨[(3,.one (.dat PJ)),(4,.one (.dat PJ))],[],[1],[100192,100256]⟩)],[]⟩ [.tmp 2] 22 func103 H
def MU(gl:Fr)(i:Tr)(h:Bool)(R:ad2) (H:PC Tp gl 163 [up .tree (Tr.mk i.aa6 i.aa9 i.aa8 i.aa7)] [.bool] (λa:Bool=>((cond (!a) Ta (cond (i.aa6==7) (!h) Tc))=Ta->R Tc)/\((cond (!a) Ta (cond (i.aa6==7) (!h) Tc))=Tc->∃(b:ad3) (c:Int->Nat),b 0/\∀d:Int,b d->((ph (d<DB i.aa7)=Ta->∃e,(0<=d/\i.aa7[d.toNat]?=Td e)/\PC Tp gl 104 [up .tree (Tr.mk e.aa6 e.aa9 e.aa8 e.aa7),up .bool h] [.bool] (λf:Bool=>((!f)=Ta->R Tc)/\((!f)=Tc->(b (w6 (d+1))/\c (w6 (d+1))<c d))))/\(ph (d<DB i.aa7)=Tc->R Ta))))):PC Tp gl 104 [up .tree i,up .bool h] [.bool] R:=PF ⟨[],[],[(5,⟨[(6,.one (.dat PJ))],[],[2],[100384]⟩)],[]⟩ [.tmp 4] 37 func104 H
def N0(gl:Fr)(c:Bt)(b:Int)(R:ad2) (H:PC Tp gl 259 [up .str c,up PJ b] [.int .i32,.int .i64] (λa:Int×Int=>R (cond (ph (a.2>0)) (!(cond (a.1==65533) (a.2==1) Tc)) Tc))):PC Tp gl 258 [up .str c,up PJ b] [.bool] R:=PF ⟨[],[],[],[]⟩ [.tmp 4] 24 func258 H
def Oa(gl:Fr)(m:Bt)(h:Int)(R:(Int×Int)->Prop) (H:((cond (ph (h<0)) Ta (ph (h>=m.size)))=Ta->R (0,0))/\((cond (ph (h<0)) Ta (ph (h>=m.size)))=Tc->(0<=h/\h<m.size)/\PC Tp gl 309 [up PJ (w6 (zf m h.toNat))] [.int .i64] (λa:Int=>((cond (a==0) Ta (ph (a>(w6 ((m.size:Int)-h)))))=Ta->R (65533,1))/\((cond (a==0) Ta (ph (a>(w6 ((m.size:Int)-h)))))=Tc->(0<=h/\h<m.size)/\∀b:Int->Prop,(∀c:Int,(∀d:Int->Prop,(∀e:Int,(∀f:Int->Prop,(∀g:Int,(∃(i:Int->Int->Prop) (j:Int->Int->Nat),i g 1/\∀k l:Int,i k l->((ph (l<a)=Ta->(0<=(w6 (h+l))/\(w6 (h+l))<(m.size:Int))/\((cond (ph ((w6 (zf m (w6 (h+l):Int).toNat))<128)) Ta (ph ((w6 (zf m (w6 (h+l):Int).toNat))>191)))=Ta->R (65533,1))/\((cond (ph ((w6 (zf m (w6 (h+l):Int).toNat))<128)) Ta (ph ((w6 (zf m (w6 (h+l):Int).toNat))>191)))=Tc->(i (w6 ((w6 ((w6 (64*k))+(w6 (zf m (w6 (h+l)).toNat))))-128)) (w6 (l+1))/\j (w6 ((w6 ((w6 (64*k))+(w6 (zf m (w6 (h+l)).toNat))))-128)) (w6 (l+1))<j k l)))/\(ph (l<a)=Tc->((cond (cond (cond (cond (a==3) (ph (k<2048)) Tc) Ta (cond (a==4) (ph (k<65536)) Tc)) Ta (ph (k>1114111))) Ta (cond (ph (k>=55296)) (ph (k<57344)) Tc))=Ta->R (65533,1))/\((cond (cond (cond (cond (a==3) (ph (k<2048)) Tc) Ta (cond (a==4) (ph (k<65536)) Tc)) Ta (ph (k>1114111))) Ta (cond (ph (k>=55296)) (ph (k<57344)) Tc))=Tc->R (zaa .i32 k,a)))))->f g)->((a==4)=Ta->f (w6 (e-240)))/\((a==4)=Tc->f e))->d e)->((a==3)=Ta->d (w6 (c-224)))/\((a==3)=Tc->d c))->b c)->((a==2)=Ta->b (w6 ((w6 (zf m h.toNat))-192)))/\((a==2)=Tc->b (w6 (zf m h.toNat))))))):PC Tp gl 259 [up .str m,up PJ h] [.int .i32,.int .i64] R:=PF ⟨[],[],[(14,⟨[(7,.one (.dat PJ)),(8,.one (.dat PJ))],[],[],[100448,100512]⟩)],[(9,⟨[(7,.one (.dat PJ))],[],[],[100448]⟩),(11,⟨[(7,.one (.dat PJ))],[],[],[100448]⟩),(13,⟨[(7,.one (.dat PJ))],[],[],[100448]⟩)]⟩ [.tmp 4,.tmp 5] 100 func259 H
def zlm(gl:Fr)(n0:Bool×Bt×Int)(R:ad2) (H:(((n0.1==Tc)&&((n0.2.1.toList==(⟨#[]⟩:Bt).toList)&&((n0.2.2==0)&&Ta)))=Ta->R Ta)/\(((n0.1==Tc)&&((n0.2.1.toList==(⟨#[]⟩:Bt).toList)&&((n0.2.2==0)&&Ta)))=Tc->PC Tp gl 215 [up .str n0.2.1] [.bool] (λa:Bool=>((!a)=Ta->((!a)=Ta->R Tc)/\((!a)=Tc->R (cond (ph (n0.2.2>=(-1000000))) (ph (n0.2.2<=1000000)) Tc)))/\((!a)=Tc->(ph ((n0.2.1.size:Int)>1000)=Ta->(ph ((n0.2.1.size:Int)>1000)=Ta->R Tc)/\(ph ((n0.2.1.size:Int)>1000)=Tc->R (cond (ph (n0.2.2>=(-1000000))) (ph (n0.2.2<=1000000)) Tc)))/\(ph ((n0.2.1.size:Int)>1000)=Tc->(0<=(0:Int)/\(0:Int)<(n0.2.1.size:Int))/\(((zf n0.2.1 (0:Int).toNat:Int)==48)=Ta->(((zf n0.2.1 (0:Int).toNat:Int)==48)=Ta->R Tc)/\(((zf n0.2.1 (0:Int).toNat:Int)==48)=Tc->R (cond (ph (n0.2.2>=(-1000000))) (ph (n0.2.2<=1000000)) Tc)))/\(((zf n0.2.1 (0:Int).toNat:Int)==48)=Tc->(0<=(w6 ((n0.2.1.size:Int)-1))/\(w6 ((n0.2.1.size:Int)-1))<(n0.2.1.size:Int))/\(((zf n0.2.1 (w6 ((n0.2.1.size:Int)-1)).toNat:Int)==48)=Ta->R Tc)/\(((zf n0.2.1 (w6 ((n0.2.1.size:Int)-1)).toNat:Int)==48)=Tc->R (cond (ph (n0.2.2>=(-1000000))) (ph (n0.2.2<=1000000)) Tc)))))))):PC Tp gl 158 [up (.pair .bool (.pair .str (.int .i64))) n0] [.bool] R:=PF ⟨[],[],[],[]⟩ [.tmp 2] 34 func158 H
def NE(gl:Fr)(r:Bt)(R:((Bool×Bt×Int)×Int)->Prop) (H:PC Tp gl 217 [up .str r] [.pair .bool (.pair .bool (.pair .str (.pair .str .str))),.bool] (λa:(Bool×Bool×Bt×Bt×Bt)×Bool=>PC Tp gl 218 [up .str a.1.2.2.2.2,up .str (⟨#[48]⟩:Bt)] [.str] (λb:Bt=>((!a.2)=Ta->R ((Tc,((⟨#[]⟩:Bt),0)),2))/\((!a.2)=Tc->((ph ((w6 ((a.1.2.2.1.size:Int)+(a.1.2.2.2.1.size:Int)))>1000))=Ta->R ((Tc,((⟨#[]⟩:Bt),0)),3))/\((ph ((w6 ((a.1.2.2.1.size:Int)+(a.1.2.2.2.1.size:Int)))>1000))=Tc->(ph ((b.size:Int)>9)=Ta->R ((Tc,((⟨#[]⟩:Bt),0)),4))/\(ph ((b.size:Int)>9)=Tc->∃(c:Int->Bool->Bt->Int->(Bt×Nat)->Prop) (d:Int->Bool->Bt->Int->(Bt×Nat)->Nat),c 0 Tc (⟨#[]⟩:Bt) 0 (b,0)/\∀e:Int,∀m:Bool,∀l:Bt,∀n:Int,∀h:Bt×Nat,c e m l n h->(((iX h.1 h.2)=Ta->(iX h.1 h.2)=Ta/\(c (w6 ((w6 (10*e))+(w6 (zaa .i32 ((kI h.1 h.2)-48))))) m l n (h.1,iQ h.1 h.2)/\d (w6 ((w6 (10*e))+(w6 (zaa .i32 ((kI h.1 h.2)-48))))) m l n (h.1,iQ h.1 h.2)<d e m l n h))/\((iX h.1 h.2)=Tc->∀f:Int->Bool->Bt->Int->Prop,(∀g:Int,∀o:Bool,∀q:Bt,∀p:Int,(qg (a.1.2.2.1.size+a.1.2.2.2.1.size)/\PC Tp gl 218 [up .str (a.1.2.2.1++a.1.2.2.2.1),up .str (⟨#[48]⟩:Bt)] [.str] (λi:Bt=>((i.toList==(⟨#[]⟩:Bt).toList)=Ta->R ((Tc,((⟨#[]⟩:Bt),0)),0))/\((i.toList==(⟨#[]⟩:Bt).toList)=Tc->PC Tp gl 219 [up .str i,up .str (⟨#[48]⟩:Bt)] [.str] (λj:Bt=>PC Tp gl 158 [up (.pair .bool (.pair .str (.int .i64))) (a.1.1,(j,w6 ((w6 ((w6 (g-(a.1.2.2.2.1.size:Int)))+(i.size:Int)))-(j.size:Int))))] [.bool] (λk:Bool=>((!k)=Ta->R ((Tc,((⟨#[]⟩:Bt),0)),4))/\((!k)=Tc->R ((a.1.1,(j,w6 ((w6 ((w6 (g-(a.1.2.2.2.1.size:Int)))+(i.size:Int)))-(j.size:Int)))),0)))))))->f g o q p)->(a.1.2.1=Ta->f (w6 (0-e)) m l n)/\(a.1.2.1=Tc->f e m l n))))))))):PC Tp gl 160 [up .str r] [.pair .bool (.pair .str (.int .i64)),.int .i64] R:=PF ⟨[],[],[(11,⟨[(7,.one (.dat PJ))],[(2,[.dat .bool,.dat .str,.dat PJ]),(41,[.dat .iter])],[4],[100448,1000128,1000129,1000130,1002624]⟩)],[(16,⟨[(7,.one (.dat PJ))],[(2,[.dat .bool,.dat .str,.dat PJ])],[4],[100448,1000128,1000129,1000130]⟩)]⟩ [.cell 2 110,.tmp 3] 86 func160 H
def OI(gl:Fr)(h:Tr)(R:ad3) (H:∃(a:Int->Int->Prop) (b:Int->Int->Nat),a 1 0/\∀c d:Int,a c d->((ph (d<DB h.aa7)=Ta->∃e,(0<=d/\h.aa7[d.toNat]?=Td e)/\PC Tp gl 43 [up .tree (Tr.mk e.aa6 e.aa9 e.aa8 e.aa7)] [.int .i64] (λf:Int=>(a (w6 (c+f)) (w6 (d+1))/\b (w6 (c+f)) (w6 (d+1))<b c d)))/\(ph (d<DB h.aa7)=Tc->R c))):PC Tp gl 43 [up .tree h] [.int .i64] R:=PF ⟨[],[],[(3,⟨[(3,.one (.dat PJ)),(9,.one (.dat PJ))],[],[],[100192,100576]⟩)],[]⟩ [.tmp 2] 19 func43 H
def V3(gl:Fr)(h:Tr)(R:ad3) (H:∃(a:Int->Int->Prop) (b:Int->Int->Nat),a 0 0/\∀c d:Int,a c d->((ph (d<DB h.aa7)=Ta->∃e,(0<=d/\h.aa7[d.toNat]?=Td e)/\PC Tp gl 144 [up .tree (Tr.mk e.aa6 e.aa9 e.aa8 e.aa7)] [.int .i64] (λf:Int=>(a (ite (c<f) f c) (w6 (d+1))/\b (ite (c<f) f c) (w6 (d+1))<b c d)))/\(ph (d<DB h.aa7)=Tc->R (w6 (c+1))))):PC Tp gl 144 [up .tree h] [.int .i64] R:=PF ⟨[],[],[(3,⟨[(3,.one (.dat PJ)),(9,.one (.dat PJ))],[],[],[100192,100576]⟩)],[]⟩ [.tmp 2] 20 func144 H
def N1(gl:Fr)(b:Bt)(R:ad2) (H:PC Tp gl 196 [up .str b] [.int .i64,.bool] (λa:Int×Bool=>R a.2)):PC Tp gl 149 [up .str b] [.bool] R:=PF ⟨[],[],[],[]⟩ [.tmp 2] 11 func149 H
def Uw(gl:Fr)(c:Bt)(R:ad2) (H:PC Tp gl 148 [up .str c] [.pair .bool (.pair .str (.int .i64)),.bool] (λa:(Bool×Bt×Int)×Bool=>PC Tp gl 209 [up (.pair .bool (.pair .str (.int .i64))) (a.1.1,(a.1.2.1,a.1.2.2))] [.int .i64,.bool] (λb:Int×Bool=>R (cond (cond a.2 b.2 Tc) (ph (b.1>=0)) Tc)))):PC Tp gl 150 [up .str c] [.bool] R:=PF ⟨[],[],[],[]⟩ [.tmp 2] 25 func150 H
def XV(gl:Fr)(h:Tr)(R:ad2) (H:((cond (cond (h.aa6 != 6) (ph ((DB h.aa8:Int)>0)) Tc) Ta (cond (cond (h.aa6 != 6) (h.aa6 != 5) Tc) (ph ((DB h.aa7:Int)>0)) Tc))=Ta->R Tc)/\((cond (cond (h.aa6 != 6) (ph ((DB h.aa8:Int)>0)) Tc) Ta (cond (cond (h.aa6 != 6) (h.aa6 != 5) Tc) (ph ((DB h.aa7:Int)>0)) Tc))=Tc->∀a:Bool->Prop,(∀b:Bool,((b=Ta->R (h.aa9.toList==(⟨#[]⟩:Bt).toList))/\(b=Tc->((h.aa6==2)=Ta->R (cond (h.aa9.toList==(⟨#[116,114,117,101]⟩:Bt).toList) Ta (h.aa9.toList==(⟨#[102,97,108,115,101]⟩:Bt).toList)))/\((h.aa6==2)=Tc->((h.aa6==3)=Ta->PC Tp gl 223 [up .str h.aa9] [.pair .bool (.pair .str (.int .i64)),.bool] (λc:(Bool×Bt×Int)×Bool=>R c.2))/\((h.aa6==3)=Tc->((h.aa6==4)=Ta->PC Tp gl 224 [up .str h.aa9] [.bool] (λd:Bool=>R d))/\((h.aa6==4)=Tc->((h.aa6==7)=Ta->PC Tp gl 223 [up .str h.aa9] [.pair .bool (.pair .str (.int .i64)),.bool] (λe:(Bool×Bt×Int)×Bool=>PC Tp gl 225 [up (.pair .bool (.pair .str (.int .i64))) (e.1.1,(e.1.2.1,e.1.2.2))] [.int .i64,.bool] (λf:Int×Bool=>R (cond (cond e.2 f.2 Tc) (ph (f.1>=0)) Tc))))/\((h.aa6==7)=Tc->((h.aa6==6)=Ta->∃(g:ad3) (i:Int->Nat),g 0/\∀j:Int,g j->((ph (j<DB h.aa8)=Ta->∃k,(0<=j/\h.aa8[j.toNat]?=Td k)/\PC Tp gl 224 [up .str k] [.bool] (λl:Bool=>((!l)=Ta->R Tc)/\((!l)=Tc->∃(m:ad3) (n:Int->Nat),m 0/\∀o:Int,m o->((ph (o<j)=Ta->∃p,(0<=o/\h.aa8[o.toNat]?=Td p)/\∃q,(0<=j/\h.aa8[j.toNat]?=Td q)/\((p.toList==q.toList)=Ta->R Tc)/\((p.toList==q.toList)=Tc->(m (w6 (o+1))/\n (w6 (o+1))<n o)))/\(ph (o<j)=Tc->(g (w6 (j+1))/\i (w6 (j+1))<i j))))))/\(ph (j<DB h.aa8)=Tc->R (cond (h.aa9.toList==(⟨#[]⟩:Bt).toList) ((DB h.aa8:Int)==(DB h.aa7:Int)) Tc))))/\((h.aa6==6)=Tc->R Tc)))))))->a b)->((h.aa6==1)=Ta->a (h.aa6==1))/\((h.aa6==1)=Tc->a (h.aa6==5)))):PC Tp gl 163 [up .tree h] [.bool] R:=PF ⟨[],[],[(20,⟨[(9,.one (.dat PJ))],[],[1],[100576]⟩),(26,⟨[(11,.one (.dat PJ))],[],[],[100704]⟩)],[(6,⟨[(39,.one (.dat .bool))],[],[1],[102496]⟩)]⟩ [.tmp 2] 135 func163 H
def Ni(gl:Fr)(b:Int)(R:ad3) (H:(ph (b<128)=Ta->R 1)/\(ph (b<128)=Tc->((cond (ph (b>=194)) (ph (b<=223)) Tc)=Ta->R 2)/\((cond (ph (b>=194)) (ph (b<=223)) Tc)=Tc->((cond (ph (b>=224)) (ph (b<=239)) Tc)=Ta->R 3)/\((cond (ph (b>=224)) (ph (b<=239)) Tc)=Tc->((cond (ph (b>=240)) (ph (b<=244)) Tc)=Ta->R 4)/\((cond (ph (b>=240)) (ph (b<=244)) Tc)=Tc->R 0))))):PC Tp gl 309 [up PJ b] [.int .i64] R:=PF ⟨[],[],[],[]⟩ [.tmp 2] 23 func309 H
def zje(gl:Fr)(e:Bt)(R:ad2) (H:∃(a:(Bt×Nat)->Prop) (b:(Bt×Nat)->Nat),a (e,0)/\∀c:Bt×Nat,a c->(((iX c.1 c.2)=Ta->(iX c.1 c.2)=Ta/\((cond (ph ((kI c.1 c.2:Int)<48)) Ta (ph ((kI c.1 c.2:Int)>57)))=Ta->R Tc)/\((cond (ph ((kI c.1 c.2:Int)<48)) Ta (ph ((kI c.1 c.2:Int)>57)))=Tc->(a (c.1,iQ c.1 c.2)/\b (c.1,iQ c.1 c.2)<b c)))/\((iX c.1 c.2)=Tc->R (!(e.toList==(⟨#[]⟩:Bt).toList))))):PC Tp gl 215 [up .str e] [.bool] R:=PF ⟨[],[],[(2,⟨[],[(6,[.dat .iter])],[],[1000384]⟩)],[]⟩ [.tmp 2] 18 func215 H
def MH(gl:Fr)(b:Bt)(R:ad2) (H:PC Tp gl 203 [up .str b] [.int .i64,.bool] (λa:Int×Bool=>R a.2)):PC Tp gl 224 [up .str b] [.bool] R:=PF ⟨[],[],[],[]⟩ [.tmp 2] 11 func224 H
def NT(gl:Fr)(n0:Bool×Bt×Int)(R:(Int×Bool)->Prop) (H:PC Tp gl 279 [up (.pair .bool (.pair .str (.int .i64))) (n0.1,(n0.2.1,n0.2.2))] [.bool] (λa:Bool=>((cond (cond (!a) Ta (ph (n0.2.2<0))) Ta (ph ((w6 ((n0.2.1.size:Int)+n0.2.2))>19)))=Ta->R (0,Tc))/\((cond (cond (!a) Ta (ph (n0.2.2<0))) Ta (ph ((w6 ((n0.2.1.size:Int)+n0.2.2))>19)))=Tc->∃(b:Int->Int->Prop) (c:Int->Int->Nat),b 0 0/\∀d e:Int,b d e->(((ph (e<(w6 ((n0.2.1.size:Int)+n0.2.2))))=Ta->∀f:Int->Prop,(∀g:Int,(zb3=zb3/\(10:Int)≠0/\((ph (d<(w6 ((w6 ((-9223372036854775808)+g)).tdiv 10))))=Ta->R (0,Tc))/\((ph (d<(w6 ((w6 ((-9223372036854775808)+g)).tdiv 10))))=Tc->(b (w6 ((w6 (10*d))-g)) (w6 (e+1))/\c (w6 ((w6 (10*d))-g)) (w6 (e+1))<c d e)))->f g)->(ph (e<n0.2.1.size)=Ta->(0<=e/\e<n0.2.1.size)/\f (w6 (zaa .u8 ((zf n0.2.1 e.toNat)-48))))/\(ph (e<n0.2.1.size)=Tc->f 0))/\((ph (e<(w6 ((n0.2.1.size:Int)+n0.2.2))))=Tc->(n0.1=Ta->R (d,Ta))/\(n0.1=Tc->((d==(-9223372036854775808))=Ta->R (0,Tc))/\((d==(-9223372036854775808))=Tc->R (w6 (0-d),Ta)))))))):PC Tp gl 225 [up (.pair .bool (.pair .str (.int .i64))) n0] [.int .i64,.bool] R:=PF ⟨[],[],[(6,⟨[(5,.one (.dat PJ)),(6,.one (.dat PJ))],[],[1],[100320,100384]⟩)],[(11,⟨[(7,.one (.dat PJ))],[],[],[100448]⟩)]⟩ [.tmp 2,.tmp 3] 63 func225 H
def ZD(gl:Fr)(e:Bt)(f:Bt)(R:(Bt×Bt×Bool)->Prop) (H:∃(a:ad3) (b:Int->Nat),a 0/\∀c:Int,a c->((ph (c<e.size)=Ta->(0<=c/\c<e.size)/\PC Tp gl 319 [up .str f,up (.int .u8) (zf e c.toNat)] [.int .i64] (λd:Int=>(ph (d>=0)=Ta->(0<=(0:Int)/\(0:Int)<=c/\c<=e.size)/\(0<=(w6 (c+1))/\(w6 (c+1))<=(e.size:Int)/\(e.size:Int)<=(e.size:Int))/\R (e.extract (0:Int).toNat c.toNat,e.extract (w6 (c+1)).toNat (e.size:Int).toNat,Ta))/\(ph (d>=0)=Tc->(a (w6 (c+1))/\b (w6 (c+1))<b c))))/\(ph (c<e.size)=Tc->R (e,(⟨#[]⟩:Bt),Tc)))):PC Tp gl 268 [up .str e,up .str f] [.str,.str,.bool] R:=PF ⟨[],[],[(2,⟨[(10,.one (.dat PJ))],[],[],[100640]⟩)],[]⟩ [.tmp 4,.tmp 5,.tmp 6] 28 func268 H
def zdv(gl:Fr)(J:Bt)(R:((Bool×Bt×Int)×Int)->Prop) (H:PC Tp gl 291 [up .str J] [.bool,.str,.str,.bool,.str,.bool] (λa:Bool×Bt×Bt×Bool×Bt×Bool=>((!a.2.2.2.2.2)=Ta->R ((Tc,((⟨#[]⟩:Bt),0)),2))/\((!a.2.2.2.2.2)=Tc->((ph ((w6 ((a.2.1.size:Int)+(a.2.2.1.size:Int)))>1000))=Ta->R ((Tc,((⟨#[]⟩:Bt),0)),3))/\((ph ((w6 ((a.2.1.size:Int)+(a.2.2.1.size:Int)))>1000))=Tc->∃(b:Bt->Bool->Bt->Int->Prop) (c:Bt->Bool->Bt->Int->Nat),b a.2.2.2.2.1 Tc (⟨#[]⟩:Bt) 0/\∀d:Bt,∀D:Bool,∀C:Bt,∀E:Int,b d D C E->((ph ((d.size:Int)>1)=Ta->(0<=(0:Int)/\(0:Int)<(d.size:Int)))/\((cond (ph ((d.size:Int)>1)) ((zf d (0:Int).toNat:Int)==48) Tc)=Ta->(0<=(1:Int)/\(1:Int)<=(d.size:Int)/\(d.size:Int)<=(d.size:Int))/\(b (d.extract (1:Int).toNat (d.size:Int).toNat) D C E/\c (d.extract (1:Int).toNat (d.size:Int).toNat) D C E<c d D C E))/\((cond (ph ((d.size:Int)>1)) ((zf d (0:Int).toNat:Int)==48) Tc)=Tc->(ph ((d.size:Int)>9)=Ta->R ((Tc,((⟨#[]⟩:Bt),0)),4))/\(ph ((d.size:Int)>9)=Tc->∃(e:Int->Int->Bool->Bt->Int->Prop) (f:Int->Int->Bool->Bt->Int->Nat),e 0 0 D C E/\∀g i:Int,∀w:Bool,∀x:Bt,∀u:Int,e g i w x u->((ph (i<d.size)=Ta->(0<=i/\i<d.size)/\(e (w6 ((w6 (10*g))+(w6 (zaa .u8 ((zf d i.toNat)-48))))) (w6 (i+1)) w x u/\f (w6 ((w6 (10*g))+(w6 (zaa .u8 ((zf d i.toNat)-48))))) (w6 (i+1)) w x u<f g i w x u))/\(ph (i<d.size)=Tc->∀j:Int->Bool->Bt->Int->Prop,(∀k:Int,∀I:Bool,∀G:Bt,∀F:Int,(qg (a.2.1.size+a.2.2.1.size)/\∃(l:Bt->Bool->Bt->Int->Prop) (m:Bt->Bool->Bt->Int->Nat),l (a.2.1++a.2.2.1) I G F/\∀n:Bt,∀h:Bool,∀y:Bt,∀t:Int,l n h y t->((ph ((n.size:Int)>0)=Ta->(0<=(0:Int)/\(0:Int)<(n.size:Int)))/\((cond (ph ((n.size:Int)>0)) ((zf n (0:Int).toNat:Int)==48) Tc)=Ta->(0<=(1:Int)/\(1:Int)<=(n.size:Int)/\(n.size:Int)<=(n.size:Int))/\(l (n.extract (1:Int).toNat (n.size:Int).toNat) h y t/\m (n.extract (1:Int).toNat (n.size:Int).toNat) h y t<m n h y t))/\((cond (ph ((n.size:Int)>0)) ((zf n (0:Int).toNat:Int)==48) Tc)=Tc->((n.toList==(⟨#[]⟩:Bt).toList)=Ta->R ((Tc,((⟨#[]⟩:Bt),0)),0))/\((n.toList==(⟨#[]⟩:Bt).toList)=Tc->∃(o:Int->Bt->Bool->Bt->Int->Prop) (p:Int->Bt->Bool->Bt->Int->Nat),o (w6 (k-(a.2.2.1.size:Int))) n h y t/\∀q:Int,∀r:Bt,∀z:Bool,∀B:Bt,∀A:Int,o q r z B A->((0<=(w6 ((r.size:Int)-1))/\(w6 ((r.size:Int)-1))<(r.size:Int))/\(((zf r (w6 ((r.size:Int)-1)).toNat:Int)==48)=Ta->(0<=(0:Int)/\(0:Int)<=(w6 ((r.size:Int)-1))/\(w6 ((r.size:Int)-1))<=(r.size:Int))/\(o (w6 (q+1)) (r.extract (0:Int).toNat (w6 ((r.size:Int)-1)).toNat) z B A/\p (w6 (q+1)) (r.extract (0:Int).toNat (w6 ((r.size:Int)-1)).toNat) z B A<p q r z B A))/\(((zf r (w6 ((r.size:Int)-1)).toNat:Int)==48)=Tc->((cond (ph (q<(-1000000))) Ta (ph (q>1000000)))=Ta->R ((Tc,((⟨#[]⟩:Bt),0)),4))/\((cond (ph (q<(-1000000))) Ta (ph (q>1000000)))=Tc->R ((a.1,(r,q)),0))))))))->j k I G F)->(a.2.2.2.1=Ta->j (w6 (0-g)) w x u)/\(a.2.2.2.1=Tc->j g w x u)))))))))):PC Tp gl 232 [up .str J] [.pair .bool (.pair .str (.int .i64)),.int .i64] R:=PF ⟨[],[],[(6,⟨[(8,.one (.dat .str))],[(2,[.dat .bool,.dat .str,.dat PJ])],[],[100512,1000128,1000129,1000130]⟩),(12,⟨[(10,.one (.dat PJ)),(11,.one (.dat PJ))],[(2,[.dat .bool,.dat .str,.dat PJ])],[],[100640,100704,1000128,1000129,1000130]⟩),(19,⟨[(12,.one (.dat .str))],[(2,[.dat .bool,.dat .str,.dat PJ])],[],[100768,1000128,1000129,1000130]⟩),(23,⟨[(10,.one (.dat PJ)),(12,.one (.dat .str))],[(2,[.dat .bool,.dat .str,.dat PJ])],[],[100640,100768,1000128,1000129,1000130]⟩)],[(17,⟨[(10,.one (.dat PJ))],[(2,[.dat .bool,.dat .str,.dat PJ])],[],[100640,1000128,1000129,1000130]⟩)]⟩ [.cell 2 110,.tmp 3] 107 func232 H
def zfo(gl:Fr)(n0:Bool×Bt×Int)(R:Bt->Prop) (H:PC Tp gl 279 [up (.pair .bool (.pair .str (.int .i64))) (n0.1,(n0.2.1,n0.2.2))] [.bool] (λa:Bool=>((!a)=Ta->R (⟨#[]⟩:Bt))/\((!a)=Tc->PC Tp gl 292 [up (.pair .bool (.pair .str (.int .i64))) (n0.1,(n0.2.1,n0.2.2))] [.bool] (λb:Bool=>(b=Ta->R (⟨#[48]⟩:Bt))/\(b=Tc->∀c:Bt->Prop,(∀d:Bt,(((n0.2.2 != 0)=Ta->qg (d.size+((⟨#[101]⟩:Bt)).size)/\PC Tp gl 193 [up PJ n0.2.2] [.str] (λe:Bt=>qg ((d++(⟨#[101]⟩:Bt)).size+e.size)/\R ((d++(⟨#[101]⟩:Bt))++e)))/\((n0.2.2 != 0)=Tc->R d))->c d)->(n0.1=Ta->qg (((⟨#[45]⟩:Bt)).size+n0.2.1.size)/\c ((⟨#[45]⟩:Bt)++n0.2.1))/\(n0.1=Tc->c n0.2.1)))))):PC Tp gl 233 [up (.pair .bool (.pair .str (.int .i64))) n0] [.str] R:=PF ⟨[],[],[],[(9,⟨[(4,.one (.dat .str))],[],[1],[100256]⟩)]⟩ [.tmp 2] 27 func233 H
def Rk(gl:Fr)(n0:Bool×Bt×Int)(R:ad2) (H:PC Tp gl 292 [up (.pair .bool (.pair .str (.int .i64))) (n0.1,(n0.2.1,n0.2.2))] [.bool] (λa:Bool=>(a=Ta->R Ta)/\(a=Tc->PC Tp gl 333 [up .str n0.2.1] [.bool] (λb:Bool=>((cond b (ph ((n0.2.1.size:Int)<=1000)) Tc)=Ta->(0<=(0:Int)/\(0:Int)<(n0.2.1.size:Int)))/\((cond (cond b (ph ((n0.2.1.size:Int)<=1000)) Tc) ((zf n0.2.1 (0:Int).toNat:Int) != 48) Tc)=Ta->(0<=(w6 ((n0.2.1.size:Int)-1))/\(w6 ((n0.2.1.size:Int)-1))<(n0.2.1.size:Int)))/\R (cond (cond (cond (cond (cond b (ph ((n0.2.1.size:Int)<=1000)) Tc) ((zf n0.2.1 (0:Int).toNat:Int) != 48) Tc) ((zf n0.2.1 (w6 ((n0.2.1.size:Int)-1)).toNat:Int) != 48) Tc) (ph (n0.2.2>=(-1000000))) Tc) (ph (n0.2.2<=1000000)) Tc))))):PC Tp gl 279 [up (.pair .bool (.pair .str (.int .i64))) n0] [.bool] R:=PF ⟨[],[],[],[]⟩ [.tmp 2] 42 func279 H
def OO(gl:Fr)(h:Bt)(R:(Bool×Bt×Bt×Bool×Bt×Bool)->Prop) (H:(ph ((h.size:Int)>0)=Ta->(0<=(0:Int)/\(0:Int)<(h.size:Int)))/\∀a:Bt->Prop,(∀b:Bt,(∃(c:ad3) (d:Int->Nat),c 0/\∀e:Int,c e->((ph (e<b.size)=Ta->(0<=e/\e<b.size))/\((cond (ph (e<b.size)) ((zf b e.toNat:Int) != 101) Tc)=Ta->(0<=e/\e<b.size))/\((cond (cond (ph (e<b.size)) ((zf b e.toNat:Int) != 101) Tc) ((zf b e.toNat:Int) != 69) Tc)=Ta->(c (w6 (e+1))/\d (w6 (e+1))<d e))/\((cond (cond (ph (e<b.size)) ((zf b e.toNat:Int) != 101) Tc) ((zf b e.toNat:Int) != 69) Tc)=Tc->∀f:Bt->Bool->Prop,(∀g:Bt,∀i:Bool,((0<=(0:Int)/\(0:Int)<=e/\e<=b.size)/\∃(j:ad3) (k:Int->Nat),j 0/\∀l:Int,j l->(((ph (l<((b.extract (0:Int).toNat e.toNat).size:Int)))=Ta->(0<=l/\l<((b.extract (0:Int).toNat e.toNat).size:Int)))/\((cond (ph (l<((b.extract (0:Int).toNat e.toNat).size:Int))) ((zf (b.extract (0:Int).toNat e.toNat) l.toNat:Int) != 46) Tc)=Ta->(j (w6 (l+1))/\k (w6 (l+1))<k l))/\((cond (ph (l<((b.extract (0:Int).toNat e.toNat).size:Int))) ((zf (b.extract (0:Int).toNat e.toNat) l.toNat:Int) != 46) Tc)=Tc->(0<=(0:Int)/\(0:Int)<=l/\l<=((b.extract (0:Int).toNat e.toNat).size:Int))/\∀m:Bt->Prop,(∀n:Bt,(PC Tp gl 333 [up .str ((b.extract (0:Int).toNat e.toNat).extract (0:Int).toNat l.toNat)] [.bool] (λo:Bool=>∃p:Bool->Prop,(o=Ta->PC Tp gl 333 [up .str n] [.bool] p)/\∀q:Bool,(o=Ta->p q)->∃r:Bool->Prop,((cond o q Tc)=Ta->PC Tp gl 333 [up .str g] [.bool] r)/\∀s:Bool,((cond o q Tc)=Ta->r s)->(((cond (cond o q Tc) s Tc)&&(!(((b.extract (0:Int).toNat e.toNat).extract (0:Int).toNat l.toNat:Bt).toList==(⟨#[48]⟩:Bt).toList)))=Ta->(0<=(0:Int)/\(0:Int)<(((b.extract (0:Int).toNat e.toNat).extract (0:Int).toNat l.toNat).size:Int)))/\∀t:Bt->Prop,(∀u:Bt,(R (cond (ph ((h.size:Int)>0)) ((zf h (0:Int).toNat:Int)==45) Tc,(b.extract (0:Int).toNat e.toNat).extract (0:Int).toNat l.toNat,u,i,g,cond (cond (cond o q Tc) s Tc) (cond (((b.extract (0:Int).toNat e.toNat).extract (0:Int).toNat l.toNat:Bt).toList==(⟨#[48]⟩:Bt).toList) Ta ((zf ((b.extract (0:Int).toNat e.toNat).extract (0:Int).toNat l.toNat) (0:Int).toNat:Int) != 48)) Tc))->t u)->((l==((b.extract (0:Int).toNat e.toNat).size:Int))=Ta->t (⟨#[]⟩:Bt))/\((l==((b.extract (0:Int).toNat e.toNat).size:Int))=Tc->t n)))->m n)->((ph (l<((b.extract (0:Int).toNat e.toNat).size:Int)))=Ta->(0<=(w6 (l+1))/\(w6 (l+1))<=((b.extract (0:Int).toNat e.toNat).size:Int)/\(((b.extract (0:Int).toNat e.toNat).size:Int):Int)<=((b.extract (0:Int).toNat e.toNat).size:Int))/\m ((b.extract (0:Int).toNat e.toNat).extract (w6 (l+1)).toNat (((b.extract (0:Int).toNat e.toNat).size:Int):Int).toNat))/\((ph (l<((b.extract (0:Int).toNat e.toNat).size:Int)))=Tc->m (⟨#[48]⟩:Bt)))))->f g i)->(ph (e<b.size)=Ta->(0<=(w6 (e+1))/\(w6 (e+1))<=(b.size:Int)/\(b.size:Int)<=(b.size:Int))/\((ph ((((b.extract (w6 (e+1)).toNat (b.size:Int).toNat).size:Int):Int)>0))=Ta->(0<=(0:Int)/\(0:Int)<((b.extract (w6 (e+1)).toNat (b.size:Int).toNat).size:Int)))/\(((!(cond (ph ((((b.extract (w6 (e+1)).toNat (b.size:Int).toNat).size:Int):Int)>0)) ((zf (b.extract (w6 (e+1)).toNat (b.size:Int).toNat) (0:Int).toNat:Int)==45) Tc))&&(ph ((((b.extract (w6 (e+1)).toNat (b.size:Int).toNat).size:Int):Int)>0)))=Ta->(0<=(0:Int)/\(0:Int)<((b.extract (w6 (e+1)).toNat (b.size:Int).toNat).size:Int)))/\((cond (cond (ph ((((b.extract (w6 (e+1)).toNat (b.size:Int).toNat).size:Int):Int)>0)) ((zf (b.extract (w6 (e+1)).toNat (b.size:Int).toNat) (0:Int).toNat:Int)==45) Tc) Ta (cond (ph ((((b.extract (w6 (e+1)).toNat (b.size:Int).toNat).size:Int):Int)>0)) ((zf (b.extract (w6 (e+1)).toNat (b.size:Int).toNat) (0:Int).toNat:Int)==43) Tc))=Ta->(0<=(1:Int)/\(1:Int)<=((b.extract (w6 (e+1)).toNat (b.size:Int).toNat).size:Int)/\(((b.extract (w6 (e+1)).toNat (b.size:Int).toNat).size:Int):Int)<=((b.extract (w6 (e+1)).toNat (b.size:Int).toNat).size:Int))/\f ((b.extract (w6 (e+1)).toNat (b.size:Int).toNat).extract (1:Int).toNat (((b.extract (w6 (e+1)).toNat (b.size:Int).toNat).size:Int):Int).toNat) (cond (ph ((((b.extract (w6 (e+1)).toNat (b.size:Int).toNat).size:Int):Int)>0)) ((zf (b.extract (w6 (e+1)).toNat (b.size:Int).toNat) (0:Int).toNat:Int)==45) Tc))/\((cond (cond (ph ((((b.extract (w6 (e+1)).toNat (b.size:Int).toNat).size:Int):Int)>0)) ((zf (b.extract (w6 (e+1)).toNat (b.size:Int).toNat) (0:Int).toNat:Int)==45) Tc) Ta (cond (ph ((((b.extract (w6 (e+1)).toNat (b.size:Int).toNat).size:Int):Int)>0)) ((zf (b.extract (w6 (e+1)).toNat (b.size:Int).toNat) (0:Int).toNat:Int)==43) Tc))=Tc->f (b.extract (w6 (e+1)).toNat (b.size:Int).toNat) (cond (ph ((((b.extract (w6 (e+1)).toNat (b.size:Int).toNat).size:Int):Int)>0)) ((zf (b.extract (w6 (e+1)).toNat (b.size:Int).toNat) (0:Int).toNat:Int)==45) Tc)))/\(ph (e<b.size)=Tc->f (⟨#[48]⟩:Bt) Tc))))->a b)->((cond (ph ((h.size:Int)>0)) ((zf h (0:Int).toNat:Int)==45) Tc)=Ta->(0<=(1:Int)/\(1:Int)<=(h.size:Int)/\(h.size:Int)<=(h.size:Int))/\a (h.extract (1:Int).toNat (h.size:Int).toNat))/\((cond (ph ((h.size:Int)>0)) ((zf h (0:Int).toNat:Int)==45) Tc)=Tc->a h)):PC Tp gl 291 [up .str h] [.bool,.str,.str,.bool,.str,.bool] R:=PF ⟨[],[],[(5,⟨[(9,.one (.dat PJ))],[],[],[100576]⟩),(16,⟨[(9,.one (.dat PJ))],[],[],[100576]⟩)],[(4,⟨[(0,.one (.dat .str))],[],[],[100000]⟩),(14,⟨[(10,.one (.dat .str)),(11,.one (.dat .bool))],[],[],[100640,100704]⟩),(22,⟨[(13,.one (.dat .str))],[],[],[100832]⟩),(25,⟨[(13,.one (.dat .str))],[],[],[100832]⟩)]⟩ [.tmp 2,.tmp 3,.tmp 4,.tmp 5,.tmp 6,.tmp 7] 128 func291 H
def zch(gl:Fr)(n0:Bool×Bt×Int)(R:ad2) (H:R ((n0.1==Tc)&&((n0.2.1.toList==(⟨#[]⟩:Bt).toList)&&((n0.2.2==0)&&Ta)))):PC Tp gl 292 [up (.pair .bool (.pair .str (.int .i64))) n0] [.bool] R:=PF ⟨[],[],[],[]⟩ [.tmp 2] 6 func292 H
def ZE(gl:Fr)(e:Bt)(R:ad2) (H:∃(a:ad3) (b:Int->Nat),a 0/\∀c:Int,a c->((ph (c<e.size)=Ta->(0<=c/\c<e.size)/\((!(ph ((zf e c.toNat:Int)<48)))=Ta->(0<=c/\c<e.size))/\((cond (ph ((zf e c.toNat:Int)<48)) Ta (ph ((zf e c.toNat:Int)>57)))=Ta->R Tc)/\((cond (ph ((zf e c.toNat:Int)<48)) Ta (ph ((zf e c.toNat:Int)>57)))=Tc->(a (w6 (c+1))/\b (w6 (c+1))<b c)))/\(ph (c<e.size)=Tc->R (ph ((e.size:Int)>0))))):PC Tp gl 333 [up .str e] [.bool] R:=PF ⟨[],[],[(2,⟨[(3,.one (.dat PJ))],[],[],[100192]⟩)],[]⟩ [.tmp 2] 23 func333 H
def Pj(gl:Fr)(a0:List Bt)(b1:List Bt)(R:ad2) (H:PC Tp gl 74 [up (.row .str) a0,up (.row .str) b1] [.int .i64] (λa:Int=>R (a==0))):PC Tp gl 40 [up (.row .str) a0,up (.row .str) b1] [.bool] R:=PF ⟨[],[],[],[]⟩ [.tmp 4] 9 func40 H
def za5(gl:Fr)(a0:List Bt)(b1:List Bt)(R:ad3) (H:∃(a:ad3) (b:Int->Nat),a 0/\∀c:Int,a c->(((cond (ph (c<DB a0)) (ph (c<DB b1)) Tc)=Ta->∃d,(0<=c/\a0[c.toNat]?=Td d)/\∃e,(0<=c/\b1[c.toNat]?=Td e)/\((zcz d.toList e.toList)=Ta->R (-1))/\((zcz d.toList e.toList)=Tc->∃f,(0<=c/\a0[c.toNat]?=Td f)/\∃g,(0<=c/\b1[c.toNat]?=Td g)/\((!(zcz f.toList g.toList||(f.toList==g.toList)))=Ta->R 1)/\((!(zcz f.toList g.toList||(f.toList==g.toList)))=Tc->(a (w6 (c+1))/\b (w6 (c+1))<b c))))/\((cond (ph (c<DB a0)) (ph (c<DB b1)) Tc)=Tc->(ph ((DB a0:Int)<(DB b1:Int))=Ta->R (-1))/\(ph ((DB a0:Int)<(DB b1:Int))=Tc->(ph ((DB a0:Int)>(DB b1:Int))=Ta->R 1)/\(ph ((DB a0:Int)>(DB b1:Int))=Tc->R 0))))):PC Tp gl 74 [up (.row .str) a0,up (.row .str) b1] [.int .i64] R:=PF ⟨[],[],[(2,⟨[(5,.one (.dat PJ))],[],[],[100320]⟩)],[]⟩ [.tmp 4] 46 func74 H

end
section
abbrev bl(l:List UInt8):Bt:=⟨l.toArray⟩
abbrev lb(s:Bt):List UInt8:=s.data.toList
@[simp] theorem Zn(l:List UInt8):lb (bl l)=l:=by simp[lb]
@[simp] theorem Xl(s:Bt):bl (lb s)=s:=ξ
theorem o7{s t:Bt}:lb s=lb t↔s=t:=⟨λh=>by rw[<-Xl s,h,Xl],λh=>by rw[h]⟩
theorem mc(s:Bt):(lb s).length=s.size:=ξ
theorem z6n(s t:Bt):lb (s++t)=lb s++lb t:=ξ
theorem Vt(s:Bt)(a b:Nat):lb (s.extract a b)=((lb s).drop a).take (b-a):=by cases s;simp[lb,ByteArray.data_extract,List.extract_eq_take_drop]
theorem By(s:Bt)(i:Nat):zf s i=((((lb s)[i]?).getD 0).toNat:Int):=by cases s;simp[lb,zf]
theorem SZ(s:Bt)(i:Nat):s.get! i=((lb s)[i]?).getD 0:=by
 cases s with
 |mk d=>simp[lb,ByteArray.get!,Array.getElem!_eq_getD];rfl
def y5(s:Bt)(i:Nat):0<=zf s i/\zf s i<256:=by rw[By];have:=(((lb s)[i]?).getD 0).toNat_lt;omega
def dec(l:List UInt8):Nat×Nat:=Go.Lib.decodeN l.length (l.getD 0 0).toNat (l.getD 1 0).toNat (l.getD 2 0).toNat (l.getD 3 0).toNat
theorem CU(s:Bt)(i:Nat):zfa s i=dec ((lb s).drop i):=by rw[Go.Lib.decode_at,dec];simp only[SZ,za8,zb1,zcw,mc,zej]
theorem Qt(l:List UInt8):1<=(dec l).2/\(dec l).2<=4:=by unfold dec Go.Lib.decodeN;grind
theorem xI{l:List UInt8}(h:l≠[]):(dec l).2<=DB l:=by have:0<DB l:=zb4.2 h;unfold dec Go.Lib.decodeN;grind
def jK(d:Nat×Nat):Bool:=d.1==65533&&d.2==1
def Q2(l:List UInt8):Bool:=if h:l=[]then Ta else if jK (dec l)then Tc else Q2 (l.drop (dec l).2)
termination_by l.length
decreasing_by
 have h1:=Qt l;have h2:0<l.length:=zb4.2 h;grind
theorem DX:Q2 []=Ta:=by unfold Q2;simp
theorem Wm{l:List UInt8}(h:l≠[]):Q2 l=ite (jK (dec l)) Tc (Q2 (l.drop (dec l).2)):=by rw[Q2];simp[h]
theorem yB{c:UInt8}{l:List UInt8}(h:c.toNat<128):dec (c::l)=(c.toNat,1):=by simp[dec,Go.Lib.decodeN,h]
end
end
section
open Go.Lib
variable {i:Nat}
abbrev Bs:=List UInt8
theorem Ny{sub:Bs}{b:UInt8}{l:Bs}(h:sub.isPrefixOf (b::l)=Ta):index (b::l) sub=0:=by unfold index;rw[zA h]
theorem qco{sub:Bs}{b:UInt8}{l:Bs}(h:sub.isPrefixOf (b::l)=Tc)(h':index l sub=-1):index (b::l) sub=-1:=by unfold index;simp_all
theorem W3{sub:Bs}{b:UInt8}{l:Bs}(h:sub.isPrefixOf (b::l)=Tc)(h':index l sub=i):index (b::l) sub=((i+1:Nat):Int):=by unfold index;simp_all
def ui(l sub:Bs):index l sub=-1\/∃i:Nat,index l sub=i:=by have:=index_ge l sub;by_cases h:index l sub=-1;exact .inl h;exact .inr ⟨(index l sub).toNat,ω⟩
def ZQ{sub:Bs}(h:sub≠[]):index [] sub=-1:=by unfold index;simp_all
def Hc{l sub:Bs}(h:index l sub=i):i+DB sub<=DB l:=χ (index_room l sub ω)
def kV(old new:Bs)(s:Bs):Bs:=
 if h:old=[]\/index s old=-1 then s else s.take (index s old).toNat++new++kV old new (s.drop ((index s old).toNat+old.length))
termination_by s.length
decreasing_by
 have h1:old≠[]:=λe=>h (.inl e);have h2:0<old.length:=zb4.2 h1;have h3:=index_ge s old;have h4:index s old≠-1:=λe=>h (.inr e);have h5:=index_room s old (by omega);grind
theorem sL{old new s:Bs}(h:index s old=-1):kV old new s=s:=by rw[kV,dif_pos (.inr h)]
theorem uS{old new s:Bs}(b:old≠[])(h:index s old=i):kV old new s=s.take i++new++kV old new (s.drop (i+DB old)):=by rw[kV,dif_neg (λe=>e.elim b λe=>ω),h];simp
theorem TP{sub:Bs}(b:sub≠[]):∀(f:Nat) (s:Bs),DB s<f->∀g,DB s<g->countFrom sub f s=countFrom sub g s
 |0,_,h,_,_=>absurd h (zcb _)
 |f+1,s,hf,0,hg=>absurd hg (zcb _)
 |f+1,s,hf,g+1,hg=>by
  unfold countFrom;obtain e|⟨i,e⟩:=ui s sub;simp[e];have hb:((i:Int)==-1)=Tc:=by rw[beq_eq_false_iff_ne];omega
  rw[e,zv (ϑ hb),zv (ϑ hb)];have h1:=Hc e;have h2:0<DB sub:=zb4.2 b;rw[TP b f _ η g η]
theorem count_hit{sub s:Bs}(b:sub≠[])(e:index s sub=i):count s sub=1+count (s.drop (i+DB sub)) sub:=by
 have hb:((i:Int)==-1)=Tc:=by rw[beq_eq_false_iff_ne];omega
 have h1:=Hc e;have h2:0<DB sub:=zb4.2 b;rw[count,countFrom,e,zv (ϑ hb),count,zag,TP b (DB s) _ η ((s.drop (i+DB sub)).length+1) ω]
theorem GO{old new:Bs}(b:old≠[]):∀(k:Nat) (s:Bs),count s old<=k->replaceK old new k s=kV old new s
 |0,s,h=>by obtain e|⟨i,e⟩:=ui s old;rw[sL e];rfl;rw[count_hit b e]at h;omega
 |k+1,s,h=>by obtain e|⟨i,e⟩:=ui s old;rw[sL e,replaceK,zA (ϑ e)];rw[uS b e,replaceK_hit _ _ _ _ _ e,GO b k];rw[count_hit b e]at h;omega
theorem zN{old new s:Bs}(b:old≠[])(c:old≠new):replaceAll s old new=kV old new s:=by unfold replaceAll replace;rw[zv (ψ c),replaceNum,zA (.inl ω)];exact GO b _ _ (zac _)
def OG{old new:Bs}(b:old≠[]):kV old new []=[]:=sL (ZQ b)
theorem z6r{old new:Bs}(c:old≠[])(b:UInt8)(l:Bs):kV old new (b::l)=ite (old.isPrefixOf (b::l)) (new++kV old new ((b::l).drop (DB old))) (b::kV old new l):=by
 cases hp:old.isPrefixOf (b::l)with
 |true=>rw[uS (i:=0) c (Ny hp)];simp
 |false=>simp only[zca,if_false];obtain e|⟨i,e⟩:=ui l old;rw[sL (qco hp e),sL e];rw[uS c (W3 hp e),uS c e,show i+1+DB old=(i+DB old)+1 by omega];simp
theorem uP(c:UInt8)(new:Bs):∀l:Bs,kV [c] new l=l.flatMap λx=>ite (x=c) new [x]
 |[]=>OG ξ
 |b::l=>by rw[z6r ξ,List.flatMap_cons];simp only[List.isPrefixOf,Bool.and_true,beq_iff_eq,List.length_singleton,List.drop_succ_cons,zcn];rw[uP c new l];grind
end
section
variable {n b0 b1 b2 b3:Nat} {gl:Fr}
def CL{α:Type}{B:α->Prop}{c:Bool}{a b:α}(h:B (cond c a b)):∀K:α->Prop,(∀v,B v->K v)->(c=Ta->K a)/\(c=Tc->K b):= λK e=>⟨λf=>e _ η,λf=>e _ η⟩
theorem qof(s:Bt)(i:Nat):w6 (zf s i)=zf s i:=by have:=y5 s i;grind [DE]
theorem rF{n:Int}(h1:-2147483648<=n)(h2:n<=2147483647):zaa .i32 n=n:=by
 ((try unfold w6);unfold zaa);have e:(2:Int) ^ zbw .i32=4294967296:=ζ
 have b:(2:Int) ^ (zbw .i32-1)=2147483648:=ζ
 simp only[e,b];have c:ze0 .i32=Ta:=rfl;grind
theorem OW(s:Bt)(a:Nat):dec ((lb s).drop a)=Lib.decodeN (s.size-a) (zf s a).toNat (zf s (a+1)).toNat (zf s (a+2)).toNat (zf s (a+3)).toNat:=by simp only[dec,By,za8,zb1,zcw,mc,zej,zag]
def w0(c:Int):Int:=if c<128 then 1 else if 194<=c/\c<=223 then 2 else if 224<=c/\c<=239 then 3 else if 240<=c/\c<=244 then 4 else 0
def Vy{c:Int}{R:ad3}(h:R (w0 c)):PC Tp gl 309 [up PJ c] [.int .i64] R:=by apply Ni;unfold w0 at h;grind
theorem vG(h:b0<128):Lib.decodeN n b0 b1 b2 b3=(b0,1):=by unfold Lib.decodeN;rw[zA h]
theorem GC(h:194<=b0/\b0<224)(h1:b1<256):Lib.decodeN n b0 b1 b2 b3=ite (2<=n/\128<=b1/\b1<=191) ((b0-192)*64+(b1-128),2) (65533,1):=by unfold Lib.decodeN;grind
theorem xW(h:224<=b0/\b0<240)(h1:b1<256)(h2:b2<256):Lib.decodeN n b0 b1 b2 b3= if 3<=n/\(128<=b1/\b1<=191)/\(128<=b2/\b2<=191)/\2048<=((b0-224)*64+(b1-128))*64+(b2-128)/\(((b0-224)*64+(b1-128))*64+(b2-128)<55296\/57344<=((b0-224)*64+(b1-128))*64+(b2-128)) then(((b0-224)*64+(b1-128))*64+(b2-128),3)else(65533,1):=by unfold Lib.decodeN;grind
theorem Lk(h:240<=b0/\b0<245)(h1:b1<256)(h2:b2<256)(b:b3<256):Lib.decodeN n b0 b1 b2 b3= if 4<=n/\(128<=b1/\b1<=191)/\(128<=b2/\b2<=191)/\(128<=b3/\b3<=191)/\65536<=(((b0-240)*64+(b1-128))*64+(b2-128))*64+(b3-128)/\(((b0-240)*64+(b1-128))*64+(b2-128))*64+(b3-128)<=1114111 then((((b0-240)*64+(b1-128))*64+(b2-128))*64+(b3-128),4)else(65533,1):=by unfold Lib.decodeN;grind
def tS(s:Bt)(b:Int):Int×Int:=if b<0\/b>=s.size then(0,0)else(((dec ((lb s).drop b.toNat)).1:Int),((dec ((lb s).drop b.toNat)).2:Int))
def IV{s:Bt}{j:Int}{R:Int×Int->Prop}(hs:(s.size:Int)<=4611686018427387904)(h:R (tS s j)):PC Tp gl 259 [up .str s,up PJ j] [.int .i32,.int .i64] R:=by
 apply Oa;unfold tS at h;refine⟨λQ=>?_,λQ=>?_⟩;rw[zA η]at h;exact h
 ·have hb:0<=j/\j<(s.size:Int):=η
  rw[zv ω,OW]at h;refine⟨hb,Vy ?_⟩;obtain⟨a,rfl⟩:∃a:Nat,j=(a:Int):=⟨j.toNat,ω⟩;simp only[zag,qof]at h ⊢;have r0:=y5 s a;have r1:=y5 s (a+1);have r2:=y5 s (a+2);have r3:=y5 s (a+3);have ix:∀i:Int,1<=i->i<=4->(w6 ((a:Int)+i))=(a:Int)+i:=λi h1 h2=>DE ω ω;have e1:((a:Int)+1).toNat=a+1:=ω
  have Y:((a:Int)+2).toNat=a+2:=ω
  have e3:((a:Int)+3).toNat=a+3:=ω
  have F:w6 ((s.size:Int)-(a:Int))=(s.size:Int)-(a:Int):=DE ω ω;rw[F];generalize q:w0 (zf s a)=n;unfold w0 at q;generalize ac:zf s a=b0 at *;refine⟨λw=>?_,λw=>⟨hb,?_⟩⟩
  ·have:Lib.decodeN (s.size-a) b0.toNat (zf s (a+1)).toNat (zf s (a+2)).toNat (zf s (a+3)).toNat=(65533,1):=by
    have J:n=0\/n>(s.size:Int)-a:=η
    unfold Lib.decodeN;repeat' split
    all_goals first|rfl|(exfalso;split at q <;> first|omega|(split at q <;> first|omega|(split at q <;> first|omega|(split at q <;> omega))))
   rw[this]at h;exact h
  ·have J:n≠0/\n<=(s.size:Int)-a:=η
   apply CL;apply CL;apply CL;have t:(cond (n==4) (w6 ((cond (n==3) (w6 ((cond (n==2) (w6 (b0-192)) b0)-224)) (cond (n==2) (w6 (b0-192)) b0))-240)) (cond (n==3) (w6 ((cond (n==2) (w6 (b0-192)) b0)-224)) (cond (n==2) (w6 (b0-192)) b0)))
     = (ite (n=4) (b0-240) (ite (n=3) (b0-224) (ite (n=2) (b0-192) b0))):=by
    have w1:w6 (b0-192)=b0-192:=DE ω ω;have w2:w6 (b0-224)=b0-224:=DE ω ω;have S:w6 (b0-240)=b0-240:=DE ω ω;grind
   rw[t];generalize aa:(ite (n=4) (b0-240) (ite (n=3) (b0-224) (ite (n=2) (b0-192) b0)))=v1;have P:0<=v1/\v1<128:=η
   have O:n=4->v1<=4:=η
   generalize y:zf s (a+1)=b1 at *;generalize x:zf s (a+2)=b2 at *;generalize z:zf s (a+3)=b3 at *;have q1:=y5 s (a+1);have q2:=y5 s (a+2);have V:=y5 s (a+3);rw[y]at q1;rw[x]at q2;rw[z]at V;obtain⟨N,hN⟩:∃N:Nat,s.size-a=N:=⟨_,rfl⟩;have ab:(N:Int)=s.size-a:=ω
   rw[hN]at h;have r:n=1\/n=2\/n=3\/n=4:=η
   have u:∀v:Int,(n=1->v=v1)->(n=2->(128<=b1/\b1<=191)/\v=64*v1+b1-128)->(n=3->(128<=b1/\b1<=191)/\(128<=b2/\b2<=191)/\v=64*(64*v1+b1-128)+b2-128)->(n=4->(128<=b1/\b1<=191)/\(128<=b2/\b2<=191)/\(128<=b3/\b3<=191)/\v=64*(64*(64*v1+b1-128)+b2-128)+b3-128) ->
     (((n=3/\v<2048)\/(n=4/\v<65536)\/v>1114111\/(v>=55296/\v<57344))->R (65533,1))/\(¬((n=3/\v<2048)\/(n=4/\v<65536)\/v>1114111\/(v>=55296/\v<57344))->R (zaa .i32 v,n)):=by
    intro v k1 k2 U k4;obtain rfl|rfl|rfl|rfl:=r;have c:b0<128:=η
    have:=k1 rfl;have l:v1=b0:=η
    rw[vG ω]at h;refine⟨λm=>ω,λ_=>?_⟩;rw[rF ω ω];have e:((b0.toNat:Nat):Int)=v:=ω
    simp only[e]at h;exact h;have c:194<=b0/\b0<224:=η
    have⟨c1,t⟩:=k2 rfl;have l:v1=b0-192:=η
    rw[GC ω ω,zA ω]at h;refine⟨λm=>ω,λ_=>?_⟩;rw[rF ω ω];have e:(((b0.toNat-192)*64+(b1.toNat-128):Nat):Int)=v:=ω
    simp only[e]at h;exact h;have c:224<=b0/\b0<240:=η
    have⟨c1,c2,t⟩:=U rfl;have l:v1=b0-224:=η
    have e:((((b0.toNat-224)*64+(b1.toNat-128))*64+(b2.toNat-128):Nat):Int)=v:=ω
    rw[xW ω ω ω]at h;refine⟨λm=>?_,λm=>?_⟩;rw[zv ω]at h;exact h;rw[zA ω]at h;rw[rF ω ω];simp only[e]at h;exact h;have c:240<=b0/\b0<245:=η
    have⟨c1,c2,c3,t⟩:=k4 rfl;have l:v1=b0-240:=η
    have e:(((((b0.toNat-240)*64+(b1.toNat-128))*64+(b2.toNat-128))*64+(b3.toNat-128):Nat):Int)=v:=ω
    rw[Lk ω ω ω ω]at h;refine⟨λm=>?_,λm=>?_⟩;rw[zv ω]at h;exact h;rw[zA ω]at h;rw[rF ω ω];simp only[e]at h;exact h
   have E:∀i:Int,1<=i->i<n->((i=1/\¬(128<=b1/\b1<=191))\/(i=2/\¬(128<=b2/\b2<=191))\/(i=3/\¬(128<=b3/\b3<=191)))->R (65533,1):=by
    intro i C L m;obtain rfl|rfl|rfl|rfl:=r;omega;have c:194<=b0/\b0<224:=η
    rw[GC ω ω,zv ω]at h;exact h;have c:224<=b0/\b0<240:=η
    rw[xW ω ω ω,zv ω]at h;exact h;have c:240<=b0/\b0<245:=η
    rw[Lk ω ω ω ω,zv ω]at h;exact h
   clear h q t Q w;refine⟨λv i=>1<=i/\i<=n/\(0<=v/\v<2097152)/\(i=1->v=v1)/\(i=2->(128<=b1/\b1<=191)/\v=64*v1+b1-128)/\(i=3->(128<=b1/\b1<=191)/\(128<=b2/\b2<=191)/\v=64*(64*v1+b1-128)+b2-128)/\(i=4->(128<=b1/\b1<=191)/\(128<=b2/\b2<=191)/\(128<=b3/\b3<=191)/\v=64*(64*(64*v1+b1-128)+b2-128)+b3-128),λv i=>(n-i).toNat,ω,λv i hi=>⟨λG=>?_,λG=>?_⟩⟩;have p:i<n:=ψ G
   have⟨C,L,j0,A,D,B,M⟩:=hi;rw[ix i C ω];obtain⟨b,k⟩:∃b,zf s ((a:Int)+i).toNat=b:=⟨_,rfl⟩;have f:(i=1->b=b1)/\(i=2->b=b2)/\(i=3->b=b3):=by refine⟨λe=>?_,λe=>?_,λe=>?_⟩ <;> subst e;rw[<-k,e1,y];rw[<-k,Y,x];rw[<-k,e3,z]
   rw[k];have H:=y5 s ((a:Int)+i).toNat;rw[k]at H;refine⟨ω,λhq=>E i C p ?_,λhq=>?_⟩;have:b<128\/b>191:=η
   omega;have Z:¬(b<128\/b>191):=η
   have w1:w6 (64*v)=64*v:=DE ω ω;have w2:w6 (64*v+b)=64*v+b:=DE ω ω;have S:w6 (64*v+b-128)=64*v+b-128:=DE ω ω;have T:w6 (i+1)=i+1:=DE ω ω;rw[w1,w2,S,T];have I:i=1\/i=2\/i=3:=ω
   dsimp only;refine⟨⟨ω,ω,?_,ω,?_,?_,?_⟩,ω⟩;obtain rfl|rfl|rfl:=I;have:=A rfl;have:=f.1 rfl;omega;have:=D rfl;have:=f.2.1 rfl;omega;have:=B rfl;have:=f.2.2 rfl;omega;intro e;have o:i=1:=ω
   have:=A o;have:=f.1 o;omega;intro e;have o:i=2:=ω
   have:=D o;have:=f.2.1 o;omega;intro e;have o:i=3:=ω
   have:=B o;have:=f.2.2 o;omega;have p:i=n:=by(have:¬i<n:=ψ G);omega
   subst p;have⟨C,L,j0,A,D,B,M⟩:=hi;have⟨g1,g2⟩:=u v A D B M;refine⟨λm=>g1 ?_,λm=>g2 ?_⟩;grind;grind
def yF(s:Bt)(a:Nat):Bool:=!jK (dec ((lb s).drop a))
def XZ{s:Bt}{a:Nat}{R:ad2}(k:a<s.size)(f:(s.size:Int)<=4611686018427387904)(h:R (yF s a)):PC Tp gl 258 [up .str s,up PJ a] [.bool] R:=by
 apply N0;refine IV f ?_;have b:=Qt ((lb s).drop a);unfold yF jK at h;have e:tS s (a:Int)=(((dec ((lb s).drop a)).1:Int),((dec ((lb s).drop a)).2:Int)):=by unfold tS;rw[zv ω];rfl
 rw[e];obtain⟨d,c⟩:∃d,dec ((lb s).drop a)=d:=⟨_,rfl⟩;rw[c]at h b ⊢;have i:ph (((d.2:Nat):Int)>0)=Ta:=φ
 have l:((((d.1:Nat):Int))==65533)=(d.1==65533):=by rw[zbd];simp;omega
 have j:((((d.2:Nat):Int))==1)=(d.2==1):=by rw[zbd];simp;omega
 simp_all
def OK{s:Bt}{R:Int×Bool->Prop}(f:(s.size:Int)<=4611686018427387904)(h:∀k,R (k,Q2 (lb s))):PC Tp gl 203 [up .str s] [.int .i64,.bool] R:=by
 apply Nz;refine⟨λa=>0<=a/\a<=(s.size:Int)/\Q2 (lb s)=Q2 ((lb s).drop a.toNat),λa=>((s.size:Int)-a).toNat,⟨ω,ω,ξ⟩,λa ⟨h0,h1,h2⟩=>⟨λi=>?_,λi=>?_⟩⟩;have j:a<(s.size:Int):=ψ i
 obtain⟨k,rfl⟩:∃k:Nat,a=(k:Int):=⟨a.toNat,ω⟩;simp only[zag]at h2;have b:(lb s).drop k≠[]:=by intro e;have:=congrArg List.length e;simp only[zcw,mc,List.length_nil]at this;omega
 rw[Wm b]at h2;refine XZ ω f ⟨λc=>?_,λc=>?_⟩;have:jK (dec ((lb s).drop k))=Ta:=by simpa[yF]using c
 simp_all;have hb:jK (dec ((lb s).drop k))=Tc:=by simpa[yF]using c
 rw[hb]at h2;simp only[zca,if_false,zeb]at h2;refine IV f ?_;unfold tS;rw[zv ω];simp only[zag];grind [Qt,xI,mc,DE];simp_all[zde,DX]
end
section
open Go.Shelf Go.RowKit
def zqu:Go.Shelf.Ren:=⟨fun|161=>218|231=>270|227=>271|233=>272|235=>273|228=>321|197=>247|151=>322|260=>298|152=>369|137=>319|119=>394|224=>358|225=>357|217=>356|266=>385|n=>n,fun|9=>9|4=>4|3=>3|5=>5|117=>281|116=>280|0=>0|124=>284|105=>256|21=>21|119=>305|46=>123|139=>308|138=>307|n=>n,fun|3=>0|4=>1|n=>n⟩
def Oh:Go.Proofs.Lays.n161 Tp zqu:=by constructor <;> intros <;> kernel_rfl
def zaf(s:Bt)(c:UInt8)(b:c.toNat<128)(w:Nd):Calls Tp 218 #[ab5 s,ab5 ⟨#[c]⟩] w λe w'=>e=.returned (ab5 ⟨(Lib.trimLeftB s.data.toList c).toArray⟩)/\w'=w:=Any.strings_TrimLeft_one Oh s c b w
def SV:Go.Shelf.Ren:=⟨fun|162=>219|232=>274|227=>271|234=>275|236=>276|228=>321|271=>323|151=>322|120=>370|197=>247|152=>369|260=>298|137=>319|119=>394|224=>358|225=>357|217=>356|266=>385|n=>n,fun|9=>9|4=>4|3=>3|5=>5|117=>281|116=>280|0=>0|124=>284|21=>21|105=>256|46=>123|119=>305|139=>308|138=>307|n=>n,fun|3=>0|4=>1|n=>n⟩
def NH:Go.Proofs.Lays.n162 Tp SV:=by constructor <;> intros <;> kernel_rfl
def Xm(s:Bt)(c:UInt8)(b:c.toNat<128)(w:Nd)(f:s.size<=9223372036854775807):Calls Tp 219 #[ab5 s,ab5 ⟨#[c]⟩] w λe w'=>e=.returned (ab5 ⟨(Lib.trimRightB s.data.toList c).toArray⟩)/\w'=w:=Any.strings_TrimRight_one NH s c b w f
def VV:Go.Shelf.Ren:=⟨fun|137=>319|217=>356|266=>385|n=>n,fun|9=>9|5=>5|3=>3|n=>n,fun|n=>n⟩
def NG:Go.Proofs.Lays.n137 Tp VV:=by constructor <;> intros <;> kernel_rfl
def zdy(s:Bt)(c:Int)(w:Nd):Calls Tp 319 #[ab5 s,.int .u8 c] w λe w'=>e=.returned (ab9 (Lib.indexByte s.data.toList c.toNat.toUInt8))/\w'=w:=Any.strings_IndexByte NG s c w
def Pd:Go.Shelf.Ren:=⟨fun|103=>267|210=>318|206=>306|n=>n,fun|9=>9|4=>4|24=>274|3=>3|n=>n,fun|n=>n⟩
def z6y:Go.Proofs.Lays.n103 Tp Pd:=by constructor <;> intros <;> kernel_rfl
def TA(s p:Bt)(w:Nd):Calls Tp 267 #[ab5 s,ab5 p] w λe w'=>e=.returned (.tuple #[ab5 ⟨(Lib.trimPrefix s.data.toList p.data.toList).toArray⟩,ab8 (Lib.hasPrefix s.data.toList p.data.toList)])/\w'=w:=Any.strings_CutPrefix z6y s p w
def T1:Go.Shelf.Ren:=⟨fun|242=>248|278=>299|n=>n,fun|37=>87|21=>21|51=>176|4=>4|5=>5|46=>123|n=>n,fun|n=>n⟩
def UI:Go.Proofs.Lays.n242 Tp T1:=by constructor <;> intros <;> kernel_rfl
def Xn(B:Nat)(v:Value)(n:Nat)(xs:ac1)(r:Int)(f:-2147483648<=r)(i:r<=2147483647)(w:Nd)(b:w.ownsRow B 5 1 v n xs)(c:n+4<=140737488355328)(h:B<=w.heap.size):Calls Tp 248 #[v,.int .i32 r] w λe w'=>∃j,e=.returned j/\w'.ownsRow B 5 1 j (n+(Lib.runeCells r).length) (xs++Lib.runeCells r)/\∃o,(w.alloc o).grownBy w' v.ownBlock:=Any.utf8_AppendRune_plain UI κ B v n xs r f i w b c h
def So:Go.Shelf.Ren:=⟨fun|171=>159|243=>216|246=>249|283=>300|284=>301|285=>302|286=>303|129=>178|317=>352|318=>353|319=>354|320=>355|337=>383|338=>384|n=>n,fun|3=>3|9=>9|2=>2|4=>4|171=>309|0=>0|53=>178|37=>87|5=>5|173=>311|212=>349|51=>176|20=>20|213=>350|46=>123|232=>384|233=>385|n=>n,fun|17=>2|18=>6|19=>7|n=>n⟩
def RS:Go.Proofs.LaysM.n171 Tp So:=by repeat' first|(intros;kernel_rfl)|constructor
open Go.RowKit Go.Sort Go.Lib in
def PY(n : Int)(h0 : -9223372036854775808 ≤ n)(h1 : n ≤ 9223372036854775807)(w : Nd)(htab : Lib.TabIs Tp w "internal/strconv.uint64pow10" .u64 Lib.pow10Tab):Calls Tp 159 #[ab9 n] w λe w'=>e=.returned (ab5 ⟨(Lib.itoa n).toArray⟩)/\∃k os,w'=grow (w.drewN k) os:=Any.strconv_Itoa RS n h0 h1 w htab
def Uv:Go.Shelf.Ren:=⟨fun|174=>262|247=>313|245=>314|287=>360|279=>361|280=>362|281=>363|282=>364|321=>387|322=>388|316=>389|171=>159|205=>390|243=>216|246=>249|283=>300|284=>301|285=>302|286=>303|129=>178|317=>352|318=>353|319=>354|320=>355|337=>383|338=>384|n=>n,fun|9=>9|3=>3|2=>2|75=>91|85=>269|4=>4|167=>351|5=>5|53=>178|175=>352|46=>123|168=>354|37=>87|0=>0|210=>376|21=>21|127=>133|145=>388|143=>386|171=>309|173=>311|212=>349|51=>176|20=>20|213=>350|232=>384|233=>385|80=>95|n=>n,fun|15=>4|16=>5|17=>2|18=>6|19=>7|n=>n⟩
def Bu:Go.Proofs.LaysC.n174 Tp Uv:=by repeat' first|(intros;kernel_rfl)|constructor
def Q3(s:Bt)(b:s.size<=9223372036854775806)(v:Int)(h:Lib.parseIntB 64 s.data.toList=.ok v)(w:Nd):Calls Tp 262 #[ab5 s,ab9 10,ab9 64] w λe w'=>e=.returned (.tuple #[ab9 v,.nilIface])/\(w'=w\/∃t,w'=Lib.bytesWorld w 5 t):=Any.strconv_ParseInt_10_at64_ok Bu s b v h w
def Zv(s:Bt)(c:s.size<=281474976710656)(h:Lib.parseIntB 64 s.data.toList=Lib.parseIntB 64 [])(b:Value)(w:Nd)(j:w.cell? ⟨4,0,Te⟩=Td b)(f:b=.nilIface\/∃i k,b=.iface i k):Calls Tp 262 #[ab5 s,ab9 10,ab9 64] w λe w'=>∃N,e=.returned (.tuple #[ab9 (0),.iface 354 (ab6 ⟨N,0,Te⟩)])/\w.heap.size<=N/\w'.heap[N]?=Td (.cells #[ab5 ⟨#[80,97,114,115,101,73,110,116]⟩,ab5 s,b] 376 (0,0))/\Below w.heap.size w w':=Any.strconv_ParseInt_10_at64_syntax Bu s c h b w j f
def Z7(s:Bt)(c:s.size<=281474976710656)(h:Lib.parseIntB 64 s.data.toList=.range)(b:Value)(w:Nd)(j:w.cell? ⟨5,0,Te⟩=Td b)(f:b=.nilIface\/∃i k,b=.iface i k):Calls Tp 262 #[ab5 s,ab9 10,ab9 64] w λe w'=>∃N,e=.returned (.tuple #[ab9 (Lib.intSat 64 s.data.toList),.iface 354 (ab6 ⟨N,0,Te⟩)])/\w.heap.size<=N/\w'.heap[N]?=Td (.cells #[ab5 ⟨#[80,97,114,115,101,73,110,116]⟩,ab5 s,b] 376 (0,0))/\Below w.heap.size w w':=Any.strconv_ParseInt_10_at64_range Bu s c h b w j f
def Pm:Go.Shelf.Ren:=⟨fun|101=>269|208=>320|206=>306|n=>n,fun|9=>9|4=>4|3=>3|n=>n,fun|n=>n⟩
def z7a:Go.Proofs.Lays.n101 Tp Pm:=by constructor <;> intros <;> kernel_rfl
open Go.RowKit Go.Lib in
def UJ(s p:Bt)(w:Nd):Calls Tp 269 #[ab5 s,ab5 p] w λe w'=>e=.returned (ab5 ⟨(Lib.trimPrefix s.data.toList p.data.toList).toArray⟩)/\w'=w:=Any.strings_TrimPrefix z7a s p w
def KY:Go.Shelf.Ren:=⟨fun|155=>134|154=>205|138=>260|165=>202|143=>261|166=>68|197=>247|169=>70|195=>310|218=>311|240=>123|241=>257|219=>312|260=>298|276=>195|277=>308|217=>356|225=>357|224=>358|267=>359|266=>385|314=>386|n=>n,fun|9=>9|3=>3|4=>4|72=>89|0=>0|76=>92|105=>256|21=>21|5=>5|70=>86|20=>20|37=>87|75=>91|127=>133|164=>199|46=>123|119=>305|139=>308|138=>307|146=>313|51=>176|80=>95|n=>n,fun|1=>3|3=>0|4=>1|n=>n⟩
def z7b:Go.Proofs.Lays.n155 Tp KY:=by constructor <;> intros <;> kernel_rfl
def ZI:Builder.Extra Tp KY:={
 sizeBuilder:=κ
 liesBuilder:=κ
 t5:=zeq
 a5:=Tryz.isAgg5
 z5:=Tryz.sizeOf5
 v5:=Tryz.zeroValue5
 infoByte:=κ
 cellsByte:=κ
 sizeByte:=κ
 neB5:=by decide }
open Go.RowKit Go.Lib in
def zck(s old new:Bt)(m:Int)(w:Nd)(f:s.size<4294967281)(c:w.cell? ⟨3,0,Te⟩=Td (ab9 m))(h1:1<=old.size)(b:s.size+Lib.countB s old*new.size<=140737488355328):Calls Tp 134 #[ab5 s,ab5 old,ab5 new] w λe w'=>e=.returned (ab5 ⟨(Lib.replaceAll s.data.toList old.data.toList new.data.toList).toArray⟩)/\Below w.heap.size w w':=Any.strings_ReplaceAll z7b ZI s old new m w f c h1 b
def YR:Go.Shelf.Ren:=⟨fun|197=>247|260=>298|n=>n,fun|9=>9|21=>21|3=>3|4=>4|5=>5|105=>256|119=>305|0=>0|46=>123|139=>308|138=>307|n=>n,fun|3=>0|4=>1|n=>n⟩
def N9:Go.Proofs.Lays.n197 Tp YR:=by constructor <;> intros <;> kernel_rfl
def HO:Go.Shelf.Ren:=⟨fun|105=>200|212=>250|99=>251|165=>202|166=>68|170=>252|169=>70|263=>304|264=>305|206=>306|240=>123|241=>257|276=>195|277=>308|n=>n,fun|9=>9|3=>3|4=>4|20=>20|0=>0|46=>123|109=>259|5=>5|72=>89|76=>92|51=>176|146=>313|53=>178|148=>315|70=>86|37=>87|75=>91|127=>133|164=>199|80=>95|n=>n,fun|n=>n⟩
def NY:Go.Proofs.Lays.n105 Tp HO:=by constructor <;> intros <;> kernel_rfl
def TJ:Builder.Extra Tp HO:={
 sizeBuilder:=κ
 liesBuilder:=κ
 t5:=zeq
 a5:=Tryz.isAgg5
 z5:=Tryz.sizeOf5
 v5:=Tryz.zeroValue5
 infoByte:=κ
 cellsByte:=κ
 sizeByte:=κ
 neB5:=by decide }
open Go.RowKit Go.Lib in
def PH(s:Bt)(c:Nat)(w:Nd)(f:c<=9223372036854775807)(b:s.size*c<=140737488355328):Calls Tp 200 #[ab5 s,ab9 c] w λe w'=>e=.returned (ab5 ⟨(Lib.repeatL s.data.toList c).toArray⟩)/\Below w.heap.size w w':=Any.strings_Repeat NY TJ s c w f b
open Go.RowKit Go.Lib in
def Ju(s:Bt)(w:Nd)(b:Lib.Utf8Tabs 0 1 w):Calls Tp 247 #[ab5 s] w λe w'=>e=.returned (.tuple #[.int .i32 (Lib.decodeGo s).1,ab9 (Lib.decodeGo s).2])/\Below w.heap.size w w':=Any.utf8_DecodeRuneInString N9 s w b
end
section
open Go.RowKit
variable {gl M:Fr}
def ZN{s:Bt}{c:Int}{R:ad3}(h:R (Lib.indexByte (lb s) c.toNat.toUInt8)):PC Tp gl 319 [up .str s,up (.int .u8) c] [.int .i64] R:= PC.of_same rfl (λ_=>SD _ _) h λw _=>zdy s c w
def Ur{s p:Bt}{R:Bt×Bool->Prop}(h:R (bl (Lib.trimPrefix (lb s) (lb p)),Lib.hasPrefix (lb s) (lb p))):PC Tp gl 267 [up .str s,up .str p] [.str,.bool] R:= PC.of_same rfl (λM=>⟨[_,_],⟨_,_,rfl,rfl,_,rfl,rfl⟩,rfl⟩) h λw _=>TA s p w
def Pf{s p:Bt}{R:Bt->Prop}(h:R (bl (Lib.trimPrefix (lb s) (lb p)))):PC Tp gl 269 [up .str s,up .str p] [.str] R:= PC.of_same rfl (λ_=>o8 _) h λw _=>UJ s p w
def SY{s:Bt}{c:UInt8}(b:c.toNat<128){R:Bt->Prop}(h:R (bl (Lib.trimLeftB (lb s) c))):PC Tp gl 218 [up .str s,up .str ⟨#[c]⟩] [.str] R:= PC.of_same rfl (λ_=>o8 _) h λw _=>zaf s c b w
def zuc{s:Bt}{c:UInt8}(e:c.toNat<128)(b:s.size<=9223372036854775807){R:Bt->Prop}(h:R (bl (Lib.trimRightB (lb s) c))):PC Tp gl 219 [up .str s,up .str ⟨#[c]⟩] [.str] R:= PC.of_same rfl (λ_=>o8 _) h λw _=>Xm s c e w b
def y6(gl:Fr):Prop:=∃(cs:Array Value) (m:Int),gl 3=Td cs/\cs[0]?=Td (.int .i64 m)
def VN(i:y6 gl){s old new:Bt}(f:s.size<4294967281)(c:1<=old.size)(b:s.size+Lib.countB s old*new.size<=140737488355328){R:Bt->Prop}(h:R (bl (Lib.replaceAll (lb s) (lb old) (lb new)))):PC Tp gl 134 [up .str s,up .str old,up .str new] [.str] R:=by have⟨cs,m,h1,h2⟩:=i;exact PC.of_scal rfl (λ_=>o8 _) h λw e=>zck s old new m w f (e.glob h1 h2) c b
def AM{s:Bt}{c:Nat}(e:c<=9223372036854775807)(b:s.size*c<=140737488355328){R:Bt->Prop}(h:R (bl (Lib.repeatL (lb s) c))):PC Tp gl 200 [up .str s,up PJ (c:Int)] [.str] R:= PC.of_scal rfl (λ_=>o8 _) h λw f=>PH s c w e b
def Tabs(gl:Fr):Prop:=(∃cs:Array Value,gl 0=Td cs/\∀c,c<256->cs[c]?=Td (.int .u8 (Lib.firstT c)))/\∃cs:Array Value,gl 1=Td cs/\∀i,i<16->cs[2*i]?=Td (.int .u8 (Lib.accLo i))/\cs[2*i+1]?=Td (.int .u8 (Lib.accHi i))
theorem Tabs.at(h:Tabs gl){w:Nd}(b:AgM gl w.heap):Lib.Utf8Tabs 0 1 w:=by have⟨⟨c1,a1,b1⟩,c2,a2,b2⟩:=h;exact⟨λc e=>b.glob a1 (b1 c e),λi hi=>⟨b.glob a2 (b2 i hi).1,b.glob a2 (b2 i hi).2⟩⟩
def T9(c:Tabs gl){s:Bt}{R:Int×Int->Prop}(h:R ((Lib.decodeGo s).1,(Lib.decodeGo s).2)):PC Tp gl 247 [up .str s] [.int .i32,.int .i64] R:= PC.of_scal rfl (λM=>⟨[_,_],⟨_,_,rfl,rfl,_,rfl,rfl⟩,rfl⟩) h λw b=>Ju s w (c.at b)
def UO(w:Nd)(k:Nat)(os:Array Obj):Below w.heap.size w (Go.Sort.grow (w.drewN k) os):=⟨rfl,rfl,rfl,by simp[Go.Sort.grow,World.drewN],λi hi=>by show((w.drewN k).heap++os)[i]?=_;exact zdd hi⟩
def sU(gl : Fr): Prop := ∃ b cs, Tryz.prog.globalNamed "internal/strconv.uint64pow10" = some b ∧ gl b = some cs ∧ cs = (Lib.pow10Tab.map λz => Value.int .u64 z).toArray
def Al(i:sU gl){n:Int}(h0:-9223372036854775808<=n)(h1:n<=9223372036854775807){R:Bt->Prop}(h:R (bl (Lib.itoa n))):PC Tp gl 159 [up PJ n] [.str] R:=by have⟨b,cs,j,q,l⟩:=i;refine PC.of_scal rfl (λ_=>o8 _) h λw f=>(PY n h0 h1 w ?_).mono λe w' ⟨o,k,os,c⟩=>⟨o,c ▸ UO w k os⟩;have⟨T,m,p⟩:=f b cs q;unfold Lib.TabIs World.var?;rw[j];simp only[Option.bind_some,p,l]
def JK(gl:Fr):Prop:=(∃(cs:Array Value) (e:Value),gl 4=Td cs/\cs[0]?=Td e/\(e=.nilIface\/∃b c,e=.iface b c))/\∃(cs:Array Value) (e:Value),gl 5=Td cs/\cs[0]?=Td e/\(e=.nilIface\/∃b c,e=.iface b c)
def HQ(k:IntKind)(i:Int)(t:Nw)(u:Value):Yx M [.int k,.err] (i,Tc) (.tuple #[.int k i,.iface t u]):=⟨[_,_],⟨_,_,rfl,rfl,.iface t u,rfl,⟨_,rfl,.inr ⟨rfl,_,_,rfl⟩⟩⟩,rfl⟩
def SI(k:IntKind)(i:Int):Yx M [.int k,.err] (i,Ta) (.tuple #[.int k i,.nilIface]):=⟨[_,_],⟨_,_,rfl,rfl,.nilIface,rfl,⟨_,rfl,.inl ⟨rfl,rfl⟩⟩⟩,rfl⟩
def AJ(l:List UInt8):Int×Bool:=match Lib.parseIntB 64 l with
 |.ok v=>(v,Ta)
 |.range=>(Lib.intSat 64 l,Tc)
 |_=>(0,Tc)
def Ph(o:JK gl){s:Bt}(n:s.size<=281474976710656){R:Int×Bool->Prop}(h:R (AJ (lb s))):PC Tp gl 262 [up .str s,up PJ 10,up PJ 64] [.int .i64,.err] R:=by
 unfold AJ at h;cases hx:Lib.parseIntB 64 (lb s)with
 |ok v=>rw[hx]at h;refine PC.of_ex rfl λw f=>(Q3 s ω v hx w).mono λe w' ⟨c,i⟩=>⟨_,(v,Ta),c,λM=>SI _ _,h,?_⟩;obtain rfl|⟨t,rfl⟩:=i;exact Below.refl _ _;exact Lib.bytesWorld_below _ _ _
 |range=>rw[hx]at h;have⟨_,⟨cs,j,k,m,l⟩⟩:=o;exact PC.of_ex rfl λw f=>(Z7 s n hx j w (f.glob k m) l).mono λe w' ⟨N,c,_,_,b⟩=>⟨_,(Lib.intSat 64 (lb s),Tc),c,λM=>HQ _ _ _ _,h,b⟩
 |_=>rw[hx]at h;have⟨⟨cs,j,k,m,l⟩,_⟩:=o;exact PC.of_ex rfl λw f=>(Zv s n hx j w (f.glob k m) l).mono λe w' ⟨N,c,_,_,b⟩=>⟨_,(0,Tc),c,λM=>HQ _ _ _ _,h,b⟩
end
section
open Go.Lib
theorem zn(l:Bs):(bl l).size=DB l:=by rw[<-mc,Zn]
theorem y0(l:Bs)(a b:Nat):(bl l).extract a b=bl ((l.drop a).take (b-a)):=by rw[<-o7,Vt,Zn,Zn]
theorem qo(a b:Bs):bl a++bl b=bl (a++b):=by rw[<-o7,z6n,Zn,Zn,Zn]
theorem yb(l:Bs)(i:Nat):zf (bl l) i=((l[i]?.getD 0).toNat:Int):=by rw[By,Zn]
theorem y8(s:Bt):s.toList=lb s:=by simp[Go.Lib.toList_data]
theorem kR(a b:Bs):((bl a).toList==(bl b).toList)=ph (a=b):=by rw[y8,y8,Zn,Zn];grind
theorem Am(l:Bs)(p:Nat):iX (bl l) p=ph (p<DB l):=by rw[zbd];simp[iX,zn]
theorem vU(l:Bs)(p:Nat):kI (bl l) p=((dec (l.drop p)).1:Int):=by rw[kI,CU,Zn]
theorem tv(l:Bs)(p:Nat)(h:p<DB l):iQ (bl l) p=p+(dec (l.drop p)).2:=by
 rw[iQ,CU,Zn];have:Nat.blt p (bl l).size=Ta:=by simp[zn,h]
 rw[this];rfl
theorem oG{l:Bs}{i:Nat}(h:i<DB l):l[i]?.getD 0=l[i]:=θ
def j5(c:UInt8):Bool:=ph (48<=c.toNat)&&ph (c.toNat<=57)
def Qy(l:Bs):Bool:=l.all j5 && !l.isEmpty
abbrev Nm:=Bool×Bs×Int
abbrev kQ(n:Nm):Bool×Bt×Int:=(n.1,(bl n.2.1,n.2.2))
def X8(n:Nm):Bool:=!n.1&&(n.2.1.isEmpty&&n.2.2==0)
def yh(n:Nm):Bool:=X8 n||(Qy n.2.1&&ph (n.2.1.length<=1000)&&n.2.1.head? != Td 48&&n.2.1.getLast? != Td 48&&ph (-1000000<=n.2.2)&&ph (n.2.2<=1000000))
def Qa(n:Nm):Bs:=if yh n then(if n.2.1=[]then [48]else(if n.1 then [45]else [])++n.2.1++(if n.2.2=0 then []else 101::Go.Lib.itoa n.2.2))else []
theorem Lx{n:Nm}(h:yh n=Ta)(e:n.2.1=[]):X8 n=Ta:=by unfold yh at h;obtain h|h:=zek _ _ ▸ h;exact h;simp[Qy,e]at h
def Xo{n:Nm}(h:yh n=Ta):n.2.1.length<=1000/\-1000000<=n.2.2/\n.2.2<=1000000:=by unfold yh X8 at h;grind
def MP(p:UInt8->Bool):Bs->Bs×Bs×Bool
 |[]=>([],[],Tc)
 |c::l=>if p c then([],l,Ta)else(c::(MP p l).1,(MP p l).2)
theorem wC{p:UInt8->Bool}:∀{l},(∀c∈l,p c=Tc)->MP p l=(l,[],Tc)
 |[],_=>rfl
 |c::l,h=>by unfold MP;rw[zv η,wC λc b=>h c (ϑ b)]
theorem uk{p:UInt8->Bool}:∀{l:Bs} {k:Nat} (b:k<DB l),(∀i (hi:i<k),p (l[i]' ω)=Tc)->p l[k]=Ta->MP p l=(l.take k,l.drop (k+1),Ta)
 |c::l,0,_,_,h=>by unfold MP;simp_all
 |c::l,k+1,b,h0,h=>by unfold MP;have h1:p c=Tc:=h0 0 ω;rw[zv (ϑ h1),uk (k:=k) (ψ b) (λi hi=>η) (ψ h)];simp
structure Lit where
 neg:Bool
 whole:Bs
 rest:Bs
 low:Bool
 exp:Bs
def ku(s:Bs):Bs:=if s.head?==Td 45 then s.tail else s
def m5(c:UInt8):Bool:=c==101||c==69
def nV(c:UInt8):Bool:=c==46
def Zp(s:Bs):Bs×Bs×Bool:=MP m5 (ku s)
def Wn(s:Bs):Bool:=(Zp s).2.2&&(Zp s).2.1.head?==Td 45
def iO(s:Bs):Bs:=if Wn s then(Zp s).2.1.tail else if(Zp s).2.1.head?==Td 43 then(Zp s).2.1.tail else(Zp s).2.1
def wn(s:Bs):Bs×Bs×Bool:=MP nV (Zp s).1
def ko(s:Bs):Bool:=(!(Zp s).2.2||Qy (iO s))&&Qy (wn s).1&&(!(wn s).2.2||Qy (wn s).2.1)&&((wn s).1==[48]||(wn s).1.head? != Td 48)
def Jw(s:Bs):Lit:=⟨s.head?==Td 45,(wn s).1,(wn s).2.1,Wn s,if(Zp s).2.2 then iO s else []⟩
def Wo(s:Bs):Option Lit:=if ko s then Td (Jw s)else Te
def Ey{s:Bs}{x:Lit}(h:Wo s=Td x):ko s=Ta/\x=Jw s:=by unfold Wo at h;simp_all
theorem CE{p:UInt8->Bool}:∀{l:Bs},(MP p l).2.2=Tc->(MP p l).1=l/\(MP p l).2.1=[]
 |[],_=>⟨rfl,rfl⟩
 |c::l,h=>by unfold MP at h ⊢;split;simp_all;rename_i e;rw[zv e]at h;have:=CE h;simp_all
def x9(l:Bs):Bs:=((l.dropWhile (· == 48)).reverse.dropWhile (· == 48)).reverse
def zu(l:Bs):Nat:=l.foldl (λn c=>10*n+(c.toNat-48)) 0
def qm(s:Bs):Nm×Int:=match Wo s with
 |none=>((Tc,[],0),2)
 |some x=>
  if x.whole.length+x.rest.length>1000 then((Tc,[],0),3)
  else if(x.exp.dropWhile (· == 48)).length>9 then((Tc,[],0),4)
  else
   let e:Int:=if x.low then-(zu (x.exp.dropWhile (· == 48)):Int)else zu (x.exp.dropWhile (· == 48))
   let d:=(x.whole++x.rest).dropWhile (· == 48)
   let b:=x9 (x.whole++x.rest)
   if d=[]then((Tc,[],0),0)
   else if -1000000<=e-x.rest.length+d.length-b.length/\e-x.rest.length+d.length-b.length<=1000000 then((x.neg,b,e-x.rest.length+d.length-b.length),0)
   else((Tc,[],0),4)
def qJ(n:Nm):Int×Bool:=
 if yh n&&ph (0<=n.2.2)&&ph ((n.2.1.length:Int)+n.2.2<=19)then
  let v:Int:=if n.1 then-((zu n.2.1*10 ^ n.2.2.toNat:Nat):Int)else(zu n.2.1*10 ^ n.2.2.toNat:Nat)
  if -9223372036854775808<=v/\v<=9223372036854775807 then(v,Ta)else(0,Tc)
 else(0,Tc)
end
section
section
variable {n:Nat} {gl:Fr} {l:Bs} {R:Bool -> Prop}
theorem qd{k n:Nat}(h:k<n)(b:n<=4611686018427387904):w6 ((k:Int)+1)=((k+1:Nat):Int):=zq ω
def Jl(j:l.length<=4611686018427387904)(h:R (Qy l)):PC Tp gl 333 [up .str (bl l)] [.bool] R:=by
 apply ZE;simp only[zn,yb];refine⟨λi=>∃k:Nat,i=k/\k<=DB l/\Qy l=(Qy l&&(l.drop k).all j5)/\(l.drop k).all j5=l.all j5,λi=>DB l-i.toNat,⟨0,rfl,ω,by simp[Qy];grind,ξ⟩,?_⟩;rintro i ⟨k,rfl,m,-,h2⟩;refine⟨λf=>?_,λf=>?_⟩;have b:k<DB l:=ψ f
 simp only[zag,oG b];rw[zbg b,List.all_cons]at h2;refine⟨ω,λ_=>ω,λc=>?_,λc=>?_⟩;have e:j5 l[k]=Tc:=by unfold j5;rw[zdi]at c;have:=l[k].toNat_lt;obtain c|c:=zek _ _ ▸ c <;> simp at c ⊢ <;> omega
 rw[e]at h2;simp only[Bool.false_and]at h2;have:Qy l=Tc:=by simp[Qy,<-h2]
 grind;have e:j5 l[k]=Ta:=by unfold j5;rw[zdi]at c;have:=Bool.or_eq_false_iff.1 c;simp at this ⊢;omega
 rw[e]at h2;simp only[zce]at h2;rw[qd b j];refine⟨⟨k+1,rfl,ω,?_,h2⟩,φ⟩;rw[h2,Qy];simp_all;have b:k=DB l:=by(have:¬(k<DB l):=ψ f);omega
 subst b;rw[List.drop_length]at h2;have:Qy l=ph ((DB l:Int)>0):=by rw[Qy,<-h2];cases l <;> simp
 simp_all
def TI(h:l≠[]):(48<=(dec l).1/\(dec l).1<=57)->(dec l).2=1/\∃c t,l=c::t/\j5 c=Ta/\(dec l).1=c.toNat:=by obtain⟨c,t,rfl⟩:=zdf h;intro b;by_cases e:c.toNat<128;rw[yB e]at b ⊢;exact⟨rfl,c,t,rfl,by simp[j5];simpa using b,rfl⟩;exfalso;unfold dec at b;have b0:((c::t).getD 0 0).toNat=c.toNat:=rfl;rw[b0]at b;have:=c.toNat_lt;have b1:=((c::t).getD 1 0).toNat_lt;have b2:=((c::t).getD 2 0).toNat_lt;have b3:=((c::t).getD 3 0).toNat_lt;generalize ((c::t).getD 1 0).toNat=x1 at *;generalize ((c::t).getD 2 0).toNat=x2 at *;generalize ((c::t).getD 3 0).toNat=x3 at *;generalize c.toNat=x0 at *;unfold Lib.decodeN at b;grind
def xQ(h:R (Qy l)):PC Tp gl 215 [up .str (bl l)] [.bool] R:=by
 apply zje;refine⟨λp=>p.1=bl l/\p.2<=DB l/\(l.drop p.2).all j5=l.all j5,λp=>DB l-p.2,⟨rfl,ω,ξ⟩,?_⟩;rintro⟨_,p⟩ ⟨rfl,n,h2⟩;simp only at n h2 ⊢;rw[Am,vU];refine⟨λk=>⟨k,λf=>?_,λf=>?_⟩,λk=>?_⟩;all_goals first
  |have j:p<DB l:=ψ k
  |have j:¬p<DB l:=ψ k
 have i:l.drop p≠[]:=λe=>by simp_all;omega
 have m:¬(48<=(dec (l.drop p)).1/\(dec (l.drop p)).1<=57):=by rw[zdi]at f;obtain f|f:=zek _ _ ▸ f <;> simp at f <;> omega
 have o:l.all j5=Tc:=by
  rw[<-h2];have⟨c,t,e⟩:=zdf i;rw[e];cases b:j5 c with
  |false=>simp[b]
  |true=>
   exfalso;apply m;have:c.toNat<128:=by simp[j5]at b;omega
   rw[e,yB this];simpa[j5]using b
 have:Qy l=Tc:=by simp[Qy,o]
 simp_all;have i:l.drop p≠[]:=λe=>by simp_all;omega
 have m:48<=(dec (l.drop p)).1/\(dec (l.drop p)).1<=57:=by rw[zdi]at f;have:=Bool.or_eq_false_iff.1 f;simp at this;omega
 have⟨h1,c,t,e,b,_⟩:=TI i m;rw[tv l p j,h1];refine⟨⟨trivial,ω,?_⟩,ω⟩;have q:l.drop (p+1)=t:=by rw[<-zeb,e];rfl
 simp_all;have:l.drop p=[]:=zde ω;rw[this]at h2;have e:Qy l=!(ph (l=[])):=by rw[Qy,<-h2];cases l <;> simp
 grind [kR]
abbrev tN:Ty:=.pair .bool (.pair .str (.int .i64))
def Ht{n:Nm}(h:R (X8 n)):PC Tp gl 292 [up tN (kQ n)] [.bool] R:=by
 apply zch;simp only[show(⟨#[]⟩:Bt)=bl []from rfl,kR];have e:X8 n=((n.1==Tc)&&(ph (n.2.1=[])&&((n.2.2==0)&&Ta))):=by unfold X8;obtain⟨_|_,_|⟨_,_⟩,e⟩:=n <;> simp
 grind
theorem vm(h:0<DB l):(((l[0]?.getD 0).toNat:Int) != 48)=(l.head? != Td 48):=by
 cases l with
 |nil=>simp at h
 |cons c t=>rw[zbd];simp;constructor;intro h1 h2;simp_all;intro h1 h2;exact h1 (zdt.1 η)
theorem KP(h:0<DB l):(((l[DB l-1]?.getD 0).toNat:Int) != 48)=(l.getLast? != Td 48):=by rw[List.getLast?_eq_getElem?];rw[zam ω];rw[zbd];simp;constructor;intro h1 h2;simp_all;intro h1 h2;exact h1 (zdt.1 η)
theorem Xp(h:Qy l=Ta):0<DB l:=by
 cases l with
 |nil=>simp[Qy]at h
 |cons=>simp
theorem pY(h:0<n)(b:n<=4611686018427387904):w6 ((n:Int)-1)=((n-1:Nat):Int):=by grind [DE]
def KT{n:Nm}(c:n.2.1.length<=4611686018427387904)(h:R (yh n)):PC Tp gl 279 [up tN (kQ n)] [.bool] R:=by
 apply Rk;refine Ht (n:=n) ⟨λh1=>?_,λh1=>?_⟩;have:yh n=Ta:=by simp[yh,h1]
 simp_all;refine Jl c ⟨λh2=>?_,λh2=>?_,?_⟩;have f:Qy n.2.1=Ta:=by simp at h2;exact h2.1
 grind [Xp,zn];have f:Qy n.2.1=Ta:=by simp at h2;exact h2.1.1
 grind [Xp,zn,pY];have e:yh n=(cond (cond (cond (cond (cond (Qy n.2.1) (ph (((bl n.2.1).size:Int)<=1000)) Tc) ((zf (bl n.2.1) (0:Int).toNat:Int) != 48) Tc) ((zf (bl n.2.1) (w6 (((bl n.2.1).size:Int)-1):Int).toNat:Int) != 48) Tc) (ph (n.2.2>=(-1000000))) Tc) (ph (n.2.2<=1000000)) Tc):=by
  unfold yh;rw[h1,Bool.false_or];simp only[zn,yb];cases hd:Qy n.2.1 with
  |false=>simp
  |true=>have b:=Xp hd;rw[pY b c];simp only[zag,Int.toNat_zero,KP b,vm b,zcq,zce,zK];grind
 grind
def C6{n:Nm}(k:n.2.1.length<=4611686018427387904)(h:R (yh n)):PC Tp gl 158 [up tN (kQ n)] [.bool] R:=by
 apply zlm;simp only[show(⟨#[]⟩:Bt)=bl []from rfl,kR,zn,yb];have e:((n.1==Tc)&&(ph (n.2.1=[])&&((n.2.2==0)&&Ta)))=X8 n:=by unfold X8;obtain⟨_|_,_|⟨_,_⟩,e⟩:=n <;> simp
 rw[e];refine⟨λh1=>?_,λh1=>?_⟩;have:yh n=Ta:=by simp[yh,h1]
 rw[this]at h;exact h
 ·unfold yh at h;rw[h1,Bool.false_or]at h;refine xQ ⟨λh2=>⟨λ_=>?_,λf=>?_⟩,λh2=>⟨λf=>⟨λ_=>?_,λc=>?_⟩,λf=>⟨?_,λc=>⟨λ_=>?_,λb=>?_⟩,λc=>⟨?_,λb=>?_,λb=>?_⟩⟩⟩⟩;have:Qy n.2.1=Tc:=ψ h2
  rw[this]at h;simpa using h;rw[h2]at f;cases f;have:ph (DB n.2.1<=1000)=Tc:=by simp at f ⊢;omega
  rw[this]at h;simpa using h;rw[f]at c;cases c;all_goals
   have l:Qy n.2.1=Ta:=ψ h2
   have i:=Xp l;have j:ph (DB n.2.1<=1000)=Ta:=by simp at f ⊢;omega
   have m:=vm i;have el:=KP i
  omega;have:(n.2.1.head? != Td 48)=Tc:=by rw[<-m];simp at c ⊢;exact c
  rw[this]at h;simpa using h;rw[c]at b;cases b;rw[pY i k];omega;have:(n.2.1.getLast? != Td 48)=Tc:=by rw[<-el];rw[pY i k]at b;simp at b ⊢;exact b
  rw[this]at h;simpa using h;have o:(n.2.1.head? != Td 48)=Ta:=by rw[<-m];simp at c ⊢;exact c
  have p:(n.2.1.getLast? != Td 48)=Ta:=by rw[<-el];rw[pY i k]at b;simp at b ⊢;exact b
  rw[l,j,o,p]at h;simp only[zce]at h;rw[zcq];exact h
end
section
def XF{vs:ac1}{f:FuncId}{fn:Func}{h:zc}{R:vvv}{F:Prop}(pl:Plan)(rs:List ResultVar)(n:Nat)(b:zbe.funcs[f]?=Td fn)(H:F)(hb:Yt fn=Ta:=by kernel_rfl)(c:fn.results.toList=rs:=by kernel_rfl)(i:fn.ntmps=n:=by kernel_rfl)(hz:Nat.ble (DB vs) n=Ta:=by kernel_rfl)(e:F=W Tp n pl (codeOf fn) (u6 Tp rs R) (lQ 0 vs) h:=by kernel_rfl):XC Tp f vs.toArray h R:=VE Tryz.mixed pl vs b hb c i hz (Eq.mp e H)
abbrev ab3:=XC Tp
abbrev ab4:=PC Tp
def Tv(s0:Bt)(h:zc)(R:vvv) (H:let a:=h.push (.cells #[ab8 Tc,ab8 Tc,ab5 (⟨#[]⟩:Bt),ab5 (⟨#[]⟩:Bt),ab5 (⟨#[]⟩:Bt)] 221);ab3 267 #[ab5 s0,ab5 (⟨#[45]⟩:Bt)] a (λb c=>∃d e,b=.tuple #[ab5 d,ab8 e]/\CA Tp (zae 4 (.pointer (Td (zab (ab7 h) 0))) (ab8 e)) c (λf=>ab3 268 #[ab5 d,ab5 (⟨#[101,69]⟩:Bt)] f (λg i=>∃j k l,g=.tuple #[ab5 j,ab5 k,ab8 l]/\∀m:Bt->zc->Prop,(∀n:Bt,∀o:zc,(CA Tp (zae 9 (.pointer (Td (zab (ab7 h) 4))) (ab5 n)) o (λp=>ab3 268 #[ab5 j,ab5 (⟨#[46]⟩:Bt)] p (λq r=>∃s t u,q=.tuple #[ab5 s,ab5 t,ab8 u]/\CA Tp (zae 9 (.pointer (Td (zab (ab7 h) 2))) (ab5 s)) r (λv=>CA Tp (zae 9 (.pointer (Td (zab (ab7 h) 3))) (ab5 t)) v (λw=>ab3 215 #[ab5 s] w (λx y=>∃z,x=.bool z/\∃A:vvv,(((!(!z))&&u)=Ta->ab3 215 #[ab5 t] y (λB C=>∃D,B=.bool D/\A (ab8 D) C))/\(((!(!z))&&u)=Tc->∃E,A (ab8 E) y)/\(((!(!z))&&u)=Ta->∀F G,A F G->∃I,F=.bool I)/\∀J:Bool,∀L,A (ab8 J) L->((cond (!z) Ta (cond u (!J) Tc))=Ta->∃M N O P Q,ze L (ab7 h) 0 [ab8 M,ab8 N,ab5 O,ab5 P,ab5 Q]/\CA Tp (zae 221 (ab6 (ab7 h)) (.agg #[ab8 M,ab8 N,ab5 O,ab5 P,ab5 Q])) L (λS=>∃T U V W X,ze S (ab7 h) 0 [ab8 T,ab8 U,ab5 V,ab5 W,ab5 X]/\R (.tuple #[.agg #[ab8 T,ab8 U,ab5 V,ab5 W,ab5 X],ab8 Tc]) S))/\((cond (!z) Ta (cond u (!J) Tc))=Tc->∃Y Z aa ab ac,ze L (ab7 h) 0 [ab8 Y,ab8 Z,ab5 aa,ab5 ab,ab5 ac]/\let ad:zc->Prop:=λ(ae:zc)=>(∃af ag ah ai aj,ze ae (ab7 h) 0 [ab8 af,ab8 ag,ab5 ah,ab5 ai,ab5 aj]/\R (.tuple #[.agg #[ab8 af,ab8 ag,ab5 ah,ab5 ai,ab5 aj],ab8 (cond (s.toList==(⟨#[48]⟩:Bt).toList) Ta ((zf s (0:Int).toNat:Int) != 48))]) ae);let ak:zc->Prop:=λ(al:zc)=>(ad al);let am:zc->Prop:=λ(an:zc)=>(ak an);let ao:zc->Prop:=λ(ap:zc)=>(((!(s.toList==(⟨#[48]⟩:Bt).toList))=Ta->(0<=(0:Int)/\(0:Int)<(s.size:Int)))/\am ap);(hZ L L (ab7 h)/\(((!(s.toList==(⟨#[48]⟩:Bt).toList))=Ta->(0<=(0:Int)/\(0:Int)<(s.size:Int)))/\hZ L L (ab7 h)/\(hZ L L (ab7 h)/\(hZ L L (ab7 h)/\CA Tp (zae 221 (ab6 (ab7 h)) (.agg #[ab8 Y,ab8 Z,ab5 aa,ab5 ab,ab5 ac])) L (λaq=>ad aq))/\(CA Tp (zae 221 (ab6 (ab7 h)) (.agg #[ab8 Y,ab8 Z,ab5 aa,ab5 ab,ab5 ac])) L (λar=>ak ar)))/\(CA Tp (zae 221 (ab6 (ab7 h)) (.agg #[ab8 Y,ab8 Z,ab5 aa,ab5 ab,ab5 ac])) L (λau=>am au)))/\(CA Tp (zae 221 (ab6 (ab7 h)) (.agg #[ab8 Y,ab8 Z,ab5 aa,ab5 ab,ab5 ac])) L (λav=>ao av)))/\(CA Tp (zae 221 (ab6 (ab7 h)) (.agg #[ab8 Y,ab8 Z,ab5 aa,ab5 ab,ab5 ac])) L (λaw=>ao aw)))))))))->m n o)->(l=Ta->ab3 267 #[ab5 k,ab5 (⟨#[45]⟩:Bt)] i (λax ay=>∃az aA,ax=.tuple #[ab5 az,ab8 aA]/\CA Tp (zae 4 (.pointer (Td (zab (ab7 h) 1))) (ab8 aA)) ay (λaB=>∀aC:Bt->zc->Prop,(∀aD:Bt,∀aE:zc,(ab3 215 #[ab5 aD] aE (λaF aG=>∃aH,aF=.bool aH/\((!aH)=Ta->∃aI aJ aL aM aN,ze aG (ab7 h) 0 [ab8 aI,ab8 aJ,ab5 aL,ab5 aM,ab5 aN]/\CA Tp (zae 221 (ab6 (ab7 h)) (.agg #[ab8 aI,ab8 aJ,ab5 aL,ab5 aM,ab5 aN])) aG (λaO=>∃aP aQ aS aT aU,ze aO (ab7 h) 0 [ab8 aP,ab8 aQ,ab5 aS,ab5 aT,ab5 aU]/\R (.tuple #[.agg #[ab8 aP,ab8 aQ,ab5 aS,ab5 aT,ab5 aU],ab8 Tc]) aO))/\((!aH)=Tc->m aD aG)))->aC aD aE)->∃aV,zd aB (zab (ab7 h) 1)=Td (ab8 aV)/\((!aV)=Ta->ab3 269 #[ab5 az,ab5 (⟨#[43]⟩:Bt)] aB (λaW aX=>∃aY,aW=.string aY/\aC aY aX))/\((!aV)=Tc->aC az aB))))/\(l=Tc->m k i))))):ab3 217 #[ab5 s0] h R:=XF ⟨[(14,8000)],[],[(9,[(4,.one (.str))]),(7,[(4,.one (.str))])]⟩ [.cell 2 221,.tmp 3] 69 func217 H
def UL(s0:Bt)(h:zc)(R:vvv) (H:let a:=h.push (.cells #[ab8 Tc,ab5 (⟨#[]⟩:Bt),iV 0] 110);ab3 160 #[ab5 s0] a (λb c=>∃d e f g,b=.tuple #[.agg #[ab8 d,ab5 e,iV f],iV g]/\let i:=c.push (.cells #[ab8 Tc,ab5 (⟨#[]⟩:Bt),iV 0] 110);CA Tp (zae 110 (ab6 (ab7 c)) (.agg #[ab8 d,ab5 e,iV f])) i (λj=>∃k l m,ze j (ab7 c) 0 [ab8 k,ab5 l,iV m]/\let n:Bool->zc->Prop:=λo (p:zc)=>(∃q r s,ze p (ab7 h) 0 [ab8 q,ab5 r,iV s]/\R (.tuple #[.agg #[ab8 q,ab5 r,iV s],ab8 o]) p);let t:Bool->zc->Prop:=λu (v:zc)=>(n (cond (g==0) u Tc) v);let w:Bt->zc->Prop:=λx (y:zc)=>(t (x.toList==s0.toList) y);let z:Bt->zc->Prop:=λA (B:zc)=>((hZ B j (ab7 c)/\(hZ B j (ab7 c)/\CA Tp (zae 110 (ab6 (ab7 h)) (.agg #[ab8 k,ab5 l,iV m])) B (λC=>n (cond (g==0) (A.toList==s0.toList) Tc) C))/\(CA Tp (zae 110 (ab6 (ab7 h)) (.agg #[ab8 k,ab5 l,iV m])) B (λD=>t (A.toList==s0.toList) D)))/\(CA Tp (zae 110 (ab6 (ab7 h)) (.agg #[ab8 k,ab5 l,iV m])) B (λE=>w A E)));let F:Bool->Bt->Int->zc->Prop:=λG I J (L:zc)=>(∃M:vvv,((g==0)=Ta->ab3 92 #[.agg #[ab8 G,ab5 I,iV J]] L (λN O=>∃P,N=.string P/\M (ab5 P) O))/\((g==0)=Tc->∃Q,M (ab5 Q) L)/\((g==0)=Ta->∀S T,M S T->∃U,S=.string U)/\∀V:Bt,∀W,M (ab5 V) W->hZ W j (ab7 c)/\z V W);(∃X Y Z,((g==0)=Ta->ze j (ab7 c) 0 [ab8 X,ab5 Y,iV Z])/\hZ j j (ab7 c)/\(∃aa:vvv,((g==0)=Ta->ab3 92 #[.agg #[ab8 X,ab5 Y,iV Z]] j (λab ac=>∃ad,ab=.string ad/\aa (ab5 ad) ac))/\((g==0)=Tc->∃ae,aa (ab5 ae) j)/\((g==0)=Ta->∀af ag,aa af ag->∃ah,af=.string ah)/\∀ai:Bt,∀aj,aa (ab5 ai) aj->hZ aj j (ab7 c)/\(hZ aj j (ab7 c)/\z ai aj)/\(CA Tp (zae 110 (ab6 (ab7 h)) (.agg #[ab8 k,ab5 l,iV m])) aj (λak=>w ai ak)))/\(hZ j j (ab7 c)/\F X Y Z j))/\(hZ j j (ab7 c)/\∃al am an,((g==0)=Ta->ze j (ab7 c) 0 [ab8 al,ab5 am,iV an])/\hZ j j (ab7 c)/\F al am an j)))):ab3 148 #[ab5 s0] h R:=XF ⟨[(2,8000)],[],[]⟩ [.cell 2 110,.tmp 3] 20 func148 H
def WF(a:Bool)(b:Bt)(c:Int)(h:zc)(R:vvv) (H:let d:=h.push (.cells #[ab8 a,ab5 b,iV c] 110);∃e f g,ze d (ab7 h) 0 [ab8 e,ab5 f,iV g]/\ab3 158 #[.agg #[ab8 e,ab5 f,iV g]] d (λi j=>∃k,i=.bool k/\∃l,((!(!k))=Ta->zd j (zab (ab7 h) 2)=Td (iV l))/\∃m,((!(cond (!k) Ta (ph (l<0))))=Ta->zd j (zab (ab7 h) 1)=Td (ab5 m))/\∃n,((!(cond (!k) Ta (ph (l<0))))=Ta->zd j (zab (ab7 h) 2)=Td (iV n))/\((cond (cond (!k) Ta (ph (l<0))) Ta (ph ((w6 ((m.size:Int)+n))>19)))=Ta->R (.tuple #[iV 0,ab8 Tc]) j)/\((cond (cond (!k) Ta (ph (l<0))) Ta (ph ((w6 ((m.size:Int)+n))>19)))=Tc->∃o,zd j (zab (ab7 h) 1)=Td (ab5 o)/\∃p,zd j (zab (ab7 h) 2)=Td (iV p)/\ab3 200 #[ab5 (⟨#[48]⟩:Bt),iV p] j (λq r=>∃s,q=.string s/\qg (o.size+s.size)/\hZ r j (zab (ab7 h) 1)/\∀t:Bt->zc->Prop,(∀u:Bt,∀v:zc,(((u.toList==(⟨#[]⟩:Bt).toList)=Ta->R (.tuple #[iV 0,ab8 Ta]) v)/\((u.toList==(⟨#[]⟩:Bt).toList)=Tc->ab3 262 #[ab5 u,iV 10,iV 64] v (λw x=>∃y,∃z:Value,w=.tuple #[iV y,z]/\oB z=Ta/\((!pp z)=Ta->R (.tuple #[iV 0,ab8 Tc]) x)/\((!pp z)=Tc->R (.tuple #[iV y,ab8 Ta]) x))))->t u v)->∃A,zd r (zab (ab7 h) 0)=Td (ab8 A)/\(A=Ta->qg (((⟨#[45]⟩:Bt)).size+(o++s).size)/\t ((⟨#[45]⟩:Bt)++(o++s)) r)/\(A=Tc->t (o++s) r))))):ab3 209 #[.agg #[ab8 a,ab5 b,ab9 c]] h R:=XF ⟨[(3,8000)],[],[(6,[(4,.one (.str))])]⟩ [.tmp 2,.tmp 3] 44 func209 H
end
end
section
open Go.RowKit
variable {h h':zc} {bs:List Nat} {v:Tr} {M:Fr} {b o n:Nat} {cs:Array Value} {vs:List Value}
def OKeys(h:zc)(ks:List Bt)(bs:List Nat)(s:Sl):Prop:=
 s.len=ks.length/\ks.length<=140737488355328/\ks.length<=s.cap/\((ks=[]/\bs=[]/\s.cap=0)\/∃b cs,bs=[b]/\s.a=Td ⟨b,0,Te⟩/\Blk h b cs/\s.cap<=cs.size/\cut cs 0 ks.length=ks.map za0)
inductive OT (h:zc):Tr->List Nat->List Value->Prop where
 |mk {k:Int} {s:Bt} {ks:List Bt} {xs:List Tr} {sk si:Sl} {bk bb:List Nat} {b:Nat} {cs:Array Value} {bf:Nat->List Nat}
  (hk:OKeys h ks bk sk) (hn:si.len=xs.length/\xs.length<=140737488355328/\xs.length<=si.cap)
  (hz:(xs=[]/\bb=[]/\si.cap=0)\/(bb=[b]/\si.a=Td ⟨b,0,Te⟩/\Blk h b cs/\si.cap*4<=cs.size))
  (hi:∀i (hx:i<xs.length),OT h xs[i] (bf i) (cut cs (i*4) 4))
  (hd:(bk++(bb++(za7 xs.length).flatMap bf)).Nodup):
  OT h (.mk k s ks xs) (bk++(bb++(za7 xs.length).flatMap bf)) [.int .i64 k,.string s,aK sk,aK si]
theorem OKeys.frame{ks:List Bt}{s:Sl}(H:OKeys h ks bs s)(c:∀b∈bs,h'[b]?=h[b]?):OKeys h' ks bs s:=by have⟨h1,h2,j,i⟩:=H;refine⟨h1,h2,j,i.imp id ?_⟩;rintro⟨b,cs,rfl,e,k,f⟩;exact⟨b,cs,rfl,e,k.ab0 (c b ξ),f⟩
theorem OT.frame{cells:ac1}(H:OT h v bs cells):(∀b∈bs,h'[b]?=h[b]?)->OT h' v bs cells:=by
 induction H with
 | @mk k s ks xs sk si bk bb b cs bf hk hn hz hi hd ih=>intro c;refine OT.mk (b:=b) (cs:=cs) (hk.frame λx e=>c x (ϑ e)) hn (hz.imp id ?_) (λi e=>ih i e λx f=>c x ?_) hd;rintro⟨rfl,j,m,l⟩;exact⟨rfl,j,m.ab0 (c b ξ),l⟩;grind
theorem OT.nodup{cells:ac1}(H:OT h v bs cells):bs.Nodup:=by cases H with|mk _ _ _ _ b=>exact b
theorem OT.lt{cells:ac1}(H:OT h v bs cells):∀b∈bs,b<h.size:=by
 induction H with
 | @mk k s ks xs sk si bk bb b cs bf hk hn hz hi hd ih=>intro x c;simp only[zav,List.mem_flatMap,zcs]at c;obtain c|c|⟨i,h1,h2⟩:=c;have⟨_,_,_,f⟩:=hk;obtain⟨_,rfl,_⟩|⟨b',cs',rfl,_,e,_⟩:=f;cases c;simp at c;subst c;exact e.lt;obtain⟨_,rfl,_⟩|⟨rfl,_,e,_⟩:=hz;cases c;simp at c;subst c;exact e.lt;grind
theorem OT.cells{h:zc}{v:Tr}{bs:ac0}{cells:ac1}(H:OT h v bs cells):∃sk si:Sl,cells=[ab9 v.aa6,ab5 v.aa9,aK sk,aK si]:=by cases H with|mk _ _ _ _ _=>grind
theorem OT.rd{cells:ac1}(H:OT h v bs cells)(l:∀b∈bs,∀cs,Blk h b cs->M b=Td cs):Tk M v cells:=by
 induction H with
 | @mk k s ks xs sk si bk bb b cs bf hk hn hz hi hd ih=>
  have⟨m,k2,r,u⟩:=hk;have j:RowAt M (λs cs=>cs=[ab5 s]) 1 ks (aK sk):=by
   refine⟨sk.a,sk.cap,by rw[aK,m],⟨k2,r⟩,?_⟩;obtain⟨h0,_⟩|⟨b',d,rfl,q,w,_,t⟩:=u;exact .inl h0;refine .inr ⟨b',0,d,q,l b' ξ d w,λi c=>?_⟩;have:(cut d 0 (DB ks))[i]?=Td (za0 ks[i]):=by rw[t,zb7,zam c];rfl
   unfold cut at this ⊢;rw[zbq,zA c,zcn]at this;have p:=(zbb.1 this).1;simp_all[zbg]
  have f:aK si=.slice si.a (DB xs) si.cap:=by rw[aK,hn.1]
  rw[f];refine Tk.mk (b:=b) (o:=0) (cs:=cs) j hn.2 (hz.imp (·.1) ?_) λi c=>?_;grind;rw[zax];exact ih i c λx n d e=>l x η d e
def MxL(M:Fr)(h:zc)(bs:List Nat):Fr:=λi=>if i∈bs then(match h[i]? with
 |some (.cells cs _ _)=>Td cs
 |_=>Te)else M i
theorem MxL.ag{M:Fr}{h:zc}(ag:AgM M h)(bs:ac0):AgM (MxL M h bs) h:=by intro b c e;unfold MxL at e;split at e;grind;exact ag b c e
theorem MxL.later{h0 h:zc}(ag:AgM M h0)(k:BT h0.size h0 h)(hb:∀b∈bs,h0.size<=b):At h0 M h (MxL M h bs) where
 ab0:=k
 le:=λb c e=>by have:=ag.lt e;unfold MxL;grind
 old:=λb a=>by unfold MxL;grind
 ag:=MxL.ag (ag.ab0 k) bs
theorem MxL.at(hb:b∈bs)(e:Blk h b cs):MxL M h bs b=Td cs:=by have⟨T,e⟩:=e;unfold MxL;grind
def iS(cs:Array Value)(o:Nat)(vs:List Value):Array Value:=(cs.toList.take o++vs++cs.toList.drop (o+vs.length)).toArray
theorem vL(h:o+DB vs<=cs.size):(iS cs o vs).size=cs.size:=by unfold iS;simp;omega
theorem Dl(h:o+DB vs<=cs.size)(q:Nat):(iS cs o vs).toList[q]?=ite (q<o) (cs.toList[q]?) (ite (q<o+DB vs) (vs[q-o]?) (cs.toList[q]?)):=by unfold iS;grind
theorem qt{o n i:Nat}:(cut cs o n)[i]?=ite (i<n) (cs.toList[o+i]?) Te:=by unfold cut;grind
def Vg(h:o+DB vs<=cs.size):cut (iS cs o vs) o (DB vs)=vs:=by apply zbm;intro i;rw[qt];split;rw[Dl h,zv ω,zA ω];congr 1;omega;simp_all
theorem zW{o p n:Nat}(h:o+DB vs<=cs.size)(b:p+n<=o\/o+DB vs<=p):cut (iS cs o vs) p n=cut cs p n:=by apply zbm;intro i;rw[qt,qt];split;rw[Dl h];grind;rfl
def X9{P:EM}{t:Nw}(hi:yf P t=Ta)(H:Blk h b cs){v:Value}(f:v.cells.toList=vs)(m:yo P t=DB vs)(k:o+DB vs<=cs.size)(h1:∀u∈vs,u.oneCell'=Ta){K:zc->Prop}(q:∀h':zc,Blk h' b (iS cs o vs)->h'.size=h.size->(∀j,j≠b->h'[j]?=h[j]?)->K h'):CA P (zae t (ab6 ⟨b,o,Te⟩) v) h K:=by
 intro B d;have⟨T,e⟩:=H;have c:v.cells.size=DB vs:=by rw[<-f];simp
 have⟨h',l,n,i,p⟩:=Yy (P:=P) hi m e c k η B d;refine⟨d,h',l,q h' ⟨T,?_⟩ i p⟩;rw[n];unfold iS;rw[f]
theorem Blk.ab2(H:Blk h b cs)(k:BT h.size h h'):Blk h' b cs:=H.keepN k H.lt
def oN(ag:AgM M h)(bs:ac0):Fr.le M (MxL M h bs):=by intro b c e;unfold MxL;split;have⟨T,m,f⟩:=ag b c e;rw[f];exact e
end
section
open Go.Lib
variable {cs:Array Value} {M Mg:Fr} {v:Value} {g h g':zc}
theorem Fo{vs:ac1}(h:cs.size=DB vs):iS cs 0 vs=vs.toArray:=by unfold iS;simp_all
theorem IA{n:Bool×Bt×Int}{u:Value}(h:RdV M (.pair .bool (.pair .str (.int .i64))) n u):u=.agg #[ab8 n.1,ab5 n.2.1,ab9 n.2.2]:=by
 unfold RdV at h;simp only[ig,if_true]at h;obtain⟨cs,e,c1,c2,rfl,h1,c,f,rfl,h2,b⟩:=h;have h1:c1=[ab8 n.1]:=by simpa[Rd]using h1
 have h2:c=[ab5 n.2.1]:=by simpa[Rd]using h2
 have b:f=[ab9 n.2.2]:=by simpa[Rd]using b
 simp_all
def wS(a:Bool)(s:Bt)(i:Int):RdV M (.pair .bool (.pair .str (.int .i64))) (a,s,i) (.agg #[ab8 a,ab5 s,ab9 i]):=by unfold RdV;simp only[ig,if_true];exact⟨[ab8 a,ab5 s,ab9 i],rfl,[_],[_,_],rfl,rfl,[_],[_],rfl,rfl,rfl⟩
def uo(n:Int)(b:Bool):Yx M [.int .i64,.bool] (n,b) (.tuple #[ab9 n,ab8 b]):=⟨[_,_],⟨_,_,rfl,Q9 .i64 n,_,rfl,GS _⟩,rfl⟩
def TU{r:Int×Bool}(h:Yx M [.int .i64,.err] r v):∃e:Value,v=.tuple #[ab9 r.1,e]/\oB e=Ta/\pp e=r.2:=by
 obtain⟨us,⟨m,l,rfl,f,i,rfl,b⟩,rfl⟩:=h;rw[J1 rfl]at f b;have j:m=.int .i64 r.1:=by simpa[Rd]using f
 subst j;have b:∃v,[i]=[v]/\((r.2=Ta/\v=.nilIface)\/(r.2=Tc/\∃t u,v=.iface t u)):=b;have⟨v,c,k⟩:=b;have c:i=v:=ψ c
 subst c;obtain⟨e,rfl⟩|⟨e,t,u,rfl⟩:=k;exact⟨_,rfl,rfl,e.symm⟩;exact⟨_,rfl,rfl,e.symm⟩
def O4(gl:Fr)(n0:Bool×Bt×Int)(R:(Int×Bool)->Prop) (H:ab4 gl 158 [up (.pair .bool (.pair .str (.int .i64))) (n0.1,(n0.2.1,n0.2.2))] [.bool] (λA:Bool=>((cond (cond (!A) Ta (ph ((n0.2.2:Int)<0))) Ta (ph ((w6 (((n0.2.1).size:Int)+n0.2.2):Int)>19)))=Ta->R (0,Tc))/\((cond (cond (!A) Ta (ph ((n0.2.2:Int)<0))) Ta (ph ((w6 (((n0.2.1).size:Int)+n0.2.2):Int)>19)))=Tc->ab4 gl 200 [up .str (⟨#[48]⟩:Bt),up PJ n0.2.2] [.str] (λi:Bt=>qg ((n0.2.1).size+(i).size)/\∀l:Bt->Prop,(∀f:Bt,((((f:Bt).toList==((⟨#[]⟩:Bt):Bt).toList)=Ta->R (0,Ta))/\(((f:Bt).toList==((⟨#[]⟩:Bt):Bt).toList)=Tc->ab4 gl 262 [up .str f,up PJ 10,up PJ 64] [.int .i64,.err] (λj:Int×Bool=>((!j.2)=Ta->R (0,Tc))/\((!j.2)=Tc->R (j.1,Ta)))))->l f)->(n0.1=Ta->qg (((⟨#[45]⟩:Bt)).size+(n0.2.1++i).size)/\l ((⟨#[45]⟩:Bt)++(n0.2.1++i)))/\(n0.1=Tc->l (n0.2.1++i)))))):ab4 gl 209 [up (.pair .bool (.pair .str (.int .i64))) n0] [.int .i64,.bool] R:=by
 intro h M vs D ag ha
 match vs,ha with
 |[u],⟨I,_⟩=>
 have I:RdV M (.pair .bool (.pair .str (.int .i64))) n0 u:=I;rw[IA I];apply PX.of;apply WF n0.1 n0.2.1 n0.2.2;intro h1;have⟨P,_,b1⟩:=jo (g:=h1) rfl;clear_value h1;refine⟨_,_,_,b1.ld (cs:=[ab8 n0.1,ab5 n0.2.1,ab9 n0.2.2]),?_⟩;refine H.go (vs:=[.agg #[ab8 n0.1,ab5 n0.2.1,ab9 n0.2.2]]) D (ag.ab0 P) (zo (a:=up (.pair .bool (.pair .str (.int .i64))) (n0.1,(n0.2.1,n0.2.2))) (wS _ _ _) qc) λw h6 Q r p b hr=>?_;have⟨L,C⟩:=hr;have n:=b1.ab2 p.ab0;have B:At h M h6 Q:=(At.same ag P).trans p;refine⟨r,Jb b,n0.2.2,λ_=>n.ab1 (o:=0) (k:=2) rfl,n0.2.1,λ_=>n.ab1 (o:=0) (k:=1) rfl,n0.2.2,λ_=>n.ab1 (o:=0) (k:=2) rfl,λJ=>⟨Q,(0,Tc),B,uo _ _,L J⟩,λJ=>?_⟩;refine⟨_,n.ab1 (o:=0) (k:=1) rfl,_,n.ab1 (o:=0) (k:=2) rfl,?_⟩;refine(C J).go (vs:=[ab5 ⟨#[48]⟩,ab9 n0.2.2]) (D.trans p.le) p.ag (zo (a:=up .str (⟨#[48]⟩:Bt)) (GE _) (zo (a:=up PJ n0.2.2) (Q9 _ _) qc)) λw x N r2 m b O=>?_;have⟨Z,U⟩:=O;refine⟨r2,kW b,Z,m.ab0.get _ n.lt,?_⟩;intro F y;have c:=B.trans m;have⟨G,E⟩:=U (λs=>F s x) λs ⟨a1,a2⟩=>y s x ⟨λe=>⟨N,(0,Ta),c,uo _ _,a1 e⟩,λe=>by refine(a2 e).go (vs:=[ab5 s,ab9 10,ab9 64]) (D.trans c.le) c.ag (zo (a:=up .str s) (GE _) (zo (a:=up PJ 10) (Q9 _ _) (zo (a:=up PJ 64) (Q9 _ _) qc))) λw Y z V q b t=>?_;obtain⟨S,rfl,hi,hn⟩:=TU b;refine⟨_,S,rfl,hi,λT=>⟨z,(0,Tc),c.trans q,uo _ _,t.1 η⟩,λT=>⟨z,(V.1,Ta),c.trans q,uo _ _,t.2 η⟩⟩⟩;exact⟨n0.1,((b1.ab2 p.ab0).ab2 m.ab0).ab1 (o:=0) (k:=0) rfl,G,E⟩
theorem KM{r:(Bool×Bt×Int)×Int}(h:Yx M [.pair .bool (.pair .str (.int .i64)),.int .i64] r v):v=.tuple #[.agg #[ab8 r.1.1,ab5 r.1.2.1,ab9 r.1.2.2],ab9 r.2]:=by
 obtain⟨us,⟨j,f,rfl,e,c,rfl,b⟩,rfl⟩:=h;rw[IA e];rw[J1 rfl]at b;have i:c=.int .i64 r.2:=by simpa[Rd]using b
 rw[i];rfl
def Lj(a:Bool)(s:Bt)(i:Int)(b:Bool):Yx M [.pair .bool (.pair .str (.int .i64)),.bool] ((a,s,i),b) (.tuple #[.agg #[ab8 a,ab5 s,ab9 i],ab8 b]):=⟨[_,_],⟨_,_,rfl,wS a s i,_,rfl,GS _⟩,rfl⟩
def vN{b:Nat}(B:Blk g b cs)(m:cs.size=3){x:Bool}{s:Bt}{i:Int}{t:Nw}(e:yf Tp t=Ta)(hz:yo Tp t=3){K:zc->Prop}(f:∀g',(∀j,j≠b->g'[j]?=g[j]?)->g'.size=g.size->Blk g' b #[ab8 x,ab5 s,ab9 i]->K g'):CA Tp (zae t (ab6 ⟨b,0,Te⟩) (.agg #[ab8 x,ab5 s,ab9 i])) g K:=by refine X9 (vs:=[ab8 x,ab5 s,ab9 i]) e B rfl hz θ (λu c=>?_) λg' l k h=>f g' h k (by simp_all[Fo]);simp at c;obtain rfl|rfl|rfl:=c <;> rfl
def XX(gl:Fr)(n:Bt)(R:((Bool×Bt×Int)×Bool)->Prop) (H:ab4 gl 160 [up .str n] [.pair .bool (.pair .str (.int .i64)),.int .i64] (λb:(Bool×Bt×Int)×Int=>∃D:Bt->Prop,(((b.2:Int)==0)=Ta->ab4 gl 92 [up (.pair .bool (.pair .str (.int .i64))) (b.1.1,(b.1.2.1,b.1.2.2))] [.str] D)/\∀E:Bt,(((b.2:Int)==0)=Ta->D E)->R ((b.1.1,(b.1.2.1,b.1.2.2)),cond ((b.2:Int)==0) ((E:Bt).toList==(n:Bt).toList) Tc))):ab4 gl 148 [up .str n] [.pair .bool (.pair .str (.int .i64)),.bool] R:=by
 intro h M vs hM ag ha
 match vs,ha with
 |[u],⟨P,_⟩=>
 have P:RdV M .str n u:=P;rw[w5 P];apply PX.of;apply UL n;intro h1;have⟨k1,z1,b1⟩:=jo (g:=h1) rfl;clear_value h1;have L1:At h M h1 M:=At.same ag k1;refine H.go (vs:=[ab5 n]) hM L1.ag (zo (a:=up .str n) (GE _) qc) λw q V r A l hr=>?_;have⟨N,hJ,hR⟩:=hr;rw[KM l];refine⟨_,_,_,_,rfl,?_⟩;have z3:=A.ab0.size;refine vN (cs:=#[ab8 Tc,ab5 ⟨#[]⟩,ab9 0]) (Blk.new _ _ _) rfl κ κ λp f9 z9 G=>?_;rw[zau]at z9;have k9:BT q.size q p:=⟨ω,λj S=>(f9 j ω).trans ((ur q _ (zac _)).get j S)⟩;have I:At h M p V:=(L1.trans A).trans (At.same A.ag k9);have C:V h.size=Te:=by
  rw[A.old h.size ω];cases e:M h.size with
  |none=>rfl
  |some c=>have:=ag.lt e;omega
 have Y:Blk p h.size #[ab8 Tc,ab5 ⟨#[]⟩,ab9 0]:=(b1.ab2 A.ab0).ab2 k9;refine⟨r.1.1,r.1.2.1,r.1.2.2,G.ld (cs:=[ab8 r.1.1,ab5 r.1.2.1,ab9 r.1.2.2]),?_⟩;intro Z ab aa O U;have fin:∀(g:zc) (Mg:Fr) (x:Bt),At h M g Mg->Mg h.size=Te->(∃cs,Blk g h.size cs/\cs.size=3)->(((r.2:Int)==0)=Ta->N x) ->
  CA Tp (zae 110 (ab6 ⟨zay h,0,Te⟩) (.agg #[ab8 r.1.1,ab5 r.1.2.1,ab9 r.1.2.2])) g (λg'=>Z (cond ((r.2:Int)==0) ((x:Bt).toList==(n:Bt).toList) Tc) g'):=λg Mg x L o ⟨cs,B,hc⟩ k=>
  vN B hc κ κ λg' f z B'=>⟨_,_,_,B'.ld (cs:=[ab8 r.1.1,ab5 r.1.2.1,ab9 r.1.2.2]),Mg,((r.1.1,(r.1.2.1,r.1.2.2)),_),⟨⟨χ L.ab0.size,λj S=>(f j ω).trans (L.ab0.get j S)⟩,L.le,L.old,λc cc e=>by have⟨T,m,e2⟩:=L.ag c cc e;grind⟩,Lj _ _ _ _,hR x k⟩
 have Q:∀(g:zc) (Mg:Fr) (x:Bt),At h M g Mg->Mg h.size=Te->(∃cs,Blk g h.size cs/\cs.size=3)->(((r.2:Int)==0)=Ta->N x)->g[q.size]?=p[q.size]?->O x g:=λg Mg x L o B k t=>⟨⟨t,⟨t,fin g Mg x L o B k⟩,fin g Mg x L o B k⟩,fin g Mg x L o B k⟩;let F:vvv:=λv g=>∃x:Bt,v=.string x/\(∃Mg,At h M g Mg/\Mg h.size=Te/\(∃cs,Blk g h.size cs/\cs.size=3)/\g[q.size]?=p[q.size]?)/\(((r.2:Int)==0)=Ta->N x);have call:((r.2:Int)==0)=Ta->ab3 92 #[.agg #[ab8 r.1.1,ab5 r.1.2.1,ab9 r.1.2.2]] p (λv g=>∃x:Bt,v=.string x/\F (ab5 x) g):=λe=>
  (hJ e).go (vs:=[.agg #[ab8 r.1.1,ab5 r.1.2.1,ab9 r.1.2.2]]) (hM.trans I.le) I.ag (zo (a:=up (.pair .bool (.pair .str (.int .i64))) (r.1.1,(r.1.2.1,r.1.2.2))) (wS _ _ _) qc) λw g Mg x J l k=>
   ⟨x,kW l,x,rfl,⟨Mg,I.trans J,by rw[J.old h.size Y.lt];exact C,⟨_,Y.ab2 J.ab0,rfl⟩,J.ab0.get _ G.lt⟩,λ_=>k⟩
 have i:((r.2:Int)==0)=Tc->∃x:Bt,F (ab5 x) p:=λe=>⟨⟨#[]⟩,⟨#[]⟩,rfl,⟨V,I,C,⟨_,Y,rfl⟩,rfl⟩,λe'=>θ⟩;have y:U r.1.1 r.1.2.1 r.1.2.2 p:=⟨F,call,i,λ_ v g ⟨x,e,_⟩=>⟨x,e⟩,λx g ⟨x',e,⟨Mg,L,o,B,t⟩,k⟩=>by injection e with e;subst e;grind⟩;refine⟨⟨_,_,_,λ_=>G.ld (cs:=[ab8 r.1.1,ab5 r.1.2.1,ab9 r.1.2.2]),rfl,⟨F,call,i,λ_ v g ⟨x,e,_⟩=>⟨x,e⟩,λx g ⟨x',e,⟨Mg,L,o,B,t⟩,k⟩=>?_⟩,rfl,y⟩,rfl,_,_,_,λ_=>G.ld (cs:=[ab8 r.1.1,ab5 r.1.2.1,ab9 r.1.2.2]),rfl,y⟩;injection e with e;subst e;exact⟨t,⟨t,Q g Mg x L o B k t⟩,fin g Mg x L o B k⟩
theorem FP{r:Bt×Bool}(h:Yx M [.str,.bool] r v):v=.tuple #[ab5 r.1,ab8 r.2]:=by
 obtain⟨us,⟨j,f,rfl,e,c,rfl,b⟩,rfl⟩:=h;rw[w5 e];rw[J1 rfl]at b;have i:c=.bool r.2:=by simpa[Rd]using b
 rw[i];rfl
theorem H7{r:Bt×Bt×Bool}(h:Yx M [.str,.str,.bool] r v):v=.tuple #[ab5 r.1,ab5 r.2.1,ab8 r.2.2]:=by
 obtain⟨us,⟨l,j,rfl,i,m,e,rfl,c,k,rfl,b⟩,rfl⟩:=h;rw[w5 i,w5 c];rw[J1 rfl]at b;have f:k=.bool r.2.2:=by simpa[Rd]using b
 rw[f];rfl
abbrev N5:=Bool×Bool×Bt×Bt×Bt
def Bn(g:zc)(b:Nat)(n:N5):Prop:=Blk g b #[.bool n.1,.bool n.2.1,.string n.2.2.1,.string n.2.2.2.1,.string n.2.2.2.2]
structure St5 (h:zc) (M:Fr) (g:zc) (Mg:Fr) (n:N5):Prop where
 L:At h M g Mg
 no:Mg h.size=Te
 B:Bn g h.size n
theorem St5.call{M Mg b:Fr}{n:N5}(S:St5 h M g Mg n)(L:At g Mg g' b):St5 h M g' b n:=⟨S.L.trans L,by rw[L.old h.size (Blk.lt S.B)];exact S.no,Blk.ab2 S.B L.ab0⟩
theorem St5.put{n b:N5}(S:St5 h M g Mg n)(f:∀j,j≠h.size->g'[j]?=g[j]?)(z:g'.size=g.size)(B:Bn g' h.size b):St5 h M g' Mg b:= ⟨⟨⟨χ S.L.ab0.size,λj i=>(f j ω).trans (S.L.ab0.get j i)⟩,S.L.le,S.L.old,λc k e=>by have⟨T,m,l⟩:=S.L.ag c k e;grind [no]⟩,S.no,B⟩
def U8(n:N5)(b:Bool):Yx M [.pair .bool (.pair .bool (.pair .str (.pair .str .str))),.bool] (n,b) (.tuple #[.agg #[ab8 n.1,ab8 n.2.1,ab5 n.2.2.1,ab5 n.2.2.2.1,ab5 n.2.2.2.2],ab8 b]):=by refine⟨[_,_],⟨_,_,rfl,?_,_,rfl,GS _⟩,rfl⟩;unfold RdV;simp only[ig,if_true];exact⟨[_,_,_,_,_],rfl,[_],[_,_,_,_],rfl,rfl,[_],[_,_,_],rfl,rfl,[_],[_,_],rfl,rfl,[_],[_],rfl,rfl,rfl⟩
def XI(gl:Fr)(s0:Bt)(R:((Bool×Bool×Bt×Bt×Bt)×Bool)->Prop) (H:ab4 gl 267 [up .str s0,up .str (⟨#[45]⟩:Bt)] [.str,.bool] (λV:Bt×Bool=>ab4 gl 268 [up .str V.1,up .str (⟨#[101,69]⟩:Bt)] [.str,.str,.bool] (λU:Bt×Bt×Bool=>∀ay:Bt->Bool->Bool->Bt->Bt->Bt->Prop,(∀t:Bt,∀D:Bool,∀C:Bool,∀an:Bt,∀ar:Bt,∀az:Bt,(ab4 gl 268 [up .str U.1,up .str (⟨#[46]⟩:Bt)] [.str,.str,.bool] (λj:Bt×Bt×Bool=>ab4 gl 215 [up .str j.1] [.bool] (λJ:Bool=>∃ai:Bool->Prop,(((!(!J))&&j.2.2)=Ta->ab4 gl 215 [up .str j.2.1] [.bool] ai)/\∀Q:Bool,(((!(!J))&&j.2.2)=Ta->ai Q)->((cond (!J) Ta (cond j.2.2 (!Q) Tc))=Ta->R ((D,(C,(j.1,(j.2.1,t)))),Tc))/\((cond (!J) Ta (cond j.2.2 (!Q) Tc))=Tc->((!((j.1:Bt).toList==((⟨#[48]⟩:Bt):Bt).toList))=Ta->(0<=(0:Int)/\(0:Int)<((j.1).size:Int)))/\R ((D,(C,(j.1,(j.2.1,t)))),cond ((j.1:Bt).toList==((⟨#[48]⟩:Bt):Bt).toList) Ta ((zf j.1 (0:Int).toNat:Int) != 48))))))->ay t D C an ar az)->(U.2.2=Ta->ab4 gl 267 [up .str U.2.1,up .str (⟨#[45]⟩:Bt)] [.str,.bool] (λm:Bt×Bool=>∀T:Bt->Bool->Bool->Bt->Bt->Bt->Prop,(∀l:Bt,∀x:Bool,∀z:Bool,∀p:Bt,∀y:Bt,∀A:Bt,(ab4 gl 215 [up .str l] [.bool] (λac:Bool=>((!ac)=Ta->R ((x,(z,(p,(y,A)))),Tc))/\((!ac)=Tc->ay l x z p y A)))->T l x z p y A)->((!m.2)=Ta->ab4 gl 269 [up .str m.1,up .str (⟨#[43]⟩:Bt)] [.str] (λaI:Bt=>T aI V.2 m.2 (⟨#[]⟩:Bt) (⟨#[]⟩:Bt) (⟨#[]⟩:Bt)))/\((!m.2)=Tc->T m.1 V.2 m.2 (⟨#[]⟩:Bt) (⟨#[]⟩:Bt) (⟨#[]⟩:Bt))))/\(U.2.2=Tc->ay U.2.1 V.2 Tc (⟨#[]⟩:Bt) (⟨#[]⟩:Bt) (⟨#[]⟩:Bt))))):ab4 gl 217 [up .str s0] [.pair .bool (.pair .bool (.pair .str (.pair .str .str))),.bool] R:=by
 intro h M vs hM ag ha
 match vs,ha with
 |[u],⟨hu,_⟩=>
 have hu:RdV M .str s0 u:=hu;rw[w5 hu];apply PX.of;apply Tv s0;intro h1;have k1:BT h.size h h1:=ur _ _ (zac _);have b1:Bn h1 h.size (Tc,Tc,⟨#[]⟩,⟨#[]⟩,⟨#[]⟩):=Blk.new _ _ _;have L1:At h M h1 M:=At.same ag k1;have bG:M h.size=Te:=by
  cases e:M h.size with
  |none=>rfl
  |some c=>have:=ag.lt e;omega
 clear_value h1;have s1:St5 h M h1 M (Tc,Tc,⟨#[]⟩,⟨#[]⟩,⟨#[]⟩):=⟨L1,bG,b1⟩;refine H.go (vs:=[ab5 s0,ab5 ⟨#[45]⟩]) hM L1.ag (zo (a:=up .str s0) (GE _) (zo (a:=up .str (⟨#[45]⟩:Bt)) (GE _) qc)) λw h3 M3 r1 L3 i H2=>?_;rw[FP i];refine⟨_,_,rfl,?_⟩;have S3:=s1.call L3;have fin:∀(g:zc) (Mg:Fr) (n:N5) (b:Bool),St5 h M g Mg n->R (n,b)->CA Tp (zae 221 (ab6 ⟨zay h,0,Te⟩) (.agg #[ab8 n.1,ab8 n.2.1,ab5 n.2.2.1,ab5 n.2.2.2.1,ab5 n.2.2.2.2])) g (λaj=>∃ah:Bool,∃ae:Bool,∃al:Bt,∃ak:Bt,∃af:Bt,ze aj ⟨zay h,0,Te⟩ 0 [ab8 ah,ab8 ae,ab5 al,ab5 ak,ab5 af]/\∃(M':Fr) (r:ir [.pair .bool (.pair .bool (.pair .str (.pair .str .str))),.bool]),At h M aj M'/\Yx M' [.pair .bool (.pair .bool (.pair .str (.pair .str .str))),.bool] r (.tuple #[.agg #[ab8 ah,ab8 ae,ab5 al,ab5 ak,ab5 af],ab8 b])/\R r):=λg Mg n b S hR=>
  X9 (o:=0) (vs:=[ab8 n.1,ab8 n.2.1,ab5 n.2.2.1,ab5 n.2.2.2.1,ab5 n.2.2.2.2]) κ S.B rfl κ (zac _) (λu hu=>by simp at hu;obtain rfl|rfl|rfl|rfl|rfl:=hu <;> rfl) λg' q1 q2 q3=>
   have S':St5 h M g' Mg n:=S.put q3 q2 (by rw[Fo (by rfl)]at q1;exact q1)
   ⟨_,_,_,_,_,Blk.ld (cs:=[ab8 n.1,ab8 n.2.1,ab5 n.2.2.1,ab5 n.2.2.2.1,ab5 n.2.2.2.2]) S'.B,Mg,(n,b),S'.L,U8 n b,hR⟩
 rw[show zab ⟨zay h,0,Te⟩ 0=(ab7 h)from rfl];refine jq κ κ S3.B (o:=0) ξ rfl λh6 B6 z6 f6=>?_;have S6:St5 h M h6 M3 (r1.2,Tc,⟨#[]⟩,⟨#[]⟩,⟨#[]⟩):=S3.put f6 z6 B6;refine H2.go (vs:=[ab5 r1.1,ab5 ⟨#[101,69]⟩]) (hM.trans L3.le) S6.L.ag (zo (a:=up .str r1.1) (GE _) (zo (a:=up .str (⟨#[101,69]⟩:Bt)) (GE _) qc)) λw h8 M8 r2 L8 i H3=>?_;rw[H7 i];refine⟨_,_,_,rfl,?_⟩;have S8:=S6.call L8;intro bg aM;have aQ:Fr.le gl M8:=hM.trans S8.L.le;have N:∀{g:zc} {Mg:Fr} {n:N5},St5 h M g Mg n->Fr.le gl Mg:=λS=>hM.trans S.L.le;have aS:∀{Mg:Fr} (s:Bt),RdV Mg .str s (ab5 s):=λs=>GE s;have⟨c1,c2⟩:=H3 (λf E G x2 Z x4=>∀g Mg,St5 h M g Mg (E,G,x2,Z,x4)->bg f g) λf E G x2 Z x4 P g Mg S=>aM f g (by rw[show zab ⟨zay h,0,Te⟩ 4=⟨h.size,4,Te⟩from rfl];refine jq κ κ S.B (o:=4) ξ rfl λaO bI bB aT=>?_;have am:St5 h M aO Mg (E,G,x2,Z,f):=S.put aT bB bI;refine P.go (vs:=[ab5 r2.1,ab5 ⟨#[46]⟩]) (N am) am.L.ag (zo (a:=up .str r2.1) (GE _) (zo (a:=up .str (⟨#[46]⟩:Bt)) (GE _) qc)) λw bS aE k bj i P2=>?_;rw[H7 i];refine⟨_,_,_,rfl,?_⟩;have aL:=am.call bj;rw[show zab ⟨zay h,0,Te⟩ 2=⟨h.size,2,Te⟩from rfl,show zab ⟨zay h,0,Te⟩ 3=⟨h.size,3,Te⟩from rfl];refine jq κ κ aL.B (o:=2) ξ rfl λaZ aU bu aN=>?_;have aC:St5 h M aZ aE (E,G,k.1,Z,f):=aL.put aN bu aU;refine jq κ κ aC.B (o:=3) ξ rfl λbH aP aV bC=>?_;have au:St5 h M bH aE (E,G,k.1,k.2.1,f):=aC.put bC aV aP;refine P2.go (vs:=[ab5 k.1]) (N au) au.L.ag (zo (a:=up .str k.1) (GE _) qc) λw bL a6 aB a8 i P3=>?_;have⟨bD,hJ,hE⟩:=P3;have Y:=au.call a8;refine⟨aB,Jb i,λv g'=>∃b,v=.bool b/\(∃ab,St5 h M g' ab (E,G,k.1,k.2.1,f))/\(((!(!aB))&&k.2.2)=Ta->bD b),λI=>(hJ I).go (vs:=[ab5 k.2.1]) (N Y) Y.L.ag (zo (a:=up .str k.2.1) (GE _) qc) λw bN be b a7 i hb=>⟨b,Jb i,b,rfl,⟨be,Y.call a7⟩,λ_=>hb⟩,λI=>⟨Tc,Tc,rfl,⟨a6,Y⟩,λe=>by rw[I]at e;exact nomatch e⟩,λ_ v g' ⟨b,e,_⟩=>⟨b,e⟩,λb g' ⟨b',e,⟨ab,S'⟩,hb⟩=>?_⟩;injection e with e;subst e;have⟨e1,e2⟩:=hE b hb;refine⟨λI=>⟨_,_,_,_,_,Blk.ld (cs:=[ab8 E,ab8 G,ab5 k.1,ab5 k.2.1,ab5 f]) S'.B,fin g' ab (E,G,k.1,k.2.1,f) Tc S' (e1 I)⟩,λI=>?_⟩;have⟨e3,e4⟩:=e2 I;refine⟨_,_,_,_,_,Blk.ld (cs:=[ab8 E,ab8 G,ab5 k.1,ab5 k.2.1,ab5 f]) S'.B,?_⟩;intro bP bQ bO bw;have F:=fin g' ab (E,G,k.1,k.2.1,f) _ S' e4;have br:=CA.mono F λh' q=>(⟨e3,q⟩:bw h');repeat' first|exact rfl|exact e3|exact F|exact br|refine⟨?_,?_⟩);refine⟨λhx=>?_,λhx=>c2 hx h8 M8 S8⟩;refine(c1 hx).go (vs:=[ab5 r2.2.1,ab5 ⟨#[45]⟩]) aQ S8.L.ag (zo (a:=up .str r2.2.1) (GE _) (zo (a:=up .str (⟨#[45]⟩:Bt)) (GE _) qc)) λw bM aG aa bJ i H4=>?_;rw[FP i];refine⟨_,_,rfl,?_⟩;have aD:=S8.call bJ;rw[show zab ⟨zay h,0,Te⟩ 1=⟨h.size,1,Te⟩from rfl];refine jq κ κ aD.B (o:=1) ξ rfl λaJ bA bF ba=>?_;have O:St5 h M aJ aG (r1.2,aa.2,⟨#[]⟩,⟨#[]⟩,⟨#[]⟩):=aD.put ba bF bA;intro aY aH;have⟨d1,d2⟩:=H4 (λf E G x2 Z x4=>∀g Mg,St5 h M g Mg (E,G,x2,Z,x4)->aY f g) λf E G x2 Z x4 P g Mg S=>aH f g (P.go (vs:=[ab5 f]) (N S) S.L.ag (zo (a:=up .str f) (GE _) qc) λw aF aA bE ax i he=>⟨bE,Jb i,λI=>⟨_,_,_,_,_,Blk.ld (cs:=[ab8 E,ab8 G,ab5 x2,ab5 Z,ab5 x4]) (S.call ax).B,fin aF aA (E,G,x2,Z,x4) Tc (S.call ax) (he.1 I)⟩,λI=>he.2 I aF aA (S.call ax)⟩);refine⟨aa.2,Blk.cell O.B (o:=1) rfl,λI=>(d1 I).go (vs:=[ab5 aa.1,ab5 ⟨#[43]⟩]) (N O) O.L.ag (zo (a:=up .str aa.1) (GE _) (zo (a:=up .str (⟨#[43]⟩:Bt)) (GE _) qc)) λw bn bm bq bz i hk=>⟨bq,kW i,hk bn bm (O.call bz)⟩,λI=>d2 I aJ aG O⟩
end
section
open Go.Lib
variable {l:Bs} {k:Nat}
def Lp(c:UInt8):∀l:Bs,-1<=indexByte l c/\(0<=indexByte l c↔c∈l)
 |[]=>by simp[indexByte]
 |b::l=>by have e:=Lp c l;unfold indexByte;grind
theorem Kz(u:Nat):(decDigits u).length<=u+1:=by rw[decDigits];split;simp;rename_i h;have:=Kz (u / 10);simp;omega
theorem RM(n:Int):(itoa n).length<=n.natAbs+2:=by unfold itoa;grind [Kz]
theorem dig_ext:∀k:Nat,k<10->(([48,49,50,51,52,53,54,55,56,57]:Bs).drop k).take (k+1-k)=[zcl (48+k)]:=ζ
theorem Ml(l:Bs)(c:UInt8):hasPrefix l [c]=(l.head?==Td c):=by
 cases l with
 |nil=>rfl
 |cons b t=>simp[hasPrefix,List.isPrefixOf];grind
theorem Mn(l:Bs)(c:UInt8):trimPrefix l [c]=ite (l.head?==Td c) l.tail l:=by unfold trimPrefix;rw[Ml];split <;> simp
theorem Nv(l:Bs)(c:UInt8):zu (l++[c])=10*zu l+(c.toNat-48):=by simp[zu,List.foldl_append]
theorem Za(b:k<DB l):zu (l.take (k+1))=10*zu (l.take k)+(l[k].toNat-48):=by rw[List.take_succ_eq_append_getElem b,Nv]
def CK{p:UInt8->Bool}(h:l.all p=Ta)(k:Nat):(l.take k).all p=Ta:=η
theorem vK(h:l.all j5=Ta)(b:k<DB l):48<=l[k].toNat/\l[k].toNat<=57:=by have:=zbl.1 h _ (zak b);simpa[j5]using this
def Le:∀(n:Nat) (l:Bs),DB l=n->l.all j5=Ta->zu l<10 ^ n
 |0,l,h,_=>by have:l=[]:=za4 h;subst this;simp[zu]
 |n+1,l,h,hd=>by
  have b:l=l.take (n+1):=by rw[<-h,za2]
  rw[b,Za ω];have h1:=Le n (l.take n) φ (CK hd n);grind [vK]
def sP{n:Nat}(b:l.length<=n)(h:l.all j5=Ta):zu l<10 ^ n:= Nat.lt_of_lt_of_le (Le _ l rfl h) (Nat.pow_le_pow_right ω b)
theorem t8(h:Qy l=Ta):l.all j5=Ta:=by unfold Qy at h;simp_all
theorem Mq{p q:UInt8->Bool}(h:l.all p=Ta):(l.dropWhile q).all p=Ta:=by rw[zbl]at h ⊢;exact λx b=>h x ((List.dropWhile_sublist q).mem b)
def w8(l:Bs)(q:UInt8->Bool):(l.dropWhile q).length<=DB l:=(List.dropWhile_sublist q).length_le
theorem Ll{q:UInt8->Bool}:∀c,(l.dropWhile q).head?=Td c->q c=Tc:=by
 induction l with
 |nil=>simp
 |cons b t e=>intro c h;rw[List.dropWhile_cons]at h;grind
def Ya(h:l.all j5=Ta)(f:l.dropWhile (· == 48)≠[]):Qy (x9 l)=Ta/\(x9 l).length<=(l.dropWhile (· == 48)).length/\((x9 l).head? != Td 48)=Ta/\((x9 l).getLast? != Td 48)=Ta:=by
 unfold x9;have⟨c,t,i⟩:=zdf f;have m:(c==48)=Tc:=by have:=Ll (l:=l) (q:=(· == 48)) c (π i);simpa using this
 have key:∀(t:Bs),∃u,((c::t).reverse.dropWhile (· == 48)).reverse=c::u:=by
  intro t;rw[List.reverse_cons];have j:∀(r:Bs),∃u,(r++[c]).dropWhile (· == 48)=u++[c]:=by
   intro r;induction r with
   |nil=>simp_all
   |cons b r k=>grind [List.dropWhile_cons]
  have⟨u,e⟩:=j t.reverse;exact⟨u.reverse,υ e⟩
 rw[i];have⟨u,e⟩:=key t;refine⟨?_,?_,?_,?_⟩;rw[Qy,Bool.and_eq_true_iff];grind [Mq];rw[List.length_reverse];refine Nat.le_trans (w8 _ _) ?_;simp;simp_all;grind [Ll]
def NN(h:l.all j5=Ta)(b:l.dropWhile (· == 48)≠[])(i:l.length<=1000)(neg:Bool)(e:Int):yh (neg,x9 l,e)=(ph (-1000000<=e)&&ph (e<=1000000)):=by
 have⟨h1,h2,k,f⟩:=Ya h b;have j:=w8 l (· == 48);have c:(x9 l).isEmpty=Tc:=by rw[Qy]at h1;have:=(Bool.and_eq_true_iff.1 h1).2;simpa using this
 unfold yh X8;grind
def Ep{s:Bs}{x:Lit}(h:Wo s=Td x):Qy x.whole=Ta/\x.rest.all j5=Ta/\x.exp.all j5=Ta:=by
 obtain⟨b,rfl⟩:=Ey h;unfold ko at b;simp only[Bool.and_eq_true]at b;have⟨⟨⟨h1,h2⟩,e⟩,c⟩:=b;refine⟨h2,?_,?_⟩;show(wn s).2.1.all j5=Ta;cases hp:(wn s).2.2 with
 |true=>simp_all[t8]
 |false=>rw[show(wn s).2.1=[]from(CE hp).2];rfl
 show(ite ((Zp s).2.2) (iO s) []).all j5=Ta;grind [t8]
def BW(p:UInt8->Bool)(l:Bs):(MP p l).1.length+(MP p l).2.1.length<=DB l:=by
 induction l with
 |nil=>simp[MP]
 |cons c t b=>unfold MP;grind
def Dv{s:Bs}{x:Lit}(h:Wo s=Td x):x.whole.length+DB x.rest+DB x.exp<=DB s:=by
 obtain⟨b,rfl⟩:=Ey h;have h1:(ku s).length<=DB s:=by unfold ku;split <;> simp
 have h2:=BW m5 (ku s);have f:=BW nV (Zp s).1;have c:(iO s).length<=(Zp s).2.1.length:=by unfold iO;split;simp;split <;> simp
 have e:(ite ((Zp s).2.2) (iO s) []).length<=(Zp s).2.1.length:=by split;exact c;simp
 show(wn s).1.length+(wn s).2.1.length+(ite ((Zp s).2.2) (iO s) []).length<=DB s;unfold wn;unfold Zp at *;omega
end
section
section
variable {gl:Fr} {l:Bs}
theorem qoi(c:UInt8):(((c.toNat:Int)).toNat).toUInt8=c:=ξ
def GN{l sep:Bs}{p:UInt8->Bool}(o:∀c,p c=Ta↔c∈sep)(q:l.length<=4611686018427387904){R:Bt×Bt×Bool->Prop}(h:R (bl (MP p l).1,bl (MP p l).2.1,(MP p l).2.2)):ab4 gl 268 [up .str (bl l),up .str (bl sep)] [.str,.str,.bool] R:=by
 apply ZD;simp only[zn,yb,y0];refine⟨λi=>∃k:Nat,i=k/\k<=DB l/\∀j (f:j<DB l),j<k->p l[j]=Tc,λi=>DB l-i.toNat,⟨0,rfl,ω,λj _ h=>ω⟩,?_⟩;rintro i ⟨k,rfl,u,h2⟩;refine⟨λn=>?_,λn=>?_⟩;have b:k<DB l:=ψ n
 simp only[zag,oG b];refine⟨ω,ZN ?_⟩;rw[qoi,Zn];have t:=(Lp l[k] sep).2;rw[qd b q];refine⟨λm=>⟨ω,ω,?_⟩,λm=>⟨⟨k+1,rfl,ω,λj f r=>?_⟩,φ⟩⟩;have e:p l[k]=Ta:=(o _).2 (t.1 (ψ m));rw[uk b (λj f=>h2 j ω f) e]at h;simp only[zag,Int.toNat_zero,zcn,Nat.sub_zero];simp_all[zb0];grind;grind [wC,List.getElem_of_mem]
def GX{c:UInt8}{R:Bt×Bool->Prop}(h:R (bl (ite (l.head?==Td c) l.tail l),l.head?==Td c)):ab4 gl 267 [up .str (bl l),up .str (bl [c])] [.str,.bool] R:=by refine Ur ?_;rw[Zn,Zn,Mn,Ml];exact h
def V9{c:UInt8}{R:Bt->Prop}(h:R (bl (ite (l.head?==Td c) l.tail l))):ab4 gl 269 [up .str (bl l),up .str (bl [c])] [.str] R:=by refine Pf ?_;rw[Zn,Zn,Mn];exact h
def zY{R:Bt->Prop}(h:R (bl (l.dropWhile (· == 48)))):ab4 gl 218 [up .str (bl l),up .str (bl [48])] [.str] R:=by refine SY (c:=48) ζ ?_;rw[Zn];exact h
def z3d(b:l.length<=4611686018427387904){R:Bt->Prop}(h:R (bl (l.reverse.dropWhile (· == 48)).reverse)):ab4 gl 219 [up .str (bl l),up .str (bl [48])] [.str] R:=by refine zuc (c:=48) ζ (by rw[zn];omega) ?_;rw[Zn];exact h
def Vv{s:Bs}(P:s.length<=4611686018427387904){R:(Bool×Bool×Bt×Bt×Bt)×Bool->Prop} (h1:ko s=Ta->R (((Jw s).neg,(Jw s).low,bl (Jw s).whole,bl (Jw s).rest,bl (Jw s).exp),Ta)) (h2:ko s=Tc->∀a b c d e,R ((a,b,bl c,bl d,bl e),Tc)):ab4 gl 217 [up .str (bl s)] [.pair .bool (.pair .bool (.pair .str (.pair .str .str))),.bool] R:=by
 apply XI;refine GX (c:=45) ?_;dsimp only;have Q:(ku s).length<=DB s:=by unfold ku;split <;> simp
 have F:=BW m5 (ku s);refine GN (l:=ku s) (sep:=[101,69]) (p:=m5) (λc=>by simp[m5]) ω ?_;dsimp only;have I:(Zp s).1.length+(Zp s).2.1.length<=(ku s).length:=F;have n:∀(e:Bs) (low:Bool),((Zp s).2.2=Ta->Qy (iO s)=Ta/\low=Wn s/\e=iO s)->((Zp s).2.2=Tc->low=Tc/\e=[]) ->
  ab4 gl 268 [up .str (bl (Zp s).1),up .str (bl [46])] [.str,.str,.bool] (λf:Bt×Bt×Bool=>ab4 gl 215 [up .str f.1] [.bool] (λi:Bool=>∃o:Bool->Prop,(((!(!i))&&f.2.2)=Ta->ab4 gl 215 [up .str f.2.1] [.bool] o)/\∀k:Bool,(((!(!i))&&f.2.2)=Ta->o k)->((cond (!i) Ta (cond f.2.2 (!k) Tc))=Ta->R ((s.head?==Td 45,(low,(f.1,(f.2.1,bl e)))),Tc))/\((cond (!i) Ta (cond f.2.2 (!k) Tc))=Tc->((!((f.1:Bt).toList==((⟨#[48]⟩:Bt):Bt).toList))=Ta->(0<=(0:Int)/\(0:Int)<((f.1).size:Int)))/\R ((s.head?==Td 45,(low,(f.1,(f.2.1,bl e)))),cond ((f.1:Bt).toList==((⟨#[48]⟩:Bt):Bt).toList) Ta ((zf f.1 (0:Int).toNat:Int) != 48))))):=by
  intro e low O k2;have z:(!(Zp s).2.2||Qy (iO s))=Ta/\Wn s=low/\(ite ((Zp s).2.2) (iO s) [])=e:=by
   cases t:(Zp s).2.2 with
   |true=>simp_all
   |false=>have⟨a,b⟩:=k2 t;exact⟨rfl,by unfold Wn;rw[t,a];rfl,ϑ b⟩
  refine GN (l:=(Zp s).1) (sep:=[46]) (p:=nV) (λc=>by simp[nV]) ω ?_;refine xQ ⟨λx=>Qy (wn s).2.1=x,λ_=>xQ rfl,λy E=>?_⟩;dsimp only;simp only[show(⟨#[48]⟩:Bt)=bl [48]from rfl,kR,zn,yb];change (_->Qy (wn s).2.1=y)at E;show((cond (!Qy (wn s).1) Ta (cond ((wn s).2.2) (!y) Tc))=Ta->R ((s.head?==Td 45,(low,(bl (wn s).1,(bl (wn s).2.1,bl e)))),Tc))/\((cond (!Qy (wn s).1) Ta (cond ((wn s).2.2) (!y) Tc))=Tc->((!ph ((wn s).1=[48]))=Ta->(0<=(0:Int)/\(0:Int)<((wn s).1.length:Int)))/\R ((s.head?==Td 45,(low,(bl (wn s).1,(bl (wn s).2.1,bl e)))),cond (ph ((wn s).1=[48])) Ta (((((wn s).1[(0:Int).toNat]?).getD 0).toNat:Int) != 48)));have N:Qy (wn s).1=Ta->(wn s).2.2=Ta->Qy (wn s).2.1=y:=λa b=>E (by show((!(!Qy (wn s).1))&&(wn s).2.2)=Ta;rw[a,b];rfl);refine⟨λq=>h2 ?_ _ _ _ _ _,λq=>⟨λ_=>?_,?_⟩⟩;unfold ko;grind;all_goals
   have A:Qy (wn s).1=Ta:=by
    cases A:Qy (wn s).1 with
    |true=>rfl
    |false=>simp_all
   have M:=Xp A
  omega;have J:(!(wn s).2.2||Qy (wn s).2.1)=Ta:=by
   cases hw:(wn s).2.2 with
   |false=>rfl
   |true=>simp_all
  have H:(cond (ph ((wn s).1=[48])) Ta (((((wn s).1[(0:Int).toNat]?).getD 0).toNat:Int) != 48))=((wn s).1==[48]||(wn s).1.head? != Td 48):=by rw[show(0:Int).toNat=0 from rfl,vm M,zdi,zbd];simp
  have u:ko s=((wn s).1==[48]||(wn s).1.head? != Td 48):=by unfold ko;rw[z.1,A,J];simp
  rw[H];cases ho:((wn s).1==[48]||(wn s).1.head? != Td 48)with
  |true=>have:=h1 (u.trans ho);unfold Jw at this;simp_all
  |false=>grind
 intro K D;refine⟨λt=>?_,λt=>?_⟩;have r:(Zp s).2.2=Ta:=t;refine GX (c:=45) (l:=(Zp s).2.1) ?_;dsimp only;intro G B;have step:∀low e,low=Wn s->e=iO s->G (bl e) (s.head?==Td 45) low (bl []) (bl []) (bl []):=by intro low e w C;refine B _ _ _ _ _ _ (xQ ⟨λq=>?_,λq=>?_⟩);refine h2 ?_ _ _ [] [] [];unfold ko;grind;refine D _ _ _ _ _ _ (n e low (λ_=>⟨η,w,C⟩) λh=>η)
 have m:Wn s=((Zp s).2.1.head?==Td 45):=by unfold Wn;rw[r];rfl
 refine⟨λq=>?_,λq=>?_⟩;have j:((Zp s).2.1.head?==Td 45)=Tc:=ψ q
 rw[j];refine V9 (c:=43) ?_;simp only[zca,if_false];refine step Tc _ (by rw[m,j]) ?_;unfold iO;grind;have j:((Zp s).2.1.head?==Td 45)=Ta:=ψ q
 rw[j];simp only[if_true];refine step Ta _ (by rw[m,j]) ?_;unfold iO;grind;have r:(Zp s).2.2=Tc:=t;have L:(Zp s).2.1=[]:=(CE r).2;have:=n [] Tc (λh=>η) λ_=>⟨rfl,rfl⟩;show K (bl (Zp s).2.1) _ _ _ _ _;rw[L];exact D _ _ _ _ _ _ this
def qk6{α β γ δ:Type}{B:α->β->γ->δ->Prop}{c:Bool}{a b:α}{x:β}{y:γ}{z:δ}(h:∀e,e=(cond c a b)->B e x y z):∀K:α->β->γ->δ->Prop,(∀e x y z,B e x y z->K e x y z)->(c=Ta->K a x y z)/\(c=Tc->K b x y z):= λK i=>⟨λf=>i _ _ _ _ (h _ (by subst f;rfl)),λf=>i _ _ _ _ (h _ (by subst f;rfl))⟩
theorem fK{n:Int}(h:-4611686018427387904<=n/\n<=4611686018427387904):w6 n=n:=DE ω ω
def Mk{s:Bs}(Q:s.length<=1152921504606846976){R:(Bool×Bt×Int)×Int->Prop}(h:R (kQ (qm s).1,(qm s).2)):ab4 gl 160 [up .str (bl s)] [tN,.int .i64] R:=by
 apply NE;refine Vv ω (λk=>?_) (λk a b c d e=>?_);rotate_left;refine zY ⟨λ_=>?_,λo=>by cases o⟩;have:Wo s=Te:=by unfold Wo;simp[k]
 unfold qm at h;simp_all;have f:Wo s=Td (Jw s):=by unfold Wo;simp[k]
 have F:=Dv f;have⟨d1,d2,d3⟩:=Ep f;unfold qm at h;rw[f]at h;simp only at h;generalize Jw s=x at *;refine zY ⟨λo=>(by cases o),λ_=>?_⟩;simp only[zn];rw[fK ω];refine⟨λo=>?_,λo=>?_⟩;grind;rw[zv η]at h;refine⟨λr=>?_,λr=>?_⟩;grind;rw[zv η]at h;have G:x.whole.length+DB x.rest<=1000:=by simp at o;omega
 have N:x.exp.all j5=Ta:=d3;generalize L:x.exp.dropWhile (· == 48)=E at *;have m:E.all j5=Ta:=by rw[<-L];exact Mq d3
 have z:E.length<=9:=by simp at r;omega
 have M:zu E<10 ^ 9:=sP z m;refine⟨λe _ _ _ p=>p.1=bl E/\p.2<=DB E/\e=(zu (E.take p.2):Int),λ_ _ _ _ p=>DB E-p.2,⟨rfl,ω,by simp[zu]⟩,?_⟩;rintro e b1 b2 b3 ⟨_,p⟩ ⟨rfl,J,rfl⟩;simp only at J ⊢;rw[Am,vU];refine⟨λu=>⟨u,?_⟩,λu=>?_⟩;have i:p<DB E:=ψ u
 have P:=vK m i;have C:E.drop p=E[p]::E.drop (p+1):=zbg i;rw[tv E p i,C,yB ω];have O:=sP (n:=9) (l:=E.take p) φ (CK m p);rw[rF ω ω,fK (n:=10*_) ω,fK (n:=(_:Int)-48) ω,fK ω];simp only;refine⟨⟨trivial,ω,?_⟩,ω⟩;rw[Za i];omega;have i:¬p<DB E:=ψ u
 have w:p=DB E:=ω
 subst w;rw[za2];apply qk6;intro q y;refine⟨by unfold qg;omega,?_⟩;rw[qo];refine zY ?_;rw[show(⟨#[]⟩:Bt)=bl []from rfl];simp only[kR];have D:(x.whole++x.rest).all j5=Ta:=by rw[List.all_append,t8 d1,d2];rfl
 refine⟨λt=>?_,λt=>?_⟩;simp_all;have j:(x.whole++x.rest).dropWhile (· == 48)≠[]:=ψ t
 rw[zv j]at h;have B:=w8 (x.whole++x.rest) (· == 48);rw[zah]at B;refine z3d ω ?_;have I:=(Ya D j).2.1;have H:=NN D j θ;simp only[zn,show((List.dropWhile (λx=>x==48) (x.whole++x.rest)).reverse.dropWhile (λx=>x==48)).reverse=x9 (x.whole++x.rest)from rfl];have A:q=ite x.low (-(zu E:Int)) (zu E:Int):=by rw[y];cases x.low <;> simp;exact fK ω
 have hb:-1000000000<=q/\q<=1000000000:=by rw[A];split <;> omega
 rw[fK (n:=q-_) ω,fK (n:=q-_+_) ω,fK ω];refine C6 (n:=(x.neg,x9 (x.whole++x.rest),q-(DB x.rest:Int)+(((x.whole++x.rest).dropWhile (· == 48)).length:Int)-((x9 (x.whole++x.rest)).length:Int))) η ?_;grind
end
section
def Re(b:Int)(c:Bt)(d:Sl)(e:Sl)(h:zc)(R:vvv) (H:let f:=h.push (.cells #[iV b,ab5 c,aK d,aK e] 25);let g:=f.push (.cells tC 25);∀i:Addr->zc->Prop,(∀j:Addr,∀k:zc,(∃(l:ac5) (m:ac7),l 0 k/\∀n:Int,∀o:zc,l n o->(∃p,zd o (zab (ab7 h) 3)=Td (aK p)/\(ph (n<p.len)=Ta->∃q,zd o (zab j 3)=Td (aK q)/\∃r,zd o (zab (ab7 h) 3)=Td (aK r)/\∃s,(r.a=Td s/\0<=n/\n<r.len)/\∃t u v w,ze o (s.add (n.toNat*4)) 0 (tL t u v w)/\ab3 13 #[tA t u v w] o (λx y=>∃z A B C,x=tA z A B C/\hZ y o (zab j 3)/\let D:=y.push (.cells #[iV z,ab5 A,aK B,aK C] 25);hZ D o (zab j 3)/\qq Tp (zaj #[23,23] 23 #[aK q,.slice (Td (ab7 y)) 1 1]) D (λE F=>∃G,E=aK G/\CA Tp (zae 23 (.pointer (Td (zab j 3))) (aK G)) F (λI=>(l (w6 (n+1)) I/\m (w6 (n+1)) I<m n o)))))/\(ph (n<p.len)=Tc->∃J L M N,ze o j 0 (tL J L M N)/\CA Tp (zae 25 (ab6 (ab7 f)) (tA J L M N)) o (λO=>∃P Q S T,ze O (ab7 f) 0 (tL P Q S T)/\R (tA P Q S T) O))))->i j k)->∃U,zd g (zab (ab7 h) 0)=Td (iV U)/\∃V,zd g (zab (ab7 h) 1)=Td (ab5 V)/\∃W,zd g (zab (ab7 h) 2)=Td (aK W)/\let X:Addr->Sl->zc->Prop:=λ(Y:Addr) (Z:Sl) (aa:zc)=>(CA Tp (zae 25 (ab6 Y) (.agg #[iV U,ab5 V,aK Z,.slice Te 0 0])) aa (λab=>i Y ab));let ac:Addr->Sl->zc->Prop:=λ(ae:Addr) (af:Sl) (ag:zc)=>(X ae af ag);let ah:Addr->Sl->zc->Prop:=λ(ai:Addr) (aj:Sl) (ak:zc)=>(qq Tp (zaj #[22,22] 22 #[aK aj,aK W]) ak (λal am=>∃an,al=aK an/\hZ am g (zab (ab7 h) 1)/\hZ am g (zab (ab7 h) 0)/\ac ai an am));(let ao:=g.push (.cells #[] 9);hZ ao g (zab (ab7 h) 2)/\hZ ao g (zab (ab7 h) 1)/\hZ ao g (zab (ab7 h) 0)/\(qq Tp (zaj #[22,22] 22 #[.slice (Td (ab7 g)) 0 0,aK W]) ao (λap aq=>∃ar,ap=aK ar/\hZ aq g (zab (ab7 h) 1)/\hZ aq g (zab (ab7 h) 0)/\(let au:=aq.push (.cells tC 25);X (ab7 aq) ar au)/\(let av:=aq.push (.cells tC 25);hZ av g (zab (ab7 h) 1)/\hZ av g (zab (ab7 h) 0)/\ac (ab7 aq) ar av)))/\(let aw:=ao.push (.cells tC 25);hZ aw g (zab (ab7 h) 2)/\hZ aw g (zab (ab7 h) 1)/\hZ aw g (zab (ab7 h) 0)/\ah (ab7 ao) (⟨Td (ab7 g),0,0⟩:Sl) aw))/\(let ax:=g.push (.cells tC 25);hZ ax g (zab (ab7 h) 2)/\hZ ax g (zab (ab7 h) 1)/\hZ ax g (zab (ab7 h) 0)/\let ay:=ax.push (.cells #[] 9);hZ ay g (zab (ab7 h) 2)/\hZ ay g (zab (ab7 h) 1)/\hZ ay g (zab (ab7 h) 0)/\ah (ab7 g) (⟨Td (ab7 ax),0,0⟩:Sl) ay)):ab3 13 #[.agg #[ab9 b,ab5 c,.slice d.a d.len d.cap,.slice e.a e.len e.cap]] h R:=XF ⟨[(5,8000),(1,8000)],[(3,[(4,.one (.int .i64))])],[(2,[(3,.one (.ad))])]⟩ [.cell 2 25] 33 func13 H
def Rp(n0:Int)(h:zc)(R:vvv) (H:((cond (ph (n0>=0)) (ph (n0<10)) Tc)=Ta->(0<=n0/\n0<=(w6 (n0+1))/\(w6 (n0+1))<=(((ad6:Bt)).size:Int))/\R (ab5 (((ad6:Bt)).extract n0.toNat (w6 (n0+1)).toNat)) h)/\((cond (ph (n0>=0)) (ph (n0<10)) Tc)=Tc->(ph (n0>0)=Ta->zb3=zb3/\(10:Int)≠0/\zb3=zb3/\(10:Int)≠0/\zb3=zb3/\(10:Int)≠0/\(0<=(n0.tmod 10:Int)/\(n0.tmod 10:Int)<=(w6 ((n0.tmod 10)+1))/\(w6 ((n0.tmod 10)+1))<=(((ad6:Bt)).size:Int))/\ab3 193 #[iV (w6 (n0.tdiv 10))] h (λa b=>∃c,a=.string c/\qg (c.size+(((ad6:Bt)).extract (n0.tmod 10:Int).toNat (w6 ((n0.tmod 10)+1)).toNat).size)/\R (ab5 (c++(((ad6:Bt)).extract (n0.tmod 10:Int).toNat (w6 ((n0.tmod 10)+1)).toNat))) b))/\(ph (n0>0)=Tc->(ph (n0>(-10))=Ta->(0<=(w6 (0-n0))/\(w6 (0-n0))<=(w6 ((w6 (0-n0))+1))/\(w6 ((w6 (0-n0))+1))<=(((ad6:Bt)).size:Int))/\qg (((⟨#[45]⟩:Bt)).size+(((ad6:Bt)).extract (w6 (0-n0)).toNat (w6 ((w6 (0-n0))+1)).toNat).size)/\R (ab5 ((⟨#[45]⟩:Bt)++(((ad6:Bt)).extract (w6 (0-n0)).toNat (w6 ((w6 (0-n0))+1)).toNat))) h)/\(ph (n0>(-10))=Tc->zb3=zb3/\(10:Int)≠0/\zb3=zb3/\(10:Int)≠0/\zb3=zb3/\(10:Int)≠0/\let d:Bt->zc->Prop:=λe (f:zc)=>(R (ab5 e) f);let g:Bt->zc->Prop:=λi (j:zc)=>((0<=(w6 (0-(n0.tmod 10)))/\(w6 (0-(n0.tmod 10)))<=(w6 ((w6 (0-(n0.tmod 10)))+1))/\(w6 ((w6 (0-(n0.tmod 10)))+1):Int)<=(((ad6:Bt)).size:Int))/\qg (i.size+(((ad6:Bt)).extract (w6 (0-(n0.tmod 10))).toNat (w6 ((w6 (0-(n0.tmod 10)))+1):Int).toNat).size)/\d (i++(((ad6:Bt)).extract (w6 (0-(n0.tmod 10))).toNat (w6 ((w6 (0-(n0.tmod 10)))+1):Int).toNat)) j);let k:Bt->zc->Prop:=λl (m:zc)=>((0<=(w6 (0-(n0.tmod 10)))/\(w6 (0-(n0.tmod 10)))<=(w6 ((w6 (0-(n0.tmod 10)))+1))/\(w6 ((w6 (0-(n0.tmod 10)))+1):Int)<=(((ad6:Bt)).size:Int))/\qg (l.size+(((ad6:Bt)).extract (w6 (0-(n0.tmod 10))).toNat (w6 ((w6 (0-(n0.tmod 10)))+1):Int).toNat).size)/\d (l++(((ad6:Bt)).extract (w6 (0-(n0.tmod 10))).toNat (w6 ((w6 (0-(n0.tmod 10)))+1):Int).toNat)) m);let n:zc->Prop:=λ(o:zc)=>(ab3 193 #[iV (w6 (n0.tdiv 10))] o (λp q=>∃r,p=.string r/\qg (r.size+(((ad6:Bt)).extract (w6 (0-(n0.tmod 10))).toNat (w6 ((w6 (0-(n0.tmod 10)))+1):Int).toNat).size)/\d (r++(((ad6:Bt)).extract (w6 (0-(n0.tmod 10))).toNat (w6 ((w6 (0-(n0.tmod 10)))+1):Int).toNat)) q));(ab3 193 #[iV (w6 (n0.tdiv 10))] h (λs t=>∃u,s=.string u/\(g u t)/\(k u t)))/\((ab3 193 #[iV (w6 (n0.tdiv 10))] h (λv w=>∃x,v=.string x/\g x w))/\((0<=(w6 (0-(n0.tmod 10)))/\(w6 (0-(n0.tmod 10)))<=(w6 ((w6 (0-(n0.tmod 10)))+1))/\(w6 ((w6 (0-(n0.tmod 10)))+1):Int)<=(((ad6:Bt)).size:Int))/\n h))/\((ab3 193 #[iV (w6 (n0.tdiv 10))] h (λy z=>∃A,y=.string A/\k A z))/\((0<=(w6 (0-(n0.tmod 10)))/\(w6 (0-(n0.tmod 10)))<=(w6 ((w6 (0-(n0.tmod 10)))+1))/\(w6 ((w6 (0-(n0.tmod 10)))+1):Int)<=(((ad6:Bt)).size:Int))/\n h)))))):ab3 193 #[ab9 n0] h R:=XF ⟨[(5,8000),(8,8000)],[],[]⟩ [.tmp 2] 51 func193 H
def YM(s0:Bt)(h:zc)(R:vvv) (H:let a:=h.push (.cells #[ab8 Tc,ab5 (⟨#[]⟩:Bt),iV 0] 110);ab3 232 #[ab5 s0] a (λb c=>∃d e f g,b=.tuple #[.agg #[ab8 d,ab5 e,iV f],iV g]/\let i:=c.push (.cells #[ab8 Tc,ab5 (⟨#[]⟩:Bt),iV 0] 110);CA Tp (zae 110 (ab6 (ab7 c)) (.agg #[ab8 d,ab5 e,iV f])) i (λj=>∃k l m,ze j (ab7 c) 0 [ab8 k,ab5 l,iV m]/\let n:Bool->zc->Prop:=λo (p:zc)=>(∃q r s,ze p (ab7 h) 0 [ab8 q,ab5 r,iV s]/\R (.tuple #[.agg #[ab8 q,ab5 r,iV s],ab8 o]) p);let t:Bool->zc->Prop:=λu (v:zc)=>(n (cond (g==0) u Tc) v);let w:Bt->zc->Prop:=λx (y:zc)=>(t (x.toList==s0.toList) y);let z:Bt->zc->Prop:=λA (B:zc)=>((hZ B j (ab7 c)/\(hZ B j (ab7 c)/\CA Tp (zae 110 (ab6 (ab7 h)) (.agg #[ab8 k,ab5 l,iV m])) B (λC=>n (cond (g==0) (A.toList==s0.toList) Tc) C))/\(CA Tp (zae 110 (ab6 (ab7 h)) (.agg #[ab8 k,ab5 l,iV m])) B (λD=>t (A.toList==s0.toList) D)))/\(CA Tp (zae 110 (ab6 (ab7 h)) (.agg #[ab8 k,ab5 l,iV m])) B (λE=>w A E)));let F:Bool->Bt->Int->zc->Prop:=λG I J (L:zc)=>(∃M:vvv,((g==0)=Ta->ab3 233 #[.agg #[ab8 G,ab5 I,iV J]] L (λN O=>∃P,N=.string P/\M (ab5 P) O))/\((g==0)=Tc->∃Q,M (ab5 Q) L)/\((g==0)=Ta->∀S T,M S T->∃U,S=.string U)/\∀V:Bt,∀W,M (ab5 V) W->hZ W j (ab7 c)/\z V W);(∃X Y Z,((g==0)=Ta->ze j (ab7 c) 0 [ab8 X,ab5 Y,iV Z])/\hZ j j (ab7 c)/\(∃aa:vvv,((g==0)=Ta->ab3 233 #[.agg #[ab8 X,ab5 Y,iV Z]] j (λab ac=>∃ad,ab=.string ad/\aa (ab5 ad) ac))/\((g==0)=Tc->∃ae,aa (ab5 ae) j)/\((g==0)=Ta->∀af ag,aa af ag->∃ah,af=.string ah)/\∀ai:Bt,∀aj,aa (ab5 ai) aj->hZ aj j (ab7 c)/\(hZ aj j (ab7 c)/\z ai aj)/\(CA Tp (zae 110 (ab6 (ab7 h)) (.agg #[ab8 k,ab5 l,iV m])) aj (λak=>w ai ak)))/\(hZ j j (ab7 c)/\F X Y Z j))/\(hZ j j (ab7 c)/\∃al am an,((g==0)=Ta->ze j (ab7 c) 0 [ab8 al,ab5 am,iV an])/\hZ j j (ab7 c)/\F al am an j)))):ab3 223 #[ab5 s0] h R:=XF ⟨[(2,8000)],[],[]⟩ [.cell 2 110,.tmp 3] 20 func223 H
def UU(Z:Bt)(h:zc)(R:vvv) (H:ab3 203 #[ab5 Z] h (λb c=>∃d e,b=.tuple #[iV d,ab8 e]/\((!e)=Ta->R (.tuple #[ab5 (⟨#[]⟩:Bt),iV 2]) c)/\((!e)=Tc->let f:=c.push (.cells #[.int .u8 34] 5);∃(g:Sl->Int->zc->Prop) (i:Sl->Int->zc->Nat),g (⟨Td (ab7 c),1,1⟩:Sl) 0 f/\∀j:Sl,∀k:Int,∀l:zc,g j k l->((ph (k<Z.size)=Ta->(0<=k/\k<Z.size)/\((cond ((zf Z k.toNat:Int)==34) Ta ((zf Z k.toNat:Int)==92))=Ta->let m:=l.push (.cells #[.int .u8 92,.int .u8 (zf Z k.toNat)] 5);qq Tp (zaj #[87,87] 87 #[aK j,.slice (Td (ab7 l)) 2 2]) m (λn o=>∃p,n=aK p/\(g p (w6 (k+1)) o/\i p (w6 (k+1)) o<i j k l)))/\((cond ((zf Z k.toNat:Int)==34) Ta ((zf Z k.toNat:Int)==92))=Tc->(((zf Z k.toNat:Int)==8)=Ta->qq Tp (zaj #[87,9] 87 #[aK j,ab5 (⟨#[92,98]⟩:Bt)]) l (λq r=>∃s,q=aK s/\(g s (w6 (k+1)) r/\i s (w6 (k+1)) r<i j k l)))/\(((zf Z k.toNat:Int)==8)=Tc->(((zf Z k.toNat:Int)==12)=Ta->qq Tp (zaj #[87,9] 87 #[aK j,ab5 (⟨#[92,102]⟩:Bt)]) l (λt u=>∃v,t=aK v/\(g v (w6 (k+1)) u/\i v (w6 (k+1)) u<i j k l)))/\(((zf Z k.toNat:Int)==12)=Tc->(((zf Z k.toNat:Int)==10)=Ta->qq Tp (zaj #[87,9] 87 #[aK j,ab5 (⟨#[92,110]⟩:Bt)]) l (λw x=>∃y,w=aK y/\(g y (w6 (k+1)) x/\i y (w6 (k+1)) x<i j k l)))/\(((zf Z k.toNat:Int)==10)=Tc->(((zf Z k.toNat:Int)==13)=Ta->qq Tp (zaj #[87,9] 87 #[aK j,ab5 (⟨#[92,114]⟩:Bt)]) l (λz A=>∃B,z=aK B/\(g B (w6 (k+1)) A/\i B (w6 (k+1)) A<i j k l)))/\(((zf Z k.toNat:Int)==13)=Tc->(((zf Z k.toNat:Int)==9)=Ta->qq Tp (zaj #[87,9] 87 #[aK j,ab5 (⟨#[92,116]⟩:Bt)]) l (λC D=>∃E,C=aK E/\(g E (w6 (k+1)) D/\i E (w6 (k+1)) D<i j k l)))/\(((zf Z k.toNat:Int)==9)=Tc->(ph ((zf Z k.toNat:Int)<32)=Ta->IntKind.u8=IntKind.u8/\(16:Int)≠0/\IntKind.u8=IntKind.u8/\(16:Int)≠0/\let F:zc->Prop:=λ(G:zc)=>(let I:=G.push (.cells #[.int .u8 92,.int .u8 117,.int .u8 48,.int .u8 48,.int .u8 (zf (ad7:Bt) (zaa .u8 ((zf Z k.toNat:Int).tdiv 16)).toNat),.int .u8 (zf (ad7:Bt) ((zf Z k.toNat:Int).tmod 16:Int).toNat)] 5);qq Tp (zaj #[87,87] 87 #[aK j,.slice (Td (ab7 G)) 6 6]) I (λJ L=>∃M,J=aK M/\(g M (w6 (k+1)) L/\i M (w6 (k+1)) L<i j k l)));((0<=(zaa .u8 ((zf Z k.toNat:Int).tdiv 16))/\(zaa .u8 ((zf Z k.toNat:Int).tdiv 16))<(((ad7:Bt)).size:Int))/\(0<=((zf Z k.toNat:Int).tmod 16:Int)/\((zf Z k.toNat:Int).tmod 16:Int)<(((ad7:Bt)).size:Int))/\F l)/\((0<=((zf Z k.toNat:Int).tmod 16:Int)/\((zf Z k.toNat:Int).tmod 16:Int)<(((ad7:Bt)).size:Int))/\(0<=(zaa .u8 ((zf Z k.toNat:Int).tdiv 16))/\(zaa .u8 ((zf Z k.toNat:Int).tdiv 16))<(((ad7:Bt)).size:Int))/\F l))/\(ph ((zf Z k.toNat:Int)<32)=Tc->let N:=l.push (.cells #[.int .u8 (zf Z k.toNat)] 5);qq Tp (zaj #[87,87] 87 #[aK j,.slice (Td (ab7 l)) 1 1]) N (λO P=>∃Q,O=aK Q/\(g Q (w6 (k+1)) P/\i Q (w6 (k+1)) P<i j k l))))))))))/\(ph (k<Z.size)=Tc->let S:=l.push (.cells #[.int .u8 34] 5);qq Tp (zaj #[87,87] 87 #[aK j,.slice (Td (ab7 l)) 1 1]) S (λT U=>∃V,T=aK V/\qq Tp (convert 87 9 (aK V)) U (λW X=>∃Y,W=.string Y/\R (.tuple #[ab5 Y,iV 0]) X))))))):ab3 131 #[ab5 Z] h R:=XF ⟨[(23,8000)],[(7,[(7,.one (.sl)),(8,.one (.int .i64))])],[]⟩ [.tmp 2,.tmp 3] 78 func131 H
end
end
section
open Go.Lib
section
def Of(gl:Fr)(n:Bt)(R:((Bool×Bt×Int)×Bool)->Prop) (H:ab4 gl 232 [up .str n] [.pair .bool (.pair .str (.int .i64)),.int .i64] (λb:(Bool×Bt×Int)×Int=>∃D:Bt->Prop,(((b.2:Int)==0)=Ta->ab4 gl 233 [up (.pair .bool (.pair .str (.int .i64))) (b.1.1,(b.1.2.1,b.1.2.2))] [.str] D)/\∀E:Bt,(((b.2:Int)==0)=Ta->D E)->R ((b.1.1,(b.1.2.1,b.1.2.2)),cond ((b.2:Int)==0) ((E:Bt).toList==(n:Bt).toList) Tc))):ab4 gl 223 [up .str n] [.pair .bool (.pair .str (.int .i64)),.bool] R:=by
 intro h M vs hM ag ha
 match vs,ha with
 |[u],⟨P,_⟩=>
 have P:RdV M .str n u:=P;rw[w5 P];apply PX.of;apply YM n;intro h1;have⟨k1,z1,b1⟩:=jo (g:=h1) rfl;clear_value h1;have L1:At h M h1 M:=At.same ag k1;refine H.go (vs:=[ab5 n]) hM L1.ag (zo (a:=up .str n) (GE _) qc) λw q V r A l hr=>?_;have⟨N,hJ,hR⟩:=hr;rw[KM l];refine⟨_,_,_,_,rfl,?_⟩;have z3:=A.ab0.size;refine vN (cs:=#[ab8 Tc,ab5 ⟨#[]⟩,ab9 0]) (Blk.new _ _ _) rfl κ κ λp f9 z9 G=>?_;rw[zau]at z9;have k9:BT q.size q p:=⟨ω,λj S=>(f9 j ω).trans ((ur q _ (zac _)).get j S)⟩;have I:At h M p V:=(L1.trans A).trans (At.same A.ag k9);have C:V h.size=Te:=by
  rw[A.old h.size ω];cases e:M h.size with
  |none=>rfl
  |some c=>have:=ag.lt e;omega
 have Y:Blk p h.size #[ab8 Tc,ab5 ⟨#[]⟩,ab9 0]:=(b1.ab2 A.ab0).ab2 k9;refine⟨r.1.1,r.1.2.1,r.1.2.2,G.ld (cs:=[ab8 r.1.1,ab5 r.1.2.1,ab9 r.1.2.2]),?_⟩;intro Z ab aa O U;have fin:∀(g:zc) (Mg:Fr) (x:Bt),At h M g Mg->Mg h.size=Te->(∃cs,Blk g h.size cs/\cs.size=3)->(((r.2:Int)==0)=Ta->N x) ->
  CA Tp (zae 110 (ab6 ⟨zay h,0,Te⟩) (.agg #[ab8 r.1.1,ab5 r.1.2.1,ab9 r.1.2.2])) g (λg'=>Z (cond ((r.2:Int)==0) ((x:Bt).toList==(n:Bt).toList) Tc) g'):=λg Mg x L o ⟨cs,B,hc⟩ k=>
  vN B hc κ κ λg' f z B'=>⟨_,_,_,B'.ld (cs:=[ab8 r.1.1,ab5 r.1.2.1,ab9 r.1.2.2]),Mg,((r.1.1,(r.1.2.1,r.1.2.2)),_),⟨⟨χ L.ab0.size,λj S=>(f j ω).trans (L.ab0.get j S)⟩,L.le,L.old,λc cc e=>by have⟨T,m,e2⟩:=L.ag c cc e;grind⟩,Lj _ _ _ _,hR x k⟩
 have Q:∀(g:zc) (Mg:Fr) (x:Bt),At h M g Mg->Mg h.size=Te->(∃cs,Blk g h.size cs/\cs.size=3)->(((r.2:Int)==0)=Ta->N x)->g[q.size]?=p[q.size]?->O x g:=λg Mg x L o B k t=>⟨⟨t,⟨t,fin g Mg x L o B k⟩,fin g Mg x L o B k⟩,fin g Mg x L o B k⟩;let F:vvv:=λv g=>∃x:Bt,v=.string x/\(∃Mg,At h M g Mg/\Mg h.size=Te/\(∃cs,Blk g h.size cs/\cs.size=3)/\g[q.size]?=p[q.size]?)/\(((r.2:Int)==0)=Ta->N x);have call:((r.2:Int)==0)=Ta->ab3 233 #[.agg #[ab8 r.1.1,ab5 r.1.2.1,ab9 r.1.2.2]] p (λv g=>∃x:Bt,v=.string x/\F (ab5 x) g):=λe=>
  (hJ e).go (vs:=[.agg #[ab8 r.1.1,ab5 r.1.2.1,ab9 r.1.2.2]]) (hM.trans I.le) I.ag (zo (a:=up (.pair .bool (.pair .str (.int .i64))) (r.1.1,(r.1.2.1,r.1.2.2))) (wS _ _ _) qc) λw g Mg x J l k=>
   ⟨x,kW l,x,rfl,⟨Mg,I.trans J,by rw[J.old h.size Y.lt];exact C,⟨_,Y.ab2 J.ab0,rfl⟩,J.ab0.get _ G.lt⟩,λ_=>k⟩
 have i:((r.2:Int)==0)=Tc->∃x:Bt,F (ab5 x) p:=λe=>⟨⟨#[]⟩,⟨#[]⟩,rfl,⟨V,I,C,⟨_,Y,rfl⟩,rfl⟩,λe'=>θ⟩;have y:U r.1.1 r.1.2.1 r.1.2.2 p:=⟨F,call,i,λ_ v g ⟨x,e,_⟩=>⟨x,e⟩,λx g ⟨x',e,⟨Mg,L,o,B,t⟩,k⟩=>by injection e with e;subst e;grind⟩;refine⟨⟨_,_,_,λ_=>G.ld (cs:=[ab8 r.1.1,ab5 r.1.2.1,ab9 r.1.2.2]),rfl,⟨F,call,i,λ_ v g ⟨x,e,_⟩=>⟨x,e⟩,λx g ⟨x',e,⟨Mg,L,o,B,t⟩,k⟩=>?_⟩,rfl,y⟩,rfl,_,_,_,λ_=>G.ld (cs:=[ab8 r.1.1,ab5 r.1.2.1,ab9 r.1.2.2]),rfl,y⟩;injection e with e;subst e;exact⟨t,⟨t,Q g Mg x L o B k t⟩,fin g Mg x L o B k⟩
def QY(gl:Fr)(n0:Int)(R:Bt->Prop) (H:((cond (ph ((n0:Int)>=0)) (ph ((n0:Int)<10)) Tc)=Ta->(0<=(n0:Int)/\(n0:Int)<=(w6 (n0+1))/\(w6 (n0+1):Int)<=(((ad6:Bt)).size:Int))/\R (((ad6:Bt)).extract (n0:Int).toNat (w6 (n0+1):Int).toNat))/\((cond (ph ((n0:Int)>=0)) (ph ((n0:Int)<10)) Tc)=Tc->((ph ((n0:Int)>0))=Ta->zb3=zb3/\(10:Int)≠0/\zb3=zb3/\(10:Int)≠0/\zb3=zb3/\(10:Int)≠0/\(0<=((n0:Int).tmod 10:Int)/\((n0:Int).tmod 10:Int)<=(w6 (((n0:Int).tmod 10)+1))/\(w6 (((n0:Int).tmod 10)+1):Int)<=(((ad6:Bt)).size:Int))/\ab4 gl 193 [up PJ (w6 ((n0:Int).tdiv 10))] [.str] (λm:Bt=>qg ((m).size+(((ad6:Bt)).extract ((n0:Int).tmod 10:Int).toNat (w6 (((n0:Int).tmod 10)+1):Int).toNat).size)/\R (m++(((ad6:Bt)).extract ((n0:Int).tmod 10:Int).toNat (w6 (((n0:Int).tmod 10)+1):Int).toNat))))/\((ph ((n0:Int)>0))=Tc->((ph ((n0:Int)>(-10)))=Ta->(0<=(w6 (0-n0):Int)/\(w6 (0-n0):Int)<=(w6 ((w6 (0-n0))+1))/\(w6 ((w6 (0-n0))+1):Int)<=(((ad6:Bt)).size:Int))/\qg (((⟨#[45]⟩:Bt)).size+(((ad6:Bt)).extract (w6 (0-n0):Int).toNat (w6 ((w6 (0-n0))+1):Int).toNat).size)/\R ((⟨#[45]⟩:Bt)++(((ad6:Bt)).extract (w6 (0-n0):Int).toNat (w6 ((w6 (0-n0))+1):Int).toNat)))/\((ph ((n0:Int)>(-10)))=Tc->zb3=zb3/\(10:Int)≠0/\zb3=zb3/\(10:Int)≠0/\zb3=zb3/\(10:Int)≠0/\(0<=(w6 (0-((n0:Int).tmod 10)):Int)/\(w6 (0-((n0:Int).tmod 10)):Int)<=(w6 ((w6 (0-((n0:Int).tmod 10)))+1))/\(w6 ((w6 (0-((n0:Int).tmod 10)))+1):Int)<=(((ad6:Bt)).size:Int))/\ab4 gl 193 [up PJ (w6 ((n0:Int).tdiv 10))] [.str] (λl:Bt=>qg ((l).size+(((ad6:Bt)).extract (w6 (0-((n0:Int).tmod 10)):Int).toNat (w6 ((w6 (0-((n0:Int).tmod 10)))+1):Int).toNat).size)/\R (l++(((ad6:Bt)).extract (w6 (0-((n0:Int).tmod 10)):Int).toNat (w6 ((w6 (0-((n0:Int).tmod 10)))+1):Int).toNat))))))):ab4 gl 193 [up PJ n0] [.str] R:=by
 intro h M vs B ag N
 match vs,N with
 |[u],⟨hu,_⟩=>
 cases Zu (i:=n0) (k:=.i64) hu;apply PX.of;apply Rp n0;have⟨C,z⟩:=H;have ret:∀{g:zc} {Mg:Fr} {s:Bt},At h M g Mg->R s->∃M' r,At h M g M'/\Yx M' [.str] r (ab5 s)/\R r:=λ {g Mg s} L j=>⟨Mg,s,L,Qr.2 (GE s),j⟩;have D:At h M h M:=At.refl ag;refine⟨λe=>⟨(C e).1,ret D (C e).2⟩,λe=>?_⟩;have⟨z,o⟩:=z e;refine⟨λt=>?_,λt=>?_⟩;have⟨a1,a2,n,x,p,y,f,c⟩:=z t;exact⟨a1,a2,n,x,p,y,f,c.go (vs:=[ab9 _]) B ag (zo (a:=up PJ _) (Q9 _ _) qc) λw g Mg r L b j=>⟨r,kW b,j.1,ret L j.2⟩⟩;have⟨o,E⟩:=o t;refine⟨λA=>?_,λA=>?_⟩;have⟨a1,a2,n⟩:=o A;exact⟨a1,a2,ret D n⟩;have⟨a1,a2,n,x,p,y,f,c⟩:=E A;refine⟨a1,a2,n,x,p,y,?_⟩;intro I O J F;have call:∀{Q:Bt->Prop},ab4 gl 193 [up PJ (w6 ((n0:Int).tdiv 10))] [.str] Q->∀{K:vvv},(∀(r:Bt) (g:zc) (Mg:Fr),At h M g Mg->Q r->K (ab5 r) g)->ab3 193 #[ab9 (w6 ((n0:Int).tdiv 10))] h K:=λ {Q} c {K} G=>
  c.go (vs:=[ab9 _]) B ag (zo (a:=up PJ _) (Q9 _ _) qc) λw g Mg r L b j=>by rw[kW b];exact G r g Mg L j
 exact⟨call c λr g Mg L q=>⟨r,rfl,⟨f,q.1,ret L q.2⟩,f,q.1,ret L q.2⟩,⟨call c λr g Mg L q=>⟨r,rfl,f,q.1,ret L q.2⟩,f,call c λr g Mg L q=>⟨r,rfl,q.1,ret L q.2⟩⟩,call c λr g Mg L q=>⟨r,rfl,f,q.1,ret L q.2⟩,f,call c λr g Mg L q=>⟨r,rfl,q.1,ret L q.2⟩⟩
end
end
section
variable {gl:Fr} {n:Int}
theorem Xq{a b:Bs}(h:a.length+DB b<=4611686018427387904):qg ((bl a).size+(bl b).size):=by unfold qg;rw[zn,zn];omega
def Gj(m:sU gl){n:Nm}(q:n.2.1.length<=4611686018427387904){R:Bt->Prop}(h:R (bl (Qa n))):ab4 gl 92 [up tN (kQ n)] [.str] R:=by
 apply QE;refine C6 q ⟨λf=>?_,λf=>?_⟩;have:yh n=Tc:=ψ f
 have e:Qa n=[]:=by unfold Qa;simp[this]
 grind;have i:yh n=Ta:=ψ f
 have⟨u,o,k⟩:=Xo i;unfold Qa at h;rw[zA i]at h;simp only[show(⟨#[]⟩:Bt)=bl []from rfl,kR];refine⟨λc=>?_,λc=>?_⟩;simp_all;rw[zv (ψ c)]at h;intro K r;have key:∀t:Bs,t=(ite n.1 [45] [])++n.2.1->K (bl t):=by
  intro t j;have p:t.length<=1001:=by rw[j];split <;> simp <;> omega
  rw[<-j]at h;refine r _ ⟨λb=>?_,λb=>?_⟩;rw[zv (ψ b)]at h;have l:=Go.X.RM n.2.2;refine Al m ω ω ?_;grind [Xq,qo];simp_all
 refine⟨λb=>⟨Xq (a:=[45]) φ,?_⟩,λb=>?_⟩;simp_all[qo];simp_all
theorem vp{k:Nat}(h:k<10):(bl [48,49,50,51,52,53,54,55,56,57]).extract k (k+1)=bl [zcl (48+k)]:=by rw[y0,Go.X.dig_ext k h]
theorem WV(h:10<=n):Lib.itoa n=Lib.itoa (n / 10)++[zcl (48+(n % 10).toNat)]:=by unfold Lib.itoa;rw[zv ω,zv ω,Lib.decDigits,dif_neg ω];grind
theorem itoa_neg(h:n<=-10):Lib.itoa n=Lib.itoa (n.tdiv 10)++[zcl (48+(-(n.tmod 10)).toNat)]:=by
 obtain⟨m,rfl⟩:∃m:Nat,n=-(m:Int):=⟨n.natAbs,ω⟩;have b:(-(m:Int)).tdiv 10=-((m / 10:Nat):Int):=by rw[Int.neg_tdiv];rfl
 have c:(-(m:Int)).tmod 10=-((m % 10:Nat):Int):=by rw[Int.neg_tmod];rfl
 rw[b,c];unfold Lib.itoa;rw[zA ω,zA ω];have a1:(-(m:Int)).natAbs=m:=ω
 have a2:(-((m / 10:Nat):Int)).natAbs=m / 10:=ω
 rw[a1,a2];conv=>lhs;rw[Lib.decDigits,dif_neg ω]
 grind
theorem vC{gl:Fr}{n:Int}(h1:-9223372036854775808<=n)(h2:n<=9223372036854775807){R:Bt->Prop}(h:R (bl (Lib.itoa n))):PC Tp gl 193 [Arg.mk (.int .i64) n] [.str] R:=by
 apply QY;have m:(⟨#[48,49,50,51,52,53,54,55,56,57]⟩:Bt)=bl [48,49,50,51,52,53,54,55,56,57]:=rfl;simp only[m];have c:(bl [48,49,50,51,52,53,54,55,56,57]).size=10:=by rw[zn];rfl
 refine⟨λj=>?_,λj=>⟨λb=>?_,λb=>⟨λf=>?_,λf=>?_⟩⟩⟩;have i:0<=n/\n<10:=by simpa[zcq]using j
 rw[fK (by omega),c];refine⟨by omega,?_⟩;have e:(n+1).toNat=n.toNat+1:=by omega
 rw[e,vp (by omega)];have:Lib.itoa n=[zcl (48+n.toNat)]:=by unfold Lib.itoa;rw[zv (by omega),Lib.decDigits,dif_pos (by omega)]
 simp_all;have i:10<=n:=by
  have:¬(0<=n/\n<10):=by simpa[zcq]using j
  have:n>0:=by simpa using b
  omega
 have k:n.tdiv 10=n / 10:=Int.tdiv_eq_ediv_of_nonneg (by omega);have l:n.tmod 10=n % 10:=Int.tmod_eq_emod_of_nonneg (by omega);rw[k,l,fK (n:=n % 10+1) (by omega),fK (n:=n / 10) (by omega),c];refine⟨trivial,by omega,trivial,by omega,trivial,by omega,by omega,vC (n:=n / 10) (by omega) (by omega) ?_⟩;have e:(n % 10+1).toNat=(n % 10).toNat+1:=by omega
 rw[e,vp (by omega)];refine⟨Xq ?_,?_⟩;grind [Go.X.RM];rw[qo,<-WV i];exact h;have i:-10<n/\n<0:=by
  have:¬(0<=n/\n<10):=by simpa[zcq]using j
  have:¬n>0:=by simpa using b
  have:n > -10:=by simpa using f
  omega
 have hz:(0:Int)-n=-n:=by omega
 rw[hz,fK (n:=-n) (by omega),fK (n:=-n+1) (by omega),c];have e:(-n+1).toNat=(-n).toNat+1:=by omega
 rw[e,vp (by omega)];refine⟨by omega,Xq (a:=[45]) (by simp),?_⟩;rw[show(⟨#[45]⟩:Bt)=bl [45]from rfl,qo];have:Lib.itoa n=[45]++[zcl (48+(-n).toNat)]:=by
  unfold Lib.itoa;rw[zA (by omega),Lib.decDigits,dif_pos (by omega)];have:n.natAbs=(-n).toNat:=by omega
  rw[this];rfl
 simp_all;have i:n<=-10:=by
  have:¬(0<=n/\n<10):=by simpa[zcq]using j
  have:¬n>0:=by simpa using b
  have:¬n > -10:=by simpa using f
  omega
 have o:n.tdiv 10=-((-n) / 10):=by have:=Int.neg_tdiv (-n) 10;rw[Int.neg_neg]at this;rw[this,Int.tdiv_eq_ediv_of_nonneg (by omega)]
 have p:n.tmod 10=-((-n) % 10):=by have:=Int.neg_tmod (-n) 10;rw[Int.neg_neg]at this;rw[this,Int.tmod_eq_emod_of_nonneg (by omega)]
 have hz:(0:Int)-n.tmod 10=-(n.tmod 10):=by omega
 rw[hz,fK (n:=-(n.tmod 10)) (by omega),fK (n:=-(n.tmod 10)+1) (by omega),fK (n:=n.tdiv 10) (by omega),c];have e:(-(n.tmod 10)+1).toNat=(-(n.tmod 10)).toNat+1:=by omega
 rw[e,vp (by omega)];refine⟨trivial,by omega,trivial,by omega,trivial,by omega,by omega,vC (n:=n.tdiv 10) (by omega) (by omega) ?_⟩;refine⟨Xq ?_,?_⟩;grind [Go.X.RM];rw[qo,<-itoa_neg i];exact h
termination_by n.natAbs
decreasing_by all_goals omega
def Oi{n:Nm}(q:n.2.1.length<=4611686018427387904){R:Bt->Prop}(h:R (bl (Qa n))):ab4 gl 233 [up tN (kQ n)] [.str] R:=by
 apply zfo;refine KT q ⟨λi=>?_,λi=>?_⟩;have:yh n=Tc:=ψ i
 have e:Qa n=[]:=by unfold Qa;simp[this]
 grind;have j:yh n=Ta:=ψ i
 have⟨u,o,l⟩:=Xo j;unfold Qa at h;rw[zA j]at h;refine Ht (n:=n) ⟨λf=>?_,λf=>?_⟩;have:n.2.1=[]:=by unfold X8 at f;simp at f;exact f.2.1
 simp_all;have:¬n.2.1=[]:=λe=>by simp_all[Lx]
 rw[zv this]at h;intro K r;have key:∀t:Bs,t=(ite n.1 [45] [])++n.2.1->K (bl t):=by
  intro t k;have p:t.length<=1001:=by rw[k];split <;> simp <;> omega
  rw[<-k]at h;refine r _ ⟨λc=>?_,λc=>?_⟩;rw[zv (ψ c)]at h;have m:=Go.X.RM n.2.2;refine⟨Xq (b:=[101]) φ,vC (n:=n.2.2) ω ω ?_⟩;grind [qo,Xq];simp_all
 refine⟨λc=>⟨Xq (a:=[45]) φ,?_⟩,λc=>?_⟩;simp_all[qo];simp_all
def UW(e:sU gl)(h1:-9223372036854775808<=n)(h2:n<=9223372036854775807){R:Bool×Bt×Int->Prop}(h:R (kQ (qm (Lib.itoa n)).1)):ab4 gl 93 [up PJ n] [tN] R:=by
 apply SK;refine Al e h1 h2 (Mk ?_ h);have:=Go.X.RM n;have c:∀u:Nat,u<10 ^ 20->(Lib.decDigits u).length<=20:=by
  have:∀(k u:Nat),u<10 ^ (k+1)->(Lib.decDigits u).length<=k+1:=by
   intro k;induction k with
   |zero=>intro u b;rw[Lib.decDigits,dif_pos (ψ b)];simp
   |succ k f=>intro u b;rw[Lib.decDigits];grind
  exact this 19
 have:(Lib.itoa n).length<=21:=by unfold Lib.itoa;split;grind;grind
 omega
end
end Go.X
