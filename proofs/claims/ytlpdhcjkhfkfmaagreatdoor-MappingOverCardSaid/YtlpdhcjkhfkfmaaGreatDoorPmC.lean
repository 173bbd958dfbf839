/- A part of the proof: nothing is stated here for its own sake. -/
import Derived.Test.YtlpdhcjkhfkfmaaGreatDoorPmB
import Derived.ProofKit
import Derived.OpenShut
import Derived.ShutString
import Derived.Lib.Replace
import Derived.Shelf.Strings.Trim
import Derived.Shelf.Small.Bits
import Derived.Shelf.Small.Wraps
import Derived.Shelf.Strings.BuilderRune
import Derived.Shelf.Utf8.AppendRune
import Derived.Shelf.Utf8.AppendRunePlain
import Derived.Shelf.Strconv.Itoa3
import Derived.Shelf.Strconv.AtoiErr
import Derived.Shelf.Strconv.ErrVarAll
import Derived.Shelf.Strconv.ErrVarParseInt
import Derived.Shelf.Pu.ParseUintPublic10
import Derived.Shelf.Sort.Plain
import Derived.Shelf.Unicode.Decode
import Derived.Shelf.Strings.IndexAnyAll
import Derived.Shelf.Strings.Repeat
import Derived.Shelf.Unicode.DecodeLast
import Derived.Shelf.Strings.BuilderCap
import Derived.Shelf.Slices.Turned
import Derived.Shelf.Slices.Clone
import Derived.Shelf.Slices.SearchI
import Derived.Shelf.Slices.In.SortNone
import Derived.Shelf.SlicesE.Clone
import Derived.Shelf.Unicode.ValidAny
import Derived.Test.YtlpdhcjkhfkfmaaGreatDoorTie
import Derived.Test.YtlpdhcjkhfkfmaaGreatDoorCards
import Derived.PinnedBridge
import Derived.Lay
import Derived.HandedShaped
import Derived.Sort.KeysCollected
open _root_.Go.Addr renaming add->NG
open _root_.Array renaming getElem?_append_left->Pu,getElem?_eq_getElem->Oy,getElem?_eq_some_iff->NK,getElem?_modify->QM,getElem?_push->OZ,getElem?_setIfInBounds_ne->NW,getElem?_setIfInBounds_self_of_lt->Pk,getElem?_toList->OF,size_push->NN
open _root_.BitVec renaming ofInt->OT
open _root_.Bool renaming and_eq_true->NP,and_eq_true_iff->OC,eq_iff_iff->Om,false_eq_true->OS,not_eq_true'->PN,or_eq_true->Pi,true_and->Pj
open _root_.Go.Builtin renaming append_->NX
open _root_.Go.Extern.AbiNoEscape renaming same->Ry
open _root_.Go.Instr renaming entry->Rm,findNow->Ps,keyThatStays->PV,lookup->QJ,mapUpdate->O8,next->QE,range->Rk,sameNow->QY,storeAt->NR
open _root_.Int renaming toNat_natCast->NE
open _root_.Go.IntKind renaming bits->Oz,signed->Rv,wrap->NB
open _root_.List.Pairwise renaming nil->PO
open _root_.List renaming all_eq_true->N3,append_assoc->Od,append_nil->Oe,cons_append->Ox,drop_drop->QO,drop_eq_getElem_cons->Po,drop_eq_nil_of_le->Pd,drop_zero->Pv,eq_nil_of_length_eq_zero->N5,exists_cons_of_ne_nil->Px,ext_getElem?->OG,filter_cons->O0,flatMap_cons->Pa,getD_eq_getElem?_getD->Oo,getElem?_drop->Oj,getElem?_eq_getElem->NL,getElem?_eq_none->Ow,getElem?_eq_some_iff->Ou,getElem?_map->OM,getElem?_take->N4,getElem_mem->Ot,length->OA,length_append->NH,length_cons->NU,length_drop->ON,length_eq_zero_iff->Ov,length_map->NM,length_nil->OE,length_pos_iff->PQ,length_range->P7,length_replicate->PG,length_singleton->OQ,length_take->N8,map_append->Oq,map_congr_left->Pq,map_cons->N2,map_map->Ol,map_nil->QV,mem_append->N0,mem_append_left->NT,mem_append_right->N1,mem_cons->NI,mem_cons_of_mem->NF,mem_cons_self->NQ,mem_filter->Pm,mem_iff_getElem->PM,mem_map->N9,mem_range->Og,mem_singleton->OO,nil_append->OU,nodup_append->QC,nodup_cons->OP,nodup_nil->Rf,not_mem_nil->QW,pairwise_append->Oh,pairwise_cons->Oi,pairwise_lt_range->PR,pairwise_map->Py,range->OB,replicate->Ph,take->Ri,take_append_drop->OX,take_append_of_le_length->Pr,take_length->N7,take_of_length_le->Pe,take_succ_eq_append_getElem->Oc,zip_cons_cons->PK
open _root_.List.cons renaming injEq->PE
open _root_.Nat renaming add_mul->O2,add_zero->Pw,le_mul_of_pos_right->QH,le_of_lt->QU,le_refl->ND,le_trans->OD,lt_of_lt_of_le->PU,lt_or_ge->Ob,min_eq_left->P5,mul_comm->QA,mul_le_mul->Pz,mul_one->OI,zero_add->NZ,zero_le->NV,zero_mul->QS
open _root_.Option renaming bind_some->PH,map_eq_some_iff->Pn,map_some->Rq
open _root_.Option.some renaming inj->NY,injEq->NC
open _root_.Prod.mk renaming injEq->OJ
open _root_.Go.Proofs.Tryz renaming prog->NS
open _root_.UInt8 renaming ofNat->PL
open _root_.Go.Utf8 renaming decode->Rw
open _root_.Go.Value renaming int->OH,string->OK
open _root_.Go.Value.slice renaming injEq->N6
open _root_.Go.World renaming cell?->Ro
set_option linter.unusedVariables false
set_option maxRecDepth 100000
namespace Go.X
end Go.X
namespace Go.Proofs
end Go.Proofs
open Go Go.X Go.Proofs
open _root_.Bool renaming true->Ta,false->Tc
open _root_.Option renaming some->Td,none->Te
section
namespace Go.X
open Go Go.RowKit
section
variable {P:Program} {gl M:Fr} {f:FuncId} {h h':za} {vs cs:List Value} {K:Value -> za -> Prop} {t:Ty} {u v:Value} {s:Sl} {i:Int} {k:Nat}
def PX(P:Program)(f:FuncId)(vs:Array Value)(h:za)(M:Fr)(c:List Ty)(R:dQ c->Prop):Prop:=
 XC P f vs h λv h'=>Keep h.size h h'/\∃M' r,Fr.le M M'/\(∀b,b<h.size->M' b=M b)/\AgM M' h'/\dX M' c r v/\R r
theorem PC.px{args:List Arg}{b:List Ty}{R:dQ b->Prop}(H:PC P gl f args b R)(e:Fr.le gl M)(ag:AgM M h)(c:Jy M args vs):PX P f vs.toArray h M b R:=H h M vs e ag c
structure Later (h:za) (M:Fr) (h':za) (M':Fr):Prop where
 keep:Keep h.size h h'
 le:Fr.le M M'
 old:∀b,b<h.size->M' b=M b
 ag:AgM M' h'
theorem Later.refl(ag:AgM M h):Later h M h M:=⟨Keep.refl _ _,Fr.le.refl _,λ_ _=>rfl,ag⟩
theorem Later.trans{h h' h'':za}{M M' M'':Fr}(a:Later h M h' M')(b:Later h' M' h'' M''):Later h M h'' M'':= ⟨a.keep.trans b.keep a.keep.size,a.le.trans b.le,λx c=>(b.old x (by have:=a.keep.size;omega)).trans (a.old x c),b.ag⟩
theorem Later.same(ag:AgM M h)(k:Keep h.size h h'):Later h M h' M:=⟨k,Fr.le.refl _,λ_ _=>rfl,ag.keep k⟩
theorem Later.push(ag:AgM M h)(o:Obj):Later h M (h.push o) M:=Later.same ag (Keep.push _ _ (ND _))
theorem PX.go{vs:Array Value}{b:List Ty}{R:dQ b->Prop}(H:PX P f vs h M b R)(c:∀v h' M' r,Later h M h' M'->dX M' b r v->R r->K v h'):XC P f vs h K:= XC.mono H λv h' ⟨k,M',r,j,i,e,m,l⟩=>c v h' M' r ⟨k,j,i,e⟩ m l
theorem PX.of{vs:Array Value}{b:List Ty}{R:dQ b->Prop}(H:XC P f vs h λv h'=>∃M' r,Later h M h' M'/\dX M' b r v/\R r):PX P f vs h M b R:= XC.mono H λv h' ⟨M',r,l,e,c⟩=>⟨l.keep,M',r,l.le,l.old,l.ag,e,c⟩
theorem PC.go{args:List Arg}{b:List Ty}{R:dQ b->Prop}(H:PC P gl f args b R)(i:Fr.le gl M)(ag:AgM M h)(c:Jy M args vs) (e:∀v h' M' r,Later h M h' M'->dX M' b r v->R r->K v h'):XC P f vs.toArray h K:=(H.px i ag c).go e
theorem Qs{x:El t}(b:ev t=Tc):RdV M t x u↔Rd M t x [u]:=by unfold RdV;rw[b];simp
theorem dJ{x:El t}:dX M [t] x v↔RdV M t x v:=by constructor;rintro⟨us,⟨u,rfl,h⟩,rfl⟩;exact h;intro h;exact⟨[v],⟨v,rfl,h⟩,rfl⟩
theorem d4{b:Bool}(h:dX M [.bool] b v):v=.bool b:=by have:=dJ.1 h;rw[Qs rfl]at this;simpa[Rd]using this
theorem Cs{s:Bt}(h:dX M [.str] s v):v=.string s:=by have:=dJ.1 h;rw[Qs rfl]at this;simpa[Rd]using this
theorem yc:Jy M [] []:=trivial
theorem zw{a:Arg}{l:List Arg}{us:List Value}(h:RdV M a.t a.x u)(b:Jy M l us):Jy M (a::l) (u::us):=⟨h,b⟩
theorem rdStr(s:Bt):RdV M .str s (.string s):=by rw[Qs rfl];rfl
theorem fQ(k:IntKind)(i:Int):RdV M (.int k) i (.int k i):=by rw[Qs rfl];rfl
theorem rdBool(b:Bool):RdV M .bool b (.bool b):=by rw[Qs rfl];rfl
theorem ua{s:Bt}(h:RdV M .str s u):u=.string s:=by rw[Qs rfl]at h;simpa[Rd]using h
theorem lD{k:IntKind}(h:RdV M (.int k) i u):u=.int k i:=by rw[Qs rfl]at h;simpa[Rd]using h
theorem jl{v:Tr}(h:RdV M .tree v u):∃sk si:Sl,u=.agg #[.int .i64 v.kind,.string v.text,aK sk,aK si]/\Rd M (.row .str) v.keys [aK sk]/\Rd M (.row .tree) v.items [aK si]:=by unfold RdV at h;simp only[ev,if_true]at h;obtain⟨cs,rfl,l⟩:=h;obtain⟨o,n,rfl,j,f⟩:=TrRd.keys l;have b:=j;have c:=f;obtain⟨w1,i,a1,c1,k,_⟩:=b;obtain⟨w2,e,a2,c2,m,_⟩:=c;simp only[PE,and_true]at i e;subst i;subst e;subst k;subst m;exact⟨⟨a1,v.keys.length,c1⟩,⟨a2,v.items.length,c2⟩,rfl,j,f⟩
theorem yv{v:Tr}{sk si:Sl}(c:Rd M (.row .str) v.keys [aK sk])(b:Rd M (.row .tree) v.items [aK si]):RdV M .tree v (.agg #[.int .i64 v.kind,.string v.text,aK sk,aK si]):=by unfold RdV;simp only[ev,if_true];exact⟨[.int .i64 v.kind,.string v.text,aK sk,aK si],rfl,by cases v;exact TrRd.of c b⟩
theorem eQ{xs:List (El t)}(h:RdV M (.row t) xs u):∃s:Sl,u=aK s/\Rd M (.row t) xs [aK s]:=by rw[Qs rfl]at h;have h':=h;obtain⟨w,e,a,c,q,_⟩:=h';simp only[PE,and_true]at e;subst e;subst q;exact⟨⟨a,xs.length,c⟩,rfl,h⟩
theorem rowLen{xs:List (El t)}(h:Rd M (.row t) xs [aK s]):s.len=xs.length/\xs.length<=140737488355328/\xs.length<=s.cap:=by obtain⟨w,e,a,c,q,b,_⟩:=h;simp only[PE,and_true]at e;subst e;simp only[aK,N6]at q;obtain⟨_,i,f⟩:=q;exact⟨i,b.1,by rw[f];exact b.2⟩
theorem rowAt{xs:List (El t)}(h:Rd M (.row t) xs [aK s])(f:k<xs.length):∃b o cs,s.a=Td ⟨b,o,Te⟩/\M b=Td cs/\Rd M t xs[k] (cut cs (o+k*sz t) (sz t)):=by obtain⟨w,e,a,c,q,p,m⟩:=h;simp only[PE,and_true]at e;subst e;simp only[aK,N6]at q;obtain⟨n,u,r⟩:=q;rcases m with rfl|⟨b,o,cs,l,j,i⟩;simp at f;exact⟨b,o,cs,by rw[n,l],j,i k f⟩
theorem nG{M:Fr}{h:za}(ag:AgM M h){b:Nat}{cs:Array Value}(j:M b=Td cs):∀{vs:List Value} {o i:Nat},cut cs (o+i) vs.length=vs->ze h ⟨b,o,Te⟩ i vs
 |[],_,_,_=>trivial
 |v::vs,o,i,e=>by
  unfold cut at e;have c:o+i<cs.toList.length:=by rcases Ob (o+i) cs.toList.length with f|f;exact f;rw[Pd f]at e;simp at e
  rw[Po c,NU,List.take_succ_cons]at e;injection e with e1 e2;refine⟨?_,nG ag j (i:=i+1) e2⟩;rw[zj];refine ag.cell j ?_;rw[Oy (by simpa using c),<-e1];simp
theorem pR(ag:AgM M h){b:Nat}{cs:Array Value}(c:M b=Td cs){o:Nat}(e:cut cs o 1=[v]):zb h ⟨b,o,Te⟩=Td v:=by have:=nG (vs:=[v]) (o:=o) (i:=0) ag c (by simpa using e);exact this.1
theorem dV(b o n:Nat):(⟨b,o,Te⟩:Addr).add n=⟨b,o+n,Te⟩:=zj b o n
theorem kF(ag:AgM M h){xs:List Bt}(H:Rd M (.row .str) xs [aK s])(f:k<xs.length)(hi:i=(k:Int)){L:Nat}(m:L=s.len){Q:Bt->Prop}(e:Q xs[k]):
  ∃a:Addr,(s.a=Td a/\0<=i/\i<(L:Int))/\∃x:Bt,zb h (a.add (i.toNat*1))=Td (.string x)/\Q x:=by
 obtain⟨b,o,cs,l,j,c⟩:=rowAt H f;have n:=(rowLen H).1;refine⟨_,⟨l,by omega,by omega⟩,xs[k],?_,e⟩;rw[dV,hi,NE];exact pR ag j c
theorem iM(ag:AgM M h){xs:List Tr}(H:Rd M (.row .tree) xs [aK s])(f:k<xs.length):∃(a:Addr) (sk si:Sl),s.a=Td a/\ze h (a.add (k*4)) 0 [.int .i64 xs[k].kind,.string xs[k].text,aK sk,aK si]/\Rd M (.row .str) xs[k].keys [aK sk]/\Rd M (.row .tree) xs[k].items [aK si]:=by
 obtain⟨b,o,cs,l,j,c⟩:=rowAt H f;have e:RdV M .tree xs[k] (.agg (cut cs (o+k*sz .tree) (sz .tree)).toArray):=by unfold RdV;simp only[ev,if_true];exact⟨_,rfl,c⟩
 obtain⟨sk,si,q,n,m⟩:=jl e;refine⟨_,sk,si,l,?_,n,m⟩;rw[dV];refine nG ag j (i:=0) ?_;have:(cut cs (o+k*sz .tree) (sz .tree))=[.int .i64 xs[k].kind,.string xs[k].text,aK sk,aK si]:=by injection q with q;exact congrArg Array.toList q
 exact this
def Mx(M:Fr)(b:Nat)(cs:Array Value):Fr:=λi=>if i=b then Td cs else M i
theorem Later.frz(ag:AgM M h)(cs:Array Value)(T:TypeId):Later h M (h.push (.cells cs T)) (Mx M h.size cs) where
 keep:=Keep.push _ _ (ND _)
 le:=λb c e=>by have:=ag.lt e;unfold Mx;rw[zv (by omega)];exact e
 old:=λb hb=>by unfold Mx;rw[zv (by omega)]
 ag:=λb c e=>by unfold Mx at e;split at e;rename_i hb;subst hb;cases e;exact⟨T,(0,0),qq _ _⟩;obtain⟨T',m,e'⟩:=ag b c e;exact⟨T',m,by rw[(Keep.push h _ (ND _)).get b (ag.lt e)];exact e'⟩
theorem AD(M:Fr)(b:Nat)(cs:Array Value):Mx M b cs b=Td cs:=by unfold Mx;rw[zz rfl]
theorem mW{T:TypeId}(k:Keep (h.size+1) (h.push (.cells cs.toArray T)) h'):ze h' ⟨h.size,0,Te⟩ 0 cs:= ((Blk.new h cs.toArray T).keep (k.get _ (by omega))).ld
theorem IR{T:TypeId}(k:Keep (h.size+1) (h.push (.cells cs.toArray T)) h'){i:Nat}(b:cs[i]?=Td v):zb h' ((⟨h.size,0,Te⟩:Addr).add i)=Td v:=by have:=((Blk.new h cs.toArray T).keep (k.get _ (by omega)));exact this.cellAdd (o:=0) (by simpa using b)
end
end Go.X
end
section
namespace Go.X
open Go Go.ChangeShapes Go.WideShapes Go.RowKit
set_option linter.unusedVariables false
section
variable {a:Addr} {v:Value} {cs:List Value} {fuel:Nat} {t e:TypeId} {P:Program}
def Fz(W:World):Fr:=λb=>match W.heap[b]? with|some (.cells cs _ _)=>some cs|_=>none
theorem Fz.ag(W:World):AgM (Fz W) W.heap:=by intro b c e;unfold Fz at e;split at e;rename_i cs T m f;cases e;exact⟨T,m,f⟩;cases e
theorem Fz.cell{W:World}(h:W.cell? a=some v):∃b o c,a=⟨b,o,none⟩/\Fz W b=some c/\c[o]?=some v:=by
 obtain⟨b,o,sp⟩:=a;unfold Ro at h;split at h;rename_i c T m e;cases sp with
 |some x=>simp at h
 |none=>refine⟨b,o,c,rfl,?_,by simpa using h⟩;unfold Fz;change W.heap[b]?=_ at e;rw[e]
 cases h
theorem Fz.cells{W:World}{n:Nat}(h:W.cells? 0 a n=some cs)(s:0<n):∃b o c,a=⟨b,o,none⟩/\Fz W b=some c/\cut c o n=cs:=by
 obtain⟨_,w,r⟩:=World.cells?_some h;have h0:=r 0 s;rw[NL (by omega)]at h0;obtain⟨b,o,c,e,p,_⟩:=Fz.cell h0;obtain⟨l,k,sp⟩:=a;rw[show NG ⟨l,k,sp⟩ 0=⟨l,k,sp⟩from rfl]at e;cases e;refine⟨b,o,c,rfl,p,?_⟩;have f:∀i,i<n->c[o+i]?=cs[i]?:=λi hi=>by have m:=r i hi;rw[NL (by omega)]at m ⊢;obtain⟨b2,u,c2,q,j,t⟩:=Fz.cell m;rw[zj]at q;cases q;rw[p]at j;cases j;exact t
 unfold cut;apply OG;intro i;by_cases hi:i<n;rw[N4,if_pos hi,Oj,<-f i hi];simp;rw[N4,if_neg hi,Ow (by omega)]
theorem G5{α:Type}{Q:Nat->α->Prop}(n:Nat)(h:∀i,i<n->∃z,Q i z):∃xs:List α,xs.length=n/\∀i (hi:i<xs.length),Q i xs[i]:=by refine⟨List.ofFn λi:Fin n=>Classical.choose (h i i.2),by simp,λi hi=>?_⟩;rw[List.getElem_ofFn];exact Classical.choose_spec (h i (by simpa using hi))
section
variable {H : Type} {enc : TypeId × Value -> H} {P : Program} {W : World} {sp : Nat -> Bool} {held : Bool}
def gQ(P:Program)(t:TypeId)(d:DataW H):Prop:=∀n∈d.weights P t,n<=reachBytes
theorem yH{e:TypeId}{y:DataW H}:∀{l:List (DataW H)},y∈l->∀n∈y.weights P e,n∈DataW.weightsAll P e l
 |x::l,b,n,hn=>by unfold DataW.weightsAll;rcases NI.1 b with rfl|b;exact NT _ hn;exact N1 _ (yH b n hn)
theorem sJ{T : Ty}{x : DataW H × List MemPlace}(ht : P.underlying t = some (.slice e))(hz : P.cellsOf e = sz T)(hp : 0 < sz T)(hby : 0 < P.bytesOf e) (hel : ∀ n, n < fuel -> ∀ cs y, DataW.trod enc P W 0 sp held n e cs = some y -> gQ P e y.1 -> ∃ z : El T, Rd (Fz W) T z cs)
    (h : DataW.trod enc P W 0 sp held fuel t cs = some x) (hw : gQ P t x.1) : ∃ xs : List (El T), Rd (Fz W) (.row T) xs cs := by
  rcases DataW.trod_slice ht h with ⟨rfl, _⟩ | ⟨a, len, cap, elems, rest, n, rfl, rfl, hx, _, hlc, hcap, hlen, hi, _, _⟩;exact ⟨[], _, rfl, none, 0, rfl, ⟨by simp, by simp⟩, .inl rfl⟩
  · have hwt : ∀ m, m = (elems.length + rest.length) * P.bytesOf e \/ m ∈ DataW.weightsAll P e (elems.map (·.1)) -> m <= reachBytes := λm hm => hw m (by rw [hx];unfold DataW.weights;rw [ht];simp only [NI, N0, NM];rcases hm with hm | hm;exact .inl hm;exact .inr (.inl hm));have hmax : len <= 140737488355328 := by
      have h1 := hwt _ (.inl rfl);have h2 : elems.length + rest.length <= (elems.length + rest.length) * P.bytesOf e := QH _ hby;have h3 : reachBytes <= 140737488355328 := by decide
      omega
    have key : ∀ i, i < len -> ∃ z : El T, ∃ b o c, a.add (i * sz T) = ⟨b, o, none⟩ /\ Fz W b = some c /\ Rd (Fz W) T z (cut c o (sz T)) := λi hil => by have h1 := hi i hil;rw [NL (by omega), Option.bind_eq_some_iff] at h1;obtain ⟨cc, h2, h3⟩ := h1;rw [hz] at h2;obtain ⟨b, o, c, e1, e2, e3⟩ := Fz.cells h2 hp;obtain ⟨z, hz⟩ := hel n (by omega) _ _ h3 λm hm => hwt m (.inr (yH (N9.2 ⟨elems[i], Ot (by omega), rfl⟩) m hm));exact ⟨z, b, o, c, e1, e2, by rw [e3]; exact hz⟩
    obtain ⟨xs, hxl, hxs⟩ := G5 len key;subst hxl;refine ⟨xs, _, rfl, some a, cap, rfl, ⟨by omega, hlc⟩, ?_⟩;by_cases h0 : xs.length = 0;exact .inl (N5 h0);obtain ⟨b, o, c, e1, e2, _⟩ := hxs 0 (by omega);obtain ⟨ab, ao, asp⟩ := a;rw [QS, show NG ⟨ab, ao, asp⟩ 0 = ⟨ab, ao, asp⟩ from rfl] at e1;cases e1;refine .inr ⟨b, o, c, rfl, e2, λi hil => ?_⟩;obtain ⟨b', o', c', e1', e2', e3'⟩ := hxs i hil;rw [zj] at e1';cases e1';rw [e2] at e2'; cases e2';simpa using e3'
theorem FX{x:DataW H×List MemPlace}(b:P.underlying t=some .string)(h:DataW.trod enc P W 0 sp held fuel t cs=some x):∃s:El .str,Rd (Fz W) .str s cs:=by obtain⟨s,rfl,_,_⟩:=DataW.trod_string b h;exact⟨s,rfl⟩
theorem sV{k:IntKind}{x:DataW H×List MemPlace}(b:P.underlying t=some (.int k))(h:DataW.trod enc P W 0 sp held fuel t cs=some x):∃s:El (.int k),Rd (Fz W) (.int k) s cs:=by obtain⟨s,rfl,_,_⟩:=DataW.trod_int b h;exact⟨s,rfl⟩
theorem Kw{x:DataW H×List MemPlace}(f:P.underlying t=some (.slice e))(i:P.underlying e=some .string)(k:P.cellsOf e=1)(b:0<P.bytesOf e)
  (h:DataW.trod enc P W 0 sp held fuel t cs=some x) (j:gQ P t x.1):∃xs:List ByteArray,Rd (Fz W) (.row .str) xs cs:=
 sJ (T:=.str) f k (by decide) b (λn _ cs y c _=>FX i c) h j
end
theorem Z3{f:FuncId}{W:World}{args:List Arg}{vs:Array Value}(H:PC P (Fz W) f args [.bool] (λr=>r=true))(h:Jy (Fz W) args vs.toList):
  Calls P f vs W λe w'=>e=.returned (.bool true)/\Below W.heap.size W w':=by
 have c:=H W.heap (Fz W) vs.toList (Fr.le.refl _) (Fz.ag W) h;rw[Array.toArray_toList]at c;refine(c W W.drawn).mono ?_;rintro e w' ⟨v,j,h',rfl,rfl,k,M',r,_,_,_,i,b⟩;have b:r=true:=b;subst b;rw[d4 i];exact⟨rfl,rfl,rfl,rfl,k.size,k.get⟩
theorem lF{M:Fr}{T:Ty}{xs:List (El T)}(h:Rd M (.row T) xs [v]):RdV M (.row T) xs v:=by rw[Qs rfl];exact h
theorem Fz.var{W:World}{n:String}{g:Nat}{cs:Array Value}(b:P.globalNamed n=some g)(h:W.var? P n=some cs):Fz W g=some cs:=by unfold World.var? at h;rw[b]at h;exact h
end
end Go.X
end
section
namespace Go.Proofs
section
theorem Tryz.mixed:NS.follows .mixedOrders=true:=by kernel_rfl
noncomputable abbrev Tp:= NS
end
end Go.Proofs
end
section
namespace Go.X
section
theorem PF{gl:Fr}{args:List Arg}{f:FuncId}{fn:Func}{b:List Ty}{R:dQ b->Prop}{F:Prop}(pl:PlanA)(rs:List ResultVar)(n:Nat)(i:NS.funcs[f]?=Td fn)(H:F)(c:Zw fn=Ta:=by kernel_rfl)(j:fn.results.toList=rs:=by kernel_rfl)(k:fn.ntmps=n:=by kernel_rfl)(h:Nat.ble args.length n=Ta:=by kernel_rfl)(e:F=WA Tp gl 48 n pl (codeOf fn) [] (qQ Tp rs b R) (jG 0 args) []:=by kernel_rfl):PC Tp gl f args b R:=KL Tryz.mixed gl 48 pl args i c j k h H e
theorem Mc(gl:Fr)(b:List Tr)(R:Tr->Prop) (H:R (Tr.mk 5 (⟨#[]⟩:Bt) [] b)):
  PC Tp gl 27 [Arg.mk (.row .tree) b] [.tree] R:=
 PF ⟨[],[],[],[]⟩ [.cell 2 48] 5 Tryz.func27 H
theorem Iw(gl:Fr)(n0:Int)(R:Tr->Prop) (H:PC Tp gl 41 [Arg.mk (.int .i64) n0] [.pair .bool (.pair .str (.int .i64))] (λa:Bool×Bt×Int=>PC Tp gl 40 [Arg.mk (.pair .bool (.pair .str (.int .i64))) (a.1,(a.2.1,a.2.2))] [.str] (λb:Bt=>R (Tr.mk 3 b [] [])))):
  PC Tp gl 25 [Arg.mk (.int .i64) n0] [.tree] R:=
 PF ⟨[],[],[],[]⟩ [.cell 2 48] 7 Tryz.func25 H
theorem FG(gl:Fr)(n0:Bool×Bt×Int)(R:Bt->Prop) (H:PC Tp gl 53 [Arg.mk (.pair .bool (.pair .str (.int .i64))) (n0.1,(n0.2.1,n0.2.2))] [.bool] (λa:Bool=>((!a)=Ta->R (⟨#[]⟩:Bt))/\((!a)=Tc->((n0.2.1.toList==(⟨#[]⟩:Bt).toList)=Ta->R (⟨#[48]⟩:Bt))/\((n0.2.1.toList==(⟨#[]⟩:Bt).toList)=Tc->∀b:Bt->Prop,(∀c:Bt,(((n0.2.2 != 0)=Ta->PC Tp gl 54 [Arg.mk (.int .i64) n0.2.2] [.str] (λd:Bt=>ji (((⟨#[101]⟩:Bt)).size+d.size)/\ji (c.size+((⟨#[101]⟩:Bt)++d).size)/\R (c++((⟨#[101]⟩:Bt)++d))))/\((n0.2.2 != 0)=Tc->R c))->b c)->(n0.1=Ta->ji (((⟨#[45]⟩:Bt)).size+n0.2.1.size)/\b ((⟨#[45]⟩:Bt)++n0.2.1))/\(n0.1=Tc->b n0.2.1))))):
  PC Tp gl 40 [Arg.mk (.pair .bool (.pair .str (.int .i64))) n0] [.str] R:=
 PF ⟨[],[],[],[(8,⟨[(3,.one (.dat .str))],[],[1],[100192]⟩)]⟩ [.tmp 2] 26 Tryz.func40 H
theorem Ek(gl:Fr)(n0:Int)(R:(Bool×Bt×Int)->Prop) (H:PC Tp gl 54 [Arg.mk (.int .i64) n0] [.str] (λa:Bt=>PC Tp gl 55 [Arg.mk .str a] [.pair .bool (.pair .str (.int .i64)),.int .i64] (λb:(Bool×Bt×Int)×Int=>R (b.1.1,(b.1.2.1,b.1.2.2))))):
  PC Tp gl 41 [Arg.mk (.int .i64) n0] [.pair .bool (.pair .str (.int .i64))] R:=
 PF ⟨[],[],[],[]⟩ [.cell 2 76] 12 Tryz.func41 H
theorem Ha(gl:Fr)(f:Bt)(R:(Int×Bool)->Prop) (H:PC Tp gl 146 [Arg.mk .str f] [.bool] (λa:Bool=>(a=Ta->R ((f.size:Int),Ta))/\(a=Tc->∃(b:(Bt×Nat)->Prop) (c:(Bt×Nat)->Nat),b (f,0)/\∀e:Bt×Nat,b e->(((ew e.1 e.2)=Ta->(ew e.1 e.2)=Ta/\(ew e.1 e.2)=Ta/\(((fp e.1 e.2:Int) != 65533)=Ta->(b (e.1,ek e.1 e.2)/\c (e.1,ek e.1 e.2)<c e))/\(((fp e.1 e.2:Int) != 65533)=Tc->(0<=(e.2:Int)/\(e.2:Int)<=(f.size:Int)/\(f.size:Int)<=(f.size:Int))/\PC Tp gl 143 [Arg.mk .str (f.extract (e.2:Int).toNat (f.size:Int).toNat)] [.int .i32,.int .i64] (λd:Int×Int=>((d.2==1)=Ta->R ((e.2:Int),Tc))/\((d.2==1)=Tc->(b (e.1,ek e.1 e.2)/\c (e.1,ek e.1 e.2)<c e)))))/\((ew e.1 e.2)=Tc->R ((f.size:Int),Ta)))))):
  PC Tp gl 118 [Arg.mk .str f] [.int .i64,.bool] R:=
 PF ⟨[],[],[(4,⟨[],[(13,[.dat .iter])],[],[1000832]⟩)],[]⟩ [.tmp 2,.tmp 3] 32 Tryz.func118 H
theorem DD(gl:Fr)(e:Tr)(R:Bool->Prop) (H:PC Tp gl 87 [Arg.mk .tree (Tr.mk e.kind e.text e.keys e.items)] [.int .i64] (λa:Int=>∃b:Int->Prop,(decide (a<=4096)=Ta->PC Tp gl 88 [Arg.mk .tree (Tr.mk e.kind e.text e.keys e.items)] [.int .i64] b)/\∀c:Int,(decide (a<=4096)=Ta->b c)->R (bif (decide (a<=4096))then(decide (c<=32))else Tc))):
  PC Tp gl 56 [Arg.mk .tree e] [.bool] R:=
 PF ⟨[],[],[],[]⟩ [.tmp 2] 11 Tryz.func56 H
theorem IM(gl:Fr)(e:Tr)(R:Bool->Prop) (H:((e.kind==5)=Ta->R (bif (!(decide ((e.keys.length:Int)>0)))then(e.text.toList==(⟨#[]⟩:Bt).toList)else Tc))/\((e.kind==5)=Tc->((e.kind==6)=Ta->PC Tp gl 91 [Arg.mk (.row .str) e.keys,Arg.mk (.int .i64) (e.items.length:Int)] [.bool] (λa:Bool=>R (bif a then(e.text.toList==(⟨#[]⟩:Bt).toList)else Tc)))/\((e.kind==6)=Tc->((bif (decide ((e.keys.length:Int)>0))then Ta else(decide ((e.items.length:Int)>0)))=Ta->R Tc)/\((bif (decide ((e.keys.length:Int)>0))then Ta else(decide ((e.items.length:Int)>0)))=Tc->((e.kind==1)=Ta->R (e.text.toList==(⟨#[]⟩:Bt).toList))/\((e.kind==1)=Tc->((e.kind==2)=Ta->R (bif (e.text.toList==(⟨#[116,114,117,101]⟩:Bt).toList)then Ta else(e.text.toList==(⟨#[102,97,108,115,101]⟩:Bt).toList)))/\((e.kind==2)=Tc->((e.kind==3)=Ta->PC Tp gl 92 [Arg.mk .str e.text] [.pair .bool (.pair .str (.int .i64)),.bool] (λb:(Bool×Bt×Int)×Bool=>R b.2))/\((e.kind==3)=Tc->((e.kind==4)=Ta->PC Tp gl 93 [Arg.mk .str e.text] [.bool] (λc:Bool=>R c))/\((e.kind==4)=Tc->((e.kind==7)=Ta->PC Tp gl 94 [Arg.mk .str e.text] [.bool] (λd:Bool=>R d))/\((e.kind==7)=Tc->R Tc))))))))):
  PC Tp gl 59 [Arg.mk .tree e] [.bool] R:=
 PF ⟨[],[],[],[]⟩ [.tmp 2] 79 Tryz.func59 H
theorem Ey(gl:Fr)(n0:Bool×Bt×Int)(R:Bool->Prop) (H:(((n0.1==Tc)&&((n0.2.1.toList==(⟨#[]⟩:Bt).toList)&&((n0.2.2==0)&&Ta)))=Ta->R Ta)/\(((n0.1==Tc)&&((n0.2.1.toList==(⟨#[]⟩:Bt).toList)&&((n0.2.2==0)&&Ta)))=Tc->PC Tp gl 82 [Arg.mk .str n0.2.1] [.bool] (λa:Bool=>((!a)=Ta->((!a)=Ta->R Tc)/\((!a)=Tc->R (bif (decide (n0.2.2>=(-1000000)))then(decide (n0.2.2<=1000000))else Tc)))/\((!a)=Tc->(decide ((n0.2.1.size:Int)>1000)=Ta->(decide ((n0.2.1.size:Int)>1000)=Ta->R Tc)/\(decide ((n0.2.1.size:Int)>1000)=Tc->R (bif (decide (n0.2.2>=(-1000000)))then(decide (n0.2.2<=1000000))else Tc)))/\(decide ((n0.2.1.size:Int)>1000)=Tc->(0<=(0:Int)/\(0:Int)<(n0.2.1.size:Int))/\(((y0 n0.2.1 (0:Int).toNat:Int)==48)=Ta->(((y0 n0.2.1 (0:Int).toNat:Int)==48)=Ta->R Tc)/\(((y0 n0.2.1 (0:Int).toNat:Int)==48)=Tc->R (bif (decide (n0.2.2>=(-1000000)))then(decide (n0.2.2<=1000000))else Tc)))/\(((y0 n0.2.1 (0:Int).toNat:Int)==48)=Tc->(0<=(NB .i64 ((n0.2.1.size:Int)-1))/\(NB .i64 ((n0.2.1.size:Int)-1))<(n0.2.1.size:Int))/\(((y0 n0.2.1 (NB .i64 ((n0.2.1.size:Int)-1)).toNat:Int)==48)=Ta->R Tc)/\(((y0 n0.2.1 (NB .i64 ((n0.2.1.size:Int)-1)).toNat:Int)==48)=Tc->R (bif (decide (n0.2.2>=(-1000000)))then(decide (n0.2.2<=1000000))else Tc)))))))):
  PC Tp gl 53 [Arg.mk (.pair .bool (.pair .str (.int .i64))) n0] [.bool] R:=
 PF ⟨[],[],[],[]⟩ [.tmp 2] 34 Tryz.func53 H
theorem Kv(gl:Fr)(r:Bt)(R:((Bool×Bt×Int)×Int)->Prop) (H:PC Tp gl 84 [Arg.mk .str r] [.pair .bool (.pair .bool (.pair .str (.pair .str .str))),.bool] (λa:(Bool×Bool×Bt×Bt×Bt)×Bool=>PC Tp gl 85 [Arg.mk .str a.1.2.2.2.2,Arg.mk .str (⟨#[48]⟩:Bt)] [.str] (λb:Bt=>((!a.2)=Ta->R ((Tc,((⟨#[]⟩:Bt),0)),2))/\((!a.2)=Tc->((decide ((NB .i64 ((a.1.2.2.1.size:Int)+(a.1.2.2.2.1.size:Int)))>1000))=Ta->R ((Tc,((⟨#[]⟩:Bt),0)),3))/\((decide ((NB .i64 ((a.1.2.2.1.size:Int)+(a.1.2.2.2.1.size:Int)))>1000))=Tc->(decide ((b.size:Int)>9)=Ta->R ((Tc,((⟨#[]⟩:Bt),0)),4))/\(decide ((b.size:Int)>9)=Tc->∃(c:Int->Bool->Bt->Int->(Bt×Nat)->Prop) (d:Int->Bool->Bt->Int->(Bt×Nat)->Nat),c 0 Tc (⟨#[]⟩:Bt) 0 (b,0)/\∀e:Int,∀m:Bool,∀n:Bt,∀l:Int,∀h:Bt×Nat,c e m n l h->(((ew h.1 h.2)=Ta->(ew h.1 h.2)=Ta/\(c (NB .i64 ((NB .i64 (10*e))+(NB .i64 (NB .i32 ((fp h.1 h.2)-48))))) m n l (h.1,ek h.1 h.2)/\d (NB .i64 ((NB .i64 (10*e))+(NB .i64 (NB .i32 ((fp h.1 h.2)-48))))) m n l (h.1,ek h.1 h.2)<d e m n l h))/\((ew h.1 h.2)=Tc->∀f:Int->Bool->Bt->Int->Prop,(∀g:Int,∀o:Bool,∀p:Bt,∀q:Int,(ji (a.1.2.2.1.size+a.1.2.2.2.1.size)/\PC Tp gl 85 [Arg.mk .str (a.1.2.2.1++a.1.2.2.2.1),Arg.mk .str (⟨#[48]⟩:Bt)] [.str] (λi:Bt=>((i.toList==(⟨#[]⟩:Bt).toList)=Ta->R ((Tc,((⟨#[]⟩:Bt),0)),0))/\((i.toList==(⟨#[]⟩:Bt).toList)=Tc->PC Tp gl 86 [Arg.mk .str i,Arg.mk .str (⟨#[48]⟩:Bt)] [.str] (λj:Bt=>PC Tp gl 53 [Arg.mk (.pair .bool (.pair .str (.int .i64))) (a.1.1,(j,NB .i64 ((NB .i64 ((NB .i64 (g-(a.1.2.2.2.1.size:Int)))+(i.size:Int)))-(j.size:Int))))] [.bool] (λk:Bool=>((!k)=Ta->R ((Tc,((⟨#[]⟩:Bt),0)),4))/\((!k)=Tc->R ((a.1.1,(j,NB .i64 ((NB .i64 ((NB .i64 (g-(a.1.2.2.2.1.size:Int)))+(i.size:Int)))-(j.size:Int)))),0)))))))->f g o p q)->(a.1.2.1=Ta->f (NB .i64 (0-e)) m n l)/\(a.1.2.1=Tc->f e m n l))))))))):
  PC Tp gl 55 [Arg.mk .str r] [.pair .bool (.pair .str (.int .i64)),.int .i64] R:=
 PF ⟨[],[],[(11,⟨[(7,.one (.dat (.int .i64)))],[(2,[.dat .bool,.dat .str,.dat (.int .i64)]),(41,[.dat .iter])],[4],[100448,1000128,1000129,1000130,1002624]⟩)],[(16,⟨[(7,.one (.dat (.int .i64)))],[(2,[.dat .bool,.dat .str,.dat (.int .i64)])],[4],[100448,1000128,1000129,1000130]⟩)]⟩ [.cell 2 76,.tmp 3] 86 Tryz.func55 H
theorem EH(gl:Fr)(h:Tr)(R:Int->Prop) (H:∃(a:Int->Int->Prop) (b:Int->Int->Nat),a 1 0/\∀c d:Int,a c d->((decide (d<h.items.length)=Ta->∃e,(0<=d/\h.items[d.toNat]?=Td e)/\PC Tp gl 87 [Arg.mk .tree (Tr.mk e.kind e.text e.keys e.items)] [.int .i64] (λf:Int=>(a (NB .i64 (c+f)) (NB .i64 (d+1))/\b (NB .i64 (c+f)) (NB .i64 (d+1))<b c d)))/\(decide (d<h.items.length)=Tc->R c))):
  PC Tp gl 87 [Arg.mk .tree h] [.int .i64] R:=
 PF ⟨[],[],[(3,⟨[(3,.one (.dat (.int .i64))),(9,.one (.dat (.int .i64)))],[],[],[100192,100576]⟩)],[]⟩ [.tmp 2] 19 Tryz.func87 H
theorem HL(gl:Fr)(h:Tr)(R:Int->Prop) (H:∃(a:Int->Int->Prop) (b:Int->Int->Nat),a 0 0/\∀c d:Int,a c d->((decide (d<h.items.length)=Ta->∃e,(0<=d/\h.items[d.toNat]?=Td e)/\PC Tp gl 88 [Arg.mk .tree (Tr.mk e.kind e.text e.keys e.items)] [.int .i64] (λf:Int=>(a (if c<f then f else c) (NB .i64 (d+1))/\b (if c<f then f else c) (NB .i64 (d+1))<b c d)))/\(decide (d<h.items.length)=Tc->R (NB .i64 (c+1))))):
  PC Tp gl 88 [Arg.mk .tree h] [.int .i64] R:=
 PF ⟨[],[],[(3,⟨[(3,.one (.dat (.int .i64))),(9,.one (.dat (.int .i64)))],[],[],[100192,100576]⟩)],[]⟩ [.tmp 2] 20 Tryz.func88 H
theorem GI(gl:Fr)(e:Bt)(R:((Bool×Bt×Int)×Bool)->Prop) (H:PC Tp gl 55 [Arg.mk .str e] [.pair .bool (.pair .str (.int .i64)),.int .i64] (λa:(Bool×Bt×Int)×Int=>∃b:Bt->Prop,((a.2==0)=Ta->PC Tp gl 40 [Arg.mk (.pair .bool (.pair .str (.int .i64))) (a.1.1,(a.1.2.1,a.1.2.2))] [.str] b)/\∀c:Bt,((a.2==0)=Ta->b c)->R ((a.1.1,(a.1.2.1,a.1.2.2)),bif (a.2==0)then(c.toList==e.toList)else Tc))):
  PC Tp gl 92 [Arg.mk .str e] [.pair .bool (.pair .str (.int .i64)),.bool] R:=
 PF ⟨[],[(2,9,[],[0,1,2,3,4,6,5,7,8],[6,7,8])],[],[]⟩ [.cell 2 76,.tmp 3] 20 Tryz.func92 H
theorem Nn(gl:Fr)(b:Bt)(R:Bool->Prop) (H:PC Tp gl 118 [Arg.mk .str b] [.int .i64,.bool] (λa:Int×Bool=>R a.2)):
  PC Tp gl 93 [Arg.mk .str b] [.bool] R:=
 PF ⟨[],[],[],[]⟩ [.tmp 2] 11 Tryz.func93 H
theorem Lv(gl:Fr)(c:Bt)(R:Bool->Prop) (H:PC Tp gl 92 [Arg.mk .str c] [.pair .bool (.pair .str (.int .i64)),.bool] (λa:(Bool×Bt×Int)×Bool=>PC Tp gl 119 [Arg.mk (.pair .bool (.pair .str (.int .i64))) (a.1.1,(a.1.2.1,a.1.2.2))] [.int .i64,.bool] (λb:Int×Bool=>R (bif (bif a.2 then b.2 else Tc)then(decide (b.1>=0))else Tc)))):
  PC Tp gl 94 [Arg.mk .str c] [.bool] R:=
 PF ⟨[],[],[],[]⟩ [.tmp 2] 25 Tryz.func94 H
theorem FW(gl:Fr)(e:Bt)(R:Bool->Prop) (H:∃(a:(Bt×Nat)->Prop) (b:(Bt×Nat)->Nat),a (e,0)/\∀c:Bt×Nat,a c->(((ew c.1 c.2)=Ta->(ew c.1 c.2)=Ta/\((bif (decide ((fp c.1 c.2:Int)<48))then Ta else(decide ((fp c.1 c.2:Int)>57)))=Ta->R Tc)/\((bif (decide ((fp c.1 c.2:Int)<48))then Ta else(decide ((fp c.1 c.2:Int)>57)))=Tc->(a (c.1,ek c.1 c.2)/\b (c.1,ek c.1 c.2)<b c)))/\((ew c.1 c.2)=Tc->R (!(e.toList==(⟨#[]⟩:Bt).toList))))):
  PC Tp gl 82 [Arg.mk .str e] [.bool] R:=
 PF ⟨[],[],[(2,⟨[],[(6,[.dat .iter])],[],[1000384]⟩)],[]⟩ [.tmp 2] 18 Tryz.func82 H
theorem Fg(gl:Fr)(y:Bt)(R:((Bool×Bool×Bt×Bt×Bt)×Bool)->Prop) (H:PC Tp gl 107 [Arg.mk .str y,Arg.mk .str (⟨#[45]⟩:Bt)] [.str,.bool] (λa:Bt×Bool=>PC Tp gl 108 [Arg.mk .str a.1,Arg.mk .str (⟨#[101,69]⟩:Bt)] [.str,.str,.bool] (λb:Bt×Bt×Bool=>∀c:Bt->Bool->Bool->Bt->Bt->Bt->Prop,(∀d:Bt,∀t s:Bool,∀u x w:Bt,(PC Tp gl 108 [Arg.mk .str b.1,Arg.mk .str (⟨#[46]⟩:Bt)] [.str,.str,.bool] (λe:Bt×Bt×Bool=>PC Tp gl 82 [Arg.mk .str e.1] [.bool] (λf:Bool=>∃g:Bool->Prop,(((!(!f))&&e.2.2)=Ta->PC Tp gl 82 [Arg.mk .str e.2.1] [.bool] g)/\∀i:Bool,(((!(!f))&&e.2.2)=Ta->g i)->((bif (!f)then Ta else(bif e.2.2 then(!i)else Tc))=Ta->R ((t,(s,(e.1,(e.2.1,d)))),Tc))/\((bif (!f)then Ta else(bif e.2.2 then(!i)else Tc))=Tc->((!(e.1.toList==(⟨#[48]⟩:Bt).toList))=Ta->(0<=(0:Int)/\(0:Int)<(e.1.size:Int)))/\R ((t,(s,(e.1,(e.2.1,d)))),bif (e.1.toList==(⟨#[48]⟩:Bt).toList)then Ta else((y0 e.1 (0:Int).toNat:Int) != 48))))))->c d t s u x w)->(b.2.2=Ta->PC Tp gl 107 [Arg.mk .str b.2.1,Arg.mk .str (⟨#[45]⟩:Bt)] [.str,.bool] (λj:Bt×Bool=>∀k:Bt->Bool->Bool->Bt->Bt->Bt->Prop,(∀l:Bt,∀o q:Bool,∀p r h:Bt,(PC Tp gl 82 [Arg.mk .str l] [.bool] (λm:Bool=>((!m)=Ta->R ((o,(q,(p,(r,h)))),Tc))/\((!m)=Tc->c l o q p r h)))->k l o q p r h)->((!j.2)=Ta->PC Tp gl 109 [Arg.mk .str j.1,Arg.mk .str (⟨#[43]⟩:Bt)] [.str] (λn:Bt=>k n a.2 j.2 (⟨#[]⟩:Bt) (⟨#[]⟩:Bt) (⟨#[]⟩:Bt)))/\((!j.2)=Tc->k j.1 a.2 j.2 (⟨#[]⟩:Bt) (⟨#[]⟩:Bt) (⟨#[]⟩:Bt))))/\(b.2.2=Tc->c b.2.1 a.2 Tc (⟨#[]⟩:Bt) (⟨#[]⟩:Bt) (⟨#[]⟩:Bt))))):
  PC Tp gl 84 [Arg.mk .str y] [.pair .bool (.pair .bool (.pair .str (.pair .str .str))),.bool] R:=
 PF ⟨[],[(14,8,[],[0,1,2,3,4,5,6,7],[4,5,6,7])],[],[(9,⟨[(4,.one (.dat .str))],[(2,[.dat .bool,.dat .bool,.dat .str,.dat .str,.dat .str])],[],[100256,1000128,1000129,1000130,1000131,1000132]⟩),(7,⟨[(4,.one (.dat .str))],[(2,[.dat .bool,.dat .bool,.dat .str,.dat .str,.dat .str])],[],[100256,1000128,1000129,1000130,1000131,1000132]⟩)]⟩ [.cell 2 122,.tmp 3] 69 Tryz.func84 H
theorem Gr(gl:Fr)(n0:Bool×Bt×Int)(R:(Int×Bool)->Prop) (H:PC Tp gl 53 [Arg.mk (.pair .bool (.pair .str (.int .i64))) (n0.1,(n0.2.1,n0.2.2))] [.bool] (λa:Bool=>((bif (bif (!a)then Ta else(decide (n0.2.2<0)))then Ta else(decide ((NB .i64 ((n0.2.1.size:Int)+n0.2.2))>19)))=Ta->R (0,Tc))/\((bif (bif (!a)then Ta else(decide (n0.2.2<0)))then Ta else(decide ((NB .i64 ((n0.2.1.size:Int)+n0.2.2))>19)))=Tc->PC Tp gl 147 [Arg.mk .str (⟨#[48]⟩:Bt),Arg.mk (.int .i64) n0.2.2] [.str] (λb:Bt=>ji (n0.2.1.size+b.size)/\∀c:Bt->Prop,(∀d:Bt,(((d.toList==(⟨#[]⟩:Bt).toList)=Ta->R (0,Ta))/\((d.toList==(⟨#[]⟩:Bt).toList)=Tc->PC Tp gl 148 [Arg.mk .str d,Arg.mk (.int .i64) 10,Arg.mk (.int .i64) 64] [.int .i64,.err] (λe:Int×Bool=>((!e.2)=Ta->R (0,Tc))/\((!e.2)=Tc->R (e.1,Ta)))))->c d)->(n0.1=Ta->ji (((⟨#[45]⟩:Bt)).size+(n0.2.1++b).size)/\c ((⟨#[45]⟩:Bt)++(n0.2.1++b)))/\(n0.1=Tc->c (n0.2.1++b)))))):
  PC Tp gl 119 [Arg.mk (.pair .bool (.pair .str (.int .i64))) n0] [.int .i64,.bool] R:=
 PF ⟨[],[(3,5,[],[0,1,2,3,4],[])],[],[(6,⟨[(4,.one (.dat .str))],[],[],[100256]⟩)]⟩ [.tmp 2,.tmp 3] 44 Tryz.func119 H
theorem D9(gl:Fr)(e:Bt)(f:Bt)(R:(Bt×Bt×Bool)->Prop) (H:∃(a:Int->Prop) (b:Int->Nat),a 0/\∀c:Int,a c->((decide (c<e.size)=Ta->(0<=c/\c<e.size)/\PC Tp gl 140 [Arg.mk .str f,Arg.mk (.int .u8) (y0 e c.toNat)] [.int .i64] (λd:Int=>(decide (d>=0)=Ta->(0<=(0:Int)/\(0:Int)<=c/\c<=e.size)/\(0<=(NB .i64 (c+1))/\(NB .i64 (c+1))<=(e.size:Int)/\(e.size:Int)<=(e.size:Int))/\R (e.extract (0:Int).toNat c.toNat,e.extract (NB .i64 (c+1)).toNat (e.size:Int).toNat,Ta))/\(decide (d>=0)=Tc->(a (NB .i64 (c+1))/\b (NB .i64 (c+1))<b c))))/\(decide (c<e.size)=Tc->R (e,(⟨#[]⟩:Bt),Tc)))):
  PC Tp gl 108 [Arg.mk .str e,Arg.mk .str f] [.str,.str,.bool] R:=
 PF ⟨[],[],[(2,⟨[(10,.one (.dat (.int .i64)))],[],[],[100640]⟩)],[]⟩ [.tmp 4,.tmp 5,.tmp 6] 28 Tryz.func108 H
end
section
abbrev bl(l:List UInt8):Bt:=⟨l.toArray⟩
abbrev lb(s:Bt):List UInt8:=s.data.toList
@[simp] theorem Zc(l:List UInt8):lb (bl l)=l:=by simp[lb]
@[simp] theorem gI(s:Bt):bl (lb s)=s:=by cases s;simp[lb,bl]
theorem r9{s t:Bt}:lb s=lb t↔s=t:=⟨λh=>by rw[<-gI s,h,gI],λh=>by rw[h]⟩
theorem mf(s:Bt):(lb s).length=s.size:=by cases s;simp[lb,ByteArray.size]
theorem Ko(s t:Bt):lb (s++t)=lb s++lb t:=by cases s;cases t;simp[lb]
theorem HS(s:Bt)(a b:Nat):lb (s.extract a b)=((lb s).drop a).take (b-a):=by cases s;simp[lb,ByteArray.data_extract,List.extract_eq_take_drop]
theorem MV(s:Bt)(i:Nat):y0 s i=((((lb s)[i]?).getD 0).toNat:Int):=by cases s;simp[lb,y0]
theorem Ej(s:Bt)(i:Nat):s.get! i=((lb s)[i]?).getD 0:=by
 cases s with
 |mk d=>simp[lb,ByteArray.get!,Array.getElem!_eq_getD];rfl
def dec(l:List UInt8):Nat×Nat:=Go.Lib.decodeN l.length (l.getD 0 0).toNat (l.getD 1 0).toNat (l.getD 2 0).toNat (l.getD 3 0).toNat
theorem qF(s:Bt)(i:Nat):Rw s i=dec ((lb s).drop i):=by rw[Go.Lib.decode_at,dec];simp only[Ej,Oo,Oj,ON,mf,Pw]
theorem Yf(l:List UInt8):1<=(dec l).2/\(dec l).2<=4:=by
 unfold dec Go.Lib.decodeN;repeat' split
 all_goals simp
theorem pY{l:List UInt8}(h:l≠[]):(dec l).2<=l.length:=by
 have:0<l.length:=PQ.2 h;unfold dec Go.Lib.decodeN;repeat' split
 all_goals simp only
 all_goals omega
def ft(d:Nat×Nat):Bool:=d.1==65533&&d.2==1
def dF(l:List UInt8):Bool:=if h:l=[]then Ta else if ft (dec l)then Tc else dF (l.drop (dec l).2)
termination_by l.length
decreasing_by
 have h1:=Yf l;have h2:0<l.length:=PQ.2 h;simp only[ON];omega
theorem vU:dF []=Ta:=by unfold dF;simp
theorem W2{l:List UInt8}(h:l≠[]):dF l=if ft (dec l)then Tc else dF (l.drop (dec l).2):=by rw[dF];simp[h]
theorem oU{c:UInt8}{l:List UInt8}(h:c.toNat<128):dec (c::l)=(c.toNat,1):=by simp[dec,Go.Lib.decodeN,h]
end
end Go.X
end
section
namespace Go.X
open Go Go.Lib
section
abbrev Bs:=List UInt8
end
end Go.X
end
section
namespace Go.X
section
theorem FV{n:Int}(h:-2147483648<=n)(f:n<=2147483647):NB .i32 n=n:=by
 unfold NB;have e:(2:Int) ^ Oz .i32=4294967296:=by decide
 have b:(2:Int) ^ (Oz .i32-1)=2147483648:=by decide
 simp only[e,b];have c:Rv .i32=Ta:=rfl;simp only[c,Pj,zC];split <;> omega
end
end Go.X
end
section
namespace Go.X
open Go Go.Proofs Go.Shelf Go.RowKit
section
def DU:Go.Shelf.Ren:=⟨fun|161=>85|231=>110|227=>111|233=>112|235=>113|228=>142|197=>143|151=>144|260=>165|152=>166|137=>140|119=>192|224=>193|225=>194|217=>164|266=>191|n=>n,fun|9=>9|4=>4|3=>3|5=>5|117=>153|116=>152|0=>0|124=>156|105=>185|21=>21|119=>211|46=>85|139=>214|138=>213|n=>n,fun|3=>1|4=>2|n=>n⟩
theorem EL:Go.Proofs.Lays.n161 Tp DU:=by constructor <;> intros <;> kernel_rfl
theorem J1(s:Bt)(c:UInt8)(b:c.toNat<128)(w:World): Calls Tp 85 #[.string s,.string ⟨#[c]⟩] w λe w'=>e=.returned (.string ⟨(Lib.trimLeftB s.data.toList c).toArray⟩)/\w'=w:=Any.strings_TrimLeft_one EL s c b w
def C9:Go.Shelf.Ren:=⟨fun|162=>86|232=>114|227=>111|234=>115|236=>116|228=>142|271=>145|151=>144|120=>167|197=>143|152=>166|260=>165|137=>140|119=>192|224=>193|225=>194|217=>164|266=>191|n=>n,fun|9=>9|4=>4|3=>3|5=>5|117=>153|116=>152|0=>0|124=>156|21=>21|105=>185|46=>85|119=>211|139=>214|138=>213|n=>n,fun|3=>1|4=>2|n=>n⟩
theorem JO:Go.Proofs.Lays.n162 Tp C9:=by constructor <;> intros <;> kernel_rfl
theorem Jh(s:Bt)(c:UInt8)(f:c.toNat<128)(w:World)(b:s.size<=9223372036854775807): Calls Tp 86 #[.string s,.string ⟨#[c]⟩] w λe w'=>e=.returned (.string ⟨(Lib.trimRightB s.data.toList c).toArray⟩)/\w'=w:=Any.strings_TrimRight_one JO s c f w b
def Hb:Go.Shelf.Ren:=⟨fun|137=>140|217=>164|266=>191|n=>n,fun|9=>9|5=>5|3=>3|n=>n,fun|n=>n⟩
theorem LS:Go.Proofs.Lays.n137 Tp Hb:=by constructor <;> intros <;> kernel_rfl
theorem EW(s:Bt)(c:Int)(w:World): Calls Tp 140 #[.string s,.int .u8 c] w λe w'=>e=.returned (.int .i64 (Lib.indexByte s.data.toList c.toNat.toUInt8))/\w'=w:=Any.strings_IndexByte LS s c w
def Dl:Go.Shelf.Ren:=⟨fun|103=>107|210=>139|206=>163|n=>n,fun|9=>9|4=>4|24=>146|3=>3|n=>n,fun|n=>n⟩
theorem F7:Go.Proofs.Lays.n103 Tp Dl:=by constructor <;> intros <;> kernel_rfl
theorem FN(s p:Bt)(w:World): Calls Tp 107 #[.string s,.string p] w λe w'=>e=.returned (.tuple #[.string ⟨(Lib.trimPrefix s.data.toList p.data.toList).toArray⟩,.bool (Lib.hasPrefix s.data.toList p.data.toList)])/\w'=w:=Any.strings_CutPrefix F7 s p w
def Fi:Go.Shelf.Ren:=⟨fun|242=>216|278=>218|n=>n,fun|37=>162|21=>21|51=>113|4=>4|5=>5|46=>85|n=>n,fun|n=>n⟩
theorem LX:Go.Proofs.Lays.n242 Tp Fi:=by constructor <;> intros <;> kernel_rfl
theorem Ji(B:Nat)(v:Value)(n:Nat)(xs:List Value)(r:Int)(f:-2147483648<=r)(h:r<=2147483647)(w:World)(c:w.ownsRow B 5 1 v n xs)(b:n+4<=140737488355328)(i:B<=w.heap.size): Calls Tp 216 #[v,.int .i32 r] w λe w'=>∃j,e=.returned j/\w'.ownsRow B 5 1 j (n+(Lib.runeCells r).length) (xs++Lib.runeCells r)/\∃o,(w.alloc o).grownBy w' v.ownBlock:=Any.utf8_AppendRune_plain LX (by kernel_rfl) B v n xs r f h w c b i
def KC:Go.Shelf.Ren:=⟨fun|171=>54|243=>83|246=>106|283=>135|284=>136|285=>137|286=>138|129=>78|317=>159|318=>160|319=>161|320=>162|337=>189|338=>190|n=>n,fun|3=>3|9=>9|2=>2|4=>4|171=>179|0=>0|53=>115|37=>162|5=>5|173=>181|212=>206|51=>113|20=>20|213=>207|46=>85|232=>246|233=>247|n=>n,fun|17=>0|18=>3|19=>4|n=>n⟩
theorem Kl:Go.Proofs.LaysM.n171 Tp KC:=by repeat' first|(intros;kernel_rfl)|constructor
open Go.RowKit Go.Sort Go.Lib in
theorem Nw(n : Int)(h0 : -9223372036854775808 ≤ n)(h1 : n ≤ 9223372036854775807)(w : World)(htab : Lib.TabIs Tp w "internal/strconv.uint64pow10" .u64 Lib.pow10Tab): Calls Tp 54 #[.int .i64 n] w λe w'=>e=.returned (.string ⟨(Lib.itoa n).toArray⟩)/\∃k os,w'=grow (w.drewN k) os:=Any.strconv_Itoa Kl n h0 h1 w htab
def F0:Go.Shelf.Ren:=⟨fun|174=>148|247=>173|245=>174|287=>198|279=>199|280=>200|281=>201|282=>202|321=>212|322=>213|316=>214|171=>54|205=>215|243=>83|246=>106|283=>135|284=>136|285=>137|286=>138|129=>78|317=>159|318=>160|319=>161|320=>162|337=>189|338=>190|n=>n,fun|9=>9|3=>3|2=>2|75=>190|85=>191|4=>4|167=>234|5=>5|53=>115|175=>235|46=>85|168=>237|37=>162|0=>0|210=>252|21=>21|127=>199|145=>258|143=>256|171=>179|173=>181|212=>206|51=>113|20=>20|213=>207|232=>246|233=>247|80=>168|n=>n,fun|15=>6|16=>7|17=>0|18=>3|19=>4|n=>n⟩
theorem rQ:Go.Proofs.LaysC.n174 Tp F0:=by repeat' first|(intros;kernel_rfl)|constructor
theorem Zd(s:Bt)(b:s.size<=9223372036854775806)(v:Int)(h:Lib.parseIntB 64 s.data.toList=.ok v)(w:World): Calls Tp 148 #[.string s,.int .i64 10,.int .i64 64] w λe w'=>e=.returned (.tuple #[.int .i64 v,.nilIface])/\(w'=w\/∃t,w'=Lib.bytesWorld w 5 t):=Any.strconv_ParseInt_10_at64_ok rQ s b v h w
theorem j9(s:Bt)(b:s.size<=281474976710656)(h:Lib.parseIntB 64 s.data.toList=Lib.parseIntB 64 [])(c:Value)(w:World)(j:w.cell? ⟨6,0,Te⟩=Td c)(f:c=.nilIface\/∃i k,c=.iface i k): Calls Tp 148 #[.string s,.int .i64 10,.int .i64 64] w λe w'=>∃N,e=.returned (.tuple #[.int .i64 (0),.iface 237 (.pointer (Td ⟨N,0,Te⟩))])/\w.heap.size<=N/\w'.heap[N]?=Td (.cells #[.string ⟨#[80,97,114,115,101,73,110,116]⟩,.string s,c] 252 (0,0))/\Below w.heap.size w w':=Any.strconv_ParseInt_10_at64_syntax rQ s b h c w j f
theorem ww(s:Bt)(b:s.size<=281474976710656)(h:Lib.parseIntB 64 s.data.toList=.range)(c:Value)(w:World)(j:w.cell? ⟨7,0,Te⟩=Td c)(f:c=.nilIface\/∃i k,c=.iface i k): Calls Tp 148 #[.string s,.int .i64 10,.int .i64 64] w λe w'=>∃N,e=.returned (.tuple #[.int .i64 (Lib.intSat 64 s.data.toList),.iface 237 (.pointer (Td ⟨N,0,Te⟩))])/\w.heap.size<=N/\w'.heap[N]?=Td (.cells #[.string ⟨#[80,97,114,115,101,73,110,116]⟩,.string s,c] 252 (0,0))/\Below w.heap.size w w':=Any.strconv_ParseInt_10_at64_range rQ s b h c w j f
def Kk:Go.Shelf.Ren:=⟨fun|101=>109|208=>141|206=>163|n=>n,fun|9=>9|4=>4|3=>3|n=>n,fun|n=>n⟩
theorem Ms:Go.Proofs.Lays.n101 Tp Kk:=by constructor <;> intros <;> kernel_rfl
open Go.RowKit Go.Lib in
theorem Ex(s p:Bt)(w:World): Calls Tp 109 #[.string s,.string p] w λe w'=>e=.returned (.string ⟨(Lib.trimPrefix s.data.toList p.data.toList).toArray⟩)/\w'=w:=Any.strings_TrimPrefix Ms s p w
def Dv:Go.Shelf.Ren:=⟨fun|197=>143|260=>165|n=>n,fun|9=>9|21=>21|3=>3|4=>4|5=>5|105=>185|119=>211|0=>0|46=>85|139=>214|138=>213|n=>n,fun|3=>1|4=>2|n=>n⟩
theorem GV:Go.Proofs.Lays.n197 Tp Dv:=by constructor <;> intros <;> kernel_rfl
def xK:Go.Shelf.Ren:=⟨fun|105=>147|212=>169|99=>170|165=>171|166=>149|170=>172|169=>121|263=>195|264=>196|206=>163|240=>175|241=>197|276=>203|277=>211|n=>n,fun|9=>9|3=>3|4=>4|20=>20|0=>0|46=>85|109=>215|5=>5|72=>164|76=>194|51=>113|146=>230|53=>115|148=>232|70=>161|37=>162|75=>190|127=>199|164=>240|80=>168|n=>n,fun|n=>n⟩
theorem I8:Go.Proofs.Lays.n105 Tp xK:=by constructor <;> intros <;> kernel_rfl
theorem Hy:Builder.Extra Tp xK:={
 sizeBuilder:=by kernel_rfl
 liesBuilder:=by kernel_rfl
 t5:=Tryz.underlying5
 a5:=Tryz.isAgg5
 z5:=Tryz.sizeOf5
 v5:=Tryz.zeroValue5
 infoByte:=by kernel_rfl
 cellsByte:=by kernel_rfl
 sizeByte:=by kernel_rfl
 neB5:=by decide }
open Go.RowKit Go.Lib in
theorem Ni(s:Bt)(c:Nat)(w:World)(f:c<=9223372036854775807)(b:s.size*c<=140737488355328): Calls Tp 147 #[.string s,.int .i64 c] w λe w'=>e=.returned (.string ⟨(Lib.repeatL s.data.toList c).toArray⟩)/\Below w.heap.size w w':=Any.strings_Repeat I8 Hy s c w f b
open Go.RowKit Go.Lib in
theorem Qv(s:Bt)(w:World)(b:Lib.Utf8Tabs 1 2 w): Calls Tp 143 #[.string s] w λe w'=>e=.returned (.tuple #[.int .i32 (Lib.decodeGo s).1,.int .i64 (Lib.decodeGo s).2])/\Below w.heap.size w w':=Any.utf8_DecodeRuneInString GV s w b
end
end Go.X
end
section
namespace Go.X
open Go Go.X Go.Proofs Go.RowKit
section
variable {gl M:Fr} {s:Bt}
theorem KU{c:Int}{R:Int->Prop}(h:R (Lib.indexByte (lb s) c.toNat.toUInt8)):PC Tp gl 140 [Arg.mk .str s,Arg.mk (.int .u8) c] [.int .i64] R:= PC.of_same rfl (λ_=>LG _ _) h λw _=>EW s c w
theorem JI{s p:Bt}{R:Bt×Bool->Prop}(h:R (bl (Lib.trimPrefix (lb s) (lb p)),Lib.hasPrefix (lb s) (lb p))):PC Tp gl 107 [Arg.mk .str s,Arg.mk .str p] [.str,.bool] R:= PC.of_same rfl (λM=>⟨[_,_],⟨_,_,rfl,rfl,_,rfl,rfl⟩,rfl⟩) h λw _=>FN s p w
theorem KP{s p:Bt}{R:Bt->Prop}(h:R (bl (Lib.trimPrefix (lb s) (lb p)))):PC Tp gl 109 [Arg.mk .str s,Arg.mk .str p] [.str] R:= PC.of_same rfl (λ_=>mA _) h λw _=>Ex s p w
theorem EO{c:UInt8}(b:c.toNat<128){R:Bt->Prop}(h:R (bl (Lib.trimLeftB (lb s) c))):PC Tp gl 85 [Arg.mk .str s,Arg.mk .str ⟨#[c]⟩] [.str] R:= PC.of_same rfl (λ_=>mA _) h λw _=>J1 s c b w
theorem MU{c:UInt8}(e:c.toNat<128)(b:s.size<=9223372036854775807){R:Bt->Prop}(h:R (bl (Lib.trimRightB (lb s) c))):PC Tp gl 86 [Arg.mk .str s,Arg.mk .str ⟨#[c]⟩] [.str] R:= PC.of_same rfl (λ_=>mA _) h λw _=>Jh s c e w b
def vz(gl:Fr):Prop:=∃(cs:Array Value) (m:Int),gl 5=Td cs/\cs[0]?=Td (.int .i64 m)
theorem tM{c:Nat}(e:c<=9223372036854775807)(b:s.size*c<=140737488355328){R:Bt->Prop}(h:R (bl (Lib.repeatL (lb s) c))):PC Tp gl 147 [Arg.mk .str s,Arg.mk (.int .i64) (c:Int)] [.str] R:= PC.of_scal rfl (λ_=>mA _) h λw f=>Ni s c w e b
def Tabs(gl:Fr):Prop:=(∃cs:Array Value,gl 1=Td cs/\∀c,c<256->cs[c]?=Td (.int .u8 (Lib.firstT c)))/\∃cs:Array Value,gl 2=Td cs/\∀i,i<16->cs[2*i]?=Td (.int .u8 (Lib.accLo i))/\cs[2*i+1]?=Td (.int .u8 (Lib.accHi i))
theorem Tabs.at(h:Tabs gl){w:World}(b:AgM gl w.heap):Lib.Utf8Tabs 1 2 w:=by obtain⟨⟨c1,a1,b1⟩,c2,a2,b2⟩:=h;exact⟨λc e=>b.glob a1 (b1 c e),λi hi=>⟨b.glob a2 (b2 i hi).1,b.glob a2 (b2 i hi).2⟩⟩
theorem LI(c:Tabs gl){R:Int×Int->Prop}(h:R ((Lib.decodeGo s).1,(Lib.decodeGo s).2)):PC Tp gl 143 [Arg.mk .str s] [.int .i32,.int .i64] R:= PC.of_scal rfl (λM=>⟨[_,_],⟨_,_,rfl,rfl,_,rfl,rfl⟩,rfl⟩) h λw b=>Qv s w (c.at b)
theorem Ln(w:World)(k:Nat)(os:Array Obj):Below w.heap.size w (Go.Sort.grow (w.drewN k) os):=⟨rfl,rfl,rfl,by simp[Go.Sort.grow,World.drewN],λi hi=>by show((w.drewN k).heap++os)[i]?=_;exact Pu hi⟩
def mC(gl : Fr): Prop := ∃ b cs, Tryz.prog.globalNamed "internal/strconv.uint64pow10" = some b ∧ gl b = some cs ∧ cs = (Lib.pow10Tab.map λz => Value.int .u64 z).toArray
theorem xC(l:mC gl){n:Int}(h0:-9223372036854775808<=n)(r:n<=9223372036854775807){R:Bt->Prop}(h:R (bl (Lib.itoa n))):PC Tp gl 54 [Arg.mk (.int .i64) n] [.str] R:=by obtain⟨b,cs,q,p,i⟩:=l;refine PC.of_scal rfl (λ_=>mA _) h λw f=>(Nw n h0 r w ?_).mono λe w' ⟨o,k,os,c⟩=>⟨o,c ▸ Ln w k os⟩;obtain⟨T,m,j⟩:=f b cs p;unfold Lib.TabIs World.var?;rw[q];simp only[PH,j,i]
def Bq(gl:Fr):Prop:=(∃(cs:Array Value) (e:Value),gl 6=Td cs/\cs[0]?=Td e/\(e=.nilIface\/∃c b,e=.iface c b))/\∃(cs:Array Value) (e:Value),gl 7=Td cs/\cs[0]?=Td e/\(e=.nilIface\/∃c b,e=.iface c b)
theorem xb(k:IntKind)(i:Int)(t:TypeId)(u:Value):dX M [.int k,.err] (i,Tc) (.tuple #[.int k i,.iface t u]):=⟨[_,_],⟨_,_,rfl,rfl,.iface t u,rfl,⟨_,rfl,.inr ⟨rfl,_,_,rfl⟩⟩⟩,rfl⟩
theorem Ds(k:IntKind)(i:Int):dX M [.int k,.err] (i,Ta) (.tuple #[.int k i,.nilIface]):=⟨[_,_],⟨_,_,rfl,rfl,.nilIface,rfl,⟨_,rfl,.inl ⟨rfl,rfl⟩⟩⟩,rfl⟩
def td(l:List UInt8):Int×Bool:=match Lib.parseIntB 64 l with
 |.ok v=>(v,Ta)
 |.range=>(Lib.intSat 64 l,Tc)
 |_=>(0,Tc)
theorem Gn(o:Bq gl)(n:s.size<=281474976710656){R:Int×Bool->Prop}(h:R (td (lb s))):PC Tp gl 148 [Arg.mk .str s,Arg.mk (.int .i64) 10,Arg.mk (.int .i64) 64] [.int .i64,.err] R:=by
 unfold td at h;cases hx:Lib.parseIntB 64 (lb s)with
 |ok v=>rw[hx]at h;refine PC.of_ex rfl λw f=>(Zd s (by omega) v hx w).mono λe w' ⟨c,i⟩=>⟨_,(v,Ta),c,λM=>Ds _ _,h,?_⟩;rcases i with rfl|⟨t,rfl⟩;exact Below.refl _ _;exact Lib.bytesWorld_below _ _ _
 |range=>rw[hx]at h;obtain⟨_,⟨cs,k,l,m,j⟩⟩:=o;exact PC.of_ex rfl λw f=>(ww s n hx k w (f.glob l m) j).mono λe w' ⟨N,c,_,_,b⟩=>⟨_,(Lib.intSat 64 (lb s),Tc),c,λM=>xb _ _ _ _,h,b⟩
 |_=>rw[hx]at h;obtain⟨⟨cs,k,l,m,j⟩,_⟩:=o;exact PC.of_ex rfl λw f=>(j9 s n hx k w (f.glob l m) j).mono λe w' ⟨N,c,_,_,b⟩=>⟨_,(0,Tc),c,λM=>xb _ _ _ _,h,b⟩
end
end Go.X
end
section
namespace Go.X
open Go Go.Lib
section
theorem zx(l:Bs):(bl l).size=l.length:=by rw[<-mf,Zc]
theorem vJ(l:Bs)(a b:Nat):(bl l).extract a b=bl ((l.drop a).take (b-a)):=by rw[<-r9,HS,Zc,Zc]
theorem jm(a b:Bs):bl a++bl b=bl (a++b):=by rw[<-r9,Ko,Zc,Zc,Zc]
theorem Yg(l:Bs)(i:Nat):y0 (bl l) i=((l[i]?.getD 0).toNat:Int):=by rw[MV,Zc]
theorem m8(s:Bt):s.toList=lb s:=by
 cases s with
 |mk d=>exact Go.Lib.toList_data ⟨d⟩
theorem gZ(a b:Bs):((bl a).toList==(bl b).toList)=decide (a=b):=by rw[m8,m8,Zc,Zc];rw[Om];simp
theorem sL(l:Bs)(p:Nat):ew (bl l) p=decide (p<l.length):=by rw[Om];simp[ew,zx]
theorem nh(l:Bs)(p:Nat):fp (bl l) p=((dec (l.drop p)).1:Int):=by rw[fp,qF,Zc]
theorem mF(l:Bs)(p:Nat)(h:p<l.length):ek (bl l) p=p+(dec (l.drop p)).2:=by
 rw[ek,qF,Zc];have:Nat.blt p (bl l).size=Ta:=by simp[zx,h]
 rw[this];rfl
theorem En{l:Bs}{i:Nat}(h:i<l.length):l[i]?.getD 0=l[i]:=by rw[NL h];rfl
def we(c:UInt8):Bool:=decide (48<=c.toNat)&&decide (c.toNat<=57)
def dC(l:Bs):Bool:=l.all we && !l.isEmpty
abbrev Nm:=Bool×Bs×Int
abbrev iP(n:Nm):Bool×Bt×Int:=(n.1,(bl n.2.1,n.2.2))
def iu(n:Nm):Bool:=!n.1&&(n.2.1.isEmpty&&n.2.2==0)
def yz(n:Nm):Bool:=iu n||(dC n.2.1&&decide (n.2.1.length<=1000)&&n.2.1.head? != Td 48&&n.2.1.getLast? != Td 48&&decide (-1000000<=n.2.2)&&decide (n.2.2<=1000000))
def W5(n:Nm):Bs:=if yz n then(if n.2.1=[]then [48]else(if n.1 then [45]else [])++n.2.1++(if n.2.2=0 then []else 101::Go.Lib.itoa n.2.2))else []
theorem Hg{n:Nm}(h:yz n=Ta)(e:n.2.1=[]):iu n=Ta:=by unfold yz at h;rcases Pi _ _ ▸ h with h|h;exact h;simp[dC,e]at h
theorem xP{n:Nm}(h:yz n=Ta):n.2.1.length<=1000/\-1000000<=n.2.2/\n.2.2<=1000000:=by unfold yz iu at h;obtain⟨a,d,e⟩:=n;simp at h;rcases h with⟨_,h,h'⟩|h;subst h;subst h';simp;simp only;omega
def cutAt(p:UInt8->Bool):Bs->Bs×Bs×Bool
 |[]=>([],[],Tc)
 |c::l=>if p c then([],l,Ta)else(c::(cutAt p l).1,(cutAt p l).2)
theorem yT{p:UInt8->Bool}:∀{l},(∀c∈l,p c=Tc)->cutAt p l=(l,[],Tc)
 |[],_=>rfl
 |c::l,h=>by unfold cutAt;rw[zv (by simp[h c (by simp)]),yT λc b=>h c (by simp[b])]
theorem uT{p:UInt8->Bool}:∀{l:Bs} {k:Nat} (b:k<l.length),(∀i (hi:i<k),p (l[i]'(by omega))=Tc)->p l[k]=Ta->cutAt p l=(l.take k,l.drop (k+1),Ta)
 |c::l,0,_,_,h=>by unfold cutAt;rw[zz (by simpa using h)];simp
 |c::l,k+1,b,h0,h=>by unfold cutAt;have e:p c=Tc:=h0 0 (by omega);rw[zv (by simp[e]),uT (k:=k) (by simpa using b) (λi hi=>by simpa using h0 (i+1) (by omega)) (by simpa using h)];simp
structure Lit where
 neg:Bool
 whole:Bs
 rest:Bs
 low:Bool
 exp:Bs
def gY(s:Bs):Bs:=if s.head?==Td 45 then s.tail else s
def lz(c:UInt8):Bool:=c==101||c==69
def nT(c:UInt8):Bool:=c==46
def dD(s:Bs):Bs×Bs×Bool:=cutAt lz (gY s)
def ik(s:Bs):Bool:=(dD s).2.2&&(dD s).2.1.head?==Td 45
def fi(s:Bs):Bs:=if ik s then(dD s).2.1.tail else if(dD s).2.1.head?==Td 43 then(dD s).2.1.tail else(dD s).2.1
def Z4(s:Bs):Bs×Bs×Bool:=cutAt nT (dD s).1
def gU(s:Bs):Bool:=(!(dD s).2.2||dC (fi s))&&dC (Z4 s).1&&(!(Z4 s).2.2||dC (Z4 s).2.1)&&((Z4 s).1==[48]||(Z4 s).1.head? != Td 48)
def gj(s:Bs):Lit:=⟨s.head?==Td 45,(Z4 s).1,(Z4 s).2.1,ik s,if(dD s).2.2 then fi s else []⟩
def gJ(s:Bs):Option Lit:=if gU s then Td (gj s)else Te
theorem yS{s:Bs}{x:Lit}(h:gJ s=Td x):gU s=Ta/\x=gj s:=by unfold gJ at h;split at h;rename_i e;exact⟨e,(NY h).symm⟩;exact absurd h (by simp)
theorem pC{p:UInt8->Bool}:∀{l:Bs},(cutAt p l).2.2=Tc->(cutAt p l).1=l/\(cutAt p l).2.1=[]
 |[],_=>⟨rfl,rfl⟩
 |c::l,h=>by unfold cutAt at h ⊢;split;rename_i e;rw[zz e]at h;exact absurd h (by simp);rename_i e;rw[zv e]at h;have:=pC h;exact⟨by simp[this.1],this.2⟩
def yo(l:Bs):Bs:=((l.dropWhile (· == 48)).reverse.dropWhile (· == 48)).reverse
def zn(l:Bs):Nat:=l.foldl (λn c=>10*n+(c.toNat-48)) 0
def qu(s:Bs):Nm×Int:=match gJ s with
 |none=>((Tc,[],0),2)
 |some x=>
  if x.whole.length+x.rest.length>1000 then((Tc,[],0),3)
  else if(x.exp.dropWhile (· == 48)).length>9 then((Tc,[],0),4)
  else
   let e:Int:=if x.low then-(zn (x.exp.dropWhile (· == 48)):Int)else zn (x.exp.dropWhile (· == 48))
   let d:=(x.whole++x.rest).dropWhile (· == 48)
   let b:=yo (x.whole++x.rest)
   if d=[]then((Tc,[],0),0)
   else if -1000000<=e-x.rest.length+d.length-b.length/\e-x.rest.length+d.length-b.length<=1000000 then((x.neg,b,e-x.rest.length+d.length-b.length),0)
   else((Tc,[],0),4)
def pg(n:Nm):Int×Bool:=
 if yz n&&decide (0<=n.2.2)&&decide ((n.2.1.length:Int)+n.2.2<=19)then
  let v:Int:=if n.1 then-((zn n.2.1*10 ^ n.2.2.toNat:Nat):Int)else(zn n.2.1*10 ^ n.2.2.toNat:Nat)
  if -9223372036854775808<=v/\v<=9223372036854775807 then(v,Ta)else(0,Tc)
 else(0,Tc)
end
end Go.X
end
section
namespace Go.X
section
variable {n:Nat} {l:Bs} {gl:Fr} {R:Bool -> Prop}
theorem Qd{k n:Nat}(h:k<n)(b:n<=4611686018427387904):NB .i64 ((k:Int)+1)=((k+1:Nat):Int):=zf (by omega)
theorem E4(h:l≠[]):(48<=(dec l).1/\(dec l).1<=57)->(dec l).2=1/\∃c t,l=c::t/\we c=Ta/\(dec l).1=c.toNat:=by obtain⟨c,t,rfl⟩:=Px h;intro b;by_cases e:c.toNat<128;rw[oU e]at b ⊢;exact⟨rfl,c,t,rfl,by simp[we];simpa using b,rfl⟩;exfalso;unfold dec at b;have b0:((c::t).getD 0 0).toNat=c.toNat:=rfl;rw[b0]at b;have:=c.toNat_lt;have b1:=((c::t).getD 1 0).toNat_lt;have b2:=((c::t).getD 2 0).toNat_lt;have b3:=((c::t).getD 3 0).toNat_lt;generalize ((c::t).getD 1 0).toNat=x1 at *;generalize ((c::t).getD 2 0).toNat=x2 at *;generalize ((c::t).getD 3 0).toNat=x3 at *;generalize c.toNat=x0 at *;unfold Lib.decodeN at b;rw[zv e]at b;split at b;split at b <;> simp only at b <;> omega;split at b;split at b <;> simp only at b <;> omega;split at b;split at b <;> simp only at b <;> omega;simp only at b;omega
theorem nJ(h:R (dC l)):PC Tp gl 82 [Arg.mk .str (bl l)] [.bool] R:=by
 apply FW;refine⟨λp=>p.1=bl l/\p.2<=l.length/\(l.drop p.2).all we=l.all we,λp=>l.length-p.2,⟨rfl,by omega,by simp⟩,?_⟩;rintro⟨_,p⟩ ⟨rfl,q,k⟩;simp only at q k ⊢;rw[sL,nh];refine⟨λm=>⟨m,λf=>?_,λf=>?_⟩,λm=>?_⟩;all_goals first
  |have j:p<l.length:=by simpa using m
  |have j:¬p<l.length:=by simpa using m
 have i:l.drop p≠[]:=λe=>by have:=congrArg OA e;simp at this;omega
 have n:¬(48<=(dec (l.drop p)).1/\(dec (l.drop p)).1<=57):=by rw[Bool.cond_true_left]at f;rcases Pi _ _ ▸ f with f|f <;> simp at f <;> omega
 have o:l.all we=Tc:=by
  rw[<-k];obtain⟨c,t,e⟩:=Px i;rw[e];cases b:we c with
  |false=>simp[b]
  |true=>
   exfalso;apply n;have:c.toNat<128:=by simp[we]at b;omega
   rw[e,oU this];simpa[we]using b
 have:dC l=Tc:=by simp[dC,o]
 rw[this]at h;exact h;have i:l.drop p≠[]:=λe=>by have:=congrArg OA e;simp at this;omega
 have n:48<=(dec (l.drop p)).1/\(dec (l.drop p)).1<=57:=by rw[Bool.cond_true_left]at f;have:=Bool.or_eq_false_iff.1 f;simp at this;omega
 obtain⟨s,c,t,e,b,_⟩:=E4 i n;rw[mF l p j,s];refine⟨⟨trivial,by omega,?_⟩,by omega⟩;have r:l.drop (p+1)=t:=by rw[<-QO,e];rfl
 rw[r,<-k,e];simp[b];have:l.drop p=[]:=Pd (by omega);rw[this]at k;have e:dC l=!(decide (l=[])):=by rw[dC,<-k];cases l <;> simp
 have:=gZ l [];rw[show(⟨#[]⟩:Bt)=bl []from rfl,this,<-e];exact h
abbrev tN:Ty:=.pair .bool (.pair .str (.int .i64))
theorem Ba(h:0<l.length):(((l[0]?.getD 0).toNat:Int) != 48)=(l.head? != Td 48):=by
 cases l with
 |nil=>simp at h
 |cons c t=>rw[Om];simp;constructor;intro b e;exact b (by rw[e];rfl);intro b e;exact b (UInt8.toNat_inj.1 (by(have:c.toNat=48:=by omega);rw[this];rfl))
theorem ET(h:0<l.length):(((l[l.length-1]?.getD 0).toNat:Int) != 48)=(l.getLast? != Td 48):=by rw[List.getLast?_eq_getElem?];rw[NL (by omega)];rw[Om];simp;constructor;intro b c;exact b (by rw[c];rfl);intro b c;exact b (UInt8.toNat_inj.1 (by(have:l[l.length-1].toNat=48:=by omega);rw[this];rfl))
theorem xB(h:dC l=Ta):0<l.length:=by
 cases l with
 |nil=>simp[dC]at h
 |cons=>simp
theorem pD(h:0<n)(b:n<=4611686018427387904):NB .i64 ((n:Int)-1)=((n-1:Nat):Int):=by rw[wrap64 (by omega) (by omega)];omega
theorem qs{n:Nm}(l:n.2.1.length<=4611686018427387904)(h:R (yz n)):PC Tp gl 53 [Arg.mk tN (iP n)] [.bool] R:=by
 apply Ey;simp only[show(⟨#[]⟩:Bt)=bl []from rfl,gZ,zx,Yg];have e:((n.1==Tc)&&(decide (n.2.1=[])&&((n.2.2==0)&&Ta)))=iu n:=by unfold iu;rcases n with⟨_|_,_|⟨_,_⟩,e⟩ <;> simp
 rw[e];refine⟨λm=>?_,λm=>?_⟩;have:yz n=Ta:=by simp[yz,m]
 rw[this]at h;exact h
 ·unfold yz at h;rw[m,Bool.false_or]at h;refine nJ ⟨λj=>⟨λ_=>?_,λf=>?_⟩,λj=>⟨λf=>⟨λ_=>?_,λc=>?_⟩,λf=>⟨?_,λc=>⟨λ_=>?_,λb=>?_⟩,λc=>⟨?_,λb=>?_,λb=>?_⟩⟩⟩⟩;have:dC n.2.1=Tc:=by simpa using j
  rw[this]at h;simpa using h;rw[j]at f;cases f;have:decide (n.2.1.length<=1000)=Tc:=by simp at f ⊢;omega
  rw[this]at h;simpa using h;rw[f]at c;cases c;all_goals
   have o:dC n.2.1=Ta:=by simpa using j
   have i:=xB o;have k:decide (n.2.1.length<=1000)=Ta:=by simp at f ⊢;omega
   have p:=Ba i;have el:=ET i
  omega;have:(n.2.1.head? != Td 48)=Tc:=by rw[<-p];simp at c ⊢;exact c
  rw[this]at h;simpa using h;rw[c]at b;cases b;rw[pD i l];omega;have:(n.2.1.getLast? != Td 48)=Tc:=by rw[<-el];rw[pD i l]at b;simp at b ⊢;exact b
  rw[this]at h;simpa using h;have r:(n.2.1.head? != Td 48)=Ta:=by rw[<-p];simp at c ⊢;exact c
  have q:(n.2.1.getLast? != Td 48)=Ta:=by rw[<-el];rw[pD i l]at b;simp at b ⊢;exact b
  rw[o,k,r,q]at h;simp only[Pj]at h;rw[Bool.cond_false_right];exact h
end
end Go.X
end
section
namespace Go.X
open Go Go.Lib
section
variable {l s:Bs} {k:Nat}
theorem vG(c:UInt8):∀l:Bs,-1<=indexByte l c/\(0<=indexByte l c↔c∈l)
 |[]=>by simp[indexByte]
 |b::l=>by have i:=vG c l;unfold indexByte;by_cases h:b=c;simp[h];have h':¬c=b:=λe=>h e.symm;simp only[beq_iff_eq,h,if_false,NI,h',false_or];obtain⟨j,f⟩:=i;split;rename_i e;rw[e]at f;exact⟨by omega,by rw[<-f]⟩;rename_i e;refine⟨by omega,?_⟩;rw[<-f];omega
theorem Jj(u:Nat):(decDigits u).length<=u+1:=by rw[decDigits];split;simp;rename_i h;have:=Jj (u / 10);simp;omega
theorem itoa_len(n:Int):(itoa n).length<=n.natAbs+2:=by unfold itoa;split;have:=Jj n.natAbs;simp;omega;have:=Jj n.toNat;omega
theorem Aj(l:Bs)(c:UInt8):hasPrefix l [c]=(l.head?==Td c):=by
 cases l with
 |nil=>rfl
 |cons b t=>simp[hasPrefix,List.isPrefixOf];rw[Om];simp;exact eq_comm
theorem CC(l:Bs)(c:UInt8):trimPrefix l [c]=if l.head?==Td c then l.tail else l:=by unfold trimPrefix;rw[Aj];split <;> simp
theorem HC(l:Bs)(c:UInt8):zn (l++[c])=10*zn l+(c.toNat-48):=by simp[zn,List.foldl_append]
theorem AJ(b:k<l.length):zn (l.take (k+1))=10*zn (l.take k)+(l[k].toNat-48):=by rw[Oc b,HC]
theorem AP{p:UInt8->Bool}(h:l.all p=Ta)(k:Nat):(l.take k).all p=Ta:=by rw[N3]at h ⊢;exact λx b=>h x (List.mem_of_mem_take b)
theorem xO(h:l.all we=Ta)(b:k<l.length):48<=l[k].toNat/\l[k].toNat<=57:=by have:=N3.1 h _ (Ot b);simpa[we]using this
theorem Ap:∀(n:Nat) (l:Bs),l.length=n->l.all we=Ta->zn l<10 ^ n
 |0,l,h,_=>by have:l=[]:=N5 h;subst this;simp[zn]
 |n+1,l,h,hd=>by
  have b:l=l.take (n+1):=by rw[<-h,N7]
  rw[b,AJ (by omega)];have e:=Ap n (l.take n) (by simp;omega) (AP hd n);have c:=xO hd (k:=n) (by omega);rw[Nat.pow_succ];omega
theorem r8{n:Nat}(b:l.length<=n)(h:l.all we=Ta):zn l<10 ^ n:= PU (Ap _ l rfl h) (Nat.pow_le_pow_right (by omega) b)
theorem nX(h:dC l=Ta):l.all we=Ta:=by unfold dC at h;exact(OC.1 h).1
theorem Jk{p q:UInt8->Bool}(h:l.all p=Ta):(l.dropWhile q).all p=Ta:=by rw[N3]at h ⊢;exact λx b=>h x ((List.dropWhile_sublist q).mem b)
theorem wh(l:Bs)(q:UInt8->Bool):(l.dropWhile q).length<=l.length:=(List.dropWhile_sublist q).length_le
theorem AE{q:UInt8->Bool}:∀c,(l.dropWhile q).head?=Td c->q c=Tc:=by
 induction l with
 |nil=>simp
 |cons b t f=>intro c h;rw[List.dropWhile_cons]at h;split at h;exact f c h;rename_i e;simp at h;subst h;exact Bool.eq_false_iff.2 e
theorem AN(h:l.all we=Ta)(i:l.dropWhile (· == 48)≠[]):dC (yo l)=Ta/\(yo l).length<=(l.dropWhile (· == 48)).length/\((yo l).head? != Td 48)=Ta/\((yo l).getLast? != Td 48)=Ta:=by
 unfold yo;obtain⟨c,t,f⟩:=Px i;have j:(c==48)=Tc:=by have:=AE (l:=l) (q:=(· == 48)) c (by rw[f];rfl);simpa using this
 have key:∀(t:Bs),∃u,((c::t).reverse.dropWhile (· == 48)).reverse=c::u:=by
  intro t;rw[List.reverse_cons];have m:∀(r:Bs),∃u,(r++[c]).dropWhile (· == 48)=u++[c]:=by
   intro r;induction r with
   |nil=>exact⟨[],by simp[j]⟩
   |cons b r k=>rw[Ox,List.dropWhile_cons];split;exact k;exact⟨b::r,rfl⟩
  obtain⟨u,e⟩:=m t.reverse;exact⟨u.reverse,by rw[e];simp⟩
 rw[f];obtain⟨u,e⟩:=key t;refine⟨?_,?_,?_,?_⟩;rw[dC,OC];refine⟨?_,by rw[e];rfl⟩;rw[List.all_reverse];apply Jk;rw[List.all_reverse,<-f];exact Jk h;rw[List.length_reverse];refine OD (wh _ _) ?_;simp;rw[e];simp;simpa using j;rw[List.getLast?_reverse];cases hh:((c::t).reverse.dropWhile (· == 48)).head? with
 |none=>rfl
 |some x=>have:=AE (l:=(c::t).reverse) (q:=(· == 48)) x hh;simpa using this
theorem Fh(h:l.all we=Ta)(b:l.dropWhile (· == 48)≠[])(n:l.length<=1000)(neg:Bool)(e:Int):yz (neg,yo l,e)=(decide (-1000000<=e)&&decide (e<=1000000)):=by
 obtain⟨c,m,j,f⟩:=AN h b;have k:=wh l (· == 48);have i:(yo l).isEmpty=Tc:=by rw[dC]at c;have:=(OC.1 c).2;simpa using this
 unfold yz iu;simp only[c,j,f,i,Bool.and_false,Bool.false_and,Bool.false_or,Pj];have:decide ((yo l).length<=1000)=Ta:=by simp;omega
 rw[this];simp
theorem DX{x:Lit}(h:gJ s=Td x):dC x.whole=Ta/\x.rest.all we=Ta/\x.exp.all we=Ta:=by
 obtain⟨b,rfl⟩:=yS h;unfold gU at b;simp only[NP]at b;obtain⟨⟨⟨c,f⟩,e⟩,i⟩:=b;refine⟨f,?_,?_⟩;show(Z4 s).2.1.all we=Ta;cases hp:(Z4 s).2.2 with
 |true=>rw[hp]at e;exact nX (by simpa using e)
 |false=>rw[show(Z4 s).2.1=[]from(pC hp).2];rfl
 show(if(dD s).2.2 then fi s else []).all we=Ta;cases hm:(dD s).2.2 with
 |true=>rw[hm]at c;simpa using nX (by simpa using c)
 |false=>rfl
theorem tk(p:UInt8->Bool)(l:Bs):(cutAt p l).1.length+(cutAt p l).2.1.length<=l.length:=by
 induction l with
 |nil=>simp[cutAt]
 |cons c t b=>unfold cutAt;split <;> simp <;> omega
theorem Aw{x:Lit}(h:gJ s=Td x):x.whole.length+x.rest.length+x.exp.length<=s.length:=by
 obtain⟨c,rfl⟩:=yS h;have i:(gY s).length<=s.length:=by unfold gY;split <;> simp
 have f:=tk lz (gY s);have j:=tk nT (dD s).1;have b:(fi s).length<=(dD s).2.1.length:=by unfold fi;split;simp;split <;> simp
 have e:(if(dD s).2.2 then fi s else []).length<=(dD s).2.1.length:=by split;exact b;simp
 show(Z4 s).1.length+(Z4 s).2.1.length+(if(dD s).2.2 then fi s else []).length<=s.length;unfold Z4;unfold dD at *;omega
end
end Go.X
end
section
namespace Go.X
section
variable {gl:Fr} {l s:Bs}
theorem IQ(c:UInt8):(((c.toNat:Int)).toNat).toUInt8=c:=by simp
theorem BE{l sep:Bs}{p:UInt8->Bool}(s:∀c,p c=Ta↔c∈sep)(u:l.length<=4611686018427387904){R:Bt×Bt×Bool->Prop}(h:R (bl (cutAt p l).1,bl (cutAt p l).2.1,(cutAt p l).2.2)):
  PC Tp gl 108 [Arg.mk .str (bl l),Arg.mk .str (bl sep)] [.str,.str,.bool] R:=by
 apply D9;simp only[zx,Yg,vJ];refine⟨λi=>∃k:Nat,i=k/\k<=l.length/\∀j (f:j<l.length),j<k->p l[j]=Tc,λi=>l.length-i.toNat,⟨0,rfl,by omega,λj _ h=>by omega⟩,?_⟩;rintro i ⟨k,rfl,x,o⟩;refine⟨λr=>?_,λr=>?_⟩;have b:k<l.length:=by simpa using r
 simp only[NE,En b];refine⟨by omega,KU ?_⟩;rw[IQ,Zc];have t:=(vG l[k] sep).2;rw[Qd b u];refine⟨λq=>⟨by omega,by omega,?_⟩,λq=>⟨⟨k+1,rfl,by omega,λj f w=>?_⟩,by simp;omega⟩⟩;have m:p l[k]=Ta:=(s _).2 (t.1 (by simpa using q));rw[uT b (λj f=>o j (by omega) f) m]at h;simp only[NE,Int.toNat_zero,Pv,Nat.sub_zero];rw[Pe (l:=l.drop (k+1)) (by simp)];exact h;by_cases e:j=k;subst e;cases hpj:p l[j]with
 |false=>rfl
 |true=>exact absurd (t.2 ((s _).1 hpj)) (by simpa using q)
 exact o j f (by omega);have b:¬k<l.length:=by simpa using r
 rw[yT (λc n=>by obtain⟨j,f,rfl⟩:=List.getElem_of_mem n;exact o j f (by omega))]at h;exact h
theorem vp{c:UInt8}{R:Bt×Bool->Prop}(h:R (bl (if l.head?==Td c then l.tail else l),l.head?==Td c)):PC Tp gl 107 [Arg.mk .str (bl l),Arg.mk .str (bl [c])] [.str,.bool] R:=by refine JI ?_;rw[Zc,Zc,CC,Aj];exact h
theorem JH{c:UInt8}{R:Bt->Prop}(h:R (bl (if l.head?==Td c then l.tail else l))):PC Tp gl 109 [Arg.mk .str (bl l),Arg.mk .str (bl [c])] [.str] R:=by refine KP ?_;rw[Zc,Zc,CC];exact h
theorem pW{R:Bt->Prop}(h:R (bl (l.dropWhile (· == 48)))):PC Tp gl 85 [Arg.mk .str (bl l),Arg.mk .str (bl [48])] [.str] R:=by refine EO (c:=48) (by decide) ?_;rw[Zc];exact h
theorem MW(b:l.length<=4611686018427387904){R:Bt->Prop}(h:R (bl (l.reverse.dropWhile (· == 48)).reverse)):PC Tp gl 86 [Arg.mk .str (bl l),Arg.mk .str (bl [48])] [.str] R:=by refine MU (c:=48) (by decide) (by rw[zx];omega) ?_;rw[Zc];exact h
theorem CU(S:s.length<=4611686018427387904){R:(Bool×Bool×Bt×Bt×Bt)×Bool->Prop} (M:gU s=Ta->R (((gj s).neg,(gj s).low,bl (gj s).whole,bl (gj s).rest,bl (gj s).exp),Ta)) (E:gU s=Tc->∀a b c d e,R ((a,b,bl c,bl d,bl e),Tc)):
  PC Tp gl 84 [Arg.mk .str (bl s)] [.pair .bool (.pair .bool (.pair .str (.pair .str .str))),.bool] R:=by
 apply Fg;refine vp (c:=45) ?_;dsimp only;have T:(gY s).length<=s.length:=by unfold gY;split <;> simp
 have L:=tk lz (gY s);refine BE (l:=gY s) (sep:=[101,69]) (p:=lz) (λc=>by simp[lz]) (by omega) ?_;dsimp only;have Q:(dD s).1.length+(dD s).2.1.length<=(gY s).length:=L;have u:∀(e:Bs) (low:Bool),((dD s).2.2=Ta->dC (fi s)=Ta/\low=ik s/\e=fi s)->((dD s).2.2=Tc->low=Tc/\e=[]) ->
   PC Tp gl 108 [Arg.mk .str (bl (dD s).1),Arg.mk .str (bl [46])] [.str,.str,.bool] (λf:Bt×Bt×Bool=>PC Tp gl 82 [Arg.mk .str f.1] [.bool] (λm:Bool=>∃t:Bool->Prop,(((!(!m))&&f.2.2)=Ta->PC Tp gl 82 [Arg.mk .str f.2.1] [.bool] t) /\ ∀o:Bool,(((!(!m))&&f.2.2)=Ta->t o)->((bif (!m)then Ta else(bif f.2.2 then(!o)else Tc))=Ta->R ((s.head?==Td 45,(low,(f.1,(f.2.1,bl e)))),Tc)) /\ ((bif (!m)then Ta else(bif f.2.2 then(!o)else Tc))=Tc->((!((f.1:Bt).toList==((⟨#[48]⟩:Bt):Bt).toList))=Ta->(0<=(0:Int)/\(0:Int)<((f.1).size:Int))) /\ R ((s.head?==Td 45,(low,(f.1,(f.2.1,bl e)))),bif ((f.1:Bt).toList==((⟨#[48]⟩:Bt):Bt).toList)then Ta else((y0 f.1 (0:Int).toNat:Int) != 48))))):=by
  intro e low O k2;have z:(!(dD s).2.2||dC (fi s))=Ta/\ik s=low/\(if(dD s).2.2 then fi s else [])=e:=by
   cases w:(dD s).2.2 with
   |true=>obtain⟨a,b,c⟩:=O w;exact⟨by simp[a],b.symm,by simp[c]⟩
   |false=>obtain⟨a,b⟩:=k2 w;exact⟨rfl,by unfold ik;rw[w,a];rfl,by simp[b]⟩
  refine BE (l:=(dD s).1) (sep:=[46]) (p:=nT) (λc=>by simp[nT]) (by omega) ?_;refine nJ ⟨λx=>dC (Z4 s).2.1=x,λ_=>nJ rfl,λy F=>?_⟩;dsimp only;simp only[show(⟨#[48]⟩:Bt)=bl [48]from rfl,gZ,zx,Yg];change (_->dC (Z4 s).2.1=y)at F;show((bif (!dC (Z4 s).1)then Ta else(bif (Z4 s).2.2 then(!y)else Tc))=Ta->R ((s.head?==Td 45,(low,(bl (Z4 s).1,(bl (Z4 s).2.1,bl e)))),Tc)) /\ ((bif (!dC (Z4 s).1)then Ta else(bif (Z4 s).2.2 then(!y)else Tc))=Tc->((!decide ((Z4 s).1=[48]))=Ta->(0<=(0:Int)/\(0:Int)<((Z4 s).1.length:Int))) /\ R ((s.head?==Td 45,(low,(bl (Z4 s).1,(bl (Z4 s).2.1,bl e)))),bif decide ((Z4 s).1=[48])then Ta else(((((Z4 s).1[(0:Int).toNat]?).getD 0).toNat:Int) != 48)));have B:dC (Z4 s).1=Ta->(Z4 s).2.2=Ta->dC (Z4 s).2.1=y:=λa b=>F (by show((!(!dC (Z4 s).1))&&(Z4 s).2.2)=Ta;rw[a,b];rfl);refine⟨λi=>E ?_ _ _ _ _ _,λi=>⟨λ_=>?_,?_⟩⟩;unfold gU;cases q:dC (Z4 s).1 with
  |false=>simp
  |true=>
   rw[q]at i;cases hw:(Z4 s).2.2 with
   |false=>rw[hw]at i;simp at i
   |true=>rw[hw]at i;have:=B q hw;rw[this];simp at i;simp[i]
  all_goals
   have q:dC (Z4 s).1=Ta:=by
    cases q:dC (Z4 s).1 with
    |true=>rfl
    |false=>rw[q]at i;simp at i
   have N:=xB q
  omega;have J:(!(Z4 s).2.2||dC (Z4 s).2.1)=Ta:=by
   cases hw:(Z4 s).2.2 with
   |false=>rfl
   |true=>rw[q,hw]at i;have:=B q hw;rw[this];simpa using i
  have I:(bif decide ((Z4 s).1=[48])then Ta else(((((Z4 s).1[(0:Int).toNat]?).getD 0).toNat:Int) != 48))=((Z4 s).1==[48]||(Z4 s).1.head? != Td 48):=by rw[show(0:Int).toNat=0 from rfl,Ba N,Bool.cond_true_left,Om];simp
  have r:gU s=((Z4 s).1==[48]||(Z4 s).1.head? != Td 48):=by unfold gU;rw[z.1,q,J];simp
  rw[I];cases ho:((Z4 s).1==[48]||(Z4 s).1.head? != Td 48)with
  |true=>have:=M (r.trans ho);unfold gj at this;rw[z.2.1,z.2.2]at this;exact this
  |false=>exact E (r.trans ho) _ _ _ _ _
 intro K G;refine⟨λw=>?_,λw=>?_⟩;have n:(dD s).2.2=Ta:=w;refine vp (c:=45) (l:=(dD s).2.1) ?_;dsimp only;intro H C;have step:∀low e,low=ik s->e=fi s->H (bl e) (s.head?==Td 45) low (bl []) (bl []) (bl []):=by
  intro low e D A;refine C _ _ _ _ _ _ (nJ ⟨λi=>?_,λi=>?_⟩);refine E ?_ _ _ [] [] [];unfold gU;rw[n,<-A];have:dC e=Tc:=by simpa using i
  rw[this];rfl;refine G _ _ _ _ _ _ (u e low (λ_=>⟨by rw[<-A];simpa using i,D,A⟩) λh=>by rw[n]at h;cases h)
 have k:ik s=((dD s).2.1.head?==Td 45):=by unfold ik;rw[n];rfl
 refine⟨λi=>?_,λi=>?_⟩;have j:((dD s).2.1.head?==Td 45)=Tc:=by simpa using i
 rw[j];refine JH (c:=43) ?_;simp only[OS,if_false];refine step Tc _ (by rw[k,j]) ?_;unfold fi;rw[k,j];simp;have j:((dD s).2.1.head?==Td 45)=Ta:=by simpa using i
 rw[j];simp only[if_true];refine step Ta _ (by rw[k,j]) ?_;unfold fi;rw[k,j];simp;have n:(dD s).2.2=Tc:=w;have P:(dD s).2.1=[]:=(pC n).2;have:=u [] Tc (λh=>by rw[n]at h;cases h) λ_=>⟨rfl,rfl⟩;show K (bl (dD s).2.1) _ _ _ _ _;rw[P];exact G _ _ _ _ _ _ this
theorem IC{α β γ δ:Type}{B:α->β->γ->δ->Prop}{c:Bool}{a b:α}{x:β}{y:γ}{z:δ}(h:∀e,e=(bif c then a else b)->B e x y z):∀K:α->β->γ->δ->Prop,(∀e x y z,B e x y z->K e x y z)->(c=Ta->K a x y z)/\(c=Tc->K b x y z):= λK i=>⟨λf=>i _ _ _ _ (h _ (by subst f;rfl)),λf=>i _ _ _ _ (h _ (by subst f;rfl))⟩
theorem em{n:Int}(h:-4611686018427387904<=n/\n<=4611686018427387904):NB .i64 n=n:=wrap64 (by omega) (by omega)
set_option maxHeartbeats 1000000 in
theorem AB(U:s.length<=1152921504606846976){R:(Bool×Bt×Int)×Int->Prop}(h:R (iP (qu s).1,(qu s).2)):PC Tp gl 55 [Arg.mk .str (bl s)] [tN,.int .i64] R:=by
 apply Kv;refine CU (by omega) (λt=>?_) (λt a b c d e=>?_);rotate_left;refine pW ⟨λ_=>?_,λk=>by cases k⟩;have:gJ s=Te:=by unfold gJ;simp[t]
 unfold qu at h;rw[this]at h;exact h;have i:gJ s=Td (gj s):=by unfold gJ;simp[t]
 have J:=Aw i;obtain⟨P,L,I⟩:=DX i;unfold qu at h;rw[i]at h;simp only at h;generalize gj s=x at *;refine pW ⟨λk=>(by cases k),λ_=>?_⟩;simp only[zx];rw[em (by omega)];refine⟨λk=>?_,λk=>?_⟩;rw[zz (by simp at k;omega)]at h;exact h;rw[zv (by simp at k;omega)]at h;refine⟨λj=>?_,λj=>?_⟩;rw[zz (by simp at j;omega)]at h;exact h;rw[zv (by simp at j;omega)]at h;have B:x.whole.length+x.rest.length<=1000:=by simp at k;omega
 have S:x.exp.all we=Ta:=I;generalize M:x.exp.dropWhile (· == 48)=E at *;have q:E.all we=Ta:=by rw[<-M];exact Jk I
 have G:E.length<=9:=by simp at j;omega
 have N:zn E<10 ^ 9:=r8 G q;refine⟨λe _ _ _ p=>p.1=bl E/\p.2<=E.length/\e=(zn (E.take p.2):Int),λ_ _ _ _ p=>E.length-p.2,⟨rfl,by omega,by simp[zn]⟩,?_⟩;rintro e b1 b2 b3 ⟨_,p⟩ ⟨rfl,T,rfl⟩;simp only at T ⊢;rw[sL,nh];refine⟨λy=>⟨y,?_⟩,λy=>?_⟩;have f:p<E.length:=by simpa using y
 have V:=xO q f;have D:E.drop p=E[p]::E.drop (p+1):=Po f;rw[mF E p f,D,oU (by omega)];have O:=r8 (n:=9) (l:=E.take p) (by simp;omega) (AP q p);rw[FV (by omega) (by omega),em (n:=10*_) (by omega),em (n:=(_:Int)-48) (by omega),em (by omega)];simp only;refine⟨⟨trivial,by omega,?_⟩,by omega⟩;rw[AJ f];omega;have f:¬p<E.length:=by simpa using y
 have z:p=E.length:=by omega
 subst z;rw[N7];apply IC;intro u A;refine⟨by unfold ji;omega,?_⟩;rw[jm];refine pW ?_;rw[show(⟨#[]⟩:Bt)=bl []from rfl];simp only[gZ];have H:(x.whole++x.rest).all we=Ta:=by rw[List.all_append,nX P,L];rfl
 refine⟨λr=>?_,λr=>?_⟩;rw[zz (by simpa using r)]at h;exact h;have o:(x.whole++x.rest).dropWhile (· == 48)≠[]:=by simpa using r
 rw[zv o]at h;have F:=wh (x.whole++x.rest) (· == 48);rw[NH]at F;refine MW (by omega) ?_;have Q:=(AN H o).2.1;have C:=Fh H o (by rw[NH];exact B);simp only[zx,show((List.dropWhile (λx=>x==48) (x.whole++x.rest)).reverse.dropWhile (λx=>x==48)).reverse=yo (x.whole++x.rest)from rfl];have w:u=if x.low then-(zn E:Int)else(zn E:Int):=by rw[A];cases x.low <;> simp;exact em (by omega)
 have Y:-1000000000<=u/\u<=1000000000:=by rw[w];split <;> omega
 rw[em (n:=u-_) (by omega),em (n:=u-_+_) (by omega),em (by omega)];refine qs (n:=(x.neg,yo (x.whole++x.rest),u-(x.rest.length:Int)+(((x.whole++x.rest).dropWhile (· == 48)).length:Int)-((yo (x.whole++x.rest)).length:Int))) (by simp only;omega) ?_;rw[C];change R (iP (if -1000000<=(if x.low=Ta then-(zn E:Int)else(zn E:Int))-(x.rest.length:Int)+(((x.whole++x.rest).dropWhile (· == 48)).length:Int)-((yo (x.whole++x.rest)).length:Int)/\(if x.low=Ta then-(zn E:Int)else(zn E:Int))-(x.rest.length:Int)+(((x.whole++x.rest).dropWhile (· == 48)).length:Int)-((yo (x.whole++x.rest)).length:Int)<=1000000 then((x.neg,yo (x.whole++x.rest),(if x.low=Ta then-(zn E:Int)else(zn E:Int))-(x.rest.length:Int)+(((x.whole++x.rest).dropWhile (· == 48)).length:Int)-((yo (x.whole++x.rest)).length:Int)),0)else((Tc,[],0),4)).1,_)at h;rw[<-w]at h;refine⟨λm=>?_,λm=>?_⟩;rw[zv (by simp at m;omega)]at h;exact h;rw[zz (by simp at m;omega)]at h;exact h
end
section
variable {gl:Fr}
theorem kR{a b:Bs}(h:a.length+b.length<=4611686018427387904):ji ((bl a).size+(bl b).size):=by unfold ji;rw[zx,zx];omega
theorem wU(m:mC gl){n:Nm}(l:n.2.1.length<=4611686018427387904){R:Bt->Prop}(h:R (bl (W5 n))):PC Tp gl 40 [Arg.mk tN (iP n)] [.str] R:=by
 apply FG;refine qs l ⟨λf=>?_,λf=>?_⟩;have:yz n=Tc:=by simpa using f
 have e:W5 n=[]:=by unfold W5;simp[this]
 rw[e]at h;exact h;have j:yz n=Ta:=by simpa using f
 obtain⟨s,o,r⟩:=xP j;unfold W5 at h;rw[zz j]at h;simp only[show(⟨#[]⟩:Bt)=bl []from rfl,gZ];refine⟨λc=>?_,λc=>?_⟩;rw[zz (by simpa using c)]at h;exact h;rw[zv (by simpa using c)]at h;intro K p;have key:∀t:Bs,t=(if n.1 then [45]else [])++n.2.1->K (bl t):=by
  intro t i;have q:t.length<=1001:=by rw[i];split <;> simp <;> omega
  rw[<-i]at h;refine p _ ⟨λb=>?_,λb=>?_⟩;rw[zv (by simpa using b)]at h;have k:=Go.X.itoa_len n.2.2;refine xC m (by omega) (by omega) ?_;refine⟨kR (a:=[101]) (by simp;omega),?_⟩;rw[show(⟨#[101]⟩:Bt)=bl [101]from rfl,jm,jm];exact⟨kR (by simp;omega),h⟩;rw[zz (by simpa using b),Oe]at h;exact h
 refine⟨λb=>⟨kR (a:=[45]) (by simp;omega),?_⟩,λb=>?_⟩;rw[show(⟨#[45]⟩:Bt)=bl [45]from rfl,jm];exact key _ (by rw[zz (by simpa using b)]);exact key _ (by rw[zv (by simpa using b)];rfl)
theorem Fu(j:mC gl){n:Int}(i:-9223372036854775808<=n)(f:n<=9223372036854775807){R:Bool×Bt×Int->Prop}(h:R (iP (qu (Lib.itoa n)).1)):PC Tp gl 41 [Arg.mk (.int .i64) n] [tN] R:=by
 apply Ek;refine xC j i f (AB ?_ h);have:=Go.X.itoa_len n;have b:∀u:Nat,u<10 ^ 20->(Lib.decDigits u).length<=20:=by
  have:∀(k u:Nat),u<10 ^ (k+1)->(Lib.decDigits u).length<=k+1:=by
   intro k;induction k with
   |zero=>intro u c;rw[Lib.decDigits,dif_pos (by simpa using c)];simp
   |succ k e=>intro u c;rw[Lib.decDigits];split;simp;have:=e (u / 10) (by rw[Nat.pow_succ]at c;omega);simp;omega
  exact this 19
 have:(Lib.itoa n).length<=21:=by unfold Lib.itoa;split;have:=b n.natAbs (by omega);simp;omega;have:=b n.toNat (by omega);omega
 omega
end
end Go.X
end
section
namespace Go.X
open Go Go.Proofs Go.Shelf Go.RowKit
section
def F2:Go.Shelf.Ren:=⟨fun|196=>146|259=>168|n=>n,fun|9=>9|4=>4|3=>3|5=>5|12=>12|119=>211|0=>0|46=>85|139=>214|138=>213|53=>115|n=>n,fun|3=>1|4=>2|n=>n⟩
theorem Eo:Go.Proofs.Lays.n196 Tp F2:=by constructor <;> intros <;> kernel_rfl
open Go.RowKit Go.Lib in
theorem DV(s:Bt)(w:World)(c:s.size<=9223372036854775807)(b:Lib.Utf8Tabs 1 2 w): Calls Tp 146 #[.string s] w λe w'=>e=.returned (.bool (Lib.validD s.data.toList))/\Below w.heap.size w w':=Any.utf8_ValidString Eo s w c b
end
end Go.X
end
section
namespace Go.X
section
variable {l:Bs}
theorem II{n:Int}{k:Nat}(b:n=(k:Int)):(bl l).extract n.toNat ((l.length:Int)).toNat=bl (l.drop k):=by subst b;rw[NE,NE,vJ,Pe (by simp)]
theorem uy(l:Bs):Lib.validD l=dF l:=by
 by_cases h:l=[];subst h;rw[vU];rfl;rw[Lib.validD_step l h,W2 h,Lib.decodeL_N,uy (l.drop _)];have e:ft (dec l)=decide ((dec l).1=65533/\(dec l).2=1):=by unfold ft;rw[Bool.decide_and];rfl
 rw[e];by_cases c:(dec l).1=65533/\(dec l).2=1;rw[zG c];exact zz c;rw[zH c];exact zv c
termination_by l.length
decreasing_by
 have h1:=Yf l;have h2:0<l.length:=PQ.2 h;unfold dec at h1;simp only[ON];omega
theorem MA{gl:Fr}(b:Tabs gl)(e:l.length<=4611686018427387904){R:Bool->Prop}(h:R (dF l)):PC Tp gl 146 [Arg.mk .str (bl l)] [.bool] R:= PC.of_scal rfl (λ_=>Dk _) (by rw[<-uy]at h;exact h) λw c=>DV (bl l) w (by rw[zx];omega) (b.at c)
end
end Go.X
end
section
namespace Go.X
open Go Go.Lib
section
theorem Dd(l:Bs)(a:Nat):l.foldl (λn c=>10*n+(c.toNat-48)) a=a*10 ^ l.length+zn l:=by
 induction l generalizing a with
 |nil=>simp[zn]
 |cons c t b=>
  simp only[List.foldl_cons,NU,zn];rw[b,b (10*0+(c.toNat-48)),Nat.pow_succ];have:(10*a+(c.toNat-48))*10 ^ t.length=a*(10 ^ t.length*10)+(c.toNat-48)*10 ^ t.length:=by rw[O2,QA 10 a,Nat.mul_assoc,QA 10 (10 ^ t.length)]
  rw[this];simp;omega
theorem wW(a b:Bs):zn (a++b)=zn a*10 ^ b.length+zn b:=by rw[zn,List.foldl_append,Dd];rfl
theorem KZ(n:Nat):zn (Ph n 48)=0:=by
 induction n with
 |zero=>rfl
 |succ n b=>rw[List.replicate_succ];exact b
theorem t7:∀(l:Bs) (b:Nat),l.all we=Ta->b*10 ^ l.length+zn l<10 ^ 19->parseUintM (2 ^ 64-1) b l=.ok (b*10 ^ l.length+zn l)
 |[],b,_,_=>by simp[parseUintM,zn]
 |c::t,b,hd,hl=>by
  rw[List.all_cons,NP]at hd
  have i:48<=c.toNat/\c.toNat<=57:=by simpa[we]using hd.1
  have e:zn (c::t)=(c.toNat-48)*10 ^ t.length+zn t:=by
   have:=wW [c] t
   rw[List.singleton_append]at this
   rw[this];simp[zn]
  have f:(b*10+(c.toNat-48))*10 ^ t.length+zn t=b*10 ^ (c::t).length+zn (c::t):=by
   rw[e,NU,Nat.pow_succ,O2,Nat.mul_assoc,QA 10 (10 ^ t.length)];omega
  have h:1<=10 ^ t.length:=Nat.one_le_pow _ _ (by decide)
  have j:b*10+(c.toNat-48)<=b*10 ^ (c::t).length+zn (c::t):=by
   rw[<-f]
   calc b*10+(c.toNat-48)=(b*10+(c.toNat-48))*1:=by omega
    _<=(b*10+(c.toNat-48))*10 ^ t.length:=Nat.mul_le_mul_left _ h
    _<=_:=by omega
  rw[parseUintM,zz i,zv (by omega),zv (by omega),t7 t _ hd.2 (by rw[f];exact hl),f]
def Yh(n:Nm):Bs:=n.2.1++Ph n.2.2.toNat 48
theorem E6(n:Nm):zn (Yh n)=zn n.2.1*10 ^ n.2.2.toNat:=by rw[Yh,wW,KZ,PG,Pw]
theorem Nf{n:Nm}(h:yz n=Ta):n.2.1.all we=Ta:=by unfold yz iu at h;rcases Pi _ _ ▸ h with h|h;simp at h;rw[h.2.1];rfl;simp only[NP]at h;exact nX h.1.1.1.1.1
theorem E3{n:Nm}(h:yz n=Ta):(Yh n).all we=Ta:=by rw[Yh,List.all_append,Nf h,Pj,N3];intro x b;rw[List.mem_replicate]at b;rw[b.2];rfl
theorem K4{l:Bs}(neg:Bool)(e:l.all we=Ta)(j:l.length<=19)(b:l≠[]):
  parseIntB 64 ((if neg then [45]else [])++l)=if neg then(if zn l<=9223372036854775808 then .ok (-(zn l:Int))else .range)else(if zn l<=9223372036854775807 then .ok (zn l:Int)else .range):=by
 have k:zn l<10 ^ 19:=r8 j e;have f:=t7 l 0 e (by rw[QS];omega);rw[QS,NZ]at f;cases neg with
 |true=>simp only[if_true,List.singleton_append];unfold parseIntB;simp only[show(45:UInt8).toNat=45 from rfl,or_true,if_true];unfold parseUintB;rw[zv b,f];simp only[not_true_eq_false,false_and,if_false,true_and];split;rename_i h;rw[zv (by omega)];rename_i h;rw[zz (by omega)]
 |false=>
  simp only[OS,if_false,OU];obtain⟨c,t,rfl⟩:=Px b;have m:48<=c.toNat/\c.toNat<=57:=by rw[List.all_cons,NP]at e;simpa[we]using e.1
  unfold parseIntB;simp only;rw[zv (by omega)];unfold parseUintB;rw[zv (by simp),f];have i:¬c.toNat=45:=by omega
  simp only[i,not_false_eq_true,true_and,false_and,if_false];split;rename_i h;rw[zv (by omega)];rename_i h;rw[zz (by omega)]
theorem Lp{a b:Nat}(k:a<18446744073709551616)(j:b<18446744073709551616):NB .u64 (((OT (Oz .u64) (a:Int)) &&& (OT (Oz .u64) (b:Int))).toNat:Int)=((a &&& b:Nat):Int):=by
 have c:Oz .u64=64:=rfl;have e:((OT (Oz .u64) (a:Int)) &&& (OT (Oz .u64) (b:Int))).toNat=a &&& b:=by rw[BitVec.toNat_and,BitVec.ofInt_natCast,BitVec.ofInt_natCast,BitVec.toNat_ofNat,BitVec.toNat_ofNat,c,Nat.mod_eq_of_lt (by omega),Nat.mod_eq_of_lt (by omega)]
 rw[e];have f:a &&& b<2 ^ 64:=Nat.and_lt_two_pow _ (by omega);unfold NB;have i:(2:Int) ^ Oz .u64=18446744073709551616:=by decide
 simp only[i];have h:Rv .u64=Tc:=rfl;simp only[h,Bool.false_and,OS,if_false];omega
theorem Gb{n:Int}(f:0<=n)(e:n<18446744073709551616):NB .u64 n=n:=by
 unfold NB;have b:(2:Int) ^ Oz .u64=18446744073709551616:=by decide
 simp only[b];have c:Rv .u64=Tc:=rfl;simp only[c,Bool.false_and,OS,if_false];omega
end
section
variable {v x:Tr} {l:List Tr} {k:Nat}
mutual
def dx:Tr->Nat | .mk _ _ _ xs=>1+J2 xs
def J2:List Tr->Nat | []=>0|x::l=>dx x+J2 l
end
mutual
def er:Tr->Nat | .mk _ _ _ xs=>dL xs+1
def dL:List Tr->Nat | []=>0|x::l=>max (er x) (dL l)
end
mutual
def dO(p:Tr->Bool):Tr->Bool | .mk k s ks xs=>p (.mk k s ks xs)&&hO p xs
def hO(p:Tr->Bool):List Tr->Bool | []=>Ta|x::l=>dO p x&&hO p l
end
mutual
def fI(m:Nat):Tr->Prop | .mk _ s ks xs=>(s.size<=m/\ks.length<=m/\∀k∈ks,k.size<=m)/\iC m xs
def iC(m:Nat):List Tr->Prop | []=>True|x::l=>fI m x/\iC m l
end
theorem Yi(v:Tr):dx v=1+J2 v.items:=by cases v;rw[dx]
theorem kX(v:Tr):er v=dL v.items+1:=by cases v;rw[er]
theorem Qw(p:Tr->Bool)(v:Tr):dO p v=(p v&&hO p v.items):=by cases v;rw[dO]
theorem mK(m:Nat)(v:Tr):fI m v↔(v.text.size<=m/\v.keys.length<=m/\∀k∈v.keys,k.size<=m)/\iC m v.items:=by cases v;rw[fI]
theorem nE{m:Nat}:∀{l:List Tr},iC m l↔∀x∈l,fI m x
 |[]=>by simp[iC]
 |x::l=>by rw[iC,nE];simp
theorem KV{m:Nat}(h:fI m v)(b:x∈v.items):fI m x:=nE.1 ((mK m v).1 h).2 x b
theorem wl(p:Tr->Bool):∀l:List Tr,hO p l=l.all (dO p)
 |[]=>rfl
 |x::l=>by rw[hO,wl p l];rfl
theorem tD:∀a b:List Tr,J2 (a++b)=J2 a+J2 b
 |[],b=>by simp[J2]
 |x::l,b=>by rw[Ox,J2,J2,tD l b];omega
theorem Cr:∀a b:List Tr,dL (a++b)=max (dL a) (dL b)
 |[],b=>by simp[dL]
 |x::l,b=>by rw[Ox,dL,dL,Cr l b];omega
theorem uX{x:Tr}:∀{l:List Tr},x∈l->dx x<=J2 l
 |y::l,h=>by rw[J2];rcases NI.1 h with rfl|h;omega;have:=uX h;omega
theorem Zf(h:x∈v.items):dx x<dx v:=by have:=uX h;rw[Yi v];omega
theorem ko:∀l:List Tr,l.length<=J2 l
 |[]=>by simp[J2]
 |x::l=>by have:=ko l;rw[J2,NU,Yi];omega
theorem iU(v:Tr):0<dx v:=by rw[Yi];omega
theorem KW(b:k<l.length):J2 (l.take (k+1))=J2 (l.take k)+dx l[k]:=by rw[Oc b,tD];simp[J2]
theorem Hw(b:k<l.length):dL (l.take (k+1))=max (dL (l.take k)) (er l[k]):=by rw[Oc b,Cr];simp[dL]
mutual
theorem Nq:∀v:Tr,er v<=dx v
 |.mk _ _ _ xs=>by rw[er,dx];have:=sB xs;omega
theorem sB:∀l:List Tr,dL l<=J2 l
 |[]=>by simp[dL]
 |x::l=>by rw[dL,J2];have:=Nq x;have:=sB l;omega
end
def wz(ks:List Bt):Bool:=ks.all (λk=>dF (lb k))&&decide ks.Nodup
def fX(s:Bs):Nm×Bool:=((qu s).1,(qu s).2==0&&decide (W5 (qu s).1=s))
def pU(s:Bs):Bool:=(fX s).2&&(pg (fX s).1).2&&decide (0<=(pg (fX s).1).1)
def zy(v:Tr):Bool:=
 if v.kind=1 then lb v.text==[]&&v.keys.isEmpty&&v.items.isEmpty
 else if v.kind=2 then(lb v.text==[116,114,117,101]||lb v.text==[102,97,108,115,101])&&v.keys.isEmpty&&v.items.isEmpty
 else if v.kind=3 then(fX (lb v.text)).2&&v.keys.isEmpty&&v.items.isEmpty
 else if v.kind=4 then dF (lb v.text)&&v.keys.isEmpty&&v.items.isEmpty
 else if v.kind=5 then lb v.text==[]&&v.keys.isEmpty
 else if v.kind=6 then wz v.keys&&decide (v.keys.length=v.items.length)&&lb v.text==[]
 else if v.kind=7 then pU (lb v.text)&&v.keys.isEmpty&&v.items.isEmpty
 else Tc
def Yj(v:Tr):Bool:=decide (dx v<=4096)&&decide (er v<=32)
def fm(v:Tr):Bool:=Yj v&&dO zy v
def qz(v:Tr):Bool:=Yj v&&dO (λx=>decide (x.kind≠7)&&zy x) v
structure Sm (v:Tr):Prop where
 sz:dx v<=1000000000000
 tx:fI 1048576 v
theorem Sm.item(h:Sm v)(b:x∈v.items):Sm x:=⟨by have:=Zf b;have:=h.sz;omega,KV h.tx b⟩
theorem Sm.text(h:Sm v):(lb v.text).length<=1048576:=by rw[mf];exact((mK _ v).1 h.tx).1.1
theorem Sm.key(h:Sm v){k:Bt}(b:k∈v.keys):(lb k).length<=1048576:=by rw[mf];exact((mK _ v).1 h.tx).1.2.2 k b
end
end Go.X
end
section
namespace Go.X
section
variable {gl:Fr} {l:Bs}
theorem vy(s:Tabs gl)(y:l.length<=4611686018427387904){R:Int×Bool->Prop}(h:∀k,R (k,dF l)):PC Tp gl 118 [Arg.mk .str (bl l)] [.int .i64,.bool] R:=by
 apply Ha;refine MA s y ⟨λn=>?_,λn=>?_⟩;have:=h ((bl l).size:Int);rw[n]at this;exact this;refine⟨λp=>p.1=bl l/\p.2<=l.length/\dF (l.drop p.2)=Tc,λp=>l.length-p.2,⟨rfl,by omega,by simpa using n⟩,?_⟩;rintro⟨_,p⟩ ⟨rfl,x,f⟩;simp only at x f ⊢;rw[sL,nh];refine⟨λj=>⟨j,j,λq=>?_,λq=>⟨?_,?_⟩⟩,λj=>?_⟩;have c:p<l.length:=by simpa using j
 have b:l.drop p≠[]:=λe=>by have:=congrArg OA e;simp at this;omega
 have o:ft (dec (l.drop p))=Tc:=by
  unfold ft;have:¬(dec (l.drop p)).1=65533:=λe=>by rw[e]at q;simp at q
  simp[this]
 rw[W2 b,o]at f;simp only[OS,if_false,QO]at f;rw[mF l p c];have t:=Yf (l.drop p);have i:=pY b;simp only[ON]at i;exact⟨⟨trivial,by omega,f⟩,by omega⟩;have c:p<l.length:=by simpa using j
 rw[zx];omega;have c:p<l.length:=by simpa using j
 have b:l.drop p≠[]:=λe=>by have:=congrArg OA e;simp at this;omega
 rw[zx,II (k:=p) rfl];refine LI s ?_;have r:(bl (l.drop p)).size≠0:=by rw[zx];simp;omega
 have u:Lib.decodeGo (bl (l.drop p))=dec (l.drop p):=by unfold Lib.decodeGo;rw[zv r,qF,Zc,Pv]
 rw[u];refine⟨λm=>?_,λm=>?_⟩;have:=h (p:Int);have w:dF l=Tc:=n;rw[w]at this;exact this;have o:ft (dec (l.drop p))=Tc:=by
  unfold ft;have:¬(dec (l.drop p)).2=1:=λe=>by rw[e]at m;simp at m
  simp[this]
 rw[W2 b,o]at f;simp only[OS,if_false,QO]at f;rw[mF l p c];have t:=Yf (l.drop p);have i:=pY b;simp only[ON]at i;exact⟨⟨trivial,by omega,f⟩,by omega⟩;have:l.drop p=[]:=Pd (by(have:¬p<l.length:=by simpa using j);omega);rw[this,vU]at f;cases f
theorem uJ(c:Tabs gl)(b:l.length<=4611686018427387904){R:Bool->Prop}(h:R (dF l)):PC Tp gl 93 [Arg.mk .str (bl l)] [.bool] R:=by apply Nn;exact vy c b λk=>h
structure GL (gl:Fr):Prop where
 tabs:Tabs gl
 pow:mC gl
 max:vz gl
 err:Bq gl
theorem W8(s:Bs)(h:s.length<=1152921504606846976):(qu s).1.2.1.length<=4611686018427387904:=by
 unfold qu;split;simp;rename_i x f;have i:=Aw f;split;simp;split;simp;simp only;generalize (if x.low=Ta then-(zn (x.exp.dropWhile (· == 48)):Int)else zn (x.exp.dropWhile (· == 48)))=e;split;simp;rename_i c;have b:(yo (x.whole++x.rest)).length<=(x.whole++x.rest).length:=by unfold yo;rw[List.length_reverse];refine OD (wh _ _) ?_;rw[List.length_reverse];exact wh _ _
 rw[NH]at b;split;show(yo (x.whole++x.rest)).length<=_;omega;simp
theorem rj(f:GL gl){s:Bs}(b:s.length<=1152921504606846976){R:(Bool×Bt×Int)×Bool->Prop}(h:R (iP (fX s).1,(fX s).2)):PC Tp gl 92 [Arg.mk .str (bl s)] [tN,.bool] R:=by
 apply GI;refine AB b ?_;refine⟨λt=>t=bl (W5 (qu s).1),λ_=>wU f.pow (W8 s b) rfl,λr c=>?_⟩;have e:(bif ((qu s).2==0)then(r.toList==(bl s).toList)else Tc)=(fX s).2:=by
  unfold fX;cases hc:((qu s).2==0)with
  |false=>rfl
  |true=>rw[c hc,zI,gZ];rfl
 simp only at e ⊢;rw[e];exact h
theorem Im(n:Nat):Lib.repeatL [48] n=Ph n 48:=by
 induction n with
 |zero=>rfl
 |succ n b=>rw[Lib.repeatL,b];rfl
theorem KB(y:GL gl){n:Nm}(B:n.2.1.length<=4611686018427387904){R:Int×Bool->Prop}(h:R (pg n)):PC Tp gl 119 [Arg.mk tN (iP n)] [.int .i64,.bool] R:=by
 apply Gr;refine qs B ?_;unfold pg at h;cases hr:yz n with
 |false=>rw[hr]at h;exact⟨λ_=>by simpa using h,λq=>by simp at q⟩
 |true=>
  obtain⟨E,A,D⟩:=xP hr;rw[hr]at h;simp only[Pj]at h;simp only[zx];rw[em (by omega)];refine⟨λq=>?_,λq=>?_⟩;rw[zv]at h;exact h;simp at q ⊢;omega;have x:0<=n.2.2/\(n.2.1.length:Int)+n.2.2<=19:=by simp at q;omega
  rw[zz (by simp;omega)]at h;rw[<-E6]at h;obtain⟨e,w⟩:∃e:Nat,n.2.2=(e:Int):=⟨n.2.2.toNat,by omega⟩;show PC Tp gl 147 [Arg.mk .str (bl [48]),Arg.mk (.int .i64) n.2.2] [.str] _;rw[w];refine tM (by omega) (by rw[zx];simp;omega) ?_;rw[Zc,Im,jm];have k:n.2.1++Ph e 48=Yh n:=by rw[Yh,w,NE]
  have o:(Yh n).length<=19:=by rw[<-k];simp;omega
  have r:=E3 hr;rw[k];refine⟨kR (a:=n.2.1) (by rw[PG];omega),?_⟩;rw[show(⟨#[]⟩:Bt)=bl []from rfl,show(⟨#[45]⟩:Bt)=bl [45]from rfl];simp only[jm];intro K C;have key:∀t:Bs,t=(if n.1 then [45]else [])++Yh n->K (bl t):=by
   intro t b;refine C _ ⟨λl=>?_,λl=>?_⟩;have u:t=[]:=by have:=gZ t [];rw[this]at l;simpa using l
   rw[u]at b;have p:n.1=Tc:=by cases hb:n.1 <;> simp[hb]at b;rfl
   have i:Yh n=[]:=by simp[p]at b;exact b
   rw[p,i]at h;exact h;have m:t≠[]:=by intro e;rw[e,gZ]at l;simp at l
   refine Gn y.err (by rw[zx,b];split <;> simp <;> omega) ?_;rw[Zc,b];have i:Yh n≠[]:=by
    intro s;cases hb:n.1 with
    |false=>rw[b,hb,s]at m;exact m rfl
    |true=>
     have z:n.2.1=[]:=by rw[Yh]at s;exact(List.append_eq_nil_iff.1 s).1
     have:=Hg hr z;unfold iu at this;rw[hb]at this;simp at this
   unfold td;rw[K4 n.1 r o i];cases hb:n.1 with
   |true=>rw[hb]at h;simp only[if_true]at h ⊢;by_cases j:zn (Yh n)<=9223372036854775808;rw[zz (by omega)]at h;rw[zz j];exact⟨λc=>(by cases c),λ_=>h⟩;rw[zv (by omega)]at h;rw[zv j];exact⟨λ_=>h,λc=>(by cases c)⟩
   |false=>rw[hb]at h;simp only[OS,if_false]at h ⊢;by_cases j:zn (Yh n)<=9223372036854775807;rw[zz (by omega)]at h;rw[zz j];exact⟨λc=>(by cases c),λ_=>h⟩;rw[zv (by omega)]at h;rw[zv j];exact⟨λ_=>h,λc=>(by cases c)⟩
  refine⟨λf=>⟨kR (a:=[45]) (by simp;omega),?_⟩,λf=>?_⟩;exact key _ (by rw[zz (by simpa using f)]);exact key _ (by rw[zv (by simpa using f)];rfl)
end
end Go.X
end
section
namespace Go.Proofs.YtlpdhcjkhfkfmaaGreatDoor
open Go Go.X Go.ChangeShapes Go.WideShapes Go.ChangeAt Go.RowKit Go.Lib
open Go.ChangeMaps (open_string shut_string)
set_option linter.unusedVariables false
section
variable {H:Type} {g:Nat} {t:TypeId}
theorem Tryz.own:ownKnob NS.godebug=none:=by kernel_rfl
theorem Tryz.laidOut:laidOutB NS=true:=by kernel_rfl
theorem wm{enc:TypeId×Value->H}{a:Assume}{C:Checked}{os:Os}{f:FuncId}{fn:Func}{s:ChangeSpec}{l:List PathCond}{apart o h n:Bool}{X:World->Array Value->Prop} (M:∀(w w':World) (args:Array Value),w.heap=w'.heap->X w args->X w' args) (own:ownKnob C.prog.godebug=none) (p:os.Started) (q:C.prog.inits.idxOf? f=none) (E:C.prog.funcs[f]?=some fn) (m:∃(w:World) (b:Tape) (i:Input),w.os=os/\(w.forCall b i).Shaped C.prog/\i.vars=[]/\Input.okWide C.prog (w.forCall b i) .any w.heap.size f i /\ ((s.pre enc C.prog fn l apart (w.forCall b i).memory i.args/\X (w.forCall b i).memory i.args)/\sizedMet enc C.prog fn (OpenSpec.ofChange s) apart (w.forCall b i).memory i.args)/\a.holds C.prog (lone (Frame.enter C.prog f i.args .normal) [] (w.forCall b i))) (k:∀(W:World) (base:Nat) (args:Array Value) (z y:List (DataW H)) (c:List MemPlace),(∀(j:Nat) t v,fn.params[j]?=some t->args[j]?=some v->Value.okWide C.prog W .any base t v) -> DataW.Whole enc C.prog fn.params.toList s.vars apart W args.toList z y c -> (DataW.weightsEach C.prog (fn.params.toList++s.plain.varTypes C.prog) (z++y)).all (·<=reachBytes)=true -> X W args->W.ShapedOpen C.prog -> Calls C.prog f args W λe J=>∃v,e=.returned v/\s.post enc C.prog fn apart o h n W args v J):
  ReturnsInHanded a C os f .any (λw args=>(s.pre enc C.prog fn l apart w args/\X w args)/\sizedMet enc C.prog fn (OpenSpec.ofChange s) apart w args) (s.post enc C.prog fn apart o h n):=by
 refine returnsInHanded_of_calls own p q m ?_;intro w b i _ D _ G r A;obtain⟨_,_,_,F,x,_,_,_,_,u⟩:=G;have e:F=fn:=NY (x.symm.trans E);subst e;obtain⟨⟨⟨z,y,c,I,Q⟩,P⟩,L⟩:=r;have B:=DataW.Whole.of_heap (w':=w.forCall b i) (by rfl) I;refine(k (w.forCall b i) w.heap.size i.args z y c u B (L.weights I) (M _ _ _ (by rfl) P) D).mono λe J ⟨v,O,N⟩=>?_;subst O;exact ChangeSpec.post_blind N
theorem sG{P:Program}{W:World}{n:String}{k:IntKind}{l:List Int}{t e:TypeId}{m:Nat}(o:P.globalNamed n=some g)(q:(P.globals[g]?).map (·.type)=some t)(u:P.underlying t=some (.array m e))(s:P.underlying e=some (.int k))
  (i:P.cellsOf e=1) (j:P.cellsOf t=m) (h:VarReads P W n (tabData k l)):∃cs:Array Value,Fz W g=some cs/\cs.toList=l.map λz=>OH k z:=by
 obtain⟨g',t',cs,fuel,p,f,c,b,r⟩:=h;obtain rfl:=NY (o.symm.trans f);obtain rfl:=NY (q.symm.trans c);exact⟨cs,Fz.var o b,cells_of_tab u s i j r⟩
theorem EA{W : World}(h : VarReads Tryz.prog W "unicode/utf8.first" Pinned.utf8First): ∃ cs : Array Value, Fz W 1 = some cs ∧ ∀ c, c < 256 → cs[c]? = some (.int .u8 (Lib.firstT c)) := by rw[Pinned.utf8First_eq]at h;obtain⟨cs,h1,h2⟩:=sG (g:=1) (t:=211) (e:=5) (m:=256) (by kernel_rfl) (by kernel_rfl) (by kernel_rfl) (by kernel_rfl) (by kernel_rfl) (by kernel_rfl) h;refine⟨cs,h1,λc hc=>?_⟩;rw[<-Array.getElem?_toList,h2];simp[firstTab,hc]
theorem Hh{W : World}(h : VarReads Tryz.prog W "unicode/utf8.acceptRanges" acceptData): ∃ cs : Array Value, Fz W 2 = some cs ∧ ∀ i, i < 16 → cs[2 * i]? = some (.int .u8 (Lib.accLo i)) ∧ cs[2 * i + 1]? = some (.int .u8 (Lib.accHi i)) := by
 obtain⟨g,t,cs,fuel,p,hg,hty,hvar,hd⟩:=h;obtain rfl := Option.some.inj ((show Tryz.prog.globalNamed "unicode/utf8.acceptRanges" = some 2 by kernel_rfl).symm.trans hg);obtain rfl:=Option.some.inj ((show(Tryz.prog.globals[2]?).map (·.type)=some 214 by kernel_rfl).symm.trans hty);refine⟨cs,Fz.var hg hvar,λi hi=>?_⟩;obtain⟨fuel',d,q,hdi,he⟩:=array_elem (show Tryz.prog.underlying 214=some (.array 16 213)by kernel_rfl) hd i hi;simp only[List.getElem?_map,List.getElem?_range hi,Option.map_some,Option.some.injEq]at hdi;subst hdi;have hc:Tryz.prog.cellsOf 213=2:=by kernel_rfl
 have c5:NS.cellsOf 5=1:=by kernel_rfl
 have u5:NS.underlying 5=some (.int .u8):=by kernel_rfl
 rw[hc]at he;have hcs:=ints_of_struct Tryz.underlying213 (λj f hj=>by
  match j,hj with
  |0,hj=>simp at hj;subst hj;exact⟨u5,rfl,c5⟩
  |1,hj=>simp at hj;subst hj;exact⟨u5,rfl,c5⟩
  |j+2,hj=>simp at hj) (by rw[hc];rfl) he
 have e0:=congrArg (·[0]?) hcs;have e1:=congrArg (·[1]?) hcs;simp only[N4,Oj]at e0 e1;constructor;rw[<-OF];simpa[QA]using e0;rw[<-OF];simpa[QA]using e1
theorem FT{W : World}{d : DataW Unit}(hd : d = tabData .u64 Lib.pow10Tab)(h : VarReads Tryz.prog W "internal/strconv.uint64pow10" d): mC (Fz W) := by subst hd;obtain⟨cs,h1,h2⟩:=sG (g:=0) (t:=206) (e:=115) (m:=20) (by kernel_rfl) (by kernel_rfl) (by kernel_rfl) (by kernel_rfl) (by kernel_rfl) (by kernel_rfl) h;exact⟨_,cs,by kernel_rfl,h1,by rw[<-h2]⟩
theorem vq{W:World}{n:String}{ms:Array (String×TypeId)}{m:String}{d:DataW Unit}(j:NS.globalNamed n=some g)(l:(NS.globals[g]?).map (·.type)=some t)(r:NS.underlying t=some (.interface ms))(h:VarReads NS W n (.iface m d)):
  ∃(cs:Array Value) (e:Value),Fz W g=some cs/\cs[0]?=some e/\(e=.nilIface\/∃k q,e=.iface k q):=by
 obtain⟨g',t',cs,fuel,p,i,c,b,o⟩:=h;obtain rfl:=NY (j.symm.trans i);obtain rfl:=NY (l.symm.trans c);obtain⟨s,u,v,f,_,_⟩:=iface_of_trod r o;exact⟨cs,.iface u v,Fz.var j b,by rw[<-OF,f];rfl,.inr ⟨u,v,rfl⟩⟩
theorem HR{W:World}(h:W.ShapedOpen NS):vz (Fz W):=by obtain⟨m,f⟩:=cell_of_shapedOpen_int (P:=NS) (g:=5) (t:=3) (zero:=#[.int .i64 0]) (k:=.i64) h (by decide +kernel) (by kernel_rfl) rfl (by kernel_rfl) (by kernel_rfl) (by kernel_rfl);obtain⟨b,o,c,e,j,i⟩:=Fz.cell f;cases e;exact⟨c,m,j,i⟩
def Z5:List (String×DataW Unit):=Rows.mappingTellsRow.laid
theorem lL{W:World}(h:laidMetH NS Z5 W)(c:W.ShapedOpen NS):GL (Fz W):=by
 have f:laidMet NS Z5 W:=by rw[MakeChecks.laidMetH_plain _ _ _ (by kernel_rfl)]at h;exact h
 have b:∀(i:Nat) (n:String) (d:DataW Unit),Z5[i]?=some (n,d)->VarReads NS W n d:=λi n d e=>Go.Lib.laidMet.reads f (List.mem_of_getElem? e);exact {
  tabs:=⟨EA (b 6 _ _ rfl),Hh (by
   have e:(Rows.laid_unicode_utf8_acceptRanges:DataW Unit)=acceptData:=by kernel_rfl
   rw[<-e];exact b 3 _ _ rfl)⟩
  pow:=FT (by kernel_rfl) (b 2 _ _ rfl)
  max:=HR c
  err:=⟨vq (g:=6) (t:=190) (by kernel_rfl) (by kernel_rfl) Tryz.underlying190 (b 5 _ _ rfl),vq (g:=7) (t:=190) (by kernel_rfl) (by kernel_rfl) Tryz.underlying190 (b 4 _ _ rfl)⟩ }
noncomputable def iS(os:Os):World:=World.laidAll NS os Z5
theorem Z6(os:Os)(args:Array Value):((iS os).forCall (λ_ _=>0) ⟨#[],args,[]⟩).Shaped NS:=World.shaped_of_ZipB (by kernel_rfl) (by kernel_rfl)
theorem lO(os:Os)(args:Array Value):laidMetH NS Z5 ((iS os).forCall (λ_ _=>0) ⟨#[],args,[]⟩).memory:=by rw[MakeChecks.laidMetH_plain _ _ _ (by kernel_rfl)];exact laidMet_laidAll _ (by kernel_rfl) (by kernel_rfl)
theorem IB{enc:TypeId×Value->H}{W:World}{sp:Nat->Bool}{held:Bool}{fuel:Nat}{cs:List Value}{x:DataW H×List MemPlace}(h:DataW.trod enc NS W 0 sp held fuel 22 cs=some x)(b:gQ NS 22 x.1):∃xs:List ByteArray,Rd (Fz W) (.row .str) xs cs:= Kw Tryz.underlying22 Tryz.underlying9 (by kernel_rfl) (by decide +kernel) h b
theorem y9{ts:List TypeId}{b:List (DataW H)}(h:(DataW.weightsEach NS ts b).all (·<=reachBytes)=true){j:Nat}{d:DataW H}(c:ts[j]?=some t)(f:b[j]?=some d):gQ NS t d:=λn e=>by have:=N3.1 h n (DataW.weights_mem_each c f n e);simpa using this
end
end Go.Proofs.YtlpdhcjkhfkfmaaGreatDoor
end
section
namespace Go.X
section
theorem XF{vs:List Value}{f:FuncId}{fn:Func}{h:za}{R:Value->za->Prop}{F:Prop}(pl:Plan)(rs:List ResultVar)(n:Nat)(i:NS.funcs[f]?=Td fn)(H:F)(b:Zw fn=Ta:=by kernel_rfl)(j:fn.results.toList=rs:=by kernel_rfl)(k:fn.ntmps=n:=by kernel_rfl)(c:Nat.ble vs.length n=Ta:=by kernel_rfl)(e:F=W Tp n pl (codeOf fn) (nZ Tp rs R) (gb 0 vs) h:=by kernel_rfl):XC Tp f vs.toArray h R:=EP Tryz.mixed pl vs i b j k c (Eq.mp e H)
theorem Gt(f:Int)(e:Int)(h:za)(R:Value->za->Prop) (H:XC Tp 106 #[iV f,iV e] h (λa b=>∃c,a=.string c/\R (.string c) b)):
  XC Tp 206 #[.int .i64 f,.int .i64 e] h R:=
 XF ⟨[],[],[]⟩ [.tmp 4] 8 Tryz.func206 H
theorem wy(b:Int)(h:za)(R:Value->za->Prop) (H:R (.bool ((NB .i64 (((OT (Oz .i64) b) &&& (OT (Oz .i64) (NB .i64 (b-1)))).toNat:Int):Int)==0)) h):
  XC Tp 161 #[.int .i64 b] h R:=
 XF ⟨[],[],[]⟩ [.tmp 2] 8 Tryz.func161 H
theorem Qe(i:Int)(h:za)(R:Value->za->Prop) (H:(Tc=Ta->XC Tp 189 #[.int .u32 (NB .u32 i)] h (λa b=>∃c,a=iV c/\R (iV c) b))/\(Tc=Tc->XC Tp 190 #[.int .u64 i] h (λd e=>∃f,d=iV f/\R (iV f) e))):
  XC Tp 162 #[.int .u64 i] h R:=
 XF ⟨[],[],[]⟩ [.tmp 2] 8 Tryz.func162 H
theorem Zg(c:Int)(h:za)(R:Value->za->Prop) (H:((c==0)=Ta->R (iV 64) h)/\((c==0)=Tc->∃a:Addr,(Td ⟨4,0,Te⟩=Td a/\0<=((NB .u64 ((NB .u64 (((OT (Oz .u64) c) &&& (OT (Oz .u64) (NB .u64 (0-c)))).toNat:Int))*285870213051353865):Int).fdiv (2 ^ 58):Int)/\((NB .u64 ((NB .u64 (((OT (Oz .u64) c) &&& (OT (Oz .u64) (NB .u64 (0-c)))).toNat:Int))*285870213051353865):Int).fdiv (2 ^ 58):Int)<((64:Nat):Int))/\∃b,zb h (a.add (((NB .u64 ((NB .u64 (((OT (Oz .u64) c) &&& (OT (Oz .u64) (NB .u64 (0-c)))).toNat:Int))*285870213051353865):Int).fdiv (2 ^ 58):Int).toNat*1))=Td (.int .u8 b)/\R (iV (NB .i64 b)) h)):
  XC Tp 190 #[.int .u64 c] h R:=
 XF ⟨[],[],[]⟩ [.tmp 2] 14 Tryz.func190 H
theorem Da(e:Int)(h:za)(R:Value->za->Prop) (H:∀a:Bool->za->Prop,(∀b:Bool,∀c:za,((b=Ta->R (.int .u8 (NB .u8 e)) c)/\(b=Tc->((e==8)=Ta->R (.int .u8 98) c)/\((e==8)=Tc->((e==12)=Ta->R (.int .u8 102) c)/\((e==12)=Tc->((e==10)=Ta->R (.int .u8 110) c)/\((e==10)=Tc->((e==13)=Ta->R (.int .u8 114) c)/\((e==13)=Tc->((e==9)=Ta->R (.int .u8 116) c)/\((e==9)=Tc->R (.int .u8 0) c)))))))->a b c)->((e==34)=Ta->a (e==34) h)/\((e==34)=Tc->a (e==92) h)):
  XC Tp 204 #[.int .i32 e] h R:=
 XF ⟨[],[],[(4,[(4,.one (.bool))])]⟩ [.tmp 2] 19 Tryz.func204 H
end
section
theorem Nt(s0:Bt)(h:za)(R:Value->za->Prop) (H:XC Tp 118 #[.string s0] h (λa b=>∃c d,a=.tuple #[iV c,.bool d]/\((!d)=Ta->R (.tuple #[.string (⟨#[]⟩:Bt),iV 2]) b)/\((!d)=Tc->let e:=b.push (.cells #[.pointer Te,.slice Te 0 0] 164);XC Tp 177 #[.pointer (Td ⟨b.size,0,Te⟩),.int .u8 34] e (λf g=>∃i:Value,f=i/\let j:=g.push (.stringIter s0 0);∃(k:za->Prop) (l:za->Nat),k j/\∀m:za,k m->(jh Tp (QE (.pointer (Td ⟨g.size,0,Te⟩)) Ta 0) m (λn o=>(n=.tuple #[.bool Tc]/\(Tc=Ta->False)/\(Tc=Tc->XC Tp 177 #[.pointer (Td ⟨b.size,0,Te⟩),.int .u8 34] o (λp q=>∃r:Value,p=r/\XC Tp 121 #[.pointer (Td ⟨b.size,0,Te⟩)] q (λs t=>∃u,s=.string u/\R (.tuple #[.string u,iV 0]) t))))\/∃v w:Int,n=.tuple #[.bool Ta,iV v,.int .i32 w]/\(Ta=Ta->XC Tp 204 #[.int .i32 w] o (λx y=>∃z,x=.int .u8 z/\((z != 0)=Ta->XC Tp 177 #[.pointer (Td ⟨b.size,0,Te⟩),.int .u8 92] y (λA B=>∃C:Value,A=C/\XC Tp 177 #[.pointer (Td ⟨b.size,0,Te⟩),.int .u8 z] B (λD E=>∃F:Value,D=F/\(k E/\l E<l m))))/\((z != 0)=Tc->(decide (w>=32)=Ta->XC Tp 205 #[.pointer (Td ⟨b.size,0,Te⟩),.int .i32 w] y (λG I=>∃J,∃L:Value,G=.tuple #[iV J,L]/\(k I/\l I<l m)))/\(decide (w>=32)=Tc->XC Tp 206 #[iV (NB .i64 w),iV 16] y (λM N=>∃O,M=.string O/\XC Tp 147 #[.string (⟨#[48]⟩:Bt),iV (NB .i64 (4-(O.size:Int)))] N (λP Q=>∃S,P=.string S/\ji (((⟨#[92,117]⟩:Bt)).size+S.size)/\ji (((⟨#[92,117]⟩:Bt)++S).size+O.size)/\XC Tp 149 #[.pointer (Td ⟨b.size,0,Te⟩),.string (((⟨#[92,117]⟩:Bt)++S)++O)] Q (λT U=>∃V,∃W:Value,T=.tuple #[iV V,W]/\(k U/\l U<l m))))))))/\(Ta=Tc->XC Tp 177 #[.pointer (Td ⟨b.size,0,Te⟩),.int .u8 34] o (λX Y=>∃Z:Value,X=Z/\XC Tp 121 #[.pointer (Td ⟨b.size,0,Te⟩)] Y (λaa ab=>∃ac,aa=.string ac/\R (.tuple #[.string ac,iV 0]) ab))))))))):
  XC Tp 176 #[.string s0] h R:=
 XF ⟨[],[(7,[])],[]⟩ [.tmp 2,.tmp 3] 48 Tryz.func176 H
theorem Zh(b0:Option Addr)(p:Int)(h:za)(R:Value->za->Prop) (H:XC Tp 175 #[.pointer b0] h (λb c=>b=.tuple #[]/\∃d,b0=Td d/\∃e,zb c (NG d 1)=Td (aK e)/\∃f,b0=Td f/\∃g,zb c (NG f 1)=Td (aK g)/\XC Tp 216 #[aK g,.int .i32 p] c (λi j=>∃k,i=aK k/\∃l,b0=Td l/\XRunU Tp (NR 162 (.pointer (Td (NG l 1))) (aK k)) j (λm=>∃n,b0=Td n/\∃o,zb m (NG n 1)=Td (aK o)/\R (.tuple #[iV (NB .i64 ((o.len:Int)-(e.len:Int))),.nilIface]) m)))):
  XC Tp 205 #[.pointer b0,.int .i32 p] h R:=
 XF ⟨[],[],[]⟩ [.tmp 4,.tmp 5] 30 Tryz.func205 H
theorem xz(aa:Sl)(u1:Int)(Y:Int)(Z:Bool)(b:Bool)(h:za)(R:Value->za->Prop) (H:∀c:za->Prop,(∀d:za,(let e:=d.push (.cells #[.int .u8 0,.int .u8 0,.int .u8 0,.int .u8 0,.int .u8 0,.int .u8 0,.int .u8 0,.int .u8 0,.int .u8 0,.int .u8 0,.int .u8 0,.int .u8 0,.int .u8 0,.int .u8 0,.int .u8 0,.int .u8 0,.int .u8 0,.int .u8 0,.int .u8 0,.int .u8 0,.int .u8 0,.int .u8 0,.int .u8 0,.int .u8 0,.int .u8 0,.int .u8 0,.int .u8 0,.int .u8 0,.int .u8 0,.int .u8 0,.int .u8 0,.int .u8 0,.int .u8 0,.int .u8 0,.int .u8 0,.int .u8 0,.int .u8 0,.int .u8 0,.int .u8 0,.int .u8 0,.int .u8 0,.int .u8 0,.int .u8 0,.int .u8 0,.int .u8 0,.int .u8 0,.int .u8 0,.int .u8 0,.int .u8 0,.int .u8 0,.int .u8 0,.int .u8 0,.int .u8 0,.int .u8 0,.int .u8 0,.int .u8 0,.int .u8 0,.int .u8 0,.int .u8 0,.int .u8 0,.int .u8 0,.int .u8 0,.int .u8 0,.int .u8 0,.int .u8 0] 207);∀f:Int->za->Prop,(∀g:Int,∀i:za,(∀j:Int->za->Prop,(∀k:Int,∀l:za,(∀m:Int->za->Prop,(∀n:Int,∀o:za,((b=Ta->(0<=n/\n<=(65:Int)/\(65:Int)<=(65:Int))/\jh Tp (NX #[162,162] 162 #[aK aa,.slice (dP (Td ⟨d.size,0,Te⟩) 1 n.toNat 65) ((65:Int).toNat-n.toNat) (65-n.toNat)]) o (λp q=>∃r,p=aK r/\R (.tuple #[aK r,.string (⟨#[]⟩:Bt)]) q))/\(b=Tc->(0<=n/\n<=(65:Int)/\(65:Int)<=(65:Int))/\jh Tp (convert 162 9 (.slice (dP (Td ⟨d.size,0,Te⟩) 1 n.toNat 65) ((65:Int).toNat-n.toNat) (65-n.toNat))) o (λs t=>∃u,s=.string u/\R (.tuple #[.slice Te 0 0,.string u]) t)))->m n o)->(Z=Ta->∃v:Addr,(Td ⟨d.size,0,Te⟩=Td v/\0<=(NB .i64 (k-1))/\(NB .i64 (k-1))<((65:Nat):Int))/\XRunU Tp (NR 5 (.pointer (Td (v.add ((NB .i64 (k-1)).toNat*1)))) (.int .u8 45)) l (λw=>m (NB .i64 (k-1)) w))/\(Z=Tc->m k l))->j k l)->XC Tp 161 #[iV Y] i (λx y=>∃z,x=.bool z/\(z=Ta->XC Tp 162 #[.int .u64 (NB .u64 Y)] y (λA B=>∃C,A=iV C/\∃(D:Int->Int->za->Prop) (E:Int->Int->za->Nat),D g 65 B/\∀F G:Int,∀I:za,D F G I->((decide (F>=(NB .u64 Y))=Ta->(0<=(NB .u64 (((OT (Oz .u64) F) &&& (OT (Oz .u64) (NB .u64 ((NB .u64 Y)-1)))).toNat:Int):Int)/\(NB .u64 (((OT (Oz .u64) F) &&& (OT (Oz .u64) (NB .u64 ((NB .u64 Y)-1)))).toNat:Int):Int)<(((⟨#[48,49,50,51,52,53,54,55,56,57,97,98,99,100,101,102,103,104,105,106,107,108,109,110,111,112,113,114,115,116,117,118,119,120,121,122]⟩:Bt)).size:Int))/\∃J:Addr,(Td ⟨d.size,0,Te⟩=Td J/\0<=(NB .i64 (G-1))/\(NB .i64 (G-1))<((65:Nat):Int))/\XRunU Tp (NR 5 (.pointer (Td (J.add ((NB .i64 (G-1)).toNat*1)))) (.int .u8 (y0 (⟨#[48,49,50,51,52,53,54,55,56,57,97,98,99,100,101,102,103,104,105,106,107,108,109,110,111,112,113,114,115,116,117,118,119,120,121,122]⟩:Bt) (NB .u64 (((OT (Oz .u64) F) &&& (OT (Oz .u64) (NB .u64 ((NB .u64 Y)-1)))).toNat:Int):Int).toNat))) I (λL=>0<=(NB .u64 C)/\(D (F.fdiv (2 ^ (min (NB .u64 C).toNat 64))) (NB .i64 (G-1)) L/\E (F.fdiv (2 ^ (min (NB .u64 C).toNat 64))) (NB .i64 (G-1)) L<E F G I)))/\(decide (F>=(NB .u64 Y))=Tc->(0<=F/\F<(((⟨#[48,49,50,51,52,53,54,55,56,57,97,98,99,100,101,102,103,104,105,106,107,108,109,110,111,112,113,114,115,116,117,118,119,120,121,122]⟩:Bt)).size:Int))/\∃M:Addr,(Td ⟨d.size,0,Te⟩=Td M/\0<=(NB .i64 (G-1))/\(NB .i64 (G-1))<((65:Nat):Int))/\XRunU Tp (NR 5 (.pointer (Td (M.add ((NB .i64 (G-1)).toNat*1)))) (.int .u8 (y0 (⟨#[48,49,50,51,52,53,54,55,56,57,97,98,99,100,101,102,103,104,105,106,107,108,109,110,111,112,113,114,115,116,117,118,119,120,121,122]⟩:Bt) F.toNat))) I (λN=>j (NB .i64 (G-1)) N)))))/\(z=Tc->∃(O:Int->Int->za->Prop) (P:Int->Int->za->Nat),O g 65 y/\∀Q S:Int,∀T:za,O Q S T->((decide (Q>=(NB .u64 Y))=Ta->IntKind.u64=IntKind.u64/\(NB .u64 Y)≠0/\(0<=(NB .u64 (Q-(NB .u64 ((NB .u64 (Q.tdiv (NB .u64 Y)))*(NB .u64 Y)))):Int)/\(NB .u64 (Q-(NB .u64 ((NB .u64 (Q.tdiv (NB .u64 Y)))*(NB .u64 Y)))):Int)<(((⟨#[48,49,50,51,52,53,54,55,56,57,97,98,99,100,101,102,103,104,105,106,107,108,109,110,111,112,113,114,115,116,117,118,119,120,121,122]⟩:Bt)).size:Int))/\∃U:Addr,(Td ⟨d.size,0,Te⟩=Td U/\0<=(NB .i64 (S-1))/\(NB .i64 (S-1))<((65:Nat):Int))/\XRunU Tp (NR 5 (.pointer (Td (U.add ((NB .i64 (S-1)).toNat*1)))) (.int .u8 (y0 (⟨#[48,49,50,51,52,53,54,55,56,57,97,98,99,100,101,102,103,104,105,106,107,108,109,110,111,112,113,114,115,116,117,118,119,120,121,122]⟩:Bt) (NB .u64 (Q-(NB .u64 ((NB .u64 (Q.tdiv (NB .u64 Y)))*(NB .u64 Y)))):Int).toNat))) T (λV=>(O (NB .u64 (Q.tdiv (NB .u64 Y))) (NB .i64 (S-1)) V/\P (NB .u64 (Q.tdiv (NB .u64 Y))) (NB .i64 (S-1)) V<P Q S T)))/\(decide (Q>=(NB .u64 Y))=Tc->(0<=Q/\Q<(((⟨#[48,49,50,51,52,53,54,55,56,57,97,98,99,100,101,102,103,104,105,106,107,108,109,110,111,112,113,114,115,116,117,118,119,120,121,122]⟩:Bt)).size:Int))/\∃W:Addr,(Td ⟨d.size,0,Te⟩=Td W/\0<=(NB .i64 (S-1))/\(NB .i64 (S-1))<((65:Nat):Int))/\XRunU Tp (NR 5 (.pointer (Td (W.add ((NB .i64 (S-1)).toNat*1)))) (.int .u8 (y0 (⟨#[48,49,50,51,52,53,54,55,56,57,97,98,99,100,101,102,103,104,105,106,107,108,109,110,111,112,113,114,115,116,117,118,119,120,121,122]⟩:Bt) Q.toNat))) T (λX=>j (NB .i64 (S-1)) X))))))->f g i)->(Z=Ta->f (NB .u64 (0-u1)) e)/\(Z=Tc->f u1 e))->c d)->((bif (bif (decide (Y<2))then Ta else(Y==10))then Ta else(decide (Y>36)))=Ta->False)/\((bif (bif (decide (Y<2))then Ta else(Y==10))then Ta else(decide (Y>36)))=Tc->c h)):
  XC Tp 138 #[.slice aa.a aa.len aa.cap,.int .u64 u1,.int .i64 Y,.bool Z,.bool b] h R:=
 XF ⟨[],[(11,[(1,.one (.int .u64)),(13,.one (.int .i64))]),(18,[(1,.one (.int .u64)),(13,.one (.int .i64))])],[(3,[]),(7,[(1,.one (.int .u64))]),(25,[(13,.one (.int .i64))]),(28,[(13,.one (.int .i64))])]⟩ [.tmp 10,.tmp 11] 102 Tryz.func138 H
theorem Ze(B:Int)(A:Int)(h:za)(R:Value->za->Prop) (H:((A==10)=Ta->((bif (decide ((0:Int)<=B))then(decide (B<100))else Tc)=Ta->XC Tp 135 #[iV B] h (λb c=>∃d,b=.string d/\R (.string d) c))/\((bif (decide ((0:Int)<=B))then(decide (B<100))else Tc)=Tc->let e:=h.push (.cells #[.int .u8 0,.int .u8 0,.int .u8 0,.int .u8 0,.int .u8 0,.int .u8 0,.int .u8 0,.int .u8 0,.int .u8 0,.int .u8 0,.int .u8 0,.int .u8 0,.int .u8 0,.int .u8 0,.int .u8 0,.int .u8 0,.int .u8 0,.int .u8 0,.int .u8 0,.int .u8 0,.int .u8 0,.int .u8 0,.int .u8 0,.int .u8 0] 179);∀f:Int->za->Prop,(∀g:Int,∀i:za,(XC Tp 136 #[.int .u64 g] i (λj k=>∃l,j=iV l/\(0<=(1:Int)/\(1:Int)<=(NB .i64 (1+l))/\(NB .i64 (1+l))<=(24:Int))/\XC Tp 137 #[.slice (dP (Td ⟨h.size,0,Te⟩) 1 ((1:Int).toNat) 24) ((NB .i64 (1+l)).toNat-(1:Int).toNat) (24-(1:Int).toNat),.int .u64 g] k (λm n=>m=.tuple #[]/\(decide (B<0)=Ta->∃o:Addr,(Td ⟨h.size,0,Te⟩=Td o/\0<=(0:Int)/\(0:Int)<((24:Nat):Int))/\XRunU Tp (NR 5 (.pointer (Td (o.add ((0:Int).toNat*1)))) (.int .u8 45)) n (λp=>(0<=(0:Int)/\(0:Int)<=(NB .i64 (1+l))/\(NB .i64 (1+l))<=(24:Int))/\jh Tp (convert 162 9 (.slice (dP (Td ⟨h.size,0,Te⟩) 1 ((0:Int).toNat) 24) ((NB .i64 (1+l)).toNat-(0:Int).toNat) (24-(0:Int).toNat))) p (λq r=>∃s,q=.string s/\R (.string s) r)))/\(decide (B<0)=Tc->(0<=(1:Int)/\(1:Int)<=(NB .i64 (1+l))/\(NB .i64 (1+l))<=(24:Int))/\jh Tp (convert 162 9 (.slice (dP (Td ⟨h.size,0,Te⟩) 1 ((1:Int).toNat) 24) ((NB .i64 (1+l)).toNat-(1:Int).toNat) (24-(1:Int).toNat))) n (λt u=>∃v,t=.string v/\R (.string v) u)))))->f g i)->(decide (B<0)=Ta->f (NB .u64 (0-(NB .u64 B))) e)/\(decide (B<0)=Tc->f (NB .u64 B) e)))/\((A==10)=Tc->XC Tp 138 #[.slice Te 0 0,.int .u64 (NB .u64 B),iV A,.bool (decide (B<0)),.bool Tc] h (λw x=>∃y z,w=.tuple #[aK y,.string z]/\R (.string z) x))):
  XC Tp 106 #[.int .i64 B,.int .i64 A] h R:=
 XF ⟨[],[],[(8,[(6,.one (.int .u64))])]⟩ [.tmp 4] 54 Tryz.func106 H
end
section
variable {gl:Fr} {R:Bool -> Prop}
theorem E7(c:GL gl){s:Bs}(b:s.length<=1152921504606846976)(h:R (pU s)):PC Tp gl 94 [Arg.mk .str (bl s)] [.bool] R:=by apply Lv;refine rj c b (KB c (n:=(fX s).1) (W8 s b) ?_);simp only[Bool.cond_false_right];exact h
theorem mi(v:Tr):Tr.mk v.kind v.text v.keys v.items=v:=by cases v;rfl
theorem wO{l:List Tr}{k:Nat}(h:k<l.length):l[((k:Int)).toNat]?=Td l[k]:=by rw[NE,NL h]
theorem CB{gl:Fr}(v:Tr)(p:dx v<=1000000000000){R:Int->Prop}(h:R (dx v:Int)):PC Tp gl 87 [Arg.mk .tree v] [.int .i64] R:=by
 apply EH;have f:=ko v.items;have c:=Yi v;refine⟨λn i=>∃k:Nat,i=k/\k<=v.items.length/\n=((1+J2 (v.items.take k):Nat):Int),λ_ i=>v.items.length-i.toNat,⟨0,rfl,by omega,by simp[J2]⟩,?_⟩;rintro n i ⟨k,rfl,q,rfl⟩;refine⟨λe=>?_,λe=>?_⟩;have b:k<v.items.length:=by simp at e;omega
 refine⟨v.items[k],⟨by omega,wO b⟩,?_⟩;rw[mi];have l:v.items[k]∈v.items:=Ot b;have j:=Zf l;have m:J2 (v.items.take (k+1))<=J2 v.items:=by have:=tD (v.items.take (k+1)) (v.items.drop (k+1));rw[OX]at this;omega
 have o:=KW b;refine CB (v.items[k]) (by omega) ?_;rw[Qd b (by omega),em (by omega)];exact⟨⟨k+1,rfl,by omega,by omega⟩,by simp only[NE];omega⟩;have b:k=v.items.length:=by simp at e;omega
 subst b;rw[N7,<-c];exact h
termination_by dx v
theorem uM{gl:Fr}(v:Tr)(q:dx v<=1000000000000){R:Int->Prop}(h:R (er v:Int)):PC Tp gl 88 [Arg.mk .tree v] [.int .i64] R:=by
 apply HL;have e:=ko v.items;have o:=Yi v;have l:=sB v.items;have m:=kX v;refine⟨λn i=>∃k:Nat,i=k/\k<=v.items.length/\n=((dL (v.items.take k):Nat):Int),λ_ i=>v.items.length-i.toNat,⟨0,rfl,by omega,by simp[dL]⟩,?_⟩;rintro n i ⟨k,rfl,r,rfl⟩;refine⟨λc=>?_,λc=>?_⟩;have b:k<v.items.length:=by simp at c;omega
 refine⟨v.items[k],⟨by omega,wO b⟩,?_⟩;rw[mi];have p:v.items[k]∈v.items:=Ot b;have f:=Zf p;have j:=Hw b;refine uM (v.items[k]) (by omega) ?_;rw[Qd b (by omega)];refine⟨⟨k+1,rfl,by omega,?_⟩,by simp only[NE];omega⟩;rw[j];split <;> omega;have b:k=v.items.length:=by simp at c;omega
 subst b;rw[N7,em (by omega)];have:((dL v.items:Nat):Int)+1=(er v:Int):=by omega
 rw[this];exact h
termination_by dx v
theorem Aq{v:Tr}(b:Sm v)(h:R (Yj v)):PC Tp gl 56 [Arg.mk .tree v] [.bool] R:=by
 apply DD;rw[mi];refine CB v b.sz ⟨λr=>r=(er v:Int),λ_=>uM v b.sz rfl,λr c=>?_⟩;have e:(bif decide ((dx v:Int)<=4096)then decide (r<=32)else Tc)=Yj v:=by
  unfold Yj;cases hc:decide ((dx v:Int)<=4096)with
  |false=>(have:decide (dx v<=4096)=Tc:=by simp at hc ⊢;omega);rw[this];rfl
  |true=>
   have:decide (dx v<=4096)=Ta:=by simp at hc ⊢;omega
   rw[this,c hc,zI,Pj,Om];simp;omega
 rw[e];exact h
end
section
theorem Dz(w:Sl)(x:Int)(h:za)(R:Value->za->Prop) (H:let b:=h.push (.map #[] 0);∃(c:Int->za->Prop) (d:Int->za->Nat),c 0 b/\∀e:Int,∀f:za,c e f->((decide (e<w.len)=Ta->∃g,(w.a=Td g/\0<=e/\e<w.len)/\∃i,zb f (g.add (e.toNat*1))=Td (.string i)/\∃j,QExec Tp (QJ 158 (.map (Td h.size)) (.string i) Tc) f (.bool j)/\∃k:Value->za->Prop,((!j)=Ta->XC Tp 93 #[.string i] f (λl m=>∃n,l=.bool n/\k (.bool n) m))/\((!j)=Tc->∃o,k (.bool o) f)/\((!j)=Ta->∀p q,k p q->∃r,p=.bool r)/\∀s:Bool,∀t,k (.bool s) t->((bif j then Ta else(!s))=Ta->R (.bool Tc) t)/\((bif j then Ta else(!s))=Tc->XRunU Tp (O8 158 (.map (Td h.size)) (.string i) (.bool Ta)) t (λu=>(c (NB .i64 (e+1)) u/\d (NB .i64 (e+1)) u<d e f))))/\(decide (e<w.len)=Tc->R (.bool ((w.len:Int)==x)) f))):
  XC Tp 91 #[.slice w.a w.len w.cap,.int .i64 x] h R:=
 XF ⟨[],[(3,[(13,.one (.int .i64))])],[]⟩ [.tmp 4] 32 Tryz.func91 H
theorem yw(j:Sl)(i:FuncId)(f:Array Value)(e:Array Value)(h:za)(R:Value->za->Prop) (H:XC Tp 117 #[aK j,.func (.func i) f e] h (λb c=>∃d,b=iV d/\R (.bool (decide (d>=0))) c)):
  XC Tp 89 #[.slice j.a j.len j.cap,.func (.func i) f e] h R:=
 XF ⟨[],[],[]⟩ [.tmp 4] 9 Tryz.func89 H
theorem jd(o:Sl)(p:FuncId)(q:Array Value)(r:Array Value)(h:za)(R:Value->za->Prop) (H:∃(b:Int->za->Prop) (c:Int->za->Nat),b 0 h/\∀d:Int,∀e:za,b d e->((decide (d<o.len)=Ta->∃f,(o.a=Td f/\0<=d/\d<o.len)/\∃g i j k,ze e (f.add (d.toNat*4)) 0 (tL g i j k)/\zr Tp p=Ta/\XC Tp p (q++#[tA g i j k]++r) e (λl m=>∃n,l=.bool n/\(n=Ta->R (iV d) m)/\(n=Tc->(b (NB .i64 (d+1)) m/\c (NB .i64 (d+1)) m<c d e))))/\(decide (d<o.len)=Tc->R (iV (-1)) e))):
  XC Tp 117 #[.slice o.a o.len o.cap,.func (.func p) q r] h R:=
 XF ⟨[],[(2,[(8,.one (.int .i64))])],[]⟩ [.tmp 4] 19 Tryz.func117 H
theorem FO(b:Int)(c:Bt)(d:Sl)(e:Sl)(c1:Addr)(h:za)(R:Value->za->Prop) (H:let f:=h.push (.cells #[iV b,.string c,aK d,aK e] 48);∃g i j k,ze f ⟨h.size,0,Te⟩ 0 (tL g i j k)/\∃l:Value,zb f c1=Td l/\XC Tp 57 #[tA g i j k,l] f (λm n=>∃o,m=.bool o/\R (.bool (!o)) n)):
  XC Tp 90 #[.agg #[.int .i64 b,.string c,.slice d.a d.len d.cap,.slice e.a e.len e.cap],.pointer (Td c1)] h R:=
 XF ⟨[],[],[]⟩ [.tmp 3] 8 Tryz.func90 H
theorem F5(b:Int)(c:Bt)(d:Sl)(e:Sl)(F:FuncId)(D:Array Value)(E:Array Value)(h:za)(R:Value->za->Prop) (H:let f:=h.push (.cells #[iV b,.string c,aK d,aK e] 48);let g:=f.push (.cells #[.func (.func F) D E] 78);∃i:Value,zb g ⟨f.size,0,Te⟩=Td i/\∃j k l m,ze g ⟨h.size,0,Te⟩ 0 (tL j k l m)/\lZ Tp i #[tA j k l m] (λn o=>XC Tp n o g (λp q=>∃r,p=.bool r/\∃s,(r=Ta->zb q (NG ⟨h.size,0,Te⟩ 3)=Td (aK s))/\∃t:Value->za->Prop,(r=Ta->XC Tp 89 #[aK s,.func (.func 90) #[] #[.pointer (Td ⟨f.size,0,Te⟩)]] q (λu v=>∃w,u=.bool w/\t (.bool w) v))/\(r=Tc->∃x,t (.bool x) q)/\(r=Ta->∀y z,t y z->∃A,y=.bool A)/\∀B:Bool,∀C,t (.bool B) C->R (.bool (bif r then(!B)else Tc)) C))):
  XC Tp 57 #[.agg #[.int .i64 b,.string c,.slice d.a d.len d.cap,.slice e.a e.len e.cap],.func (.func F) D E] h R:=
 XF ⟨[],[],[]⟩ [.tmp 4] 15 Tryz.func57 H
theorem Gm(b:Int)(c:Bt)(d:Sl)(e:Sl)(h:za)(R:Value->za->Prop) (H:let f:=h.push (.cells #[iV b,.string c,aK d,aK e] 48);∃g i j k,ze f ⟨h.size,0,Te⟩ 0 (tL g i j k)/\XC Tp 56 #[tA g i j k] f (λl m=>∃n,l=.bool n/\∃o p q r,(n=Ta->ze m ⟨h.size,0,Te⟩ 0 (tL o p q r))/\∃s:Value->za->Prop,(n=Ta->XC Tp 57 #[tA o p q r,.func (.func 59) #[] #[]] m (λt u=>∃v,t=.bool v/\s (.bool v) u))/\(n=Tc->∃w,s (.bool w) m)/\(n=Ta->∀x y,s x y->∃z,x=.bool z)/\∀A:Bool,∀B,s (.bool A) B->R (.bool (bif n then A else Tc)) B)):
  XC Tp 67 #[.agg #[.int .i64 b,.string c,.slice d.a d.len d.cap,.slice e.a e.len e.cap]] h R:=
 XF ⟨[],[],[]⟩ [.tmp 2] 9 Tryz.func67 H
theorem ja(b0:Option Addr)(c1:Int)(h:za)(R:Value->za->Prop) (H:XC Tp 175 #[.pointer b0] h (λb c=>b=.tuple #[]/\∃d,b0=Td d/\∃e,zb c (NG d 1)=Td (aK e)/\let f:=c.push (.cells #[.int .u8 c1] 5);jh Tp (NX #[162,162] 162 #[aK e,.slice (Td ⟨c.size,0,Te⟩) 1 1]) f (λg i=>∃j,g=aK j/\∃k,b0=Td k/\XRunU Tp (NR 162 (.pointer (Td (NG k 1))) (aK j)) i (λl=>R (.nilIface) l)))):
  XC Tp 177 #[.pointer b0,.int .u8 c1] h R:=
 XF ⟨[],[],[]⟩ [.tmp 4] 17 Tryz.func177 H
theorem yk(b0:Option Addr)(s1:Bt)(h:za)(R:Value->za->Prop) (H:XC Tp 175 #[.pointer b0] h (λb c=>b=.tuple #[]/\∃d,b0=Td d/\∃e,zb c (NG d 1)=Td (aK e)/\jh Tp (NX #[162,9] 162 #[aK e,.string s1]) c (λf g=>∃i,f=aK i/\∃j,b0=Td j/\XRunU Tp (NR 162 (.pointer (Td (NG j 1))) (aK i)) g (λk=>R (.tuple #[iV (s1.size:Int),.nilIface]) k)))):
  XC Tp 149 #[.pointer b0,.string s1] h R:=
 XF ⟨[],[],[]⟩ [.tmp 4,.tmp 5] 19 Tryz.func149 H
end
section
variable {gl:Fr}
theorem BF:MapT Tp 158 9 4 (.bool Tc):=⟨by kernel_rfl,by kernel_rfl,⟨Tryz.t4,by kernel_rfl,by kernel_rfl⟩⟩
set_option maxHeartbeats 1000000 in
theorem Dm(hg:GL gl){ks:List Bt}{n:Int}(hk:∀k∈ks,(lb k).length<=1048576){R:Bool->Prop}(h:R (wz ks&&decide ((ks.length:Int)=n))):PC Tp gl 91 [Arg.mk (.row .str) ks,Arg.mk (.int .i64) n] [.bool] R:=by
 intro o M vs hM ag ha
 match vs,ha with
 |[u,w],⟨h1,h2,_⟩=>
  obtain⟨s,rfl,Y⟩:=eQ h1;have hw:=lD h2;subst hw;have Y:Rd M (.row .str) ks [aK s]:=Y;obtain⟨L,ak,al⟩:=rowLen Y;apply PX.of;apply Dz s n;intro Z;have kg:Keep o.size o Z:=Keep.push _ _ (ND _);have sg:Z.size=o.size+1:=NN _;have mg:MapAt Z o.size []:=MapAt.new o;clear_value Z;refine⟨λi V=>∃k:Nat,i=k/\k<=ks.length/\o.size<V.size/\(∃J,Later o M V J/\J o.size=Te)/\(∃l,MapAt V o.size l/\∀x,hY l x (.bool Tc)=.bool (decide (x∈ks.take k)))/\wz (ks.take k)=Ta,λi _=>ks.length-i.toNat,⟨0,rfl,by omega,by omega,⟨M,Later.same ag kg,ag.none (ND _)⟩,⟨[],mg,λx=>rfl⟩,by simp[wz]⟩,?_⟩;rintro i V ⟨k,rfl,aj,A,⟨J,E,S⟩,⟨l,B,O⟩,D⟩;refine⟨λhc=>?_,λhc=>?_⟩;have p:k<ks.length:=by simp at hc;omega
  have ae:=Rd.mono E.le Y;refine kF E.ag ae p rfl rfl ?_;have U:=wD BF B ks[k] Tc;rw[O]at U;refine⟨decide (ks[k]∈ks.take k),U,?_⟩;have f:=uJ hg.tabs (l:=lb ks[k]) (R:=λb=>b=dF (lb ks[k])) (by have:=hk _ (Ot p);omega) rfl;rw[gI]at f;generalize hd:decide (ks[k]∈ks.take k)=d;refine⟨λv G=>∃b,v=.bool b/\(d=Tc->b=dF (lb ks[k]))/\o.size<G.size/\(∃C,Later o M G C/\C o.size=Te)/\MapAt G o.size l,λhn=>?_,λhn=>⟨Ta,Ta,rfl,λe=>(by rw[e]at hn;cases hn),A,⟨J,E,S⟩,B⟩,λ_ v G ⟨b,e,_⟩=>⟨b,e⟩,?_⟩;refine f.go (vs:=[.string ks[k]]) (hM.trans E.le) E.ag (zw (rdStr _) yc) λv G C r q H ah=>⟨r,d4 H,r,rfl,λ_=>ah,by have:=q.keep.size;omega,⟨C,E.trans q,by rw[q.old _ A,S]⟩,B.keep (q.keep.get _ A)⟩;rintro b G ⟨b',e,Q,ai,⟨C,q,I⟩,aa⟩;cases e;have P:ks.take (k+1)=ks.take k++[ks[k]]:=Oc p;have N:wz (ks.take (k+1))=(!d&&dF (lb ks[k])):=by
   have j:=D;unfold wz at j ⊢;rw[NP,zC]at j;rw[P,List.all_append,j.1,<-hd];have:decide (Ri k ks++[ks[k]]).Nodup=!decide (ks[k]∈ks.take k):=by rw[Om];simp only[zC,PN,decide_eq_false_iff_not,QC];constructor;rintro⟨_,_,h3⟩ t;exact h3 _ t _ (by simp) rfl;intro t;exact⟨j.2,by simp,λa ha b Q e=>t (by simp at Q;rw[<-Q,<-e];exact ha)⟩
   rw[this];simp[Bool.and_comm]
  refine⟨λy=>?_,λy=>?_⟩;refine⟨C,_,q,dJ.2 (rdBool _),?_⟩;have hf:wz (ks.take (k+1))=Tc:=by
   rw[N];cases d with
   |true=>rfl
   |false=>rw[Q rfl]at y;simpa using y
  have ac:wz ks=Tc:=by
   cases hks:wz ks with
   |false=>rfl
   |true=>
    unfold wz at hks hf;rw[NP,zC]at hks;have h1:((ks.take (k+1)).all λk=>dF (lb k))=Ta:=by rw[N3]at hks ⊢;exact λx y=>hks.1 x (List.mem_of_mem_take y)
    have h2:(ks.take (k+1)).Nodup:=hks.2.sublist (List.take_sublist _ _);rw[h1,zG h2]at hf;cases hf
  rw[ac]at h;exact h;have F:d=Tc:=by cases d with
   |true=>simp at y
   |false=>rfl
  have af:dF (lb ks[k])=Ta:=by rw[<-Q F];rw[F]at y;simpa using y
  refine JW BF aa ks[k] (.bool Ta) λh6 m6 s6 o6=>?_;rw[Qd p (by omega)];refine⟨⟨k+1,rfl,by omega,by omega,⟨C,⟨⟨by have:=q.keep.size;omega,λi hi=>by rw[o6 i (by omega)];exact q.keep.get i hi⟩,q.le,q.old,?_⟩,I⟩,⟨_,m6,λx=>?_⟩,by rw[N,F,af];rfl⟩,by simp only[NE];omega⟩;intro b c e;have ab:b≠o.size:=λe2=>by rw[e2,I]at e;cases e
  obtain⟨T,m,e'⟩:=q.ag b c e;exact⟨T,m,by rw[o6 b ab];exact e'⟩;unfold hY;rw[Hd,P];by_cases z:ks[k]=x;subst z;rw[zz rfl];simp only[N0,OO,or_true,decide_true,Option.getD_some];rw[zv z];have:=O x;unfold hY at this;rw[this];congr 1;rw[Om,zC,zC,N0,OO];exact⟨.inl,λe=>e.elim id λe=>absurd e.symm z⟩;have p:k=ks.length:=by simp at hc;omega
  subst p;rw[N7]at D;refine⟨J,_,E,dJ.2 (rdBool _),?_⟩;rw[D,Pj]at h;have:(((s.len:Nat):Int)==n)=decide ((ks.length:Int)=n):=by rw[L,Om];simp
  rw[this];exact h
def FP(gl:Fr)(F:FuncId)(A C:Array Value)(h:za)(M:Fr)(t:Ty)(x:El t)(b:Bool):Prop:=
 zr Tp F=Ta/\∀h' M' u,Later h M h' M'->RdV M' t x u->PX Tp F (A++#[u]++C) h' M' [.bool] (λr=>r=b)
theorem Fe{F:FuncId}{A C:Array Value}{h:za}{M:Fr}(ag:AgM M h){xs:List Tr}{s:Sl}(t:Rd M (.row .tree) xs [aK s]){p:Tr->Bool}(w:∀x∈xs,FP gl F A C h M .tree x (p x)):
  PX Tp 89 #[aK s,.func (.func F) A C] h M [.bool] (λr=>r=xs.any p):=by
 apply PX.of;apply yw s F A C;apply jd s F A C;obtain⟨y,B,G⟩:=rowLen t;refine⟨λi n=>∃k:Nat,i=k/\k<=xs.length/\(∃l,Later h M n l)/\(xs.take k).any p=Tc,λi _=>xs.length-i.toNat,⟨0,rfl,by omega,⟨M,Later.refl ag⟩,by simp⟩,?_⟩;rintro i n ⟨k,rfl,J,⟨l,e⟩,c⟩;refine⟨λm=>?_,λm=>?_⟩;have b:k<xs.length:=by simp at m;omega
 obtain⟨a,sk,si,E,H,z,D⟩:=iM e.ag (Rd.mono e.le t) b;refine⟨a,⟨E,by omega,by omega⟩,xs[k].kind,xs[k].text,sk,si,by rw[NE];exact H,(w _ (Ot b)).1,?_⟩;refine((w _ (Ot b)).2 n l _ e (yv z D)).go λv I q r u f j=>⟨r,d4 f,λo=>?_,λo=>?_⟩;refine⟨(k:Int),rfl,q,_,e.trans u,dJ.2 (rdBool _),?_⟩;have:xs.any p=Ta:=List.any_eq_true.2 ⟨xs[k],Ot b,by rw[<-j];exact o⟩;rw[this];simp;rw[Qd b (by omega)];refine⟨⟨k+1,rfl,by omega,⟨q,e.trans u⟩,?_⟩,by simp only[NE];omega⟩;rw[Oc b,List.any_append,c];simp only[List.any_cons,List.any_nil,<-j,o];rfl;have b:k=xs.length:=by simp at m;omega
 subst b;rw[N7]at c;refine⟨-1,rfl,l,_,e,dJ.2 (rdBool _),?_⟩;rw[c];rfl
end
section
variable {gl:Fr} {v:Tr} {R:Bool -> Prop} {F:FuncId}
theorem Mo{l:List Bt}:decide (((l.length:Nat):Int)>0)=!l.isEmpty:=by cases l <;> simp
theorem LW{l:List Tr}:decide (((l.length:Nat):Int)>0)=!l.isEmpty:=by cases l <;> simp
theorem KE(s:Bt)(l:Bs):(s.toList==(bl l).toList)=(lb s==l):=by have:=gZ (lb s) l;rw[gI]at this;rw[this,Om];simp
theorem Nh{k n:Int}:(k==n)=decide (k=n):=by rw[Om];simp
set_option maxHeartbeats 1000000 in
theorem vW(j:GL gl)(H:Sm v)(h:R (zy v)):PC Tp gl 59 [Arg.mk .tree v] [.bool] R:=by
 apply IM;have u:(lb v.text).length<=1152921504606846976:=by have:=H.text;omega
 have key:∀b,b=zy v->R b:=λb I=>by rw[I];exact h
 have J:=rj j (s:=lb v.text) (R:=λr=>R r.2\/v.kind≠3) u;have p:=uJ j.tabs (l:=lb v.text) (R:=λr=>r=dF (lb v.text)) (by omega) rfl;have m:=E7 j (s:=lb v.text) (R:=λr=>r=pU (lb v.text)) u rfl;have n:=rj j (s:=lb v.text) (R:=λr=>r.2=(fX (lb v.text)).2) u rfl;rw[gI]at p m n;simp only[Nh,Mo,LW,show(⟨#[116,114,117,101]⟩:Bt)=bl [116,114,117,101]from rfl,show(⟨#[102,97,108,115,101]⟩:Bt)=bl [102,97,108,115,101]from rfl,KE];unfold zy at key;refine⟨λq=>key _ ?_,λq=>⟨λt=>?_,λt=>⟨λG=>key _ ?_,λG=>?_⟩⟩⟩;have:v.kind=5:=by simpa using q
 simp[this,Bool.and_comm];have c:v.kind=6:=by simpa using t
 refine Dm j (λk o=>H.key o) (key _ ?_);simp only[c];rw[Bool.cond_false_right];have:decide ((v.keys.length:Int)=(v.items.length:Int))=decide (v.keys.length=v.items.length):=by rw[Om,zC,zC];omega
 rw[this];rfl;have f:v.kind≠5:=by simpa using q
 have c:v.kind≠6:=by simpa using t
 have e:(v.keys.isEmpty&&v.items.isEmpty)=Tc:=by cases o:v.keys.isEmpty <;> cases hi:v.items.isEmpty <;> simp[o,hi]at G ⊢
 simp only[f,c,if_false,Bool.and_assoc,e,Bool.and_false];simp;have f:v.kind≠5:=by simpa using q
 have c:v.kind≠6:=by simpa using t
 have e:v.keys.isEmpty=Ta/\v.items.isEmpty=Ta:=by cases o:v.keys.isEmpty <;> cases hi:v.items.isEmpty <;> simp[o,hi]at G ⊢
 simp only[f,c,if_false,e.1,e.2,Bool.and_true]at key;refine⟨λy=>key _ ?_,λy=>⟨λF=>key _ ?_,λF=>⟨λB=>?_,λB=>⟨λA=>?_,λA=>⟨λz=>?_,λz=>key _ ?_⟩⟩⟩⟩⟩;have:v.kind=1:=by simpa using y
 simp[this];have:v.kind=2:=by simpa using F
 simp[this];have:v.kind=3:=by simpa using B
 exact n.mono λr i=>key _ (by rw[i];simp[this]);have:v.kind=4:=by simpa using A
 exact p.mono λr i=>key _ (by rw[i];simp[this]);have:v.kind=7:=by simpa using z
 exact m.mono λr i=>key _ (by rw[i];simp[this]);have D:v.kind≠1:=by simpa using y
 have C:v.kind≠2:=by simpa using F
 have E:v.kind≠3:=by simpa using B
 have w:v.kind≠4:=by simpa using A
 have x:v.kind≠7:=by simpa using z
 simp[D,C,E,w,x]
theorem JR(hF:zr Tp F=Ta){p:Tr->Bool}(hp:∀x,Sm x->PC Tp gl F [Arg.mk .tree x] [.bool] (λr=>r=p x))(n:Nat):∀(v:Tr),dx v<=n->Sm v->∀{h:za} {M:Fr} {u:Value},Fr.le gl M->AgM M h->RdV M .tree v u ->
  PX Tp 57 #[u,.func (.func F) #[] #[]] h M [.bool] (λr=>r=dO p v):=by
 induction n with
 |zero=>intro v hn;have:=iU v;omega
 |succ n ih=>
 intro v hn hv h M u hM ag hu;have Y:=hu;obtain⟨sk,si,rfl,rk,ri⟩:=jl hu;apply PX.of;apply F5 v.kind v.text sk si F #[] #[];intro c m;have L1:Later h M c M:=Later.push ag _;have l:Later c M m (Mx M c.size #[.func (.func F) #[] #[]]):=Later.frz L1.ag _ _;have s1:c.size=h.size+1:=NN _;have s2:m.size=c.size+1:=NN _;have q:ze m ⟨h.size,0,Te⟩ 0 [.int .i64 v.kind,.string v.text,aK sk,aK si]:=mW (h':=m) (by have:=l.keep;rw[s1]at this;exact this);have I:∀h':za,Keep m.size m h'->zb h' (NG ⟨h.size,0,Te⟩ 3)=Td (aK si):=λh' k=>by refine IR (h:=h) (T:=48) (cs:=[.int .i64 v.kind,.string v.text,aK sk,aK si]) ?_ rfl;have:=l.keep.trans k (by omega);rw[s1]at this;exact this
 have t:zb m ⟨c.size,0,Te⟩=Td (.func (.func F) #[] #[]):=l.ag.cell (AD _ _ _) rfl;have J:(Mx M c.size #[.func (.func F) #[] #[]]) c.size=Td #[.func (.func F) #[] #[]]:=AD _ _ _;have D:=L1.trans l;clear_value c m;generalize (Mx M c.size #[.func (.func F) #[] #[]])=M2 at *;refine⟨_,t,v.kind,v.text,sk,si,q,hF,?_⟩;refine(hp v hv).go (vs:=[.agg #[.int .i64 v.kind,.string v.text,aK sk,aK si]]) (hM.trans D.le) D.ag (zw (RdV.mono D.le Y) yc) λw h3 S r C y hr=>?_;refine⟨r,d4 y,si,λ_=>I h3 C.keep,?_⟩;have f:=D.trans C;refine⟨λw B=>∃b,w=.bool b/\(r=Ta->b=!(hO p v.items))/\∃A,Later h M B A,λac=>?_,λz=>⟨Ta,Ta,rfl,λe=>(by rw[e]at z;cases z),S,f⟩,λ_ w B ⟨b,e,_⟩=>⟨b,e⟩,?_⟩;have L:Rd S (.row .tree) v.items [aK si]:=Rd.mono f.le ri;have V:S c.size=Td #[.func (.func F) #[] #[]]:=C.le _ _ J;refine(Fe (gl:=gl) C.ag L (p:=λx=>!(dO p x)) λx hx=>⟨by kernel_rfl,λh' M' u' H P=>?_⟩).go λw B A b N s Q=>⟨b,d4 s,b,rfl,λ_=>?_,A,f.trans N⟩;have ab:=Zf hx;obtain⟨i,j,rfl,U,Z⟩:=jl P;apply PX.of;show XC Tp 90 #[.agg #[.int .i64 x.kind,.string x.text,aK i,aK j],.pointer (Td ⟨c.size,0,Te⟩)] h' _;apply FO x.kind x.text i j;intro g1;have G:Later h' M' g1 M':=Later.push H.ag _;have O:ze g1 ⟨h'.size,0,Te⟩ 0 [.int .i64 x.kind,.string x.text,aK i,aK j]:=mW (Keep.refl _ _);have E:zb g1 ⟨c.size,0,Te⟩=Td (.func (.func F) #[] #[]):=G.ag.cell (H.le _ _ V) rfl;clear_value g1;refine⟨x.kind,x.text,i,j,O,_,E,?_⟩;refine(ih x (by omega) (hv.item hx) (h:=g1) (M:=M') ((hM.trans f.le).trans H.le) G.ag (yv U Z)).go λw h5 M5 b L5 o aa=>⟨b,d4 o,M5,_,G.trans L5,dJ.2 (rdBool _),by rw[aa]⟩;rw[Q,wl,Om];simp;rintro b B ⟨b',e,hb,A,N⟩;cases e;refine⟨A,_,N,dJ.2 (rdBool _),?_⟩;rw[Qw,<-hr];cases r with
 |false=>rfl
 |true=>rw[hb rfl];simp
theorem xV(b:zr Tp F=Ta){p:Tr->Bool}(e:∀x,Sm x->PC Tp gl F [Arg.mk .tree x] [.bool] (λr=>r=p x))(v:Tr)(c:Sm v){h:za}{M:Fr}{u:Value}(i:Fr.le gl M)(ag:AgM M h)(f:RdV M .tree v u): PX Tp 57 #[u,.func (.func F) #[] #[]] h M [.bool] (λr=>r=dO p v):=JR b e (dx v) v (ND _) c i ag f
theorem LA(H:GL gl)(C:Sm v)(s:R (fm v)):PC Tp gl 67 [Arg.mk .tree v] [.bool] R:=by
 intro h M vs D ag L
 match vs,L with
 |[u],⟨q,_⟩=>
  have q:RdV M .tree v u:=q;have n:=q;obtain⟨sk,si,rfl,T,V⟩:=jl q;apply PX.of;apply Gm v.kind v.text sk si;intro j;have o:Later h M j M:=Later.push ag _;have s1:j.size=h.size+1:=NN _;have f:∀h':za,Keep j.size j h'->ze h' ⟨h.size,0,Te⟩ 0 [.int .i64 v.kind,.string v.text,aK sk,aK si]:=λh' k=>mW (h':=h') (by rw[s1]at k;exact k);clear_value j;refine⟨v.kind,v.text,sk,si,f j (Keep.refl _ _),?_⟩;have B:PC Tp gl 56 [Arg.mk .tree v] [.bool] (λr=>r=Yj v):=Aq C rfl;refine B.go (vs:=[.agg #[.int .i64 v.kind,.string v.text,aK sk,aK si]]) (D.trans o.le) o.ag (zw (RdV.mono o.le n) yc) λw Q E r A m G=>?_;refine⟨r,d4 m,v.kind,v.text,sk,si,λ_=>f Q A.keep,?_⟩;have c:=o.trans A;refine⟨λw z=>∃b,w=.bool b/\(r=Ta->b=dO zy v)/\∃y,Later h M z y,λP=>?_,λl=>⟨Ta,Ta,rfl,λe=>(by rw[e]at l;cases l),E,c⟩,λ_ w z ⟨b,e,_⟩=>⟨b,e⟩,?_⟩;refine(xV (F:=59) (by kernel_rfl) (p:=zy) (λx S=>vW H S rfl) v C (D.trans c.le) A.ag (RdV.mono c.le n)).go λw Y J b N i t=>⟨b,d4 i,b,rfl,λ_=>t,J,c.trans N⟩;rintro b z ⟨U,e,I,y,O⟩;cases e;refine⟨y,_,O,dJ.2 (rdBool _),?_⟩;unfold fm at s;rw[<-G]at s;cases r with
  |false=>exact s
  |true=>rw[zI,I rfl];exact s
end
end Go.X
end
section
namespace Go.X
open Go Go.RowKit
section
variable {M:Fr} {h:za} {bs:List Nat} {b o:Nat} {cs:Array Value} {vs:List Value}
def MxL(M:Fr)(h:za)(bs:List Nat):Fr:=λi=>if i∈bs then(match h[i]? with
 |some (.cells cs _ _)=>Td cs
 |_=>Te)else M i
theorem MxL.ag{M:Fr}{h:za}(ag:AgM M h)(bs:List Nat):AgM (MxL M h bs) h:=by intro b c e;unfold MxL at e;split at e;split at e;rename_i cs T m f;cases e;exact⟨T,m,f⟩;cases e;exact ag b c e
theorem MxL.later{h0 h:za}(ag:AgM M h0)(k:Keep h0.size h0 h)(hb:∀b∈bs,h0.size<=b):Later h0 M h (MxL M h bs) where
 keep:=k
 le:=λb c e=>by have:=ag.lt e;unfold MxL;rw[zv (λhm=>by have:=hb b hm;omega)];exact e
 old:=λb hlt=>by unfold MxL;rw[zv (λhm=>by have:=hb b hm;omega)]
 ag:=MxL.ag (ag.keep k) bs
theorem MxL.at(c:b∈bs)(e:Blk h b cs):MxL M h bs b=Td cs:=by obtain⟨T,e⟩:=e;unfold MxL;rw[zz c,e]
def gG(cs:Array Value)(o:Nat)(vs:List Value):Array Value:=(cs.toList.take o++vs++cs.toList.drop (o+vs.length)).toArray
theorem FI(h:o+vs.length<=cs.size):(gG cs o vs).size=cs.size:=by unfold gG;simp;omega
theorem F1(h:o+vs.length<=cs.size)(q:Nat):(gG cs o vs).toList[q]?=if q<o then cs.toList[q]? else if q<o+vs.length then vs[q-o]? else cs.toList[q]?:=by unfold gG;exact Zp (by simpa using h) q
theorem qn{o n i:Nat}:(cut cs o n)[i]?=if i<n then cs.toList[o+i]? else Te:=by unfold cut;rw[N4];split;rw[Oj];rfl
theorem sH{P:Program}{t:TypeId}(hi:qy P t=Ta)(H:Blk h b cs){v:Value}(f:v.cells.toList=vs)(l:qj P t=vs.length)(q:o+vs.length<=cs.size)(r:∀u∈vs,u.oneCell'=Ta){K:za->Prop}
  (p:∀h':za,Blk h' b (gG cs o vs)->h'.size=h.size->(∀j,j≠b->h'[j]?=h[j]?)->K h'):XRunU P (NR t (.pointer (Td ⟨b,o,Te⟩)) v) h K:=by
 intro B d;obtain⟨T,e⟩:=H;have c:v.cells.size=vs.length:=by rw[<-f];simp
 obtain⟨h',m,i,k,n⟩:=Zz (P:=P) hi l e c q (by rw[f];exact r) B d;refine⟨d,h',m,p h' ⟨T,?_⟩ k n⟩;rw[i];unfold gG;rw[f]
theorem Blk.ofKeep{h h':za}(H:Blk h b cs)(k:Keep h.size h h'):Blk h' b cs:=H.keepN k H.lt
theorem mr(ag:AgM M h)(bs:List Nat):Fr.le M (MxL M h bs):=by intro b c e;unfold MxL;split;obtain⟨T,m,f⟩:=ag b c e;rw[f];exact e
end
end Go.X
end
section
namespace Go.X
section
variable {cs:Array Value}
theorem Fx:ElemT Tp 22 9 (.string ⟨#[]⟩) 1 16:=⟨by kernel_rfl,⟨Tryz.t9,by kernel_rfl,by kernel_rfl,by kernel_rfl,by kernel_rfl⟩,rfl,by omega⟩
theorem LY:ElemT Tp 46 48 (.agg #[.int .i64 0,.string ⟨#[]⟩,.slice Te 0 0,.slice Te 0 0]) 4 72:=⟨by kernel_rfl,⟨Tryz.t48,by kernel_rfl,by kernel_rfl,by kernel_rfl,by kernel_rfl⟩,rfl,by omega⟩
theorem Ig:qy Tp 48=Ta:=by kernel_rfl
theorem E1:qj Tp 48=4:=by kernel_rfl
theorem Ec:qy Tp 22=Ta:=by kernel_rfl
theorem KD:qj Tp 22=1:=by kernel_rfl
def iY(k:Int)(s:Bt)(sk si:Sl):List Value:=[.int .i64 k,.string s,aK sk,aK si]
theorem H7(k:Int)(s:Bt)(sk si:Sl):∀u∈iY k s sk si,u.oneCell'=Ta:=by intro u b;simp[iY]at b;rcases b with rfl|rfl|rfl|rfl <;> simp[Value.oneCell',aK]
theorem DL(k:Int)(s:Bt)(sk si:Sl):(Value.agg #[.int .i64 k,.string s,aK sk,aK si]).cells.toList=iY k s sk si:=rfl
theorem Ie{vs:List Value}(h:cs.size=vs.length):gG cs 0 vs=vs.toArray:=by unfold gG;rw[List.take_zero,OU,NZ,<-h];have:cs.toList.drop cs.size=[]:=Pd (by simp);rw[this,Oe]
theorem E0{h:za}{b:Nat}(H:Blk h b cs)(e:cs.size=4)(k:Int)(s:Bt)(sk si:Sl){K:za->Prop}
  (f:∀h':za,Blk h' b (iY k s sk si).toArray->h'.size=h.size->(∀j,j≠b->h'[j]?=h[j]?)->K h'):XRunU Tp (NR 48 (.pointer (Td ⟨b,0,Te⟩)) (.agg #[.int .i64 k,.string s,.slice sk.a sk.len sk.cap,.slice si.a si.len si.cap])) h K:=
 sH (vs:=iY k s sk si) Ig H (DL k s sk si) E1 (by rw[e];exact ND _) (H7 k s sk si) λh' c l i=>f h' (by rw[Ie (by rw[e];rfl)]at c;exact c) l i
end
section
variable {gl:Fr} {R:Tr -> Prop}
theorem vL{l:List Tr}(h:R (.mk 5 ⟨#[]⟩ [] l)):PC Tp gl 27 [Arg.mk (.row .tree) l] [.tree] R:=by apply Mc;exact h
theorem AT(b:GL gl){n:Int}(e:-1000000<=n)(c:n<=1000000)(h:R (.mk 3 (bl (W5 (qu (Lib.itoa n)).1)) [] [])):PC Tp gl 25 [Arg.mk (.int .i64) n] [.tree] R:=by apply Iw;refine Fu b.pow (by omega) (by omega) ?_;exact wU b.pow (W8 _ (by have:=Go.X.itoa_len n;omega)) h
end
end Go.X
end
section
namespace Go.X
open Go Go.Proofs Go.Shelf Go.RowKit
section
def BS:Go.Shelf.Ren:=⟨fun|169=>121|n=>n,fun|70=>161|9=>9|0=>0|72=>164|37=>162|127=>199|3=>3|5=>5|n=>n,fun|n=>n⟩
theorem F6:Go.Proofs.Lays.n169 Tp BS:=by constructor <;> intros <;> kernel_rfl
theorem Ls:Builder.Extra Tp BS:={
 sizeBuilder:=by kernel_rfl
 liesBuilder:=by kernel_rfl
 t5:=Tryz.underlying5
 a5:=Tryz.isAgg5
 z5:=Tryz.sizeOf5
 v5:=Tryz.zeroValue5
 infoByte:=by kernel_rfl
 cellsByte:=by kernel_rfl
 sizeByte:=by kernel_rfl
 neB5:=by decide }
theorem Ed(B b:Nat)(l:List UInt8)(w:World)(h:Lib.IsBuilder 164 5 B b (Lib.byteCells l) w)(c:B<=w.heap.size): Calls Tp 121 #[.pointer (Td ⟨b,0,Te⟩)] w λe w'=>e=.returned (.string ⟨l.toArray⟩)/\Below B w w':=Any.Builder_String_any F6 Ls B b l w h c
end
end Go.X
end
section
namespace Go.X
open Go Go.X Go.Proofs Go.RowKit
section
variable {h h':za} {b:Nat} {l:Bs} {cs:Array Value} {s:Sl} {K:Value -> za -> Prop}
def Bld(h:za)(b:Nat)(l:Bs):Prop:=∃(p:Option Addr) (s:Sl),h[b]?=Td (.cells #[.pointer p,aK s] 164 (0,0))/\(p=Te\/p=Td ⟨b,0,Te⟩)/\Owns h (b+1) 5 1 s (Lib.byteCells l)
theorem Bld.lt(H:Bld h b l):b<h.size:=by obtain⟨p,s,e,_⟩:=H;rcases Ob b h.size with q|q;exact q;rw[Array.getElem?_eq_none q]at e;cases e
theorem Bld.keep(H:Bld h b l)(k:Keep h.size h h'):Bld h' b l:=by have c:=H.lt;obtain⟨p,s,e,f,i⟩:=H;exact⟨p,s,by rw[k.get b c];exact e,f,i.keepN k⟩
theorem tV:(NS.info? 164).map (·.size)=Td 2:=by kernel_rfl
theorem CL:liesAt Tp NS.depth 164 (2 / NS.cellsOf 164) 0 164 1=Ta:=by kernel_rfl
theorem lA:NS.underlying 161=Td (.pointer 164):=by kernel_rfl
theorem oB:NS.underlying 240=Td .unsafePointer:=by kernel_rfl
set_option maxHeartbeats 1000000 in
set_option maxRecDepth 100000 in
theorem xN(b:Nat)(w:World)(h0:w.cell? ⟨b,0,Te⟩=Td (.pointer (Td ⟨b,0,Te⟩))):
  Calls Tp 175 #[.pointer (Td ⟨b,0,Te⟩)] w λe w'=>e=.returned (.tuple #[])/\w'=w:=by
 obtain⟨j,c,_⟩:=Pn.1 tV;have mixed:=Tryz.mixed
 go_enter Tryz.func175,Tryz.ntmps175
 go_wp2
 rw[Lib.run_neq_ptr_same w _ lA c]
 go_wp2
 go_end0
 exact⟨rfl,rfl⟩
set_option maxHeartbeats 1000000 in
set_option maxRecDepth 100000 in
theorem Eg(b:Nat)(w:World)(h0:w.cell? ⟨b,0,Te⟩=Td (.pointer Te))(c:w.shape? b=Td (164,2))(i:w.frozen? ⟨b,0,Te⟩=Tc):
  Calls Tp 175 #[.pointer (Td ⟨b,0,Te⟩)] w λe w'=>e=.returned (.tuple #[])/\w'=w.setCell ⟨b,0,Te⟩ (.pointer (Td ⟨b,0,Te⟩)):=by
 obtain⟨j,h,f⟩:=Pn.1 tV;have mixed:=Tryz.mixed
 go_enter Tryz.func175,Tryz.ntmps175
 go_wp2
 rw[Lib.run_to_unsafe w ⟨b,0,Te⟩ lA oB h (by rw[f];decide) c (Nat.zero_lt_succ 1)];simp only[Result.andThen];rw[Oper.upon_value]
 go_wp2
 rw[run_callFunc_extern Tryz.func203 (by kernel_rfl) (by kernel_rfl) (by kernel_rfl) (e:=Ry) (by kernel_rfl)];rw[Lib.run_noEscape];simp only[Result.andThen];rw[Oper.upon_value]
 go_wp2
 rw[Lib.run_from_unsafe w ⟨b,0,Te⟩ oB lA h c CL];simp only[Result.andThen];rw[Oper.upon_value]
 go_wp2
 go_end0
 exact⟨rfl,rfl⟩
theorem Ar{b o:Nat}{T:TypeId}(e:h[b]?=Td (.cells cs T (0,0)))(v:Value)(B:World)(d:Nat):(mk B d h).setCell ⟨b,o,Te⟩ v=mk B d (h.setIfInBounds b (.cells (cs.setIfInBounds o v) T (0,0))):=by
 unfold World.setCell mk;simp only;congr 1;have c:b<h.size:=(NK.1 e).1;apply Array.ext_getElem?;intro i;rw[QM];by_cases hi:i=b;subst hi;have f:h[i]=.cells cs T (0,0):=by have:=Oy c;rw[e]at this;exact(NY this).symm
 simp[c,f];rw[zv (Ne.symm hi),NW (Ne.symm hi)]
theorem Keep.ne(e:h'.size=h.size)(c:∀i,i≠b->h'[i]?=h[i]?):Keep b h h':=⟨by omega,λi hi=>c i (by omega)⟩
def Itk(h h':za):Prop:=∀(i:Nat) (s:Bt) (p:Nat),h[i]?=Td (.stringIter s p)->h'[i]?=Td (.stringIter s p)
theorem Itk.trans{a b c:za}(x:Itk a b)(y:Itk b c):Itk a c:=λi s p e=>y i s p (x i s p e)
theorem Itk.keep(k:Keep h.size h h'):Itk h h':=λi s p e=>by have hi:i<h.size:=(NK.1 e).1;rw[k.get i hi];exact e
theorem Itk.ne{T:TypeId}{m:Nat×Nat}(e:h[b]?=Td (.cells cs T m))(f:∀i,i≠b->h'[i]?=h[i]?):Itk h h':=λi s p c=>by by_cases hi:i=b;subst hi;rw[e]at c;cases c;rw[f i hi];exact c
theorem Itk.own{base:Nat}{e:TypeId}{sz:Nat}{xs:List Value}(H:Owns h base e sz s xs)(f:∀i,i<h.size->(∀p,s.a=Td p->i≠p.block)->h'[i]?=h[i]?):Itk h h':=λi t p c=>by have hi:i<h.size:=(NK.1 c).1;rw[f i hi λq m l=>?_];exact c;rcases H.2 with⟨b,_⟩|⟨g,cap,j,b,_,k,_⟩;rw[m]at b;cases b;have k:h[g]?=Td (.cells j e (0,0)):=k;rw[m]at b;injection b with e1 _ _;injection e1 with e1;rw[l,e1]at c;rw[k]at c;cases c
theorem te(H:Bld h b l)(k:∀h',Bld h' b l->Keep b h h'->h'.size=h.size->Itk h h'->K (.tuple #[]) h'):XC Tp 175 #[.pointer (Td ⟨b,0,Te⟩)] h K:=by
 have f:=H.lt;obtain⟨p,s,e,m,j⟩:=H;have c:∀B d,(mk B d h).cell? ⟨b,0,Te⟩=Td (.pointer p):=λB d=>by have:(mk B d h).heap[b]?=Td (.cells #[.pointer p,aK s] 164 (0,0)):=e;simp[Ro,this]
 rcases m with rfl|rfl;refine XC.of_calls λB d=>(Eg b (mk B d h) (c B d) ?_ ?_).mono ?_
 have:(mk B d h).heap[b]?=Td (.cells #[.pointer Te,aK s] 164 (0,0)):=e;simp[World.shape?,this];exact qJ ⟨_,e⟩ B d;rintro e' w' ⟨rfl,rfl⟩;rw[Ar e];refine⟨_,rfl,rfl,rfl,rfl,?_⟩;show K _ (h.setIfInBounds b _);refine k _ ⟨_,s,?_,.inr rfl,?_⟩ ?_ (by simp) (Itk.ne e λi hi=>NW (Ne.symm hi));rw[Pk f];rfl;refine j.keep λq n=>?_;have:=j.base_le q n;rw[NW (by omega)];exact Keep.setBlk _ (ND _);refine XC.of_calls λB d=>(xN b (mk B d h) (c B d)).mono ?_;rintro e' w' ⟨rfl,rfl⟩;exact⟨_,rfl,rfl,rfl,rfl,k _ ⟨_,s,e,.inr rfl,j⟩ (Keep.refl _ _) rfl (Itk.keep (Keep.refl _ _))⟩
theorem pc:ElemT Tp 162 5 (.int .u8 0) 1 1:=⟨by kernel_rfl,⟨Tryz.t5,by kernel_rfl,by kernel_rfl,by kernel_rfl,by kernel_rfl⟩,rfl,by omega⟩
theorem zX:NS.underlying 9=Td .string:=by kernel_rfl
theorem BR:qy Tp 162=Ta:=by kernel_rfl
theorem xT:qj Tp 162=1:=by kernel_rfl
theorem qB{p:Option Addr}{s k:Sl}(e:h[b]?=Td (.cells #[.pointer p,aK k] 164 (0,0)))(n:p=Te\/p=Td ⟨b,0,Te⟩)(f:Owns h (b+1) 5 1 s (Lib.byteCells l)){K:za->Prop}
  (m:∀h',Bld h' b l->Keep b h h'->h'.size=h.size->Itk h h'->K h'):XRunU Tp (NR 162 (.pointer (Td ⟨b,1,Te⟩)) (.slice s.a s.len s.cap)) h K:=by
 intro B d;obtain⟨h',t,j,i,c⟩:=Zz (P:=Tp) BR xT e (o:=1) (v:=aK s) rfl (by simp) (by simp[aK,Value.cells,Value.oneCell']) B d;refine⟨d,h',t,m h' ⟨p,s,?_,n,?_⟩ (Keep.ne i c) i (Itk.ne e c)⟩;rw[j];rfl;refine f.keep λq r=>?_;have:=f.base_le q r;exact c _ (by omega)
theorem Jl(H:Bld h b l)(Z:l.length<140737488355328)(c:UInt8)(P:∀h',Bld h' b (l++[c])->Keep b h h'->Itk h h'->K .nilIface h'):
  XC Tp 177 #[.pointer (Td ⟨b,0,Te⟩),.int .u8 (c.toNat:Int)] h K:=by
 apply ja;refine te H λj B k2 T F=>⟨rfl,_,rfl,?_⟩;have w:=B.lt;obtain⟨p,s,e,M,r⟩:=B;have m:=r.1;rw[Lib.byteCells_length,OI]at m;refine⟨s,Blk.cellAdd (o:=0) (k:=1) (cs:=#[.pointer p,aK s]) ⟨_,e⟩ rfl,?_⟩;intro f;have t:Keep j.size j f:=Keep.push _ _ (ND _);have s5:f.size=j.size+1:=NN _;have b5:Blk f j.size #[.int .u8 (c.toNat:Int)]:=Blk.new _ _ _;have J:f[b]?=Td (.cells #[.pointer p,aK s] 164 (0,0)):=by rw[t.get b w];exact e
 have C:=r.keepN t;clear_value f;refine j3 pc C (src:=⟨Td ⟨j.size,0,Te⟩,1,1⟩) (news:=[.int .u8 (c.toNat:Int)]) (n:=f.size) ?_ rfl (by simp[Value.oneCell']) (by simp only;omega) (by simp only;omega) (by omega) λA z S E y V U=>⟨A,rfl,_,rfl,?_⟩;refine .inr ⟨j.size,0,rfl,by omega,λi v x=>?_⟩
 match i,x with
 |0,x=>cases x;exact b5.cell rfl
 have O:z[b]?=Td (.cells #[.pointer p,aK s] 164 (0,0)):=by rw[y b (by omega) λq u=>by have:=r.base_le q u;omega];exact J
 have D:Owns z (b+1) 5 1 A (Lib.byteCells (l++[c])):=by
  have:Lib.byteCells (l++[c])=Lib.byteCells l++[.int .u8 (c.toNat:Int)]:=by unfold Lib.byteCells;rw[Oq];rfl
  rw[this];exact E
 have G:Keep b h z:=k2.trans ⟨by omega,λi hi=>by rw[y i (by omega) λq u=>by have:=r.base_le q u;omega];exact t.get i (by omega)⟩ (ND _);refine qB O M D λI L Q Y N=>P I L (G.trans Q (ND _)) (F.trans ((Itk.keep t).trans ((Itk.own C y).trans N)))
theorem GQ(H:Bld h b l)(t:Bs)(hl:l.length+t.length<=140737488355328)(O:∀h',Bld h' b (l++t)->Keep b h h'->Itk h h'->K (.tuple #[.int .i64 (t.length:Int),.nilIface]) h'):
  XC Tp 149 #[.pointer (Td ⟨b,0,Te⟩),.string (bl t)] h K:=by
 apply yk;refine te H λQ y k2 U E=>⟨rfl,_,rfl,?_⟩;have J:=y.lt;obtain⟨p,s,e,L,f⟩:=y;have j:=f.1;rw[Lib.byteCells_length,OI]at j;refine⟨s,Blk.cellAdd (o:=0) (k:=1) (cs:=#[.pointer p,aK s]) ⟨_,e⟩ rfl,?_⟩;have c:=zx t;refine X9 pc f (x:=.string (bl t)) (m:=(bl t).size) (news:=Lib.byteCells t) (λB d=>?_) (by rw[c];omega) (by rw[c];omega) (by omega) λz u T C r Y V=>⟨z,rfl,_,rfl,?_⟩;have:=Src.ofString (P:=Tp) (w:=mk B d Q) zX (bl t);have S:byteCells (bl t)=Lib.byteCells t:=by unfold byteCells Lib.byteCells;have:(bl t).data.toList=t:=Zc t;rw[this]
 rw[S]at this;exact this;have N:u[b]?=Td (.cells #[.pointer p,aK s] 164 (0,0)):=by rw[r b (by omega) λq n=>by have:=f.base_le q n;omega];exact e
 have A:Owns u (b+1) 5 1 z (Lib.byteCells (l++t)):=by
  have:Lib.byteCells (l++t)=Lib.byteCells l++Lib.byteCells t:=by unfold Lib.byteCells;rw[Oq]
  rw[this];exact C
 have F:Keep b h u:=k2.trans ⟨by omega,λi hi=>r i (by omega) λq n=>by have:=f.base_le q n;omega⟩ (ND _);refine qB N L A λG I D Z M=>?_;rw[c];exact O G I (F.trans D (ND _)) (E.trans ((Itk.own f r).trans M))
theorem I6(H:Bld h b l)(n:∀h',Keep b h h'->K (.string (bl l)) h'):XC Tp 121 #[.pointer (Td ⟨b,0,Te⟩)] h K:=by
 have i:=H.lt;obtain⟨p,s,e,o,j⟩:=H;refine XC.of_calls λB d=>(Ed b b l (mk B d h) ?_ (QU i)).mono ?_;have k:Lib.BuilderAt 164 5 b b (.pointer p) (Lib.byteCells l) (mk B d h):=by
  refine⟨ND _,aK s,e,?_,?_⟩;have m:=j.1;rw[OI]at m;rw[m];exact j.base (Nat.le_succ b);intro f;cases ha:s.a with
  |none=>rw[aK,ha]at f;cases f
  |some q=>
   have:=j.base_le q ha;rw[aK,ha]at f;have:q.block=b:=by simpa[Value.ownBlock]using f
   omega
 rcases o with rfl|rfl;exact .inl k;exact .inr k;rintro e' w' ⟨rfl,c⟩;exact⟨_,rfl,c.os,c.tape,c.output,n _ ⟨c.size,c.block⟩⟩
end
end Go.X
end
section
namespace Go.X
open Go Go.Lib
section
theorem ME(l:Bs):decodeL l=dec l:=by rw[decodeL_N,dec]
theorem v6{l:Bs}(h:l≠[])(b:ft (dec l)=Tc):encodeRune ((dec l).1:Int)=l.take (dec l).2:=by rw[<-ME]at b ⊢;refine encode_decode l h λ⟨e,c⟩=>?_;unfold ft at b;rw[e,c]at b;cases b
theorem CH(l:Bs):(dec l).1<=1114111:=by
 have h0:=(l.getD 0 0).toNat_lt;have c:=(l.getD 1 0).toNat_lt;have b:=(l.getD 2 0).toNat_lt;have e:=(l.getD 3 0).toNat_lt;unfold dec decodeN;repeat' split
 all_goals (simp only;omega)
def ix(c:UInt8):Bs:=
 if c=34\/c=92 then [92,c]else if c=8 then [92,98]else if c=12 then [92,102]else if c=10 then [92,110]else if c=13 then [92,114]else if c=9 then [92,116]
 else if c.toNat<32 then [92,117,48,48,PL (48+c.toNat / 16),PL (if c.toNat % 16<10 then 48+c.toNat % 16 else 87+c.toNat % 16)]else [c]
def eh(l:Bs):Bs:=l.flatMap ix
def eG(l:Bs):Bs×Int:=if dF l then(34::eh l++[34],0)else([],2)
end
end Go.X
end
section
namespace Go.X
open Go Go.X Go.Proofs Go.RowKit
section
theorem Gi{h:za}{b:Nat}{l:Bs}(H:Bld h b l){r:Int}(h0:0<=r)(h1:r<=1114111)(hl:l.length+4<=140737488355328){K:Value->za->Prop}(hK:∀h' n,Bld h' b (l++Lib.encodeRune r)->Keep b h h'->Itk h h'->K (.tuple #[.int .i64 n,.nilIface]) h'):
  XC Tp 205 #[.pointer (Td ⟨b,0,Te⟩),.int .i32 r] h K:=by
 apply Zh;refine te H λf A k2 z2 M=>⟨rfl,_,rfl,?_⟩;have t:=A.lt;obtain⟨p,s,e,S,u⟩:=A;have w:=u.1;rw[Lib.byteCells_length,OI]at w;have c1:=Blk.cellAdd (o:=0) (k:=1) (v:=aK s) (cs:=#[.pointer p,aK s]) ⟨_,e⟩ rfl;refine⟨s,c1,_,rfl,s,c1,?_⟩;refine XC.of_calls λB d=>(Ji (b+1) (aK s) s.len (Lib.byteCells l) r (by omega) (by omega) (mk B d f) u (by omega) (show b+1<=f.size by omega)).mono ?_;rintro e' w' ⟨J,rfl,q,o,j⟩;obtain⟨m,rfl,U⟩:∃m:Sl,J=aK m/\m.len=s.len+(Lib.runeCells r).length:=by rcases q.2 with⟨rfl,G⟩|⟨g,cap,D,rfl,_⟩;exact⟨⟨Te,0,0⟩,rfl,G.symm⟩;exact⟨⟨_,_,_⟩,rfl,rfl⟩
 have F:Owns w'.heap (b+1) 5 1 m (Lib.byteCells (l++Lib.encodeRune r)):=by
  have N:Lib.byteCells (l++Lib.encodeRune r)=Lib.byteCells l++Lib.runeCells r:=by rw[<-Lib.byteCells_encodeRune];unfold Lib.byteCells;rw[Oq]
  rw[N];rw[<-U]at q;exact q
 have Y:w'.heap[b]?=Td (.cells #[.pointer p,aK s] 164 (0,0)):=by
  have x:=j.block b (by show b<(f.push o).size;rw[NN];omega) (by
   intro c;cases ha:s.a with
   |none=>rw[aK,ha]at c;cases c
   |some a=>have:=u.base_le a ha;rw[aK,ha]at c;simp only[Value.ownBlock,NC]at c;omega)
  rw[x];show(f.push o)[b]?=_;rw[Array.getElem?_push_lt t,<-e];simp[t]
 have O:Keep b h w'.heap:=by
  refine k2.trans ⟨?_,λi hi=>?_⟩ (ND _);have:=j.size;have Z:(f.push o).size<=w'.heap.size:=this;rw[NN]at Z;omega;have x:=j.block i (by show i<(f.push o).size;rw[NN];omega) (by
   intro c;cases ha:s.a with
   |none=>rw[aK,ha]at c;cases c
   |some a=>have:=u.base_le a ha;rw[aK,ha]at c;simp only[Value.ownBlock,NC]at c;omega)
  rw[x];show(f.push o)[i]?=_;rw[Array.getElem?_push_lt (by omega)];simp[show i<f.size by omega]
 have E:Itk f w'.heap:=Itk.own u λi hi y=>by
  have x:=j.block i (by show i<(f.push o).size;rw[NN];omega) (by
   intro c;cases ha:s.a with
   |none=>rw[aK,ha]at c;cases c
   |some a=>have:=y a ha;rw[aK,ha]at c;simp only[Value.ownBlock,NC]at c;exact this c)
  rw[x];show(f.push o)[i]?=_;rw[Array.getElem?_push_lt hi];simp[hi]
 refine⟨_,rfl,j.os,j.tape,j.output,m,rfl,_,rfl,?_⟩;refine qB Y S F λP C I z7 V=>?_;have T:=C;obtain⟨L,z,Q,_,_⟩:=T;exact⟨_,rfl,z,Blk.cellAdd (o:=0) (k:=1) (v:=aK z) (cs:=#[.pointer L,aK z]) ⟨_,Q⟩ rfl,hK P _ C (O.trans I (ND _)) (M.trans (E.trans V))⟩
end
section
variable {M:Fr} {h:za} {K:Value -> za -> Prop} {b o c:Nat}
def Brn(gl:Fr):Prop:=∃cs:Array Value,gl 4=Td cs/\cs[15]?=Td (.int .u8 4)
theorem Brn.mono{gl M:Fr}(h:Brn gl)(le:Fr.le gl M):Brn M:=by obtain⟨cs,e,h⟩:=h;exact⟨cs,le _ _ e,h⟩
theorem Dt(c:K (.bool Ta) h):XC Tp 161 #[.int .i64 16] h K:=by apply wy;exact Eq.mpr (congrArg (λb=>K (.bool b) h) (by kernel_rfl)) c
theorem Ee(c:Brn M)(ag:AgM M h)(f:K (.int .i64 4) h):XC Tp 162 #[.int .u64 16] h K:=by
 obtain⟨cs,e,i⟩:=c;apply Qe;refine⟨λb=>(by cases b),λ_=>?_⟩;apply Zg;refine⟨λb=>(by cases b),λ_=>⟨_,⟨rfl,by decide +kernel,by decide +kernel⟩,4,?_,4,rfl,f⟩⟩;have key:∀n:Nat,n=15->zb h (NG ⟨4,0,Te⟩ n)=Td (.int .u8 4):=by rintro n rfl;exact ag.cell e i
 exact key _ (by kernel_rfl)
def Bp:Bs:=[48,49,50,51,52,53,54,55,56,57,97,98,99,100,101,102,103,104,105,106,107,108,109,110,111,112,113,114,115,116,117,118,119,120,121,122]
def gR(k:Nat):UInt8:=Bp[k]?.getD 0
theorem ut(k:Nat):y0 (⟨#[48,49,50,51,52,53,54,55,56,57,97,98,99,100,101,102,103,104,105,106,107,108,109,110,111,112,113,114,115,116,117,118,119,120,121,122]⟩:Bt) k=((gR k).toNat:Int):=Yg Bp k
def dB(c:Nat):Bs:=if c<16 then [gR c]else [gR 1,gR (c % 16)]
def z65:Array Value:=#[.int .u8 0,.int .u8 0,.int .u8 0,.int .u8 0,.int .u8 0,.int .u8 0,.int .u8 0,.int .u8 0,.int .u8 0,.int .u8 0,.int .u8 0,.int .u8 0,.int .u8 0,.int .u8 0,.int .u8 0,.int .u8 0,.int .u8 0,.int .u8 0,.int .u8 0,.int .u8 0,.int .u8 0,.int .u8 0,.int .u8 0,.int .u8 0,.int .u8 0,.int .u8 0,.int .u8 0,.int .u8 0,.int .u8 0,.int .u8 0,.int .u8 0,.int .u8 0,.int .u8 0,.int .u8 0,.int .u8 0,.int .u8 0,.int .u8 0,.int .u8 0,.int .u8 0,.int .u8 0,.int .u8 0,.int .u8 0,.int .u8 0,.int .u8 0,.int .u8 0,.int .u8 0,.int .u8 0,.int .u8 0,.int .u8 0,.int .u8 0,.int .u8 0,.int .u8 0,.int .u8 0,.int .u8 0,.int .u8 0,.int .u8 0,.int .u8 0,.int .u8 0,.int .u8 0,.int .u8 0,.int .u8 0,.int .u8 0,.int .u8 0,.int .u8 0,.int .u8 0]
theorem LJ:qy Tp 5=Ta:=by kernel_rfl
theorem CV:qj Tp 5=1:=by kernel_rfl
theorem Di{l:Bs}{cap:Nat}(f:∀j (c:j<l.length),zb h ⟨b,o+j,Te⟩=Td (.int .u8 (l[j].toNat:Int)))(e:K (.string (bl l)) h):
  jh Tp (convert 162 9 (.slice (Td ⟨b,o,Te⟩) l.length cap)) h K:=by
 intro B d;refine⟨_,d,h,run_convert_bytes_back (P:=Tp) (mk B d h) 162 9 5 ⟨b,o,Te⟩ cap l Tryz.underlying162 Tryz.underlying5 Tryz.underlying9 λj c=>?_,e⟩;rw[rU,zj];exact f j c
theorem JA(b:c<18446744073709551616):NB .u64 (((OT (Oz .u64) (c:Int)) &&& (OT (Oz .u64) (15:Int))).toNat:Int)=((c % 16:Nat):Int):=by rw[show(15:Int)=((15:Nat):Int)from rfl,Lp b (by decide)];congr 1;exact Nat.and_two_pow_sub_one_eq_mod c 4
theorem ry{k:Nat}(h:k<36):0<=(k:Int)/\(k:Int)<(((⟨#[48,49,50,51,52,53,54,55,56,57,97,98,99,100,101,102,103,104,105,106,107,108,109,110,111,112,113,114,115,116,117,118,119,120,121,122]⟩:Bt)).size:Int):=by have:(((⟨#[48,49,50,51,52,53,54,55,56,57,97,98,99,100,101,102,103,104,105,106,107,108,109,110,111,112,113,114,115,116,117,118,119,120,121,122]⟩:Bt)).size:Int)=36:=rfl;rw[this];omega
theorem vT{g:za}{cs:Array Value}(B:Blk g b cs)(e:o<cs.size){x:Int}{K:za->Prop}(c:∀g',Blk g' b (cs.setIfInBounds o (.int .u8 x))->g'.size=g.size->(∀i,i≠b->g'[i]?=g[i]?)->K g'):XRunU Tp (NR 5 (.pointer (Td ⟨b,o,Te⟩)) (.int .u8 x)) g K:= Wu LJ CV B e rfl c
set_option maxRecDepth 100000 in
set_option maxHeartbeats 4000000 in
theorem Ij(hc:c<32)(V:Brn M)(ag:AgM M h)(hK:∀h',Keep h.size h h'->K (.tuple #[.slice Te 0 0,.string (bl (dB c))]) h'):
  XC Tp 138 #[.slice Te 0 0,.int .u64 (c:Int),.int .i64 16,.bool Tc,.bool Tc] h K:=by
 refine xz ⟨Te,0,0⟩ (c:Int) 16 Tc Tc h K ?_;intro K2 B;refine⟨λb=>(by simp at b),λ_=>B _ ?_⟩;intro z;have P:Keep h.size h z:=Keep.push _ _ (ND _);have z3:z.size=h.size+1:=NN _;have Y:Blk z h.size z65:=Blk.new _ _ _;clear_value z;have L:=ag.keep P;intro K6 F;refine⟨λb=>(by cases b),λ_=>F _ _ ?_⟩;intro T J;have D:NB .u64 16=16:=by decide
 have E:NB .u64 (16-1)=15:=by decide
 rw[D,E];refine Dt ⟨Ta,rfl,λ_=>?_,λb=>(by cases b)⟩;refine Ee V L ⟨_,rfl,?_⟩;have m:z65.size=65:=rfl;have fin:∀(g:za) (cs:Array Value) (u i:Nat),Keep h.size h g->Blk g h.size cs->cs.size=65->u<16->1<=i->i<=65->(∀j,j<65-i->∃x:UInt8,(dB c)[j+1]?=Td x/\cs[i+j]?=Td (.int .u8 (x.toNat:Int)))->(dB c).length=66-i->(dB c)[0]?=Td (gR u) ->
   XRunU Tp (NR 5 (.pointer (Td (NG ⟨h.size,0,Te⟩ (((i-1:Nat):Int).toNat*1)))) (.int .u8 (y0 (⟨#[48,49,50,51,52,53,54,55,56,57,97,98,99,100,101,102,103,104,105,106,107,108,109,110,111,112,113,114,115,116,117,118,119,120,121,122]⟩:Bt) ((u:Int)).toNat))) g (λN=>T (((i-1:Nat):Int)) N):=by
  intro g cs u i p r t hu U aa n y f;rw[NE,NE,OI,ut];rw[zj,NZ];refine vT r (by rw[t];omega) λQ O S C=>J _ _ ?_;intro Z s;refine⟨λb=>(by cases b),λ_=>s _ _ ?_⟩;refine⟨λb=>(by cases b),λ_=>⟨⟨by omega,by omega,by omega⟩,?_⟩⟩;have G:Keep h.size h Q:=⟨by have:=p.size;omega,λj l=>(C j (by omega)).trans (p.get j l)⟩;have I:Value.slice (dP (Td ⟨h.size,0,Te⟩) 1 ((i-1:Nat):Int).toNat 65) ((65:Int).toNat-((i-1:Nat):Int).toNat) (65-((i-1:Nat):Int).toNat)=.slice (Td ⟨h.size,i-1,Te⟩) (dB c).length (65-(i-1)):=by rw[NE,y,show(65:Int).toNat-(i-1)=66-i from by have:(65:Int).toNat=65:=rfl;omega];congr 1;unfold dP;rw[zv (by omega)];simp only[Rq,zj,NZ,OI]
  rw[I];refine Di (λj l=>?_) ⟨_,rfl,hK _ G⟩;refine O.cell ?_;rw[Array.getElem?_setIfInBounds];cases j with
  |zero=>rw[Pw,zz rfl,zz (by rw[t];omega)];rw[NL l]at f;rw[NY f]
  |succ j=>rw[zv (by omega)];obtain⟨x,w,H⟩:=n j (by omega);rw[show i-1+(j+1)=i+j from by omega,H];rw[NL l]at w;rw[NY w]
 refine⟨λu i g=>Keep h.size h g/\((u=(c:Int)/\i=65/\Blk g h.size z65)\/(16<=c/\u=1/\i=64/\Blk g h.size (z65.setIfInBounds 64 (.int .u8 ((gR (c % 16)).toNat:Int))))),λu _ _=>u.toNat,⟨P,.inl ⟨rfl,rfl,Y⟩⟩,?_⟩;rintro u i g ⟨p,⟨rfl,rfl,r⟩|⟨e,rfl,rfl,r⟩⟩;refine⟨λb=>?_,λb=>?_⟩;have e:16<=c:=by have:=zD b;omega
 rw[JA (by omega)];have em:NB .i64 ((65:Int)-1)=64:=by decide
 rw[em];refine⟨ry (by omega),_,⟨rfl,by decide,by decide⟩,?_⟩;rw[NE,ut,zj];refine vT (o:=64) r (by rw[m];omega) λQ O S C=>⟨by decide,⟨⟨by have:=p.size;omega,λj l=>(C j (by omega)).trans (p.get j l)⟩,.inr ⟨e,?_,rfl,O⟩⟩,?_⟩;have:(min (NB .u64 4).toNat 64)=4:=by decide
 rw[this];show(c:Int).fdiv 16=1;rw[Int.fdiv_eq_ediv_of_nonneg _ (by decide)];omega;have:(min (NB .u64 4).toNat 64)=4:=by decide
 rw[this];show((c:Int).fdiv 16).toNat<(c:Int).toNat;rw[Int.fdiv_eq_ediv_of_nonneg _ (by decide)];omega;have e:c<16:=by have:=zE b;omega
 have em:NB .i64 ((65:Int)-1)=((65-1:Nat):Int):=by decide
 rw[em];refine⟨ry (by omega),_,⟨rfl,by decide,by decide⟩,?_⟩;have q:dB c=[gR c]:=by unfold dB;rw[zz e]
 exact fin g z65 c 65 p r rfl e (by omega) (by omega) (λj l=>by omega) (by rw[q];rfl) (by rw[q];rfl);refine⟨λb=>?_,λb=>?_⟩;exact absurd (zD b) (by omega);have A:NB .i64 ((64:Int)-1)=((64-1:Nat):Int):=by decide
 rw[A];refine⟨ry (k:=1) (by omega),_,⟨rfl,by decide,by decide⟩,?_⟩;have q:dB c=[gR 1,gR (c % 16)]:=by unfold dB;rw[zv (by omega)]
 refine fin g _ 1 64 p r (by simp[m]) (by omega) (by omega) (by omega) (λj l=>?_) (by rw[q];rfl) (by rw[q];rfl);have:j=0:=by omega
 subst this;exact⟨_,by rw[q];rfl,by rw[Array.getElem?_setIfInBounds,zz rfl,zz (by rw[m];omega)]⟩
theorem Mp(l:c<32)(b:Brn M)(ag:AgM M h)(e:∀h',Keep h.size h h'->K (.string (bl (dB c))) h'):XC Tp 206 #[.int .i64 (c:Int),.int .i64 16] h K:=by apply Gt;apply Ze;refine⟨λj=>(by simp at j),λ_=>?_⟩;have i:NB .u64 (c:Int)=(c:Int):=Gb (by omega) (by omega);have f:decide ((c:Int)<0)=Tc:=zH (by omega);rw[i,f];exact Ij l b ag λh' k=>⟨⟨Te,0,0⟩,_,rfl,_,rfl,e h' k⟩
end
end Go.X
end
section
namespace Go.Proofs.YtlpdhcjkhfkfmaaGreatDoor
open Go Go.X Go.ChangeShapes Go.WideShapes Go.ChangeAt Go.RowKit Go.Lib
set_option linter.unusedVariables false
section
theorem mm{W:World}(h:laidMetH NS Z5 W):Brn (Fz W):=by
 have hl:laidMet NS Z5 W:=by rw[MakeChecks.laidMetH_plain _ _ _ (by kernel_rfl)]at h;exact h
 have hv : VarReads Tryz.prog W "math/bits.deBruijn64tab" (tabData .u8 [0, 1, 56, 2, 57, 49, 28, 3, 61, 58, 42, 50, 38, 29, 17, 4, 62, 47, 59, 36, 45, 43, 51, 22, 53, 39, 33, 30, 24, 18, 12, 5, 63, 55, 48, 27, 60, 41, 37, 16, 46, 35, 44, 21, 52, 32, 23, 11, 54, 26, 40, 15, 34, 20, 31, 10, 25, 14, 19, 9, 13, 8, 7, 6]) := by
  have := Go.Lib.laidMet.reads hl (List.mem_of_getElem? (show Z5[1]? = some ("math/bits.deBruijn64tab", Rows.laid_math_bits_deBruijn64tab) from rfl));have e:(Rows.laid_math_bits_deBruijn64tab:DataW Unit)=tabData .u8 [0,1,56,2,57,49,28,3,61,58,42,50,38,29,17,4,62,47,59,36,45,43,51,22,53,39,33,30,24,18,12,5,63,55,48,27,60,41,37,16,46,35,44,21,52,32,23,11,54,26,40,15,34,20,31,10,25,14,19,9,13,8,7,6]:=by kernel_rfl
  rw[<-e];exact this
 obtain⟨cs,h1,h2⟩:=sG (g:=4) (t:=247) (e:=5) (m:=64) (by kernel_rfl) (by kernel_rfl) (by kernel_rfl) (by kernel_rfl) (by kernel_rfl) (by kernel_rfl) hv;exact⟨cs,h1,by rw[<-OF,h2];rfl⟩
end
section
variable {cs:List Value} {H:Type} {held:Bool} {fuel:Nat}
theorem uA(c:cs.length=2):cs=(cs.drop 0).take 1++(cs.drop 1).take 1:=by
 match cs,c with
 |[a,b],_=>rfl
theorem HH{enc:TypeId×Value->H}{W:World}{sp:Nat->Bool}{x:DataW H×List MemPlace}(h:DataW.trod enc NS W 0 sp held fuel 23 cs=some x)(c:gQ NS 23 x.1):∃xs:List Int,Rd (Fz W) (.row (.int .i64)) xs cs:= sJ (T:=.int .i64) Tryz.underlying23 (by kernel_rfl) (by decide) (by decide +kernel) (λ_ _ cs y b e=>sV Tryz.underlying3 b) h c
theorem gM{enc:TypeId×Value->H}{W:World}{sp:Nat->Bool}{x:DataW H×List MemPlace}(h:DataW.trod enc NS W 0 sp held fuel 25 cs=some x)(r:gQ NS 25 x.1):∃o:List ByteArray×List Int,Rd (Fz W) (.pair (.row .str) (.row (.int .i64))) o cs:=by
 obtain⟨xs,n,rfl,A,y,f,b⟩:=DataW.trod_struct Tryz.underlying25 h;have i:cs.length=2:=y.trans (by kernel_rfl);have l:xs.length=2:=f;have e:DataW.trod enc NS W 0 sp held n 22 ((cs.drop 0).take (NS.cellsOf 22))=xs[0]?:=b 0 _ rfl;have g1:DataW.trod enc NS W 0 sp held n 23 ((cs.drop 1).take (NS.cellsOf 23))=xs[1]?:=b 1 _ rfl;rw[NL (by omega)]at e g1;have c:∀(j:Nat) (t:TypeId) (k:j<xs.length),([22,23]:List TypeId)[j]?=some t->gQ NS t (xs[j]).1:=λj t k s m z=>r m (by rw[A];unfold DataW.weights;rw[Tryz.underlying25];exact DataW.weights_mem_each (j:=j) (t:=t) (d:=(xs[j]).1) (by rw[<-s];rfl) (by rw[OM,NL k];rfl) m z);have c1:NS.cellsOf 22=1:=by kernel_rfl
 have c2:NS.cellsOf 23=1:=by kernel_rfl
 rw[c1]at e;rw[c2]at g1;obtain⟨p,w⟩:=IB e (c 0 _ (by omega) rfl);obtain⟨q,u⟩:=HH g1 (c 1 _ (by omega) rfl);exact⟨(p,q),_,_,uA i,w,u⟩
theorem hG{M:Fr}{x:List ByteArray×List Int}{cs:Array Value}(h:Rd M (.pair (.row .str) (.row (.int .i64))) x cs.toList):RdV M (.pair (.row .str) (.row (.int .i64))) x (.agg cs):=by unfold RdV;simp only[ev,if_true];exact⟨cs.toList,by simp,h⟩
end
end Go.Proofs.YtlpdhcjkhfkfmaaGreatDoor
end
section
namespace Go.X
section
variable {x:Nat}
section
variable (la lb : Nat -> Nat) (tn : Nat -> Nat -> Nat)
def gF(P:Nat->Nat->Nat)(fa fb:Nat):Nat->Nat->Nat->Nat
 |0,x,y=>x+y
 |_+1,0,y=>y
 |_+1,x+1,0=>x+1
 |f+1,x+1,y+1=>min (1+min (gF P fa fb f x (y+1)) (gF P fa fb f (x+1) y))
   (if la (fa+x)=fa/\lb (fb+y)=fb then gF P fa fb f x y+tn (fa+x) (fb+y)else gF P fa fb f (la (fa+x)-fa) (lb (fb+y)-fb)+P (fa+x) (fb+y))
def gN(P:Nat->Nat->Nat)(fa fb x y:Nat):Nat:=gF la lb tn P fa fb (x+y) x y
end
def Frs(la:Nat->Nat)(fa x:Nat):Prop:=∀k,k<x->fa<=la (fa+k)/\la (fa+k)<=fa+k
theorem Frs.less{la:Nat->Nat}{fa x b:Nat}(h:Frs la fa x)(c:b<=x):Frs la fa b:=λk e=>h k (by omega)
variable {la lb : Nat -> Nat} {tn : Nat -> Nat -> Nat} {P P' : Nat -> Nat -> Nat} {fa fb : Nat}
theorem W9:∀(f c x y:Nat),Frs la fa x->Frs lb fb y->x+y<=f->x+y<=c->gF la lb tn P fa fb f x y=gF la lb tn P fa fb c x y
 |f,c,0,y,_,_,_,_=>by cases f <;> cases c <;> simp[gF]
 |f,c,x+1,0,_,_,_,_=>by cases f <;> cases c <;> simp[gF]
 |0,c,x+1,y+1,_,_,h,_=>by omega
 |f+1,0,x+1,y+1,_,_,_,h=>by omega
 |f+1,c+1,x+1,y+1,ha,hb,h,h'=>by have a:=ha x (by omega);have b:=hb y (by omega);unfold gF;rw[W9 f c x (y+1) (ha.less (by omega)) hb (by omega) (by omega),W9 f c (x+1) y ha (hb.less (by omega)) (by omega) (by omega),W9 f c x y (ha.less (by omega)) (hb.less (by omega)) (by omega) (by omega),W9 f c (la (fa+x)-fa) (lb (fb+y)-fb) (ha.less (by omega)) (hb.less (by omega)) (by omega) (by omega)]
theorem iW(y:Nat):gN la lb tn P fa fb 0 y=y:=by unfold gN;cases y <;> simp[gF]
theorem kj(x:Nat):gN la lb tn P fa fb x 0=x:=by unfold gN;cases x <;> simp[gF]
theorem jB{x y:Nat}(f:Frs la fa (x+1))(h:Frs lb fb (y+1)):gN la lb tn P fa fb (x+1) (y+1)=min (1+min (gN la lb tn P fa fb x (y+1)) (gN la lb tn P fa fb (x+1) y))
  (if la (fa+x)=fa/\lb (fb+y)=fb then gN la lb tn P fa fb x y+tn (fa+x) (fb+y)else gN la lb tn P fa fb (la (fa+x)-fa) (lb (fb+y)-fb)+P (fa+x) (fb+y)):=by
 have a:=f x (by omega);have b:=h y (by omega);have e:=f.less (Nat.le_succ x);have c:=h.less (Nat.le_succ y);unfold gN;rw[show x+1+(y+1)=(x+y+1)+1 by omega,gF];rw[W9 (x+y+1) (x+(y+1)) x (y+1) e h (by omega) (by omega),W9 (x+y+1) (x+1+y) (x+1) y f c (by omega) (by omega),W9 (x+y+1) (x+y) x y e c (by omega) (by omega),W9 (x+y+1) (la (fa+x)-fa+(lb (fb+y)-fb)) _ _ (f.less (by omega)) (h.less (by omega)) (by omega) (by omega)]
theorem Zi:∀(n x y:Nat),x+y<=n->Frs la fa x->Frs lb fb y->(∀i j,i<x->j<y->¬(la (fa+i)=fa/\lb (fb+j)=fb)->P (fa+i) (fb+j)=P' (fa+i) (fb+j))->gN la lb tn P fa fb x y=gN la lb tn P' fa fb x y
 |n,0,y,_,_,_,_=>by rw[iW,iW]
 |n,x+1,0,_,_,_,_=>by rw[kj,kj]
 |0,x+1,y+1,h,_,_,_=>by omega
 |n+1,x+1,y+1,h,ha,hb,H=>by have a:=ha x (by omega);have b:=hb y (by omega);rw[jB ha hb,jB ha hb,Zi n x (y+1) (by omega) (ha.less (by omega)) hb (λi j e c=>H i j (by omega) c),Zi n (x+1) y (by omega) ha (hb.less (by omega)) (λi j e c=>H i j e (by omega)),Zi n x y (by omega) (ha.less (by omega)) (hb.less (by omega)) (λi j e c=>H i j (by omega) (by omega)),Zi n (la (fa+x)-fa) (lb (fb+y)-fb) (by omega) (ha.less (by omega)) (hb.less (by omega)) (λi j e c=>H i j (by omega) (by omega))];split;rfl;rename_i f;rw[H x y (by omega) (by omega) f]
theorem iJ:∀(n x y:Nat),x+y<=n->Frs la fa x->Frs lb fb y->gN la lb tn P fa fb x y<=x+y
 |n,0,y,_,_,_=>by rw[iW];omega
 |n,x+1,0,_,_,_=>by rw[kj];omega
 |0,x+1,y+1,h,_,_=>by omega
 |n+1,x+1,y+1,h,ha,hb=>by have b:=iJ n x (y+1) (by omega) (ha.less (by omega)) hb;rw[jB ha hb];omega
end
section
variable {i k:Nat}
def Rt(la:Nat->Nat)(n:Nat):Prop:=∀i,i<n->la i<=i/\∀k,k<i->la i<=k->la i<=la k
theorem Rt.frs{la:Nat->Nat}{n i:Nat}(h:Rt la n)(hi:i<n):Frs la (la i) (i+1-la i):=λk c=>by obtain⟨a,b⟩:=h i hi;have:=(h (la i+k) (by omega)).1;by_cases e:la i+k=i;rw[e];omega;exact⟨b _ (by omega) (by omega),this⟩
section
variable (la lb : Nat -> Nat) (tn : Nat -> Nat -> Nat)
def DF:Nat->Nat->Nat->Nat
 |0,_,_=>0
 |s+1,i,j=>gN la lb tn (DF s) (la i) (lb j) (i+1-la i) (j+1-lb j)
def DN(i j:Nat):Nat:=DF la lb tn (i+j+2) i j
def g9(P:Nat->Nat->Nat)(b c:Nat):Nat->Nat->Nat:=λi j=>if la i=la b/\lb j=lb c/\i<=b/\j<=c then gN la lb tn P (la b) (lb c) (i+1-la b) (j+1-lb c)else P i j
end
variable {la lb : Nat -> Nat} {tn : Nat -> Nat -> Nat} {n m : Nat}
theorem AM(e:Rt la n)(k:Rt lb m):∀(s f i j:Nat),i<n->j<m->(i+1-la i)+(j+1-lb j)<=s->(i+1-la i)+(j+1-lb j)<=f->DF la lb tn s i j=DF la lb tn f i j
 |0,f,i,j,hi,hj,h,h'=>by have:=(e i hi).1;omega
 |s+1,0,i,j,hi,hj,h,h'=>by have:=(e i hi).1;omega
 |s+1,f+1,i,j,hi,hj,h,h'=>by have a:=e i hi;have b:=k j hj;unfold DF;refine Zi _ _ _ (ND _) (e.frs hi) (k.frs hj) λp q o r l=>?_;have t:=e.frs hi p o;have u:=k.frs hj q r;refine AM e k s f _ _ (by omega) (by omega) ?_ ?_;rcases Ob (la i) (la (la i+p))with c|c;omega;rcases Ob (lb j) (lb (lb j+q))with d|d;omega;exact absurd ⟨by omega,by omega⟩ l;rcases Ob (la i) (la (la i+p))with c|c;omega;rcases Ob (lb j) (lb (lb j+q))with d|d;omega;exact absurd ⟨by omega,by omega⟩ l
theorem sx(e:Rt la n)(f:Rt lb m){i j:Nat}(hi:i<n)(h:j<m):DN la lb tn i j=gN la lb tn (DN la lb tn) (la i) (lb j) (i+1-la i) (j+1-lb j):=by have a:=e i hi;have b:=f j h;show DF la lb tn (i+j+1+1) i j=_;rw[DF];refine Zi _ _ _ (ND _) (e.frs hi) (f.frs h) λp q k l o=>?_;have s:=e.frs hi p k;have r:=f.frs h q l;refine AM e f _ _ _ _ (by omega) (by omega) ?_ (by omega);rcases Ob (la i) (la (la i+p))with c|c;omega;rcases Ob (lb j) (lb (lb j+q))with d|d;omega;exact absurd ⟨by omega,by omega⟩ o
def ez(la:Nat->Nat)(n k:Nat):Prop:=k<n/\∀j,k<j->j<n->la j≠la k
theorem mN(la:Nat->Nat){n:Nat}:∀(d i:Nat),i<n->n<=i+d->∃k,ez la n k/\i<=k/\la k=la i
 |0,i,h,h'=>by omega
 |d+1,i,h,h'=>by by_cases e:∃j,i<j/\j<n/\la j=la i;obtain⟨j,f,b,c⟩:=e;obtain⟨k,g1,m,l⟩:=mN la d j b (by omega);exact⟨k,g1,by omega,by rw[l,c]⟩;exact⟨i,⟨h,λj f b c=>e ⟨j,f,b,c⟩⟩,ND _,rfl⟩
theorem u9(j:Rt la n){k i b:Nat}(h:ez la n k)(o:la k<=i)(m:i<=k)(p:la k<=la i)(f:ez la n b)(e:la b=la i):b<=k:=by
 rcases Ob k b with c|c;have hi:=(j i (by have:=h.1;omega)).1;have:=(j b f.1).2 k c (by omega);have l:la b=la k:=by omega
 exact absurd l (h.2 b c f.1);exact c
def InvP(la lb:Nat->Nat)(tn:Nat->Nat->Nat)(n m:Nat)(P:Nat->Nat->Nat)(S:Nat->Nat->Prop):Prop:=∀i j c b,i<n->j<m->ez la n c->ez lb m b->i<=c->j<=b->la c=la i->lb b=lb j->S c b->P i j=DN la lb tn i j
theorem InvP.step{P:Nat->Nat->Nat}{S y:Nat->Nat->Prop}(r:Rt la n)(o:Rt lb m)(H:InvP la lb tn n m P S){k f:Nat}(G:ez la n k)(J:ez lb m f)
  (O:∀b k2,ez la n b->ez lb m k2->b<=k->k2<=f->¬(b=k/\k2=f)->S b k2) (t:∀b k2,y b k2->S b k2\/(b=k/\k2=f)):InvP la lb tn n m (g9 la lb tn P k f) y:=by
 intro i j b k2 hi l L T u x A D I;unfold g9;by_cases c:la i=la k/\lb j=lb f/\i<=k/\j<=f;rw[zz c];obtain⟨c1,c2,Z,V⟩:=c;rw[sx r o hi l,<-c1,<-c2];refine Zi _ _ _ (ND _) (r.frs hi) (o.frs l) λp q M F N=>?_;have U:=r.frs hi p M;have Y:=o.frs l q F;have a0:=(r i hi).1;have b0:=(o j l).1;obtain⟨w,g1,Q,z⟩:=mN (n:=n) la n (la i+p) (by omega) (by omega);obtain⟨B,s,E,C⟩:=mN (n:=m) lb m (lb j+q) (by omega) (by omega);refine H _ _ w B (by omega) (by omega) g1 s Q E z C (O w B g1 s ?_ ?_ λe=>N ?_);exact u9 (i:=la i+p) r G (by omega) (by omega) (by omega) g1 z;exact u9 (i:=lb j+q) o J (by omega) (by omega) (by omega) s C;obtain⟨rfl,rfl⟩:=e;exact⟨by omega,by omega⟩;rw[zv c];rcases t b k2 I with h|⟨rfl,rfl⟩;exact H i j b k2 hi l L T u x A D h;exact absurd ⟨A.symm,D.symm,u,x⟩ c
def i3(la lb:Nat->Nat)(tn:Nat->Nat->Nat)(c:List Nat)(P:Nat->Nat->Nat)(KA:List Nat):Nat->Nat->Nat:=KA.foldl (λP b=>c.foldl (λP e=>g9 la lb tn P b e) P) P
theorem uU{K A B:List Nat}{k x:Nat}(c:K.Pairwise (· < ·))(e:K=A++k::B)(i:x∈K)(h:x<k):x∈A:=by subst e;rcases N0.1 i with b|b;exact b;rw[Oh,Oi]at c;rcases NI.1 b with rfl|f;omega;have:=c.2.1.1 x f;omega
theorem Be(u:Rt la n)(y:Rt lb m){KA o dA:List Nat}{f:Nat}(x:o.Pairwise (· < ·))(r:∀k,k∈o↔ez lb m k)(w:ez la n f)(hA:∀k,ez la n k->k<f->k∈dA):
  ∀(todo j:List Nat) (P:Nat->Nat->Nat),o=j++todo->InvP la lb tn n m P (λa b=>a∈dA\/(a=f/\b∈j))->InvP la lb tn n m (todo.foldl (λP i=>g9 la lb tn P f i) P) (λa b=>a∈dA\/(a=f/\b∈o))
 |[],j,P,e,H=>by rw[Oe]at e;subst e;exact H
 |i::todo,j,P,e,H=>by
  have q:ez lb m i:=(r i).1 (by rw[e];simp);refine Be u y (KA:=KA) x r w hA todo (j++[i]) _ (by rw[e];simp) (H.step u y w q (λl k2 p t C D B=>?_) λl k2 A=>?_);rcases Ob l f with c|c;exact .inl (hA l p c);have z:l=f:=by omega
  refine .inr ⟨z,uU x e ((r k2).2 t) ?_⟩;rcases Ob k2 i with d|d;exact d;exact absurd ⟨z,by omega⟩ B;rcases A with h|⟨p,t⟩;exact .inl (.inl h);rcases N0.1 t with s|s;exact .inl (.inr ⟨p,s⟩);exact .inr ⟨p,by simpa using s⟩
theorem AF(z:Rt la n)(B:Rt lb m){KA b:List Nat}(y:KA.Pairwise (· < ·))(t:∀k,k∈KA↔ez la n k)(A:b.Pairwise (· < ·))(s:∀k,k∈b↔ez lb m k):
  ∀(todo dA:List Nat) (P:Nat->Nat->Nat),KA=dA++todo->InvP la lb tn n m P (λa _=>a∈dA)->InvP la lb tn n m (i3 la lb tn b P todo) (λa _=>a∈KA)
 |[],dA,P,e,H=>by rw[Oe]at e;subst e;exact H
 |ki::todo,dA,P,e,H=>by have w:ez la n ki:=(t ki).1 (by rw[e];simp);have D:=Be (KA:=KA) (dA:=dA) z B A s w (λk C f=>uU y e ((t k).2 C) f) b [] P rfl (λi j p k2 a1 a2 x c u l r q o=>H i j p k2 a1 a2 x c u l r q (by rcases o with h|⟨_,h⟩;exact h;cases h));refine AF z B y t A s todo (dA++[ki]) _ (by rw[e];simp) λi j p k2 a1 a2 x c u l r q o=>D i j p k2 a1 a2 x c u l r q ?_;rcases N0.1 o with h|h;exact .inl h;exact .inr ⟨by simpa using h,(s k2).2 c⟩
theorem Eu(h:Rt la n)(q:Rt lb m){KA b:List Nat}(x:KA.Pairwise (· < ·))(e:∀k,k∈KA↔ez la n k)(p:b.Pairwise (· < ·))(r:∀k,k∈b↔ez lb m k){P:Nat->Nat->Nat}{i j:Nat}(hi:i<n)(f:j<m):
  i3 la lb tn b P KA i j=DN la lb tn i j:=by
 obtain⟨c,g1,u,t⟩:=mN (n:=n) la n i hi (by omega);obtain⟨k2,w,o,s⟩:=mN (n:=m) lb m j f (by omega);exact AF h q x e p r KA [] P rfl (λ_ _ _ _ _ _ _ _ _ _ _ _ l=>by cases l) i j c k2 hi f g1 w u o t s ((e c).2 g1)
end
section
def ej(la lb:Nat->Nat)(M:List (Nat×Nat)):Prop:=M.Pairwise λq p=>q.1<p.1/\q.2<p.2/\(la p.1<=q.1↔lb p.2<=q.2)
def ii(fa x fb y:Nat)(M:List (Nat×Nat)):Prop:=∀p∈M,fa<=p.1/\p.1<fa+x/\fb<=p.2/\p.2<fb+y
def dv(tn:Nat->Nat->Nat)(M:List (Nat×Nat)):Nat:=(M.map λp=>tn p.1 p.2).sum
theorem iX(tn:Nat->Nat->Nat)(A B:List (Nat×Nat)):dv tn (A++B)=dv tn A+dv tn B:=by unfold dv;rw[Oq,List.sum_append]
theorem oT(tn:Nat->Nat->Nat)(p:Nat×Nat):dv tn [p]=tn p.1 p.2:=by unfold dv;simp
theorem Aa(c:Nat):∀L:List (Nat×Nat),L.Pairwise (λq p=>q.1<p.1)->∃f i,L=f++i/\(∀p∈f,p.1<c)/\∀p∈i,c<=p.1
 |[],_=>⟨[],[],rfl,(λp h=>by cases h),λp h=>by cases h⟩
 |a::L,h=>by rw[Oi]at h;by_cases e:a.1<c;obtain⟨f,i,rfl,k,j⟩:=Aa c L h.2;refine⟨a::f,i,rfl,λp b=>?_,j⟩;rcases NI.1 b with rfl|b;exact e;exact k p b;refine⟨[],a::L,rfl,(λp h=>by cases h),λp b=>?_⟩;rcases NI.1 b with rfl|b;omega;have:=h.1 p b;omega
variable {la lb : Nat -> Nat} {tn : Nat -> Nat -> Nat} {n m : Nat}
theorem lower(C:Rt la n)(A:Rt lb m):∀(N x y fa fb:Nat) (M:List (Nat×Nat)),x+y<=N->fa+x<=n->fb+y<=m->Frs la fa x->Frs lb fb y->ej la lb M->ii fa x fb y M ->
  gN la lb tn (DN la lb tn) fa fb x y+2*M.length<=x+y+dv tn M:=by
 intro N;induction N with
 |zero=>
  intro x y fa fb M h _ _ l o _ hi;have:M=[]:=by
   cases M with
   |nil=>rfl
   |cons p M=>have:=hi p (by simp);omega
  subst this;have:=iJ (la:=la) (lb:=lb) (tn:=tn) (P:=DN la lb tn) (x+y) x y (ND _) l o;simp[dv];omega
 |succ N s=>
  intro x y fa fb M h U Q l o f hi;rcases List.eq_nil_or_concat M with rfl|⟨L,p,rfl⟩;have:=iJ (la:=la) (lb:=lb) (tn:=tn) (P:=DN la lb tn) (x+y) x y (ND _) l o;simp[dv];omega;rw[List.concat_eq_append]at *;have S:=hi p (by simp);have q:∀r∈L,r.1<p.1/\r.2<p.2/\(la p.1<=r.1↔lb p.2<=r.2):=λr e=>by have:=Oh.1 f;exact this.2.2 r e p (by simp)
  have k:ej la lb L:=(Oh.1 f).1;obtain⟨x,rfl⟩:∃G,x=G+1:=⟨x-1,by omega⟩;obtain⟨y,rfl⟩:∃F,y=F+1:=⟨y-1,by omega⟩;have B:=jB (la:=la) (lb:=lb) (tn:=tn) (P:=DN la lb tn) l o;have O:=l x (by omega);have T:=o y (by omega);rw[NH,OQ,iX,oT];by_cases c1:p.1=fa+x;by_cases c2:p.2=fb+y;have t:∀r∈L,fa<=r.1/\fb<=r.2:=λr e=>⟨(hi r (by simp[e])).1,(hi r (by simp[e])).2.2.1⟩;by_cases w:la (fa+x)=fa/\lb (fb+y)=fb;have:=s x y fa fb L (by omega) (by omega) (by omega) (l.less (by omega)) (o.less (by omega)) k λr e=>by have a:=q r e;have b:=t r e;exact⟨b.1,by omega,b.2,by omega⟩
  rw[zz w]at B;rw[c1,c2];omega;rw[zv w]at B;obtain⟨D,I,rfl,g1,H⟩:=Aa (la (fa+x)) L (k.imp λh=>h.1);rw[c1,c2]at q;have J:=s (la (fa+x)-fa) (lb (fb+y)-fb) fa fb D (by omega) (by omega) (by omega) (l.less (by omega)) (o.less (by omega)) (Oh.1 k).1 λr e=>by have a:=q r (by simp[e]);have b:=t r (by simp[e]);have c:=g1 r e;exact⟨b.1,by omega,b.2,by omega⟩
  have z:=C.frs (i:=fa+x) (by omega);have u:=A.frs (i:=fb+y) (by omega);have E:=s (fa+x+1-la (fa+x)) (fb+y+1-lb (fb+y)) (la (fa+x)) (lb (fb+y)) (I++[p]) (by omega) (by omega) (by omega) z u (by
   have:=Oh.1 f;rw[Od]at f;exact(Oh.1 f).2.1) λr e=>by
    rcases N0.1 e with j|j;have a:=q r (by simp[j]);have c:=H r j;exact⟨c,by omega,a.2.2.1 c,by omega⟩;have:r=p:=by simpa using j
    subst this;omega
  rw[<-sx C A (by omega) (by omega),NH,OQ,iX,oT,c1,c2]at E;rw[NH,iX,c1,c2];omega;have:=s (x+1) y fa fb (L++[p]) (by omega) (by omega) (by omega) l (o.less (by omega)) f λr e=>by
   have a:=hi r e;refine⟨a.1,a.2.1,a.2.2.1,?_⟩;rcases N0.1 e with j|j;have:=q r j;omega;have:r=p:=by simpa using j
   subst this;omega
  rw[NH,OQ,iX,oT]at this;omega;have:=s x (y+1) fa fb (L++[p]) (by omega) (by omega) (by omega) (l.less (by omega)) o f λr e=>by
   have a:=hi r e;refine⟨a.1,?_,a.2.2⟩;rcases N0.1 e with j|j;have:=q r j;omega;have:r=p:=by simpa using j
   subst this;omega
  rw[NH,OQ,iX,oT]at this;omega
end
section
section
variable (la lb : Nat -> Nat) (tn : Nat -> Nat -> Nat) (P : Nat -> Nat -> Nat)
def fk:Nat->Nat->Nat->Nat->Nat->List (Nat×Nat)
 |0,_,_,_,_=>[]
 |_+1,_,_,0,_=>[]
 |_+1,_,_,_+1,0=>[]
 |f+1,fa,fb,x+1,y+1=>
  if gN la lb tn P fa fb (x+1) (y+1)=gN la lb tn P fa fb x (y+1)+1 then fk f fa fb x (y+1)
  else if gN la lb tn P fa fb (x+1) (y+1)=gN la lb tn P fa fb (x+1) y+1 then fk f fa fb (x+1) y
  else if la (fa+x)=fa/\lb (fb+y)=fb then(fa+x,fb+y)::fk f fa fb x y
  else fk f (la (fa+x)) (lb (fb+y)) (fa+x+1-la (fa+x)) (fb+y+1-lb (fb+y))++fk f fa fb (la (fa+x)-fa) (lb (fb+y)-fb)
def dM(fa fb x y:Nat):List (Nat×Nat):=fk la lb tn P (x+y) fa fb x y
end
variable {la lb : Nat -> Nat} {tn : Nat -> Nat -> Nat} {P : Nat -> Nat -> Nat} {n m : Nat}
theorem xm(j:Rt la n)(e:Rt lb m):∀(f c fa fb x y:Nat),x+y<=f->x+y<=c->fa+x<=n->fb+y<=m->Frs la fa x->Frs lb fb y->fk la lb tn P f fa fb x y=fk la lb tn P c fa fb x y
 |f,c,fa,fb,0,y,_,_,_,_,_,_=>by cases f <;> cases c <;> simp[fk]
 |f,c,fa,fb,x+1,0,_,_,_,_,_,_=>by cases f <;> cases c <;> simp[fk]
 |0,c,fa,fb,x+1,y+1,h,_,_,_,_,_=>by omega
 |f+1,0,fa,fb,x+1,y+1,_,h,_,_,_,_=>by omega
 |f+1,c+1,fa,fb,x+1,y+1,h,h',hn,hm,ha,hb=>by have a:=ha x (by omega);have b:=hb y (by omega);unfold fk;rw[xm j e f c fa fb x (y+1) (by omega) (by omega) (by omega) hm (ha.less (by omega)) hb,xm j e f c fa fb (x+1) y (by omega) (by omega) hn (by omega) ha (hb.less (by omega)),xm j e f c fa fb x y (by omega) (by omega) (by omega) (by omega) (ha.less (by omega)) (hb.less (by omega)),xm j e f c fa fb (la (fa+x)-fa) (lb (fb+y)-fb) (by omega) (by omega) (by omega) (by omega) (ha.less (by omega)) (hb.less (by omega))];by_cases w:la (fa+x)=fa/\lb (fb+y)=fb;simp only[zz w];rw[xm j e f c (la (fa+x)) (lb (fb+y)) (fa+x+1-la (fa+x)) (fb+y+1-lb (fb+y)) (by omega) (by omega) (by omega) (by omega) (j.frs (i:=fa+x) (by omega)) (e.frs (i:=fb+y) (by omega))]
theorem mz(fa fb y:Nat):dM la lb tn P fa fb 0 y=[]:=by unfold dM;cases y <;> simp[fk]
theorem Xa(fa fb x:Nat):dM la lb tn P fa fb x 0=[]:=by unfold dM;cases x <;> simp[fk]
theorem l8(c:Rt la n)(e:Rt lb m){fa fb x y:Nat}(k:fa+(x+1)<=n)(j:fb+(y+1)<=m)(h:Frs la fa (x+1))(f:Frs lb fb (y+1)):dM la lb tn P fa fb (x+1) (y+1)=
  if gN la lb tn P fa fb (x+1) (y+1)=gN la lb tn P fa fb x (y+1)+1 then dM la lb tn P fa fb x (y+1)
  else if gN la lb tn P fa fb (x+1) (y+1)=gN la lb tn P fa fb (x+1) y+1 then dM la lb tn P fa fb (x+1) y
  else if la (fa+x)=fa/\lb (fb+y)=fb then(fa+x,fb+y)::dM la lb tn P fa fb x y
  else dM la lb tn P (la (fa+x)) (lb (fb+y)) (fa+x+1-la (fa+x)) (fb+y+1-lb (fb+y))++dM la lb tn P fa fb (la (fa+x)-fa) (lb (fb+y)-fb):=by
 have a:=h x (by omega);have b:=f y (by omega);unfold dM;rw[show x+1+(y+1)=(x+y+1)+1 by omega,fk];rw[xm c e (x+y+1) (x+(y+1)) fa fb x (y+1) (by omega) (by omega) (by omega) j (h.less (by omega)) f,xm c e (x+y+1) (x+1+y) fa fb (x+1) y (by omega) (by omega) k (by omega) h (f.less (by omega)),xm c e (x+y+1) (x+y) fa fb x y (by omega) (by omega) (by omega) (by omega) (h.less (by omega)) (f.less (by omega)),xm c e (x+y+1) (la (fa+x)-fa+(lb (fb+y)-fb)) fa fb _ _ (by omega) (by omega) (by omega) (by omega) (h.less (by omega)) (f.less (by omega))];by_cases w:la (fa+x)=fa/\lb (fb+y)=fb;simp only[zz w];rw[xm c e (x+y+1) (fa+x+1-la (fa+x)+(fb+y+1-lb (fb+y))) (la (fa+x)) (lb (fb+y)) _ _ (by omega) (by omega) (by omega) (by omega) (c.frs (i:=fa+x) (by omega)) (e.frs (i:=fb+y) (by omega))]
theorem Xb(c:Rt la n)(e:Rt lb m):∀(N fa fb x y:Nat),x+y<=N->fa+x<=n->fb+y<=m->Frs la fa x->Frs lb fb y->(dM la lb tn P fa fb x y).length<=x+y
 |N,fa,fb,0,y,_,_,_,_,_=>by rw[mz];exact NV _
 |N,fa,fb,x+1,0,_,_,_,_,_=>by rw[Xa];exact NV _
 |0,fa,fb,x+1,y+1,h,_,_,_,_=>by omega
 |N+1,fa,fb,x+1,y+1,h,hn,hm,ha,hb=>by have a:=ha x (by omega);have b:=hb y (by omega);rw[l8 c e hn hm ha hb];have o:=Xb c e N fa fb x (y+1) (by omega) (by omega) hm (ha.less (by omega)) hb;have l:=Xb c e N fa fb (x+1) y (by omega) hn (by omega) ha (hb.less (by omega));have j:=Xb c e N fa fb x y (by omega) (by omega) (by omega) (ha.less (by omega)) (hb.less (by omega));split;omega;split;omega;split;rw[NU];omega;rename_i w;have f:=Xb c e N fa fb (la (fa+x)-fa) (lb (fb+y)-fb) (by omega) (by omega) (by omega) (ha.less (by omega)) (hb.less (by omega));have k:=Xb c e N (la (fa+x)) (lb (fb+y)) (fa+x+1-la (fa+x)) (fb+y+1-lb (fb+y)) (by omega) (by omega) (by omega) (c.frs (i:=fa+x) (by omega)) (e.frs (i:=fb+y) (by omega));rw[NH];omega
theorem kB(f:Rt la n)(j:Rt lb m):∀(N fa fb x y:Nat),x+y<=N->fa+x<=n->fb+y<=m->Frs la fa x->Frs lb fb y ->
  ii fa x fb y (dM la lb tn (DN la lb tn) fa fb x y)/\ej la lb (dM la lb tn (DN la lb tn) fa fb x y).reverse/\gN la lb tn (DN la lb tn) fa fb x y+2*(dM la lb tn (DN la lb tn) fa fb x y).length=x+y+dv tn (dM la lb tn (DN la lb tn) fa fb x y)
 |N,fa,fb,0,y,_,_,_,_,_=>by rw[mz,iW];exact⟨(λp c=>by cases c),PO,by simp[dv]⟩
 |N,fa,fb,x+1,0,_,_,_,_,_=>by rw[Xa,kj];exact⟨(λp c=>by cases c),PO,by simp[dv]⟩
 |0,fa,fb,x+1,y+1,h,_,_,_,_=>by omega
 |N+1,fa,fb,x+1,y+1,h,hn,hm,ha,hb=>by
  have B:=ha x (by omega);have C:=hb y (by omega);have t:=jB (la:=la) (lb:=lb) (tn:=tn) (P:=DN la lb tn) ha hb;rw[l8 f j hn hm ha hb];by_cases c1:gN la lb tn (DN la lb tn) fa fb (x+1) (y+1)=gN la lb tn (DN la lb tn) fa fb x (y+1)+1;rw[zz c1];obtain⟨g1,k,r⟩:=kB f j N fa fb x (y+1) (by omega) (by omega) hm (ha.less (by omega)) hb;exact⟨λp c=>by have:=g1 p c;omega,k,by omega⟩;rw[zv c1];by_cases c2:gN la lb tn (DN la lb tn) fa fb (x+1) (y+1)=gN la lb tn (DN la lb tn) fa fb (x+1) y+1;rw[zz c2];obtain⟨g1,k,r⟩:=kB f j N fa fb (x+1) y (by omega) hn (by omega) ha (hb.less (by omega));exact⟨λp c=>by have:=g1 p c;omega,k,by omega⟩;rw[zv c2];by_cases w:la (fa+x)=fa/\lb (fb+y)=fb;rw[zz w]at t ⊢;obtain⟨g1,k,r⟩:=kB f j N fa fb x y (by omega) (by omega) (by omega) (ha.less (by omega)) (hb.less (by omega));refine⟨λp c=>?_,?_,?_⟩;rcases NI.1 c with rfl|c;exact⟨by show fa<=fa+x;omega,by show fa+x<_;omega,by show fb<=fb+y;omega,by show fb+y<_;omega⟩;have:=g1 p c;omega;rw[List.reverse_cons];refine Oh.2 ⟨k,List.pairwise_singleton _ _,λq s p c=>?_⟩;have c:p=(fa+x,fb+y):=by simpa using c
  subst c;have:=g1 q (List.mem_reverse.1 s);refine⟨by show q.1<fa+x;omega,by show q.2<fb+y;omega,?_⟩;show la (fa+x)<=q.1↔lb (fb+y)<=q.2;rw[w.1,w.2];exact⟨λ_=>this.2.2.1,λ_=>this.1⟩;have e:dv tn ((fa+x,fb+y)::dM la lb tn (DN la lb tn) fa fb x y)=tn (fa+x) (fb+y)+dv tn (dM la lb tn (DN la lb tn) fa fb x y):=by unfold dv;rw[N2,List.sum_cons]
  rw[NU,e];omega;rw[zv w]at t ⊢;have o:=f.frs (i:=fa+x) (by omega);have l:=j.frs (i:=fb+y) (by omega);obtain⟨g1,k,r⟩:=kB f j N fa fb (la (fa+x)-fa) (lb (fb+y)-fb) (by omega) (by omega) (by omega) (ha.less (by omega)) (hb.less (by omega));obtain⟨s1,s2,u⟩:=kB f j N (la (fa+x)) (lb (fb+y)) (fa+x+1-la (fa+x)) (fb+y+1-lb (fb+y)) (by omega) (by omega) (by omega) o l;rw[<-sx f j (by omega) (by omega)]at u;refine⟨λp c=>?_,?_,?_⟩;rcases N0.1 c with c|c;have:=s1 p c;omega;have:=g1 p c;omega;rw[List.reverse_append];refine Oh.2 ⟨k,s2,λq s p c=>?_⟩;have a:=g1 q (List.mem_reverse.1 s);have b:=s1 p (List.mem_reverse.1 c);have z:=(o (p.1-la (fa+x)) (by omega)).1;have A:=(l (p.2-lb (fb+y)) (by omega)).1;rw[show la (fa+x)+(p.1-la (fa+x))=p.1 by omega]at z;rw[show lb (fb+y)+(p.2-lb (fb+y))=p.2 by omega]at A;exact⟨by omega,by omega,⟨λh=>by omega,λh=>by omega⟩⟩;rw[NH,iX];omega
end
section
variable {n:Nat}
def Zj(M N:List (Nat×Nat)):List (Nat×Nat):=M.flatMap λp=>(N.filter λq=>decide (q.1=p.2)).map λq=>(p.1,q.2)
theorem uB{M N:List (Nat×Nat)}{r:Nat×Nat}:r∈Zj M N↔∃p∈M,∃q∈N,q.1=p.2/\r=(p.1,q.2):=by unfold Zj;simp only[List.mem_flatMap,N9,Pm,zC];constructor;rintro⟨p,b,q,⟨c,e⟩,rfl⟩;exact⟨p,b,q,c,e,rfl⟩;rintro⟨p,b,q,c,e,rfl⟩;exact⟨p,b,q,⟨c,e⟩,rfl⟩
theorem DI{la lb:Nat->Nat}{N:List (Nat×Nat)}(h:ej la lb N){q p:Nat×Nat}(f:q∈N)(e:p∈N)(j:q.1<p.1):q.2<p.2/\(la p.1<=q.1↔lb p.2<=q.2):=by
 induction N with
 |nil=>cases f
 |cons a N i=>have h':=Oi.1 h;rcases NI.1 f with rfl|c;rcases NI.1 e with rfl|b;omega;have:=h'.1 p b;exact⟨this.2.1,this.2.2⟩;rcases NI.1 e with rfl|b;have:=h'.1 q c;omega;exact i h'.2 c b
theorem s8{la lb:Nat->Nat}{N:List (Nat×Nat)}(h:ej la lb N){c:Nat}:(N.filter λq=>decide (q.1=c)).length<=1:=by
 induction N with
 |nil=>simp
 |cons a N b=>
  have h':=Oi.1 h;rw[O0];split;rename_i e;have e:a.1=c:=zD e;have:N.filter (λq=>decide (q.1=c))=[]:=List.filter_eq_nil_iff.2 λq f i=>by have:=h'.1 q f;have:q.1=c:=zD i;omega
  rw[this];simp;exact b h'.2
theorem HA{α:Type}{R:α->α->Prop}:∀{l:List α},l.length<=1->l.Pairwise R
 |[],_=>PO
 |[a],_=>List.pairwise_singleton _ _
 |a::b::l,h=>by simp at h
theorem Ci{la lb b:Nat->Nat}{N:List (Nat×Nat)}(c:ej lb b N):∀{M:List (Nat×Nat)},ej la lb M->ej la b (Zj M N)
 |[],_=>PO
 |p::M,h=>by
  have h':=Oi.1 h;have e:Zj (p::M) N=((N.filter λq=>decide (q.1=p.2)).map λq=>(p.1,q.2))++Zj M N:=by unfold Zj;rw[Pa]
  rw[e];refine Oh.2 ⟨HA (by rw[NM];exact s8 c),Ci c h'.2,λr n s m=>?_⟩;obtain⟨q,j,rfl⟩:=N9.1 n;obtain⟨j,k⟩:=Pm.1 j;have k:q.1=p.2:=zD k;obtain⟨l,f,o,i,t,rfl⟩:=uB.1 m;have a:=h'.1 l f;obtain⟨b1,b2⟩:=DI c j i (by omega);refine⟨a.1,b1,?_⟩;show la l.1<=p.1↔b o.2<=q.2;rw[a.2.2,<-b2,k,t]
theorem uY{α:Type}(p q:α->Bool):∀l:List α,(l.filter p).length+(l.filter q).length<=l.length+(l.filter λx=>p x&&q x).length
 |[]=>by simp
 |a::l=>by have:=uY p q l;simp only[O0,NU];cases hp:p a <;> cases hq:q a <;> simp <;> omega
theorem Lk{A B:List Nat}(e:A.Pairwise (· < ·))(c:B.Pairwise (· < ·))(h:∀x,x∈A↔x∈B):A=B:= List.Perm.eq_of_pairwise (le:=(· < ·)) (λa b _ _ i f=>by omega) e c ((List.perm_ext_iff_of_nodup (e.imp λh=>by omega) (c.imp λh=>by omega)).2 h)
theorem sQ{S:List Nat}(c:S.Pairwise (· < ·))(b:∀x∈S,x<n):S=(OB n).filter λx=>decide (x∈S):= Lk c (PR.filter _) λx=>by rw[Pm,Og,zC];exact⟨λh=>⟨b x h,h⟩,λh=>h.2⟩
theorem Bc{lb i:Nat->Nat}{N:List (Nat×Nat)}(f:ej lb i N):∀M:List (Nat×Nat),(Zj M N).length=((M.map (·.2)).filter λx=>decide (x∈N.map (·.1))).length
 |[]=>rfl
 |p::M=>by
  have e:Zj (p::M) N=((N.filter λq=>decide (q.1=p.2)).map λq=>(p.1,q.2))++Zj M N:=by unfold Zj;rw[Pa]
  rw[e,NH,NM,Bc f M,N2,O0];have l:=s8 f (c:=p.2);split;rename_i h;obtain⟨q,b,j⟩:=N9.1 (zD h);have:q∈N.filter λq=>decide (q.1=p.2):=Pm.2 ⟨b,zG j⟩;have:=List.length_pos_of_mem this;rw[NU];omega;rename_i h;have:N.filter (λq=>decide (q.1=p.2))=[]:=List.filter_eq_nil_iff.2 λq b k=>h (zG (N9.2 ⟨q,b,zD k⟩));rw[this];simp
theorem Fp{la lb i:Nat->Nat}{M N:List (Nat×Nat)}(k:ej la lb M)(e:ej lb i N)(s:∀p∈M,p.2<n)(m:∀q∈N,q.1<n):M.length+N.length<=n+(Zj M N).length:=by
 have s1:(M.map (·.2)).Pairwise (· < ·):=Py.2 (k.imp λh=>h.2.1);have s2:(N.map (·.1)).Pairwise (· < ·):=Py.2 (e.imp λh=>h.1);have f:=sQ s1 (n:=n) λx c=>by obtain⟨p,b,rfl⟩:=N9.1 c;exact s p b
 have l:=sQ s2 (n:=n) λx c=>by obtain⟨p,b,rfl⟩:=N9.1 c;exact m p b
 have o:=congrArg OA f;have r:=congrArg OA l;rw[NM]at o r;have h:=uY (λx=>decide (x∈M.map (·.2))) (λx=>decide (x∈N.map (·.1))) (OB n);rw[P7]at h;rw[Bc e,f,List.filter_filter];have j:(OB n).filter (λa=>decide (a∈N.map (·.1))&&decide (a∈M.map (·.2)))=(OB n).filter (λx=>decide (x∈M.map (·.2))&&decide (x∈N.map (·.1))):=by congr 1;funext x;exact Bool.and_comm _ _
 rw[j];omega
theorem AL(t:Nat->Nat->Nat)(c:Nat):∀N:List (Nat×Nat),dv t N=dv t (N.filter λq=>decide (q.1=c))+dv t (N.filter λq=>!decide (q.1=c))
 |[]=>rfl
 |q::N=>by
  have:=AL t c N;have e:∀L,dv t (q::L)=t q.1 q.2+dv t L:=λL=>by unfold dv;rw[N2,List.sum_cons]
  simp only[O0];cases decide (q.1=c) <;> simp[e] <;> omega
theorem uq{N c:List (Nat×Nat)}:∀{M:List (Nat×Nat)},(∀r∈M,N.filter (λq=>decide (q.1=r.2))=c.filter λq=>decide (q.1=r.2))->Zj M N=Zj M c
 |[],_=>rfl
 |p::M,h=>by have b:=uq (M:=M) λr e=>h r (by simp[e]);unfold Zj at b ⊢;rw[Pa,Pa,b,h p (by simp)]
theorem Cm{b m n:Nat->Nat->Nat}(s:∀i j k,n i k<=b i j+m j k):∀(M N:List (Nat×Nat)),(M.map (·.2)).Nodup->(∀c,(N.filter λq=>decide (q.1=c)).length<=1)->dv n (Zj M N)<=dv b M+dv m N
 |[],N,_,_=>by simp[Zj,dv]
 |p::M,N,hn,h1=>by
  have e:Zj (p::M) N=((N.filter λq=>decide (q.1=p.2)).map λq=>(p.1,q.2))++Zj M N:=by unfold Zj;rw[Pa]
  rw[N2,OP]at hn;have x:Zj M N=Zj M (N.filter λq=>!decide (q.1=p.2)):=by refine uq λr t=>?_;rw[List.filter_filter];refine List.filter_congr λq _=>?_;by_cases c:q.1=r.2;have:¬q.1=p.2:=λh=>hn.1 (by rw[<-h,c];exact N9.2 ⟨r,t,rfl⟩);rw[zG c,zH this];rfl;rw[zH c];rfl
  have y:=Cm s M (N.filter λq=>!decide (q.1=p.2)) hn.2 λc=>by refine OD ?_ (h1 c);rw[List.filter_filter];refine List.Sublist.length_le ?_;rw[show(λa:Nat×Nat=>decide (a.1=c) && !decide (a.1=p.2))=(λa=>(!decide (a.1=p.2))&&decide (a.1=c))from by funext a;exact Bool.and_comm _ _,<-List.filter_filter];exact List.filter_sublist
  rw[e,iX,x];have c1:dv b (p::M)=b p.1 p.2+dv b M:=by unfold dv;rw[N2,List.sum_cons]
  have c2:=AL m p.2 N;have z:dv n ((N.filter λq=>decide (q.1=p.2)).map λq=>(p.1,q.2))<=b p.1 p.2+dv m (N.filter λq=>decide (q.1=p.2)):=by
   have f:=h1 p.2;have o:∀q∈N.filter (λq=>decide (q.1=p.2)),q.1=p.2:=λq u=>zD (Pm.1 u).2;revert f o;generalize N.filter (λq=>decide (q.1=p.2))=F;intro f o
   match F,f with
   |[],_=>simp[dv]
   |[q],_=>have w:=o q (by simp);have:=s p.1 p.2 q.2;simp only[dv,N2,QV,List.sum_cons,List.sum_nil,Pw];rw[w];exact this
   |q::q'::l,f=>simp at f
  omega
end
end Go.X
end
section
namespace Go.X
open Go Go.Lib
section
def oz(r:Nat):Prop:=r<55296\/(57344<=r/\r<=1114111)
theorem xE{x:Int}(h0:0<=x)(b:x<256):(x.toNat.toUInt8).toNat=x.toNat:=by rw[Nat.toUInt8,UInt8.toNat_ofNat'];omega
theorem Fj(l:Bs):oz (dec l).1:=by
 have h0:=(l.getD 0 0).toNat_lt;have c:=(l.getD 1 0).toNat_lt;have b:=(l.getD 2 0).toNat_lt;have e:=(l.getD 3 0).toNat_lt;unfold oz dec decodeN;repeat' split
 all_goals omega
def ed(x:Tr):Bool:=decide (x.kind≠7)&&zy x
mutual
theorem qM{p q:Tr->Bool}(h:∀x,p x=Ta->q x=Ta):∀v:Tr,dO p v=Ta->dO q v=Ta
 |.mk k s ks xs,hv=>by rw[dO,NP]at hv ⊢;exact⟨h _ hv.1,ud h xs hv.2⟩
theorem ud{p q:Tr->Bool}(h:∀x,p x=Ta->q x=Ta):∀l:List Tr,hO p l=Ta->hO q l=Ta
 |[],_=>rfl
 |x::l,hl=>by rw[hO,NP]at hl ⊢;exact⟨qM h x hl.1,ud h l hl.2⟩
end
end
section
theorem E2(a b:Bs):eh (a++b)=eh a++eh b:=by unfold eh;rw[List.flatMap_append]
theorem Md(c:UInt8):(ix c).length<=6:=by
 unfold ix;repeat' split
 all_goals simp
theorem tY:∀l:Bs,(eh l).length<=6*l.length
 |[]=>by simp[eh]
 |c::l=>by have:=tY l;have b:=Md c;have e:eh (c::l)=ix c++eh l:=rfl;rw[e,NH,NU];omega
theorem G7{c:UInt8}(h:128<=c.toNat):ix c=[c]:=by
 have ne:∀n:Nat,n<128->c≠PL n:=λn b e=>by rw[e,UInt8.toNat_ofNat']at h;omega
 unfold ix;rw[zv (by rintro(e|e);exact ne 34 (by omega) e;exact ne 92 (by omega) e),zv (show¬c=8 from ne 8 (by omega)),zv (show¬c=12 from ne 12 (by omega)),zv (show¬c=10 from ne 10 (by omega)),zv (show¬c=13 from ne 13 (by omega)),zv (show¬c=9 from ne 9 (by omega)),zv (by omega)]
theorem uK:∀{l:Bs},(∀c∈l,128<=c.toNat)->eh l=l
 |[],_=>rfl
 |c::l,h=>by have e:eh (c::l)=ix c++eh l:=rfl;rw[e,G7 (h c NQ),uK λx b=>h x (NF _ b)];rfl
theorem D5{r:Nat}(h:oz r)(j:128<=r):∀c∈encodeRune (r:Int),128<=c.toNat:=by
 unfold oz at h;intro c i;unfold encodeRune at i;obtain⟨x,b,rfl⟩:=N9.1 i;have key:∀y:Int,x=y->128<=y->y<256->128<=x.toNat.toUInt8.toNat:=λy e k f=>by subst e;rw[xE (by omega) f];omega
 by_cases f:r<=2047;rw[encodeRuneZ_two (by omega) (by omega)]at b;simp only[NI,QW,or_false]at b;rcases b with e|e <;> exact key _ e (by omega) (by omega);by_cases l:r<=65535;rw[encodeRuneZ_three (by omega)]at b;simp only[NI,QW,or_false]at b;rcases b with e|e|e <;> exact key _ e (by omega) (by omega);rw[encodeRuneZ_four (by omega) (by omega)]at b;simp only[NI,QW,or_false]at b;rcases b with e|e|e|e <;> exact key _ e (by omega) (by omega)
def fc(r:Nat):Nat:=if r=34\/r=92 then r else if r=8 then 98 else if r=12 then 102 else if r=10 then 110 else if r=13 then 114 else if r=9 then 116 else 0
def r7(k:Nat):UInt8:=PL (if k<10 then 48+k else 87+k)
def kG(r:Nat):Bs:=if fc r≠0 then [92,PL (fc r)]else if 32<=r then encodeRune (r:Int)else [92,117,48,48,PL (48+r / 16),r7 (r % 16)]
theorem GA:(OB 128).all (λk=>decide (ix (PL k)=kG k))=Ta:=by kernel_rfl
theorem HZ{l:Bs}(h:l≠[])(k:ft (dec l)=Tc):eh (l.take (dec l).2)=kG (dec l).1:=by
 by_cases f:(dec l).1<128;obtain⟨c,t,rfl⟩:=Px h;have m:c.toNat<128:=by
  rcases Ob c.toNat 128 with j|j;exact j;exfalso;have b:=v6 h k;have q:=(Yf (c::t)).1;have o:encodeRune ((dec (c::t)).1:Int)=[((dec (c::t)).1:Int).toNat.toUInt8]:=by unfold encodeRune;rw[encodeRuneZ_one (by omega) (by omega)];rfl
  obtain⟨n,i⟩:∃n,(dec (c::t)).2=n+1:=⟨(dec (c::t)).2-1,by omega⟩;rw[o,i,List.take_succ_cons]at b;injection b with b _;rw[<-b,xE (by omega) (by omega)]at j;omega
 rw[oU m]at f ⊢;have:=N3.1 GA c.toNat (Og.2 m);have:=zD this;rw[UInt8.ofNat_toNat]at this;rw[<-this];simp[eh];have f:128<=(dec l).1:=by omega
 have e:=v6 h k;have p:fc (dec l).1=0:=by unfold fc;rw[zv (by omega),zv (by omega),zv (by omega),zv (by omega),zv (by omega),zv (by omega)]
 unfold kG;rw[zv (by rw[p];exact λh=>h rfl),zz (by omega),<-e];exact uK (D5 (Fj l) f)
end
section
def xf(ln:Bool)(nd lv:Nat):Bs:=if ln then 10::Ph (nd*lv) 32 else []
def Zk(ln:Bool)(nd lv:Nat):List Bs->Bs
 |[]=>[]
 |p::ps=>xf ln nd lv++p++ps.flatMap λq=>44::(xf ln nd lv++q)
def fe(ln:Bool)(nd lv:Nat)(ps:List Bs):Bs:=Zk ln nd (lv+1) ps++(if ps=[]then []else xf ln nd lv)
def eU(ln:Bool)(k:Bt)(p:Bs):Bs:=(eG (lb k)).1++58::((if ln then [32]else [])++p)
mutual
def Wk(ln:Bool)(nd:Nat):Tr->Nat->Bs
 |.mk k s ks xs,lv=>if k=1 then [110,117,108,108]else if k=4 then(eG (lb s)).1 else if k=5 then 91::fe ln nd lv (lr ln nd xs (lv+1))++[93]
  else if k=6 then 123::fe ln nd lv (List.zipWith (eU ln) ks (lr ln nd xs (lv+1)))++[125]else lb s
def lr(ln:Bool)(nd:Nat):List Tr->Nat->List Bs
 |[],_=>[]
 |x::l,lv=>Wk ln nd x lv::lr ln nd l lv
end
theorem A9(ln:Bool)(nd:Nat)(lv:Nat):∀l:List Tr,lr ln nd l lv=l.map λx=>Wk ln nd x lv
 |[]=>rfl
 |x::l=>by rw[lr,A9 ln nd lv l];rfl
theorem i4(ln:Bool)(nd:Nat)(v:Tr)(lv:Nat):Wk ln nd v lv=if v.kind=1 then [110,117,108,108]else if v.kind=4 then(eG (lb v.text)).1 else if v.kind=5 then 91::fe ln nd lv (v.items.map λx=>Wk ln nd x (lv+1))++[93]
  else if v.kind=6 then 123::fe ln nd lv (List.zipWith (eU ln) v.keys (v.items.map λx=>Wk ln nd x (lv+1)))++[125]else lb v.text:=by
 cases v with
 |mk k s ks xs=>rw[Wk,A9]
theorem Gv(ln:Bool)(nd lv:Nat)(ps:List Bs)(p:Bs):Zk ln nd lv (ps++[p])=Zk ln nd lv ps++((if ps=[]then []else [44])++(xf ln nd lv++p)):=by
 cases ps with
 |nil=>simp[Zk]
 |cons q b=>rw[Ox,Zk,Zk,List.flatMap_append,zv (by simp)];simp[Od]
theorem vN(ln:Bool)(nd lv:Nat){ps:List Bs}{n:Nat}(h:n<ps.length):Zk ln nd lv (ps.take (n+1))=Zk ln nd lv (ps.take n)++((if n=0 then []else [44])++(xf ln nd lv++ps[n])):=by rw[Oc h,Gv];congr 2;by_cases h0:n=0;subst h0;rfl;rw[zv h0,zv (by intro e;rw[List.take_eq_nil_iff]at e;rcases e with e|e;exact h0 e;rw[e]at h;simp at h)]
theorem zO(ln:Bool)(nd lv:Nat){ps:List Bs}:∀{n:Nat},n<=ps.length->(Zk ln nd lv (ps.take n)).length<=(Zk ln nd lv ps).length:=by
 have step:∀k n,n+k=ps.length->(Zk ln nd lv (ps.take n)).length<=(Zk ln nd lv ps).length:=by
  intro k;induction k with
  |zero=>intro n h;rw[Pw]at h;subst h;rw[N7];exact ND _
  |succ k b=>intro n h;have c:=b (n+1) (by omega);rw[vN ln nd lv (by omega),NH]at c;omega
 intro n h;exact step (ps.length-n) n (by omega)
theorem wA:∀n:Nat,repeatL [32] n=Ph n 32
 |0=>rfl
 |n+1=>by rw[show repeatL [32] (n+1)=[32]++repeatL [32] n from rfl,wA n];rfl
theorem vg:∀{l:List Tr} {y:Tr},y∈l->er y<=dL l
 |x::l,y,h=>by rw[dL];rcases NI.1 h with rfl|h;omega;have:=vg h;omega
theorem Cv{v x:Tr}(h:x∈v.items):er x<er v:=by have:=vg h;rw[kX v];omega
end
section
variable {ln:Bool} {lv:Nat}
theorem Il(ln:Bool)(nd lv:Nat)(ps:List Bs):(Zk ln nd lv ps).length<=(ps.map λp=>p.length+(1+(xf ln nd lv).length)).sum:=by
 cases ps with
 |nil=>exact ND _
 |cons p ps=>
  have:∀b:List Bs,(b.flatMap λq=>44::(xf ln nd lv++q)).length=(b.map λp=>p.length+(1+(xf ln nd lv).length)).sum:=by
   intro b;induction b with
   |nil=>rfl
   |cons q b c=>rw[Pa,NH,c,N2,List.sum_cons];simp;omega
  rw[Zk,NH,NH,this,N2,List.sum_cons];omega
theorem Bb{nd lv:Nat}(h:nd<=8)(b:lv<=100):(xf ln nd lv).length<=801:=by unfold xf;have:nd*lv<=800:=OD (Pz h b) (by omega);split;rw[NU,PG];omega;simp
theorem tR(t:Bs):(eG t).1.length<=6*t.length+2:=by unfold eG;have:=tY t;split;simp;omega;simp
theorem BL{ln:Bool}{N:Nat}(m:N<=8):∀(n:Nat) (v:Tr) (lv:Nat),dx v<=n->Sm v->lv+er v<=90->(Wk ln N v lv).length+10000000<=dx v*20000000
 |0,v,lv,h,_,_=>by have:=iU v;omega
 |n+1,v,lv,hz,hsm,hd=>by
  have C:=hsm.text;have u:=iU v;have e:∀x∈v.items,(Wk ln N x (lv+1)).length+10000000<=dx x*20000000:=λx r=>by have t:=Zf r;have w:=Cv r;exact BL m n x (lv+1) (by omega) (hsm.item r) (by omega)
  have z:=Bb (ln:=ln) (lv:=lv) m (by omega);have B:=Bb (ln:=ln) (lv:=lv+1) m (by omega);have f:∀l:List Tr,(∀x∈l,(Wk ln N x (lv+1)).length+10000000<=dx x*20000000)->(l.map λx=>(Wk ln N x (lv+1)).length+10000000).sum<=J2 l*20000000:=by
   intro l;induction l with
   |nil=>intro _;exact NV _
   |cons x l i=>intro h;have t:=h x NQ;have w:=i λy q=>h y (NF _ q);rw[N2,List.sum_cons,J2,O2];omega
  have s:=f v.items e;have b:∀ps:List Bs,(ps.map λp=>p.length+(1+(xf ln N (lv+1)).length)).sum<=J2 v.items*20000000->∀o c:UInt8,(o::fe ln N lv ps++[c]).length+10000000<=dx v*20000000:=λps A o c=>by
   have D:=Il ln N (lv+1) ps;have:(o::fe ln N lv ps++[c]).length<=2+(Zk ln N (lv+1) ps).length+(xf ln N lv).length:=by unfold fe;simp only[NU,NH,OE];split <;> simp <;> omega
   rw[Yi,O2];omega
  rw[i4];split;simp only[NU,OE];omega;split;have:=tR (lb v.text);omega;split;refine b _ (OD ?_ s) 91 93;rw[Ol];have:∀l:List Tr,(l.map ((λp:Bs=>p.length+(1+(xf ln N (lv+1)).length)) ∘ λx=>Wk ln N x (lv+1))).sum<=(l.map λx=>(Wk ln N x (lv+1)).length+10000000).sum:=by
   intro l;induction l with
   |nil=>exact ND _
   |cons x l i=>simp only[N2,List.sum_cons,Function.comp];omega
  exact this _;split;refine b _ (OD ?_ s) 123 125;have:∀(ks:List Bt) (l:List Tr),(∀k∈ks,(lb k).length<=1048576)->((List.zipWith (eU ln) ks (l.map λx=>Wk ln N x (lv+1))).map λp:Bs=>p.length+(1+(xf ln N (lv+1)).length)).sum<=(l.map λx=>(Wk ln N x (lv+1)).length+10000000).sum:=by
   intro ks;induction ks with
   |nil=>intro l _;simp
   |cons k ks i=>
    intro l j;cases l with
    |nil=>simp
    |cons x l=>
     have t:=i l λy q=>j y (NF _ q);have w:=j k NQ;have F:=tR (lb k);have E:(eU ln k (Wk ln N x (lv+1))).length<=(eG (lb k)).1.length+2+(Wk ln N x (lv+1)).length:=by unfold eU;rw[NH,NU,NH];split <;> simp <;> omega
     simp only[N2,List.zipWith_cons_cons,List.sum_cons];omega
  exact this v.keys v.items λk j=>hsm.key j;omega
theorem IF{N:Nat}{v:Tr}(h:ed v=Ta):Wk ln N v lv≠[]:=by unfold ed at h;rw[NP]at h;obtain⟨l,h⟩:=h;unfold zy at h;rw[i4];by_cases k:v.kind=1;rw[zz k];simp;rw[zv k]at h ⊢;by_cases b:v.kind=4;rw[zz b];rw[b]at h;simp at h;unfold eG;rw[zz h.1.1];simp;rw[zv b];by_cases c:v.kind=5;rw[zz c];simp;rw[zv c];by_cases f:v.kind=6;rw[zz f];simp;rw[zv f];by_cases j:v.kind=2;rw[zz j]at h;simp at h;rcases h.1.1 with e|e <;> (rw[e];simp);rw[zv j]at h;by_cases i:v.kind=3;rw[zz i]at h;simp only[NP]at h;have:=h.1.1;unfold fX at this;simp only[NP,beq_iff_eq]at this;intro e;rw[e]at this;exact absurd this.1 (by decide);rw[zv i,zv b,zv c,zv f]at h;split at h;rename_i e;simp[e]at l;cases h
end
section
def jw(xs:List Bt):List Bt:=((xs.map lb).mergeSort λx y=>decide (x<=y)).map bl
theorem Lh{xs ys:List Bt}(h:xs.Perm ys):jw xs=jw ys:=by unfold jw;rw[mergeSort_of_perm (h.map lb)]
theorem Yk(xs:List Bt):(jw xs).Perm xs:=by
 have h:=(List.mergeSort_perm (xs.map lb) λx y=>decide (x<=y)).map bl;rw[Ol]at h;have e:bl ∘ lb=id:=by funext x;exact gI x
 rw[e,List.map_id]at h;exact h
theorem EZ(xs:List Bt):(jw xs).length=xs.length:=(Yk xs).length_eq
end
section
def eZ:List (Bt×Tr)->Bt->Tr
 |[],_=>.mk 0 (bl []) [] []
 |p::l,k=>if p.1=k then p.2 else eZ l k
mutual
def zi:Tr->Tr
 |.mk k s ks xs=>if k=6 then .mk k s (jw ks) ((jw ks).map λq=>eZ (ks.zip (mV xs)) q)else .mk k s [] (mV xs)
def mV:List Tr->List Tr
 |[]=>[]
 |x::l=>zi x::mV l
end
def xg(v:Tr):Tr:=if fm v=Ta then zi v else .mk 0 (bl []) [] []
theorem vM:∀l:List Tr,mV l=l.map zi
 |[]=>rfl
 |x::l=>by rw[mV,vM l];rfl
theorem Yl(v:Tr):zi v=if v.kind=6 then .mk v.kind v.text (jw v.keys) ((jw v.keys).map λq=>eZ (v.keys.zip (v.items.map zi)) q)else .mk v.kind v.text [] (v.items.map zi):=by
 cases v with
 |mk k s ks xs=>rw[zi,vM]
theorem AZ(k:Bt):∀(ks:List Bt) (ys:List Tr),ks.length=ys.length->k∈ks->∃(j:Nat) (o:j<ks.length) (n:j<ys.length),ks[j]=k/\eZ (ks.zip ys) k=ys[j]/\∀us:List Value,us.length=ks.length->ep (ks.zip us) k=us[j]?
 |[],_,_,h=>by cases h
 |z::ks,[],h,_=>by simp at h
 |z::ks,y::ys,h,hk=>by
  by_cases b:z=k;refine⟨0,by simp,by simp,b,?_,λus c=>?_⟩;rw[PK,eZ,zz b];rfl
  match us,c with
  |u::us,_=>rw[PK,ep,zz b];rfl
  have f:k∈ks:=by rcases NI.1 hk with e|e;exact absurd e.symm b;exact e
  obtain⟨j,o,n,m,l,i⟩:=AZ k ks ys (by simpa using h) f;refine⟨j+1,by simp;omega,by simp;omega,by simpa using m,?_,λus c=>?_⟩;rw[PK,eZ,zv b,l];rfl
  match us,c with
  |u::us,c=>rw[PK,ep,zv b,i us (by simpa using c)];rfl
end
section
variable {xs ys:List Tr} {α:Type} {v:Tr}
theorem Io(h:xs.Perm ys):J2 xs=J2 ys:=by
 induction h with
 |nil=>rfl
 |cons x _ c=>rw[J2,J2,c]
 |swap x y l=>simp only[J2];omega
 |trans _ _ a b=>rw[a,b]
theorem F3(h:xs.Perm ys):dL xs=dL ys:=by
 induction h with
 |nil=>rfl
 |cons x _ c=>rw[dL,dL,c]
 |swap x y l=>simp only[dL];omega
 |trans _ _ a b=>rw[a,b]
theorem Ly{xs ys:List Nat}(h:xs.Perm ys):xs.sum=ys.sum:=by
 induction h with
 |nil=>rfl
 |cons x _ c=>rw[List.sum_cons,List.sum_cons,c]
 |swap x y l=>simp only[List.sum_cons];omega
 |trans _ _ a b=>rw[a,b]
theorem p6{p:α->Bool}{xs ys:List α}(h:xs.Perm ys):xs.all p=ys.all p:=by rw[Om,N3,N3];exact⟨λa x b=>a x (h.mem_iff.2 b),λa x b=>a x (h.mem_iff.1 b)⟩
theorem tz:∀(ks:List Bt) (ys:List Tr),ks.Nodup->ks.length=ys.length->(ks.map λq=>(q,eZ (ks.zip ys) q))=ks.zip ys
 |[],ys,_,_=>by simp
 |k::ks,[],_,h=>by simp at h
 |k::ks,y::ys,hn,h=>by rw[OP]at hn;rw[N2,PK];congr 1;rw[eZ,zz rfl];rw[<-tz ks ys hn.2 (by simpa using h)];refine Pq λq b=>?_;have:k≠q:=λe=>hn.1 (e ▸ b);rw[eZ,zv this];congr 2;exact tz ks ys hn.2 (by simpa using h)
structure SrtF (v w:Tr):Prop where
 k:w.kind=v.kind
 t:w.text=v.text
 kp:w.keys.Perm v.keys
 ip:w.items.Perm (v.items.map zi)
 zp:(w.keys.zip w.items).Perm (v.keys.zip (v.items.map zi))
theorem FK(b:zy v=Ta)(k:v.kind≠6):v.keys=[]:=by unfold zy at b;simp only[k,if_false]at b;by_cases i:v.kind=1;simp[i]at b;exact b.1.2;by_cases h:v.kind=2;simp[h]at b;exact b.1.2;by_cases j:v.kind=3;simp[j]at b;exact b.1.2;by_cases c:v.kind=4;simp[c]at b;exact b.1.2;by_cases f:v.kind=5;simp[f]at b;exact b.2;by_cases e:v.kind=7;simp[e]at b;exact b.1.2;simp[i,h,j,c,f,e]at b
theorem EE(b:zy v=Ta)(c:v.kind=6):v.keys.Nodup/\v.keys.length=v.items.length:=by unfold zy wz at b;simp[c]at b;exact⟨b.1.1.2,b.1.2⟩
theorem Lb(f:zy v=Ta):SrtF v (zi v):=by
 rw[Yl];by_cases b:v.kind=6;rw[zz b];obtain⟨k,m⟩:=EE f b;have i:=tz v.keys (v.items.map zi) k (by rw[NM];exact m);have c:=(Yk v.keys).map λq=>(q,eZ (v.keys.zip (v.items.map zi)) q);rw[i]at c;have e:∀l:List Bt,l.zip (l.map λq=>eZ (v.keys.zip (v.items.map zi)) q)=l.map λq=>(q,eZ (v.keys.zip (v.items.map zi)) q):=by
  intro l;induction l with
  |nil=>rfl
  |cons x l j=>rw[N2,PK,j,N2]
 refine⟨rfl,rfl,Yk _,?_,?_⟩;have:=c.map (·.2);rw[Ol,List.map_snd_zip (by rw[NM];omega)]at this;exact this;show((jw v.keys).zip _).Perm _;rw[e];exact c;rw[zv b];have h:=FK f b;exact⟨rfl,rfl,by rw[h],.refl _,by rw[h]⟩
theorem Jm{a:List α}:a.isEmpty=decide (a.length=0):=by cases a <;> simp
theorem D6{a b:List Bt}(h:a.Perm b):wz a=wz b:=by unfold wz;rw[p6 h];congr 1;rw[Om,zC,zC];exact h.nodup_iff
theorem Ld{v w:Tr}(h:w.kind=v.kind)(c:w.text=v.text)(f:w.keys.length=v.keys.length)(e:w.items.length=v.items.length)(b:wz w.keys=wz v.keys):zy w=zy v:=by unfold zy;rw[h,c,b,Jm,Jm,Jm,Jm,f,e]
theorem zV(ln:Bool)(nd lv:Nat)(ps:List Bs):(Zk ln nd lv ps).length+(if ps=[]then 0 else 1)=(ps.map λp=>p.length+(1+(xf ln nd lv).length)).sum:=by
 cases ps with
 |nil=>rfl
 |cons p ps=>
  have:∀b:List Bs,(b.flatMap λq=>44::(xf ln nd lv++q)).length=(b.map λp=>p.length+(1+(xf ln nd lv).length)).sum:=by
   intro b;induction b with
   |nil=>rfl
   |cons q b c=>rw[Pa,NH,c,N2,List.sum_cons];simp;omega
  rw[Zk,NH,NH,this,N2,List.sum_cons,zv (by simp)];omega
theorem vl{ln:Bool}{nd lv:Nat}{ps b:List Bs}(h:(ps.map OA).Perm (b.map OA)):(fe ln nd lv ps).length=(fe ln nd lv b).length:=by
 have e:(ps=[])↔(b=[]):=by have:=h.length_eq;rw[NM,NM]at this;rw[<-Ov,<-Ov,this]
 have j:=zV ln nd (lv+1) ps;have i:=zV ln nd (lv+1) b;have f:=Ly (h.map λn=>n+(1+(xf ln nd (lv+1)).length));rw[Ol,Ol]at f;have f:(ps.map λp=>p.length+(1+(xf ln nd (lv+1)).length)).sum=(b.map λp=>p.length+(1+(xf ln nd (lv+1)).length)).sum:=f;unfold fe;rw[NH,NH];by_cases c:ps=[];rw[zz c]at j ⊢;rw[zz (e.1 c)]at i ⊢;omega;rw[zv c]at j ⊢;rw[zv (λq=>c (e.2 q))]at i ⊢;omega
theorem xD{α β γ:Type}(f:α->β->γ):∀(a:List α) (b:List β),List.zipWith f a b=(a.zip b).map λp=>f p.1 p.2
 |[],_=>by simp
 |_::_,[]=>by simp
 |x::a,y::b=>by rw[List.zipWith_cons_cons,PK,N2,xD f a b]
structure SrtG (v:Tr):Prop where
 sz:dx (zi v)=dx v
 dp:er (zi v)=er v
 okv:dO ed (zi v)=dO ed v
 nok:dO zy (zi v)=Ta
 tx:∀m,fI m v->fI m (zi v)
 len:∀(ln:Bool) (N lv:Nat),(Wk ln N (zi v) lv).length=(Wk ln N v lv).length
theorem zK{f:Tr->Tr}:∀{l:List Tr},(∀x∈l,dx (f x)=dx x)->J2 (l.map f)=J2 l
 |[],_=>rfl
 |x::l,h=>by rw[N2,J2,J2,h x NQ,zK λy b=>h y (NF _ b)]
theorem uh{f:Tr->Tr}:∀{l:List Tr},(∀x∈l,er (f x)=er x)->dL (l.map f)=dL l
 |[],_=>rfl
 |x::l,h=>by rw[N2,dL,dL,h x NQ,uh λy b=>h y (NF _ b)]
theorem rS:∀(n:Nat) (v:Tr),dx v<=n->dO zy v=Ta->SrtG v
 |0,v,h,_=>by have:=iU v;omega
 |n+1,v,hz,hok=>by
  rw[Qw,NP,wl,N3]at hok;obtain⟨i,f⟩:=hok;have S:=Lb i;have c:∀x∈v.items,SrtG x:=λx b=>rS n x (by have:=Zf b;omega) (f x b);have l:zy (zi v)=zy v:=Ld S.k S.t S.kp.length_eq (by rw[S.ip.length_eq,NM]) (D6 S.kp);refine⟨?_,?_,?_,?_,λm h=>?_,λln N lv=>?_⟩;rw[Yi,Yi v,Io S.ip,zK λx b=>(c x b).sz];rw[kX,kX v,F3 S.ip,uh λx b=>(c x b).dp];rw[Qw,Qw _ v,wl,wl,p6 S.ip,List.all_map];have u:ed (zi v)=ed v:=by unfold ed;rw[l,S.k]
  rw[u];congr 1;rw[Om,N3,N3];exact⟨λa x b=>by rw[<-(c x b).okv];exact a x b,λa x b=>by show dO ed (zi x)=Ta;rw[(c x b).okv];exact a x b⟩;rw[Qw,l,i,Pj,wl,p6 S.ip,List.all_map,N3];exact λx b=>(c x b).nok;rw[mK]at h ⊢;obtain⟨⟨e,s,r⟩,o⟩:=h;refine⟨⟨by rw[S.t];exact e,by rw[S.kp.length_eq];exact s,λk f=>r k (S.kp.mem_iff.1 f)⟩,nE.2 λx b=>?_⟩;obtain⟨y,j,rfl⟩:=N9.1 (S.ip.mem_iff.1 b);exact(c y j).tx m (nE.1 o y j);rw[i4,i4 (v:=v),S.k,S.t];split;rfl;split;rfl;split;simp only[NH,NU];congr 2;refine vl ?_;rw[Ol,Ol];have e:=S.ip.map λx=>(Wk ln N x (lv+1)).length;rw[Ol]at e;refine e.trans ?_;have:v.items.map ((λx=>(Wk ln N x (lv+1)).length) ∘ zi)=v.items.map (OA ∘ λx=>Wk ln N x (lv+1)):=Pq λx b=>(c x b).len ln N (lv+1);rw[this];split;simp only[NH,NU];congr 2;refine vl ?_;have conv:∀(ks:List Bt) (xs:List Tr),(List.zipWith (eU ln) ks (xs.map λx=>Wk ln N x (lv+1))).map OA=(ks.zip xs).map λp=>(eU ln p.1 (Wk ln N p.2 (lv+1))).length:=by intro ks xs;rw[xD,List.zip_map_right,Ol,Ol];rfl
  rw[conv,conv];have e:=S.zp.map λp=>(eU ln p.1 (Wk ln N p.2 (lv+1))).length;refine e.trans ?_;rw[List.zip_map_right,Ol];have:(v.keys.zip v.items).map ((λp=>(eU ln p.1 (Wk ln N p.2 (lv+1))).length) ∘ Prod.map id zi)=(v.keys.zip v.items).map λp=>(eU ln p.1 (Wk ln N p.2 (lv+1))).length:=Pq λp q=>by have:=(c p.2 (List.of_mem_zip q).2).len ln N (lv+1);show(eU ln p.1 (Wk ln N (zi p.2) (lv+1))).length=_;unfold eU;simp only[NH,NU,this]
  rw[this];rfl
theorem Ng(h:fm v=Ta):qz (zi v)=qz v:=by unfold fm at h;rw[NP]at h;have S:=rS (dx v) v (ND _) h.2;have e:∀w:Tr,qz w=(Yj w&&dO ed w):=λw=>rfl;rw[e,e,S.okv];unfold Yj;rw[S.sz,S.dp]
theorem vd(h:qz v=Ta):fm v=Ta:=by have e:qz v=(Yj v&&dO ed v):=rfl;rw[e,NP]at h;unfold fm;rw[h.1,Pj];exact qM (λx b=>by unfold ed at b;rw[NP]at b;exact b.2) v h.2
theorem IW(h:Sm v):Sm (xg v):=by unfold xg;by_cases b:fm v=Ta;rw[zz b];unfold fm at b;rw[NP]at b;have S:=rS (dx v) v (ND _) b.2;exact⟨by rw[S.sz];exact h.sz,S.tx _ h.tx⟩;rw[zv b];exact⟨by decide,by rw[mK];exact⟨⟨by decide,by decide,by decide⟩,trivial⟩⟩
theorem Lu:qz (xg v)=qz v:=by
 unfold xg;by_cases b:fm v=Ta;rw[zz b];exact Ng b;rw[zv b];cases hr:qz v with
 |true=>exact absurd (vd hr) b
 |false=>rfl
end
section
variable {l:List Tr} {m:Nat}
def jQ(k:Bt):Bt:=bl (107::(eG (lb k)).1)
def iA(v:Tr):Bt:=if v.kind=5 then bl [91]else if v.kind=6 then bl [123]else bl (Wk Tc 0 v 0)
mutual
def d9:Tr->Nat->List (Bt×Int)
 |.mk k s ks xs,n=>(if k=6 then dK xs ks n else if k=5 then d7 xs n else [])++[(iA (.mk k s ks xs),(n:Int))]
def d7:List Tr->Nat->List (Bt×Int)
 |[],_=>[]
 |x::l,n=>d9 x n++d7 l (n+(d9 x n).length)
def dK:List Tr->List Bt->Nat->List (Bt×Int)
 |[],_,_=>[]
 |x::l,ks,n=>d9 x n++((jQ ks.head!,(n:Int))::dK l ks.tail (n+(d9 x n).length+1))
end
theorem JU(v:Tr)(n:Nat):d9 v n=(if v.kind=6 then dK v.items v.keys n else if v.kind=5 then d7 v.items n else [])++[(iA v,(n:Int))]:=by cases v;rw[d9]
mutual
def iF:Tr->Nat
 |.mk k _ _ xs=>(if k=6 then hD 1 xs else if k=5 then hD 0 xs else 0)+1
def hD(d:Nat):List Tr->Nat
 |[]=>0
 |x::l=>iF x+d+hD d l
end
mutual
theorem sS:∀(v:Tr) (n:Nat),(d9 v n).length=iF v
 |.mk k s ks xs,n=>by rw[d9,iF,NH,OQ];congr 1;split;exact vx xs ks n;split;exact AH xs n;rfl
theorem AH:∀(l:List Tr) (n:Nat),(d7 l n).length=hD 0 l
 |[],_=>by rw[d7,hD];rfl
 |x::l,n=>by rw[d7,hD,NH,sS x n,AH l];omega
theorem vx:∀(l:List Tr) (ks:List Bt) (n:Nat),(dK l ks n).length=hD 1 l
 |[],_,_=>by rw[dK,hD];rfl
 |x::l,ks,n=>by rw[dK,hD,NH,NU,sS x n,vx l];omega
end
theorem uu:∀(l:List Tr) (m:List Tr) (n:Nat),d7 (l++m) n=d7 l n++d7 m (n+(d7 l n).length)
 |[],m,n=>by rw[d7];rfl
 |x::l,m,n=>by rw[Ox,d7,d7,uu l m,Od,NH];congr 3;omega
theorem Ll(h:m<l.length)(n:Nat):d7 (l.take (m+1)) n=d7 (l.take m) n++d9 l[m] (n+(d7 (l.take m) n).length):=by rw[Oc h,uu,d7,d7,Oe]
theorem vn:∀(l:List Tr) (m:List Tr) (ks:List Bt) (n:Nat),dK (l++m) ks n=dK l ks n++dK m (ks.drop l.length) (n+(dK l ks n).length)
 |[],m,ks,n=>by rw[dK];rfl
 |x::l,m,ks,n=>by rw[Ox,dK,dK,vn l m,Od,Ox,NH,NU,NU,<-List.drop_tail];congr 4;omega
theorem IN{ks:List Bt}(h:m<l.length)(b:m<ks.length)(n:Nat):
  dK (l.take (m+1)) ks n=dK (l.take m) ks n++(d9 l[m] (n+(dK (l.take m) ks n).length)++[(jQ ks[m],((n+(dK (l.take m) ks n).length:Nat):Int))]):=by
 rw[Oc h,vn,dK,dK,N8,P5 (by omega)];congr 4;rw[Po b];rfl
def dU(X:List (Bt×Int)):List (Bt×Int):=X.take 513
theorem nn(X:List (Bt×Int)):(dU X).length<=513:=by unfold dU;rw[N8];omega
theorem kh{X:List (Bt×Int)}(h:X.length<=513):dU X=X:=Pe h
theorem o5(X:List (Bt×Int))(f:Nat->List (Bt×Int)):dU (dU X++f (dU X).length)=dU (X++f X.length):=by
 by_cases h:X.length<=513;rw[kh h];have b:(dU X).length=513:=by unfold dU;rw[N8];omega
 unfold dU at b ⊢;rw[Pr (Nat.le_of_eq b.symm),Pr (by omega:513<=X.length),List.take_take];rfl
theorem yR{X:List (Bt×Int)}(h:X.length<=513)(p:Bt×Int):(if X.length<=512 then X++[p]else X)=dU (X++[p]):=by
 split;rename_i b;rw[kh (by simp;omega)];rename_i b;have:X.length=513:=by omega
 unfold dU;rw[Pr (by omega),Pe h]
end
section
variable {n i:Nat}
def cR(L:List Int)(i:Nat):Int:=L.getD i 0
def fC(L:List Int)(j:Nat):Bool:=decide (0<=cR L j)&&decide (cR L j<=j)&&(OB j).all λi=>!(decide (cR L j<=(i:Int))&&decide (cR L i<cR L j))
def eA(L:List Int)(j:Nat):Bool:=(OB j).all (fC L)
def zd(t:List Bt×List Int):Bool:=decide (t.1.length=t.2.length)&&decide (t.1.length<=512)&&eA t.2 t.2.length
def eB(L:List Int)(n i:Nat):Int:=match (OB n).find? λj=>decide (i<j)&&decide (cR L j<=(i:Int))with
 |some j=>(j:Int)
 |none=>-1
def jT(L:List Int):List Int:=(OB L.length).map (eB L L.length)
def Ym(L:List Int)(j:Nat):List Nat:=(OB j).filter λi=>decide (eB L j i<0)
theorem xn{L:List Int}{j:Nat}:fC L j=Ta↔0<=cR L j/\cR L j<=j/\∀i,i<j->cR L j<=(i:Int)->cR L j<=cR L i:=by unfold fC;simp only[NP,zC,N3,Og,PN,Bool.and_eq_false_iff,decide_eq_false_iff_not];constructor;rintro⟨⟨e,b⟩,f⟩;exact⟨e,b,λi hi c=>by rcases f i hi with h|h <;> omega⟩;rintro⟨e,b,f⟩;refine⟨⟨e,b⟩,λi hi=>?_⟩;by_cases c:cR L j<=(i:Int);exact .inr (by have:=f i hi c;omega);exact .inl c
theorem Jn{L:List Int}{j:Nat}:eA L j=Ta↔∀i,i<j->fC L i=Ta:=by unfold eA;simp only[N3,Og]
theorem BC{L:List Int}{j:Nat}(h:eA L j=Ta)(c:fC L j=Ta):eA L (j+1)=Ta:=by rw[Jn]at h ⊢;intro i hi;rcases Ob i j with b|b;exact h i b;rw[show i=j from by omega];exact c
theorem Fb{p:Nat->Bool}:∀{n j:Nat},(OB n).find? p=Td j->j<n/\p j=Ta/\∀i,i<j->p i=Tc:=by
 intro n;induction n with
 |zero=>intro j h;simp at h
 |succ n b=>
  intro j h;rw[List.range_succ,List.find?_append]at h;cases e:(OB n).find? p with
  |some k=>rw[e]at h;simp at h;subst h;obtain⟨m,f,l⟩:=b e;exact⟨by omega,f,l⟩
  |none=>rw[e]at h;rw[List.find?_eq_none]at e;simp[List.find?]at h;split at h;rename_i c;simp at h;subst h;exact⟨by omega,c,λi hi=>by simpa using e i (Og.2 hi)⟩;simp at h
theorem Zr(L:List Int)(n i:Nat):(eB L n i=-1/\∀j,i<j->j<n->(i:Int)<cR L j)\/∃p:Nat,eB L n i=(p:Int)/\i<p/\p<n/\cR L p<=(i:Int)/\∀j,i<j->j<p->(i:Int)<cR L j:=by
 unfold eB;cases e:(OB n).find? λj=>decide (i<j)&&decide (cR L j<=(i:Int))with
 |none=>refine .inl ⟨rfl,λj f c=>?_⟩;rw[List.find?_eq_none]at e;have:=e j (Og.2 c);simp[f]at this;omega
 |some p=>obtain⟨f,c,h⟩:=Fb e;simp only[NP,zC]at c;refine .inr ⟨p,rfl,c.1,f,c.2,λj a b=>?_⟩;have:=h j b;simp[a]at this;omega
theorem wH{L:List Int}{n i p:Nat}(f:i<p)(l:p<n)(m:cR L p<=(i:Int))(k:∀j,i<j->j<p->(i:Int)<cR L j):eB L n i=(p:Int):=by rcases Zr L n i with⟨_,e⟩|⟨q,e,a,b,c,d⟩;have:=e p f l;omega;rw[e];rcases Nat.lt_trichotomy p q with h|h|h;have:=d p f h;omega;rw[h];have:=k q a h;omega
theorem vu{L:List Int}(h:∀j,i<j->j<n->(i:Int)<cR L j):eB L n i=-1:=by rcases Zr L n i with⟨e,_⟩|⟨q,e,a,b,c,d⟩;exact e;have:=h q a b;omega
theorem w5(L:List Int)(n i:Nat)(hi:i<n):eB L (n+1) i=if eB L n i<0/\cR L n<=(i:Int)then(n:Int)else eB L n i:=by
 rcases Zr L n i with⟨e,h⟩|⟨p,e,a,b,c,d⟩;by_cases f:cR L n<=(i:Int);rw[zz ⟨by omega,f⟩];exact wH hi (by omega) f λj k m=>h j k m
 rw[zv (λq=>f q.2),e];refine vu λj k m=>?_;rcases Ob j n with l|l;exact h j k l;rw[show j=n from by omega];omega;rw[zv (λq=>by omega),e];exact wH a (by omega) c d
theorem yC(L:List Int)(n:Nat):eB L (n+1) n=-1:=vu λj c b=>by omega
theorem BW{L:List Int}{j:Nat}(h:eA L j=Ta):∀(k i:Nat),j-i<=k->i<j->∃r,r<j/\eB L j r=-1/\i<=r/\cR L r<=cR L i
 |0,i,hk,hi=>by omega
 |k+1,i,hk,hi=>by rcases Zr L j i with⟨e,_⟩|⟨p,e,a,b,c,_⟩;exact⟨i,hi,e,ND _,Int.le_refl _⟩;obtain⟨r,l,f,n,m⟩:=BW h k p (by omega) b;rw[Jn]at h;have:=(xn.1 (h p b)).2.2 i a c;exact⟨r,l,f,by omega,by omega⟩
theorem rx{L:List Int}{j i:Nat}:i∈Ym L j↔i<j/\eB L j i=-1:=by unfold Ym;rw[Pm,Og,zC];constructor;rintro⟨a,b⟩;rcases Zr L j i with⟨e,_⟩|⟨p,e,_⟩;exact⟨a,e⟩;omega;rintro⟨a,b⟩;exact⟨a,by omega⟩
theorem Ik{L:List Int}{j:Nat}(h:eA L j=Ta)(h0:0<=cR L j)(e:cR L j<=j)(c:∀r∈Ym L j,cR L j<=(r:Int)->cR L j<=cR L r):fC L j=Ta:=by refine xn.2 ⟨h0,e,λi hi l=>?_⟩;obtain⟨r,f,b,m,k⟩:=BW h (j-i) i (ND _) hi;have:=c r (rx.2 ⟨f,b⟩) (by omega);omega
theorem Dq(L:List Int)(j:Nat):Ym L (j+1)=(Ym L j).filter (λi:Nat=>decide ((i:Int)<cR L j))++[j]:=by unfold Ym;rw[List.range_succ,List.filter_append,List.filter_filter];congr 1;refine List.filter_congr λi hi=>?_;rw[Og]at hi;rw[w5 L j i hi,Om,NP,zC,zC,zC];by_cases b:eB L j i<0;by_cases c:cR L j<=(i:Int);rw[zz ⟨b,c⟩];omega;rw[zv (λq=>c q.2)];omega;rw[zv (λq=>b q.1)];omega;rw[O0,zz (by rw[yC];decide)];rfl
theorem Dj(L:List Int)(j:Nat):(Ym L j).Pairwise (· < ·):=by unfold Ym;exact List.Pairwise.sublist List.filter_sublist PR
theorem yK:∀{l:List Nat},l.Pairwise (· < ·)->∀{x:Int} {m:Nat},m<=l.length->(∀i (h:i<l.length),i<m->(l[i]:Int)<x)->(∀i (h:i<l.length),m<=i->x<=(l[i]:Int))->l.filter (λi:Nat=>decide ((i:Int)<x))=l.take m
 |[],_,x,m,_,_,_=>by simp
 |a::l,hp,x,m,hm,h1,h2=>by
  cases m with
  |zero=>rw[List.take_zero,List.filter_eq_nil_iff];intro b c;obtain⟨i,hi,rfl⟩:=PM.1 c;have:=h2 i hi (NV _);simp;exact this
  |succ m=>rw[O0,zz (by have:=h1 0 (by simp) (by omega);simpa using this),List.take_succ_cons];congr 1;exact yK (Oi.1 hp).2 (by simpa using hm) (λi h hi=>by have:=h1 (i+1) (by simpa using h) (by omega);simpa using this) (λi h hi=>by have:=h2 (i+1) (by simpa using h) (by omega);simpa using this)
theorem tH{L:List Int}(h:i<L.length):L[i]?=Td (cR L i):=by unfold cR;rw[Oo,NL h];rfl
theorem Hk{L:List Int}(h:i<L.length):(jT L)[i]?=Td (eB L L.length i):=by unfold jT;rw[OM,List.getElem?_range h];rfl
theorem MJ(L:List Int):(jT L).length=L.length:=by unfold jT;rw[NM,P7]
end
end Go.X
end
section
namespace Go.X
open Go Go.ChangeMaps
section
variable {h h':za} {m r:Nat} {P:Program} {t kt et:TypeId} {K:Value -> za -> Prop} {dn:List Value}
def MapW(h:za)(m:Nat)(l:List (Value×Value)):Prop:=
 ∃c b,h[m]?=Td (.map c b)/\c.toList.map (λe=>(e.key,e.val))=l/\(∀e∈c.toList,e.born<b)/\(c.toList.map (·.born)).Nodup
theorem MapW.keep{l:List (Value×Value)}(H:MapW h m l)(k:h'[m]?=h[m]?):MapW h' m l:=by obtain⟨f,c,e,b⟩:=H;exact⟨f,c,k.trans e,b⟩
theorem MapW.lt{l:List (Value×Value)}(H:MapW h m l):m<h.size:=by obtain⟨f,c,b,e⟩:=H;exact(NK.1 b).1
theorem MapW.new(h:za):MapW (h.push (.map #[] 0)) h.size []:=⟨#[],0,qq _ _,rfl,by simp,by simp⟩
def ey(l:List (Bt×Value)):List (Value×Value):=l.map λp=>(OK p.1,p.2)
theorem MapW.at{l:List (Bt×Value)}(H:MapW h m (ey l)):MapAt h m l:=by obtain⟨f,c,e,b,_⟩:=H;exact⟨f,c,e,b⟩
theorem DG{z:Value}(T:MapT P t kt et z){l:List (Bt×Value)}(H:MapW h m (ey l))(k:Bt)(v:Value){K:za->Prop}
  (M:∀h':za,MapW h' m (ey (gd l k v))->h'.size=h.size->(∀i,i≠m->h'[i]?=h[i]?)->K h'):XRunU P (O8 t (.map (Td m)) (.string k) v) h K:=by
 have q:=H.lt;obtain⟨f,c,J,D,C,G⟩:=H;intro B d;have F:=QExec.underlying (h:=h) T.map B d;have I:=Zo (P:=P) J B d;have L:=Wt T.key Tc k h B d;have b:∀o:Obj,(setObj m o).run P (mk B d h)=.ok () (mk B d (h.setIfInBounds m o)):=by intro o;have:(mk B d h).heap[m]?=Td (.map f c):=J;simp[setObj,Sem.run,this];rfl
 unfold O8;rcases Y1 k f.toList l 0 D with⟨g1,A⟩|⟨j,v0,e,g1,A,Y,g4,O,Z⟩;refine⟨d,h.setIfInBounds m (.map (f.push { key:=.string k,val:=v,born:=c }) (c+1)),?_,M _ ⟨f.push { key:=.string k,val:=v,born:=c },c+1,by simp[q],?_,?_,?_⟩ (by simp) (λi hi=>by rw[NW (Ne.symm hi)])⟩;rw[Sem.run_bind,F];simp only[Result.andThen_ok,Sem.run_bind,I,L];rw[xd T.key k f.toList Te h A B d];simp only[Result.andThen_ok];exact b _;rw[qH g1];unfold ey at D ⊢;simp[D];intro e w;simp at w;rcases w with w|rfl;have:=C e (by simpa using w);omega;simp;simp only[Array.toList_push,Oq,N2,QV];rw[QC];refine⟨G,by simp,λx S y V e=>?_⟩;simp at V;obtain⟨u,p,rfl⟩:=N9.1 S;have:=C u p;omega;have N:j<f.size:=by have:=(Ou.1 A).1;simpa using this
 have n:((f.modify j λe=>{ e with key:=.string k,val:=v }).toList.map (·.born))=f.toList.map (·.born):=by apply OG;intro i;simp only[Array.toList_modify,OM,List.getElem?_modify];by_cases s:j=i;subst s;cases f.toList[j]? <;> simp;cases f.toList[i]? <;> simp[s]
 refine⟨d,_,?_,M (h.setIfInBounds m (.map (f.modify j λe=>{ e with key:=.string k,val:=v }) c)) ⟨f.modify j λe=>{ e with key:=.string k,val:=v },c,by simp[q],?_,?_,?_⟩ (by simp) (λi hi=>by rw[NW (Ne.symm hi)])⟩;rw[Sem.run_bind,F];simp only[Result.andThen_ok,Sem.run_bind,I,L];rw[xd T.key k f.toList _ h O B d];simp only[Result.andThen_ok,NZ];have r:((f[j]?).map (·.key)).getD (.string k)=.string k:=by
  have:f[j]?=Td e:=by simpa using A
  rw[this];exact Y
 rw[r];have U:PV (.string k) (.string k)=pure (.string k):=by unfold PV;rw[zz (by show(k==k)=Ta;rw[kV];simp)]
 rw[U];exact b _;have:=Z v;unfold ey;simpa using this;intro u p;have:u.born∈((f.modify j λe=>{ e with key:=.string k,val:=v }).toList.map (·.born)):=N9.2 ⟨u,p,rfl⟩;rw[n]at this;obtain⟨e2,E,Q⟩:=N9.1 this;rw[<-Q];exact C e2 E;rw[n];exact G
def MapIt(h:za)(r m:Nat)(l:List (Value×Value))(dn:List Value):Prop:=
 ∃j f b i c,h[r]?=Td (.mapIter (Td m) b i c)/\h[m]?=Td (.map j f)/\j.toList.map (λe=>(e.key,e.val))=l/\(∀e∈j.toList,e.born<b)/\b<=c/\b<=f/\(j.toList.map (·.born)).Nodup /\
  ∀e∈j.toList,i.contains e.born=Ta↔e.key∈dn
theorem MapIt.keep{l:List (Value×Value)}(H:MapIt h r m l dn)(k:h'[r]?=h[r]?)(k2:h'[m]?=h[m]?):MapIt h' r m l dn:=by obtain⟨i,e,b,f,c,n,j,o⟩:=H;exact⟨i,e,b,f,c,k.trans n,k2.trans j,o⟩
def uD(h:za)(r m:Nat)(k v:Value):Prop:=
 ∃(i:Array MapEntry) (b c:Nat) (f:Array Nat) (e:MapEntry),h[r]?=Td (.mapIter (Td m) c (f.push e.born) b)/\h[m]?=Td (.map i b)/\e∈i.toList/\(i.toList.map (·.born)).Nodup/\e.key=k/\e.val=v
theorem uk(j:P.underlying t=Td (.map kt et)){l:List (Value×Value)}(H:MapW h m l)
  (k:∀h',h'.size=h.size+1->Keep h.size h h'->MapIt h' h.size m l []->K (.pointer (Td ⟨h.size,0,Te⟩)) h'):jh P (Rk t (.map (Td m))) h K:=by
 have i:=H.lt;obtain⟨n,c,b,o,r,f⟩:=H;intro B d;have p:=QExec.underlying (h:=h) j B d;have q:=Zo (P:=P) b B d;refine⟨.pointer (Td ⟨h.size,0,Te⟩),d,h.push (.mapIter (Td m) c #[] c),?_,k _ (by simp) (Keep.push _ _ (ND _)) ⟨n,c,c,#[],c,qq _ _,?_,o,r,ND _,ND _,f,λe s=>by simp⟩⟩;unfold Rk;rw[Sem.run_bind,p];simp only[Result.andThen_ok,Sem.run_bind,q,Sem.run_pure];rfl;rw[OZ,zv (by omega)];exact b
theorem ID{f:List MapEntry}(h:(f.map (·.born)).Nodup){a b:MapEntry}(k:a∈f)(j:b∈f)(e:a.born=b.born):a=b:=by
 induction f with
 |nil=>cases k
 |cons x f l=>rw[N2,OP]at h;rcases NI.1 k with i|i;rcases NI.1 j with c|c;rw[i,c];exact(h.1 (N9.2 ⟨b,c,by rw[<-e,i]⟩)).elim;rcases NI.1 j with c|c;exact(h.1 (N9.2 ⟨a,i,by rw[e,c]⟩)).elim;exact l h.2 i c
theorem HQ{f:List MapEntry}(h:(f.map (·.key)).Nodup){a b:MapEntry}(k:a∈f)(j:b∈f)(e:a.key=b.key):a=b:=by
 induction f with
 |nil=>cases k
 |cons x f l=>rw[N2,OP]at h;rcases NI.1 k with i|i;rcases NI.1 j with c|c;rw[i,c];exact(h.1 (N9.2 ⟨b,c,by rw[<-e,i]⟩)).elim;rcases NI.1 j with c|c;exact(h.1 (N9.2 ⟨a,i,by rw[e,c]⟩)).elim;exact l h.2 i c
def leftN(h:za)(r m:Nat):Nat:=match h[r]?,h[m]? with
 |some (.mapIter _ _ seen _),Td (.map es _)=>(es.toList.filter λe=>!seen.contains e.born).length
 |_,_=>0
theorem leftN.keep(b:h'[r]?=h[r]?)(k2:h'[m]?=h[m]?):leftN h' r m=leftN h r m:=by unfold leftN;rw[b,k2]
theorem xY{α:Type}{p q:α->Bool}(h:∀x,p x=Ta->q x=Ta):∀l:List α,(l.filter p).length<=(l.filter q).length
 |[]=>ND _
 |x::l=>by have:=xY h l;rw[O0,O0];by_cases b:p x=Ta;rw[zz b,zz (h x b)];simp;omega;rw[zv b];split;simp;omega;exact this
theorem filter_lt{α:Type}{p q:α->Bool}(h:∀x,p x=Ta->q x=Ta){e:α}(i:p e=Tc)(f:q e=Ta):∀l:List α,e∈l->(l.filter p).length<(l.filter q).length
 |[],b=>by cases b
 |x::l,b=>by rw[O0,O0];rcases NI.1 b with rfl|b;have:=xY h l;rw[zv (by rw[i];simp),zz f];simp;omega;have:=filter_lt h i f l b;by_cases c:p x=Ta;rw[zz c,zz (h x c)];simp;omega;rw[zv c];split;simp;omega;exact this
theorem yM{ty:TypeId}{l:List (Value×Value)}(H:MapIt h r m l dn)(Z:(l.map (·.1)).Nodup)(D:r≠m) (w:(∀p∈l,p.1∈dn)->K (.tuple #[.bool Tc]) h) (s:∀k v,(k,v)∈l->k∉dn->∀h',MapIt h' r m l (k::dn)->uD h' r m k v->h'.size=h.size->(∀j,j≠r->h'[j]?=h[j]?)->leftN h' r m<leftN h r m->K (.tuple #[.bool Ta,k,v]) h'):
  jh P (QE (.pointer (Td ⟨r,0,Te⟩)) Tc ty) h K:=by
 obtain⟨q,b,f,i,c,G,J,z,L,Y,O,E,C⟩:=H;intro B d;have Q:(q.toList.map (·.key)).Nodup:=by
  have e:q.toList.map (·.key)=l.map (·.1):=by rw[<-z,Ol];rfl
  rw[e];exact Z
 rcases run_next_at (P:=P) (mk B d h) ty r m f c i q b G J L Y with⟨e0,A⟩|⟨e,N,w1,U,A⟩;refine⟨_,d,h,A,w λp M=>?_⟩;rw[<-z]at M;obtain⟨x,o,rfl⟩:=N9.1 M;refine(C x o).1 ?_;have:leftOf q i=#[]:=Array.eq_empty_of_size_eq_zero e0;unfold leftOf at this;rw[Array.filter_eq_empty_iff]at this;have:=this x (by simpa using o);simpa using this;have n:e∈q.toList/\i.contains e.born=Tc:=by unfold leftOf at N;simpa using N
 have V:r<h.size:=(NK.1 G).1;have y:∃I,setBlock w1 r (.mapIter (Td m) f (i.push e.born) b)=mk B I (h.setIfInBounds r (.mapIter (Td m) f (i.push e.born) b)):=by rcases U with rfl|rfl;exact⟨d,rfl⟩;exact⟨d+1,rfl⟩
 obtain⟨I,F⟩:=y;rw[F]at A;have u:(h.setIfInBounds r (.mapIter (Td m) f (i.push e.born) b))[m]?=Td (.map q b):=by rw[NW D];exact J
 have t:(h.setIfInBounds r (.mapIter (Td m) f (i.push e.born) b))[r]?=Td (.mapIter (Td m) f (i.push e.born) b):=by simp[V]
 refine⟨_,I,_,A,s e.key e.val (by rw[<-z];exact N9.2 ⟨e,n.1,rfl⟩) (λT=>?_) _ ⟨q,b,f,i.push e.born,b,t,u,z,L,O,O,E,λx o=>?_⟩ ⟨q,b,f,i,e,t,u,n.1,E,rfl,rfl⟩ (by simp) (λj S=>by rw[NW (Ne.symm S)]) ?_⟩;have:=(C e n.1).2 T;rw[n.2]at this;cases this;rw[NI,<-C x o];simp only[Array.contains_eq_mem,Array.mem_push,zC];constructor;rintro(h|h);exact .inr h;exact .inl (by rw[ID E o n.1 h]);rintro(h|h);exact .inr (by rw[HQ Q o n.1 h]);exact .inl h;unfold leftN;rw[t,u,G,J];refine filter_lt (e:=e) (λx o=>?_) ?_ ?_ _ n.1;simp only[Array.contains_eq_mem,Array.mem_push]at o ⊢;simp at o ⊢;exact o.1;simp;rw[n.2];rfl
theorem BD{k v:Value}(H:uD h r m k v)(j:K (.tuple #[k,v]) h):jh P (Rm (.pointer (Td ⟨r,0,Te⟩))) h K:=by obtain⟨l,c,b,f,e,o,n,p,i,rfl,rfl⟩:=H;intro B d;exact⟨_,d,h,run_entry_at (P:=P) (mk B d h) r m b f l c e o n p i,j⟩
end
section
variable {P:Program} {kt:TypeId}
def eO(l:List (Int×Value))(k:Int):Option Value:=match l with
 |[]=>Te
 |p::l=>if p.1=k then Td p.2 else eO l k
def ff(l:List (Int×Value))(k:Int)(v:Value):List (Int×Value):=match l with
 |[]=>[(k,v)]
 |p::l=>if p.1=k then(k,v)::l else p::ff l k v
def eY(l:List (Int×Value)):List (Value×Value):=l.map λp=>(OH .i64 p.1,p.2)
structure MapTI (P:Program) (t kt et:TypeId):Prop where
 map:P.underlying t=Td (.map kt et)
 key:P.underlying kt=Td (.int .i64)
theorem qD(k:Int):∀(f:List MapEntry) (l:List (Int×Value)) (i:Nat),f.map (λe=>(e.key,e.val))=l.map (λp=>(OH .i64 p.1,p.2)) ->
  (eO l k=Te/\Ps (.int .i64) (.int .i64 k) f i=Td Te)\/(∃j v e,eO l k=Td v/\f[j]?=Td e/\e.key=.int .i64 k/\e.val=v/\Ps (.int .i64) (.int .i64 k) f i=Td (Td (i+j,v)) /\ ∀w,(f.modify j λe=>{ e with key:=.int .i64 k,val:=w }).map (λe=>(e.key,e.val))=(ff l k w).map λp=>(OH .i64 p.1,p.2))
 |[],l,i,h=>by
  have:l=[]:=by cases l <;> simp_all
  subst this;exact .inl ⟨rfl,rfl⟩
 |e::f,l,i,h=>by
  cases l with
  |nil=>simp at h
  |cons p l=>
   simp only[N2,PE,OJ]at h;obtain⟨⟨m,o⟩,q⟩:=h;by_cases c:p.1=k;refine .inr ⟨0,p.2,e,by simp[eO,c],rfl,by rw[m,c],o,?_,λw=>?_⟩;have b:(k==p.1)=Ta:=by simpa using c.symm
   simp[Ps,QY,m,o,b];simp[ff,c,q];have b:(k==p.1)=Tc:=by simpa using λe=>c e.symm
   rcases qD k f l (i+1) q with⟨g1,n⟩|⟨j,v,s,g1,n,u,x,r,t⟩;refine .inl ⟨by simp[eO,c,g1],?_⟩;simp[Ps,QY,m,b,n];refine .inr ⟨j+1,v,s,by simp[eO,c,g1],by simpa using n,u,x,?_,λw=>?_⟩;simp[Ps,QY,m,b,r];omega;simp[ff,c,m,o,t w]
theorem u0(e:P.underlying kt=Td (.int .i64))(b:Bool)(k:Int)(h:za):QExec P (Instr.checkKey b 10000 kt (.int .i64 k)) h ():=by intro B d;have c:=QExec.underlying (h:=h) e B d;unfold Instr.checkKey;rw[Sem.run_bind,c];rfl
theorem Jo(e:P.underlying kt=Td (.int .i64))(k:Int)(b:List MapEntry)(r:Option (Nat×Value))(h:za)(c:Ps (.int .i64) (.int .i64 k) b 0=Td r):
  QExec P (Instr.findKey kt (.int .i64 k) b) h r:=by
 intro B d;have f:=QExec.underlying (h:=h) e B d;unfold Instr.findKey;rw[Sem.run_bind,f];simp only[Result.andThen_ok,c];rfl
theorem Kr{l:List (Int×Value)}{k:Int}{v:Value}(g:eO l k=Te):ff l k v=l++[(k,v)]:=by
 induction l with
 |nil=>rfl
 |cons p l c=>simp only[eO]at g;split at g;cases g;rename_i b;simp[ff,b,c g]
theorem pX{t kt et:TypeId}(T:MapTI P t kt et){h:za}{m:Nat}{l:List (Int×Value)}(H:MapW h m (eY l))(k:Int)(v:Value){K:za->Prop}
  (L:∀h':za,MapW h' m (eY (ff l k v))->h'.size=h.size->(∀i,i≠m->h'[i]?=h[i]?)->K h'):XRunU P (O8 t (.map (Td m)) (.int .i64 k) v) h K:=by
 have q:=H.lt;obtain⟨f,c,I,C,A,F⟩:=H;intro B d;have E:=QExec.underlying (h:=h) T.map B d;have G:=Zo (P:=P) I B d;have J:=u0 T.key Tc k h B d;have b:∀o:Obj,(setObj m o).run P (mk B d h)=.ok () (mk B d (h.setIfInBounds m o)):=by intro o;have:(mk B d h).heap[m]?=Td (.map f c):=I;simp[setObj,Sem.run,this];rfl
 unfold O8;rcases qD k f.toList l 0 C with⟨g1,z⟩|⟨j,v0,e,g1,z,V,g4,N,Y⟩;refine⟨d,h.setIfInBounds m (.map (f.push { key:=.int .i64 k,val:=v,born:=c }) (c+1)),?_,L _ ⟨f.push { key:=.int .i64 k,val:=v,born:=c },c+1,by simp[q],?_,?_,?_⟩ (by simp) (λi hi=>by rw[NW (Ne.symm hi)])⟩;rw[Sem.run_bind,E];simp only[Result.andThen_ok,Sem.run_bind,G,J];rw[Jo T.key k f.toList Te h z B d];simp only[Result.andThen_ok];exact b _;rw[Kr g1];unfold eY at C ⊢;simp[C];intro e w;simp at w;rcases w with w|rfl;have:=A e (by simpa using w);omega;simp;simp only[Array.toList_push,Oq,N2,QV];rw[QC];refine⟨F,by simp,λx Q y U e=>?_⟩;simp at U;obtain⟨u,p,rfl⟩:=N9.1 Q;have:=A u p;omega;have M:j<f.size:=by have:=(Ou.1 z).1;simpa using this
 have n:((f.modify j λe=>{ e with key:=.int .i64 k,val:=v }).toList.map (·.born))=f.toList.map (·.born):=by apply OG;intro i;simp only[Array.toList_modify,OM,List.getElem?_modify];by_cases s:j=i;subst s;cases f.toList[j]? <;> simp;cases f.toList[i]? <;> simp[s]
 refine⟨d,_,?_,L (h.setIfInBounds m (.map (f.modify j λe=>{ e with key:=.int .i64 k,val:=v }) c)) ⟨f.modify j λe=>{ e with key:=.int .i64 k,val:=v },c,by simp[q],?_,?_,?_⟩ (by simp) (λi hi=>by rw[NW (Ne.symm hi)])⟩;rw[Sem.run_bind,E];simp only[Result.andThen_ok,Sem.run_bind,G,J];rw[Jo T.key k f.toList _ h N B d];simp only[Result.andThen_ok,NZ];have r:((f[j]?).map (·.key)).getD (.int .i64 k)=.int .i64 k:=by
  have:f[j]?=Td e:=by simpa using z
  rw[this];exact V
 rw[r];have S:PV (.int .i64 k) (.int .i64 k)=pure (.int .i64 k):=by unfold PV;rw[zz (by show((IntKind.i64==IntKind.i64)&&(k==k))=Ta;simp)]
 rw[S];exact b _;have:=Y v;unfold eY;simpa using this;intro u p;have:u.born∈((f.modify j λe=>{ e with key:=.int .i64 k,val:=v }).toList.map (·.born)):=N9.2 ⟨u,p,rfl⟩;rw[n]at this;obtain⟨Z,D,O⟩:=N9.1 this;rw[<-O];exact A Z D;rw[n];exact F
end
end Go.X
end
section
namespace Go.X
open Go Go.Lib
section
def Q1(L:List Int):List Nat:=(OB L.length).filter λi=>(OB L.length).all λj=>decide (j<=i)||decide (cR L j≠cR L i)
theorem rl{L:List Int}{i:Nat}:i∈Q1 L↔i<L.length/\∀j,i<j->j<L.length->cR L j≠cR L i:=by unfold Q1;rw[Pm,Og,N3];refine and_congr_right λ_=>⟨λh j f c=>?_,λh j e=>?_⟩;have:=h j (Og.2 c);simp only[Pi,zC]at this;rcases this with h|h;omega;exact h;simp only[Pi,zC];by_cases b:j<=i;exact .inl b;exact .inr (h j (by omega) (Og.1 e))
theorem Bd(L:List Int):(Q1 L).Pairwise (· < ·):=by unfold Q1;exact List.Pairwise.sublist List.filter_sublist PR
def gt(L:List Int)(m:Nat):List Nat->List Nat
 |[]=>[m]
 |p::P=>if cR L p=cR L m then m::P else p::gt L m P
def fx(L:List Int):Nat->List Nat
 |0=>[]
 |m+1=>gt L m (fx L m)
def im(L:List Int)(i:Nat):Int×Value:=(cR L i,.int .i64 (i:Int))
theorem ug(L:List Int)(m:Nat):∀P:List Nat,ff (P.map (im L)) (cR L m) (.int .i64 (m:Int))=(gt L m P).map (im L)
 |[]=>rfl
 |p::P=>by rw[N2,ff,gt];by_cases h:cR L p=cR L m;rw[zz h,zz (show(im L p).1=cR L m from h),N2];rfl;rw[zv h,zv (show¬(im L p).1=cR L m from h),N2,ug L m P]
theorem qT{L:List Int}{m:Nat}:∀{P:List Nat},(P.map (cR L)).Nodup->∀i,i∈gt L m P↔i=m\/(i∈P/\cR L i≠cR L m)
 |[],_,i=>by simp[gt]
 |p::P,hn,i=>by rw[N2,OP]at hn;rw[gt];by_cases h:cR L p=cR L m;rw[zz h,NI,NI];refine or_congr_right ⟨λhi=>⟨.inr hi,λe=>hn.1 ?_⟩,λhi=>?_⟩;rw[h,<-e];exact List.mem_map_of_mem hi;rcases hi.1 with rfl|b;exact absurd h hi.2;exact b;rw[zv h,NI,NI,qT hn.2 i];constructor;rintro(rfl|rfl|b);exact .inr ⟨.inl rfl,h⟩;exact .inl rfl;exact .inr ⟨.inr b.1,b.2⟩;rintro(rfl|⟨rfl|b,c⟩);exact .inr (.inl rfl);exact .inl rfl;exact .inr (.inr ⟨b,c⟩)
theorem Ay{L:List Int}{m:Nat}:∀{P:List Nat},(P.map (cR L)).Nodup->((gt L m P).map (cR L)).Nodup
 |[],_=>by simp[gt]
 |p::P,hn=>by have i:=hn;rw[N2,OP]at hn;rw[gt];by_cases h:cR L p=cR L m;rw[zz h,N2,OP,<-h];exact hn;rw[zv h,N2,OP];refine⟨λc=>?_,Ay hn.2⟩;obtain⟨q,b,e⟩:=N9.1 c;rcases(qT hn.2 q).1 b with rfl|⟨f,_⟩;exact h e.symm;exact hn.1 (e ▸ List.mem_map_of_mem f)
theorem rT(L:List Int):∀m,((fx L m).map (cR L)).Nodup/\∀i,i∈fx L m↔i<m/\∀j,i<j->j<m->cR L j≠cR L i
 |0=>⟨Rf,λi=>by simp[fx]⟩
 |m+1=>by
  obtain⟨k,n⟩:=rT L m;refine⟨Ay k,λi=>?_⟩;rw[fx,qT k,n];constructor;rintro(rfl|⟨⟨a,b⟩,c⟩);exact⟨by omega,λj _ _=>by omega⟩;refine⟨by omega,λj h l=>?_⟩;rcases Ob j m with f|f;exact b j h f;rw[show j=m from by omega];exact λe=>c e.symm
  rintro⟨a,b⟩;rcases Ob i m with f|f;exact .inr ⟨⟨f,λj h l=>b j h (by omega)⟩,λe=>b m f (by omega) e.symm⟩;exact .inl (by omega)
theorem uO{α β:Type}{f:α->β}{l:List α}(h:(l.map f).Nodup):l.Nodup:=by
 induction l with
 |nil=>exact Rf
 |cons x l c=>rw[N2,OP]at h;exact OP.2 ⟨λb=>h.1 (List.mem_map_of_mem b),c h.2⟩
theorem LU(L:List Int):(fx L L.length).Perm (Q1 L):=by obtain⟨c,b⟩:=rT L L.length;refine(List.perm_ext_iff_of_nodup (uO c) ((Bd L).imp λh=>Nat.ne_of_lt h)).2 λi=>?_;rw[b,rl]
end
section
def wG(X:List (Bt×Int)):List Bt×List Int:=(X.map (·.1),X.map (·.2))
end
section
def d5(b:List Bt)(i:Nat):Bt:=b.getD i ⟨#[]⟩
end
section
def aR(t:List Bt×List Int)(i:Nat):Nat:=(cR t.2 i).toNat
def bR(s t:List Bt×List Int)(i j:Nat):Nat:=if d5 s.1 i=d5 t.1 j then 0 else 1
theorem Le(s t u:List Bt×List Int)(i j k:Nat):bR s u i k<=bR s t i j+bR t u j k:=by unfold bR;by_cases c:d5 s.1 i=d5 t.1 j;by_cases b:d5 t.1 j=d5 u.1 k;rw[zz (c.trans b)];exact NV _;rw[zv b];split <;> omega;rw[zv c];split <;> omega
theorem fP{t:List Bt×List Int}(h:eA t.2 t.2.length=Ta):Rt (aR t) t.2.length:=λi hi=>by obtain⟨a,b,c⟩:=xn.1 (Jn.1 h i hi);refine⟨by unfold aR;omega,λk e f=>?_⟩;have:=c k e (by unfold aR at f;omega);unfold aR;omega
theorem Ah{t:List Bt×List Int}(h:eA t.2 t.2.length=Ta)(k:Nat):k∈Q1 t.2↔ez (aR t) t.2.length k:=by have pos:∀i,i<t.2.length->0<=cR t.2 i:=λi hi=>(xn.1 (Jn.1 h i hi)).1;rw[rl];constructor;rintro⟨c,f⟩;refine⟨c,λj g1 b e=>f j g1 b ?_⟩;have:=pos j b;have:=pos k c;unfold aR at e;omega;rintro⟨c,f⟩;exact⟨c,λj g1 b e=>f j g1 b (by unfold aR;rw[e])⟩
theorem vj(L:List Int):(Q1 L).Pairwise (· < ·):=by unfold Q1;exact PR.filter _
def gC(s t:List Bt×List Int):Nat->Nat->Nat:=i3 (aR s) (aR t) (bR s t) (Q1 t.2) (λ_ _=>0) (Q1 s.2)
theorem Al{s t:List Bt×List Int}(c:eA s.2 s.2.length=Ta)(b:eA t.2 t.2.length=Ta){i j:Nat}(hi:i<s.2.length)(e:j<t.2.length):gC s t i j=DN (aR s) (aR t) (bR s t) i j:= Eu (fP c) (fP b) (vj _) (Ah c) (vj _) (Ah b) hi e
theorem Yn{la lb:Nat->Nat}{tn:Nat->Nat->Nat}{P P':Nat->Nat->Nat}{n m:Nat}(c:Rt la n)(e:Rt lb m)(h:∀i j,i<n->j<m->P i j=P' i j):∀(N fa fb x y:Nat),x+y<=N->fa+x<=n->fb+y<=m->Frs la fa x->Frs lb fb y->dM la lb tn P fa fb x y=dM la lb tn P' fa fb x y
 |N,fa,fb,0,y,_,_,_,_,_=>by rw[mz,mz]
 |N,fa,fb,x+1,0,_,_,_,_,_=>by rw[Xa,Xa]
 |0,fa,fb,x+1,y+1,h,_,_,_,_=>by omega
 |N+1,fa,fb,x+1,y+1,hN,hn,hm,ha,hb=>by have a:=ha x (by omega);have b:=hb y (by omega);have g:∀k f,k<=x+1->f<=y+1->gN la lb tn P fa fb k f=gN la lb tn P' fa fb k f:=λk f o l=>Zi _ _ _ (ND _) (ha.less o) (hb.less l) λi j q p _=>h _ _ (by omega) (by omega);rw[l8 c e hn hm ha hb,l8 c e hn hm ha hb,g _ _ (ND _) (ND _),g x (y+1) (by omega) (by omega),g (x+1) y (by omega) (by omega),Yn c e h N fa fb x (y+1) (by omega) (by omega) hm (ha.less (by omega)) hb,Yn c e h N fa fb (x+1) y (by omega) hn (by omega) ha (hb.less (by omega)),Yn c e h N fa fb x y (by omega) (by omega) (by omega) (ha.less (by omega)) (hb.less (by omega)),Yn c e h N fa fb (la (fa+x)-fa) (lb (fb+y)-fb) (by omega) (by omega) (by omega) (ha.less (by omega)) (hb.less (by omega))];by_cases w:la (fa+x)=fa/\lb (fb+y)=fb;simp only[zz w];rw[Yn c e h N (la (fa+x)) (lb (fb+y)) (fa+x+1-la (fa+x)) (fb+y+1-lb (fb+y)) (by omega) (by omega) (by omega) (c.frs (i:=fa+x) (by omega)) (e.frs (i:=fb+y) (by omega))]
theorem wn{la:Nat->Nat}{n:Nat}(h:Rt la n):Frs la 0 n:=λk b=>⟨NV _,by rw[NZ];exact(h k b).1⟩
def lN(s t:List Bt×List Int):List (Nat×Nat):=dM (aR s) (aR t) (bR s t) (gC s t) 0 0 s.2.length t.2.length
def jD(s t:List Bt×List Int):List (Nat×Nat):=(lN s t).reverse
theorem Cw{s t:List Bt×List Int}(f:eA s.2 s.2.length=Ta)(e:eA t.2 t.2.length=Ta): ii 0 s.2.length 0 t.2.length (jD s t)/\ej (aR s) (aR t) (jD s t)/\gN (aR s) (aR t) (bR s t) (gC s t) 0 0 s.2.length t.2.length+2*(jD s t).length=s.2.length+t.2.length+dv (bR s t) (jD s t) /\
  ∀M,ej (aR s) (aR t) M->ii 0 s.2.length 0 t.2.length M->gN (aR s) (aR t) (bR s t) (gC s t) 0 0 s.2.length t.2.length+2*M.length<=s.2.length+t.2.length+dv (bR s t) M:=by
 have c:=fP f;have b:=fP e;have u:lN s t=dM (aR s) (aR t) (bR s t) (DN (aR s) (aR t) (bR s t)) 0 0 s.2.length t.2.length:=Yn c b (λi j hi h=>Al f e hi h) _ _ _ _ _ (ND _) (by omega) (by omega) (wn c) (wn b);have r:gN (aR s) (aR t) (bR s t) (gC s t) 0 0 s.2.length t.2.length=gN (aR s) (aR t) (bR s t) (DN (aR s) (aR t) (bR s t)) 0 0 s.2.length t.2.length:=Zi _ _ _ (ND _) (wn c) (wn b) λi j hi h _=>Al f e (by omega) (by omega);obtain⟨g1,q,o⟩:=kB (tn:=bR s t) c b _ 0 0 s.2.length t.2.length (ND _) (by omega) (by omega) (wn c) (wn b);unfold jD;rw[u,r];refine⟨λp k=>g1 p (List.mem_reverse.1 k),q,?_,λM n m=>lower c b _ _ _ 0 0 M (ND _) (by omega) (by omega) (wn c) (wn b) n m⟩;have l:dv (bR s t) (dM (aR s) (aR t) (bR s t) (DN (aR s) (aR t) (bR s t)) 0 0 s.2.length t.2.length).reverse=dv (bR s t) (dM (aR s) (aR t) (bR s t) (DN (aR s) (aR t) (bR s t)) 0 0 s.2.length t.2.length):=by unfold dv;rw[List.map_reverse];exact List.sum_reverse _
 rw[List.length_reverse,l];exact o
end
end Go.X
end
