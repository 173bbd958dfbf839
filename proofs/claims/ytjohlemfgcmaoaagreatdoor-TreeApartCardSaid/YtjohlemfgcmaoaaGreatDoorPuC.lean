/- A part of the proof: nothing is stated here for its own sake. -/
import Derived.Test.YtjohlemfgcmaoaaGreatDoorPuB
import Derived.ProofKit
import Derived.OpenShut
import Derived.ShutString
import Derived.Lib.Replace
import Derived.Shelf.Strings.Trim
import Derived.Shelf.Small.Bits
import Derived.Shelf.Small.Wraps
import Derived.Shelf.Strings.BuilderRune
import Derived.Shelf.Utf8.AppendRune
import Derived.Shelf.Utf8.AppendRunePlain
import Derived.Shelf.Strconv.Itoa3
import Derived.Shelf.Strconv.AtoiErr
import Derived.Shelf.Strconv.ErrVarAll
import Derived.Shelf.Strconv.ErrVarParseInt
import Derived.Shelf.Pu.ParseUintPublic10
import Derived.Shelf.Sort.Plain
import Derived.Shelf.Unicode.Decode
import Derived.Shelf.Strings.IndexAnyAll
import Derived.Shelf.Strings.Repeat
import Derived.Shelf.Unicode.DecodeLast
import Derived.Shelf.Strings.BuilderCap
import Derived.Shelf.Slices.Turned
import Derived.Shelf.Slices.Clone
import Derived.Shelf.Slices.SearchI
import Derived.Shelf.Slices.In.SortNone
import Derived.Shelf.SlicesE.Clone
import Derived.Shelf.Unicode.ValidAny
import Derived.Test.YtjohlemfgcmaoaaGreatDoorTie
import Derived.Test.YtjohlemfgcmaoaaGreatDoorCards
import Derived.PinnedBridge
import Derived.Lay
import Derived.HandedShaped
open _root_.Go.Addr renaming add->Ad
open _root_.Array renaming getElem?_append_left->Cv,getElem?_eq_getElem->Bo,getElem?_eq_some_iff->An,getElem?_setIfInBounds_ne->AB,getElem?_setIfInBounds_self_of_lt->Ci,getElem?_toList->Ca,replicate->BJ,size_push->Aj
open _root_.BitVec renaming ofInt->BO
open _root_.Bool renaming and_eq_false_iff->Cp,and_eq_true->Ao,and_true->C6,eq_iff_iff->AM,false_and->DJ,false_eq_true->Bc,false_or->Dw,not_eq_true'->Dh,or_eq_false_iff->Do,or_eq_true->BK,true_and->Cc
open _root_.Go.Builtin renaming append_->Au
open _root_.Classical renaming byContradiction->CB
open _root_.Go.Extern.AbiNoEscape renaming same->DZ
open _root_.Go.Instr renaming lookup->C9,mapUpdate->Ce,next->CW,storeAt->Af
open _root_.Int renaming toNat_natCast->Ag
open _root_.Go.IntKind renaming bits->Bm,signed->Dm,wrap->Aa
open _root_.List renaming all_append->Dd,all_cons->De,all_eq_true->Av,append_nil->AR,cons_append->AD,drop_drop->BM,drop_eq_getElem_cons->Bw,drop_eq_nil_of_le->Br,drop_zero->BQ,eq_nil_of_length_eq_zero->AO,exists_cons_of_ne_nil->Bq,ext_getElem?->Bu,getD_eq_getElem?_getD->A6,getElem?_drop->A9,getElem?_eq_getElem->Ak,getElem?_eq_none->BH,getElem?_eq_some_iff->A1,getElem?_map->Bf,getElem?_take->AK,getElem_mem->AE,length->Cd,length_append->Ah,length_cons->Aq,length_drop->AI,length_eq_zero_iff->Bl,length_map->Ap,length_pos_iff->Bv,length_replicate->Co,length_take->AN,map_append->Bh,mem_append->Aw,mem_append_left->Ar,mem_append_right->AC,mem_cons->Ai,mem_flatMap->Cg,mem_map->AJ,mem_of_getElem?->Bz,mem_range->AU,mem_singleton->AY,nil_append->A8,nodup_append->Cw,range->Bj,replicate->BC,take_append_drop->B8,take_length->A5,take_of_length_le->BE,take_succ_cons->CL,take_succ_eq_append_getElem->Ay,take_zero->CZ
open _root_.List.cons renaming injEq->BN
open _root_.Nat renaming add_mul->BZ,add_zero->CO,le_mul_of_pos_right->C7,le_of_lt->Da,le_refl->Ab,le_trans->BX,lt_of_lt_of_le->CV,lt_or_ge->AX,min_eq_left->Cj,mul_comm->C4,mul_le_mul_right->AQ,mul_one->B0,pow_succ->DI,strongRecOn->Dc,zero_add->AL,zero_mul->DD
open _root_.Option renaming bind_some->CC,map_eq_some_iff->Ck,map_some->DU
open _root_.Option.some renaming inj->Az,injEq->Ac
open _root_.Prod.mk renaming injEq->Bi
open _root_.Go.Proofs.Tryz renaming prog->AF
open _root_.UInt8 renaming ofNat->Bb
open _root_.Go.Utf8 renaming decode->DW,encode->DR
open _root_.Go.Value renaming int->Bn,slice->C8,string->A3
open _root_.Go.Value.slice renaming injEq->AP
set_option linter.unusedVariables false
set_option maxRecDepth 100000
namespace Go.X
end Go.X
namespace Go.Proofs
end Go.Proofs
open Go Go.X Go.Proofs
open _root_.Bool renaming true->Ta,false->Tc
open _root_.Option renaming some->Td,none->Te
section
namespace Go.X
open Go Go.RowKit
section
variable {P:Program} {gl M:Fr} {f:FuncId} {h h':zb} {vs cs:List Value} {K:Value -> zb -> Prop} {t:Ty} {u v:Value} {i:Int} {s:Sl} {k:Nat}
def PX(P:Program)(f:FuncId)(vs:Array Value)(h:zb)(M:Fr)(rt:List Ty)(R:Els rt->Prop):Prop:=
 XC P f vs h λv h'=>Keep h.size h h'/\∃M' r,Fr.le M M'/\(∀b,b<h.size->M' b=M b)/\AgM M' h'/\Y3 M' rt r v/\R r
theorem PC.px{args:List Arg}{rt:List Ty}{R:Els rt->Prop}(H:PC P gl f args rt R)(b:Fr.le gl M)(ag:AgM M h)(c:zad M args vs):PX P f vs.toArray h M rt R:=H h M vs b ag c
structure Later (h:zb) (M:Fr) (h':zb) (M':Fr):Prop where
 keep:Keep h.size h h'
 le:Fr.le M M'
 old:∀b,b<h.size->M' b=M b
 ag:AgM M' h'
theorem Later.refl(ag:AgM M h):Later h M h M:=⟨Keep.refl _ _,Fr.le.refl _,λ_ _=>rfl,ag⟩
theorem Later.trans{h h' h'':zb}{M M' M'':Fr}(a:Later h M h' M')(b:Later h' M' h'' M''):Later h M h'' M'':= ⟨a.keep.trans b.keep a.keep.size,a.le.trans b.le,λx c=>(b.old x (by have:=a.keep.size;omega)).trans (a.old x c),b.ag⟩
theorem Later.same(ag:AgM M h)(k:Keep h.size h h'):Later h M h' M:=⟨k,Fr.le.refl _,λ_ _=>rfl,ag.keep k⟩
theorem Later.push(ag:AgM M h)(o:Obj):Later h M (h.push o) M:=Later.same ag (Keep.push _ _ (Ab _))
theorem PX.go{vs:Array Value}{rt:List Ty}{R:Els rt->Prop}(H:PX P f vs h M rt R)(e:∀v h' M' r,Later h M h' M'->Y3 M' rt r v->R r->K v h'):XC P f vs h K:= XC.mono H λv h' ⟨k,M',r,b,i,l,m,c⟩=>e v h' M' r ⟨k,b,i,l⟩ m c
theorem PX.of{vs:Array Value}{rt:List Ty}{R:Els rt->Prop}(H:XC P f vs h λv h'=>∃M' r,Later h M h' M'/\Y3 M' rt r v/\R r):PX P f vs h M rt R:= XC.mono H λv h' ⟨M',r,l,c,b⟩=>⟨l.keep,M',r,l.le,l.old,l.ag,c,b⟩
theorem PC.go{args:List Arg}{rt:List Ty}{R:Els rt->Prop}(H:PC P gl f args rt R)(c:Fr.le gl M)(ag:AgM M h)(e:zad M args vs) (b:∀v h' M' r,Later h M h' M'->Y3 M' rt r v->R r->K v h'):XC P f vs.toArray h K:=(H.px c ag e).go b
theorem zfs{x:El t}(b:zhf t=Tc):RdV M t x u↔Rd M t x [u]:=by unfold RdV;rw[b];simp
theorem Xl{x:El t}:Y3 M [t] x v↔RdV M t x v:=by constructor;rintro⟨us,⟨u,rfl,h⟩,rfl⟩;exact h;intro h;exact⟨[v],⟨v,rfl,h⟩,rfl⟩
theorem zib{b:Bool}(h:Y3 M [.bool] b v):v=.bool b:=by have:=Xl.1 h;rw[zfs rfl]at this;simpa[Rd]using this
theorem qlt{k:IntKind}(h:Y3 M [.int k] i v):v=.int k i:=by have:=Xl.1 h;rw[zfs rfl]at this;simpa[Rd]using this
theorem qil{s:Bt}(h:Y3 M [.str] s v):v=.string s:=by have:=Xl.1 h;rw[zfs rfl]at this;simpa[Rd]using this
theorem qq:zad M [] []:=trivial
theorem qb{a:Arg}{l:List Arg}{us:List Value}(h:RdV M a.t a.x u)(b:zad M l us):zad M (a::l) (u::us):=⟨h,b⟩
theorem rdStr(s:Bt):RdV M .str s (.string s):=by rw[zfs rfl];rfl
theorem Jn(k:IntKind)(i:Int):RdV M (.int k) i (.int k i):=by rw[zfs rfl];rfl
theorem rdBool(b:Bool):RdV M .bool b (.bool b):=by rw[zfs rfl];rfl
theorem Wv{s:Bt}(h:RdV M .str s u):u=.string s:=by rw[zfs rfl]at h;simpa[Rd]using h
theorem j8{k:IntKind}(h:RdV M (.int k) i u):u=.int k i:=by rw[zfs rfl]at h;simpa[Rd]using h
theorem yz{v:Tr}(h:RdV M .tree v u):∃sk si:Sl,u=.agg #[.int .i64 v.kind,.string v.text,slV sk,slV si]/\Rd M (.row .str) v.keys [slV sk]/\Rd M (.row .tree) v.items [slV si]:=by unfold RdV at h;simp only[zhf,if_true]at h;obtain⟨cs,rfl,m⟩:=h;obtain⟨q,p,rfl,h1,i⟩:=TrRd.keys m;have b:=h1;have c:=i;obtain⟨w1,e,n,c1,l,_⟩:=b;obtain⟨o,f,a2,c2,k,_⟩:=c;simp only[BN,and_true]at e f;subst e;subst f;subst l;subst k;exact⟨⟨n,v.keys.length,c1⟩,⟨a2,v.items.length,c2⟩,rfl,h1,i⟩
theorem qf{v:Tr}{sk si:Sl}(h1:Rd M (.row .str) v.keys [slV sk])(b:Rd M (.row .tree) v.items [slV si]):RdV M .tree v (.agg #[.int .i64 v.kind,.string v.text,slV sk,slV si]):=by unfold RdV;simp only[zhf,if_true];exact⟨[.int .i64 v.kind,.string v.text,slV sk,slV si],rfl,by cases v;exact TrRd.of h1 b⟩
theorem z4m{xs:List (El t)}(h:RdV M (.row t) xs u):∃s:Sl,u=slV s/\Rd M (.row t) xs [slV s]:=by rw[zfs rfl]at h;have h':=h;obtain⟨w,e,a,c,q,_⟩:=h';simp only[BN,and_true]at e;subst e;subst q;exact⟨⟨a,xs.length,c⟩,rfl,h⟩
theorem rowLen{xs:List (El t)}(h:Rd M (.row t) xs [slV s]):s.len=xs.length/\xs.length<=140737488355328/\xs.length<=s.cap:=by obtain⟨w,e,a,c,q,b,_⟩:=h;simp only[BN,and_true]at e;subst e;simp only[slV,AP]at q;obtain⟨_,i,f⟩:=q;exact⟨i,b.1,by rw[f];exact b.2⟩
theorem rowAt{xs:List (El t)}(h:Rd M (.row t) xs [slV s])(f:k<xs.length):∃b o cs,s.a=Td ⟨b,o,Te⟩/\M b=Td cs/\Rd M t xs[k] (cut cs (o+k*sz t) (sz t)):=by obtain⟨w,e,a,c,q,p,i⟩:=h;simp only[BN,and_true]at e;subst e;simp only[slV,AP]at q;obtain⟨h1,u,r⟩:=q;rcases i with rfl|⟨b,o,cs,m,n,l⟩;simp at f;exact⟨b,o,cs,by rw[h1,m],n,l k f⟩
theorem z4n{M:Fr}{h:zb}(ag:AgM M h){b:Nat}{cs:Array Value}(k:M b=Td cs):∀{vs:List Value} {o i:Nat},cut cs (o+i) vs.length=vs->zd h ⟨b,o,Te⟩ i vs
 |[],_,_,_=>trivial
 |v::vs,o,i,e=>by
  unfold cut at e;have c:o+i<cs.toList.length:=by rcases AX (o+i) cs.toList.length with f|f;exact f;rw[Br f]at e;simp at e
  rw[Bw c,Aq,CL]at e;injection e with e1 e2;refine⟨?_,z4n ag k (i:=i+1) e2⟩;rw[zi];refine ag.cell k ?_;rw[Bo (by simpa using c),<-e1];simp
theorem zjq(ag:AgM M h){b:Nat}{cs:Array Value}(c:M b=Td cs){o:Nat}(e:cut cs o 1=[v]):zc h ⟨b,o,Te⟩=Td v:=by have:=z4n (vs:=[v]) (o:=o) (i:=0) ag c (by simpa using e);exact this.1
theorem qd(b o n:Nat):(⟨b,o,Te⟩:Addr).add n=⟨b,o+n,Te⟩:=zi b o n
theorem z0q(ag:AgM M h){xs:List Bt}(H:Rd M (.row .str) xs [slV s])(f:k<xs.length)(hi:i=(k:Int)){L:Nat}(n:L=s.len){Q:Bt->Prop}(c:Q xs[k]):
  ∃a:Addr,(s.a=Td a/\0<=i/\i<(L:Int))/\∃x:Bt,zc h (a.add (i.toNat*1))=Td (.string x)/\Q x:=by
 obtain⟨b,o,cs,l,m,e⟩:=rowAt H f;have p:=(rowLen H).1;refine⟨_,⟨l,by omega,by omega⟩,xs[k],?_,c⟩;rw[qd,hi,Ag];exact zjq ag m e
theorem zd9(ag:AgM M h){xs:List Tr}(H:Rd M (.row .tree) xs [slV s])(e:k<xs.length):∃(a:Addr) (sk si:Sl),s.a=Td a/\zd h (a.add (k*4)) 0 [.int .i64 xs[k].kind,.string xs[k].text,slV sk,slV si]/\Rd M (.row .str) xs[k].keys [slV sk]/\Rd M (.row .tree) xs[k].items [slV si]:=by
 obtain⟨b,o,cs,l,m,c⟩:=rowAt H e;have f:RdV M .tree xs[k] (.agg (cut cs (o+k*sz .tree) (sz .tree)).toArray):=by unfold RdV;simp only[zhf,if_true];exact⟨_,rfl,c⟩
 obtain⟨sk,si,q,h1,n⟩:=yz f;refine⟨_,sk,si,l,?_,h1,n⟩;rw[qd];refine z4n ag m (i:=0) ?_;have:(cut cs (o+k*sz .tree) (sz .tree))=[.int .i64 xs[k].kind,.string xs[k].text,slV sk,slV si]:=by injection q with q;exact congrArg Array.toList q
 exact this
def Mx(M:Fr)(b:Nat)(cs:Array Value):Fr:=λi=>if i=b then Td cs else M i
theorem Later.frz(ag:AgM M h)(cs:Array Value)(T:TypeId):Later h M (h.push (.cells cs T)) (Mx M h.size cs) where
 keep:=Keep.push _ _ (Ab _)
 le:=λb c e=>by have:=ag.lt e;unfold Mx;rw[if_neg (by omega)];exact e
 old:=λb hb=>by unfold Mx;rw[if_neg (by omega)]
 ag:=λb c e=>by unfold Mx at e;split at e;rename_i hb;subst hb;cases e;exact⟨T,(0,0),yd _ _⟩;obtain⟨T',m,e'⟩:=ag b c e;exact⟨T',m,by rw[(Keep.push h _ (Ab _)).get b (ag.lt e)];exact e'⟩
theorem z4o(M:Fr)(b:Nat)(cs:Array Value):Mx M b cs b=Td cs:=by unfold Mx;rw[if_pos rfl]
theorem z4p{T:TypeId}(k:Keep (h.size+1) (h.push (.cells cs.toArray T)) h'):zd h' ⟨h.size,0,Te⟩ 0 cs:= ((Blk.new h cs.toArray T).keep (k.get _ (by omega))).ld
theorem qfi{T:TypeId}(k:Keep (h.size+1) (h.push (.cells cs.toArray T)) h'){i:Nat}(b:cs[i]?=Td v):zc h' ((⟨h.size,0,Te⟩:Addr).add i)=Td v:=by have:=((Blk.new h cs.toArray T).keep (k.get _ (by omega)));exact this.cellAdd (o:=0) (by simpa using b)
end
end Go.X
end
section
namespace Go.X
open Go Go.ChangeShapes Go.WideShapes Go.RowKit
set_option linter.unusedVariables false
section
variable {a:Addr} {cs:List Value} {fuel:Nat} {t e:TypeId} {P:Program}
def Fz(W:World):Fr:=λb=>match W.heap[b]? with|some (.cells cs _ _)=>some cs|_=>none
theorem Fz.ag(W:World):AgM (Fz W) W.heap:=by intro b c e;unfold Fz at e;split at e;rename_i cs T m f;cases e;exact⟨T,m,f⟩;cases e
theorem Fz.cell{W:World}{v:Value}(h:W.cell? a=some v):∃b o c,a=⟨b,o,none⟩/\Fz W b=some c/\c[o]?=some v:=by
 obtain⟨b,o,sp⟩:=a;unfold World.cell? at h;split at h;rename_i c T m e;cases sp with
 |some x=>simp at h
 |none=>refine⟨b,o,c,rfl,?_,by simpa using h⟩;unfold Fz;change W.heap[b]?=_ at e;rw[e]
 cases h
theorem Fz.cells{W:World}{n:Nat}(h:W.cells? 0 a n=some cs)(s:0<n):∃b o c,a=⟨b,o,none⟩/\Fz W b=some c/\cut c o n=cs:=by
 obtain⟨_,w,p⟩:=World.cells?_some h;have h0:=p 0 s;rw[Ak (by omega)]at h0;obtain⟨b,o,c,e,m,_⟩:=Fz.cell h0;obtain⟨l,r,sp⟩:=a;rw[show Ad ⟨l,r,sp⟩ 0=⟨l,r,sp⟩from rfl]at e;cases e;refine⟨b,o,c,rfl,m,?_⟩;have f:∀i,i<n->c[o+i]?=cs[i]?:=λi hi=>by have h1:=p i hi;rw[Ak (by omega)]at h1 ⊢;obtain⟨b2,u,c2,q,k,t⟩:=Fz.cell h1;rw[zi]at q;cases q;rw[m]at k;cases k;exact t
 unfold cut;apply Bu;intro i;by_cases hi:i<n;rw[AK,if_pos hi,A9,<-f i hi];simp;rw[AK,if_neg hi,BH (by omega)]
theorem qfj{α:Type}{Q:Nat->α->Prop}(n:Nat)(h:∀i,i<n->∃z,Q i z):∃xs:List α,xs.length=n/\∀i (hi:i<xs.length),Q i xs[i]:=by refine⟨List.ofFn λi:Fin n=>Classical.choose (h i i.2),by simp,λi hi=>?_⟩;rw[List.getElem_ofFn];exact Classical.choose_spec (h i (by simpa using hi))
section
variable {H : Type} {enc : TypeId × Value -> H} {P : Program} {W : World} {sp : Nat -> Bool} {held : Bool}
def zjr(P:Program)(t:TypeId)(d:DataW H):Prop:=∀n∈d.weights P t,n<=reachBytes
theorem zjs{e:TypeId}{y:DataW H}:∀{l:List (DataW H)},y∈l->∀n∈y.weights P e,n∈DataW.weightsAll P e l
 |x::l,b,n,hn=>by unfold DataW.weightsAll;rcases Ai.1 b with rfl|b;exact Ar _ hn;exact AC _ (zjs b n hn)
theorem z4q{T : Ty}{x : DataW H × List MemPlace}(ht : P.underlying t = some (.slice e))(hz : P.cellsOf e = sz T)(hp : 0 < sz T)(hby : 0 < P.bytesOf e) (hel : ∀ n, n < fuel -> ∀ cs y, DataW.trod enc P W 0 sp held n e cs = some y -> zjr P e y.1 -> ∃ z : El T, Rd (Fz W) T z cs)
    (h : DataW.trod enc P W 0 sp held fuel t cs = some x) (hw : zjr P t x.1) : ∃ xs : List (El T), Rd (Fz W) (.row T) xs cs := by
  rcases DataW.trod_slice ht h with ⟨rfl, _⟩ | ⟨a, len, cap, elems, rest, n, rfl, rfl, hx, _, hlc, hcap, hlen, hi, _, _⟩;exact ⟨[], _, rfl, none, 0, rfl, ⟨by simp, by simp⟩, .inl rfl⟩
  · have hwt : ∀ m, m = (elems.length + rest.length) * P.bytesOf e \/ m ∈ DataW.weightsAll P e (elems.map (·.1)) -> m <= reachBytes := λm hm => hw m (by rw [hx];unfold DataW.weights;rw [ht];simp only [Ai, Aw, Ap];rcases hm with hm | hm;exact .inl hm;exact .inr (.inl hm));have hmax : len <= 140737488355328 := by
      have h1 := hwt _ (.inl rfl);have h2 : elems.length + rest.length <= (elems.length + rest.length) * P.bytesOf e := C7 _ hby;have h3 : reachBytes <= 140737488355328 := by decide
      omega
    have key : ∀ i, i < len -> ∃ z : El T, ∃ b o c, a.add (i * sz T) = ⟨b, o, none⟩ /\ Fz W b = some c /\ Rd (Fz W) T z (cut c o (sz T)) := λi hil => by have h1 := hi i hil;rw [Ak (by omega), Option.bind_eq_some_iff] at h1;obtain ⟨cc, h2, h3⟩ := h1;rw [hz] at h2;obtain ⟨b, o, c, e1, e2, e3⟩ := Fz.cells h2 hp;obtain ⟨z, hz⟩ := hel n (by omega) _ _ h3 λm hm => hwt m (.inr (zjs (AJ.2 ⟨elems[i], AE (by omega), rfl⟩) m hm));exact ⟨z, b, o, c, e1, e2, by rw [e3]; exact hz⟩
    obtain ⟨xs, hxl, hxs⟩ := qfj len key;subst hxl;refine ⟨xs, _, rfl, some a, cap, rfl, ⟨by omega, hlc⟩, ?_⟩;by_cases h0 : xs.length = 0;exact .inl (AO h0);obtain ⟨b, o, c, e1, e2, _⟩ := hxs 0 (by omega);obtain ⟨ab, ao, asp⟩ := a;rw [DD, show Ad ⟨ab, ao, asp⟩ 0 = ⟨ab, ao, asp⟩ from rfl] at e1;cases e1;refine .inr ⟨b, o, c, rfl, e2, λi hil => ?_⟩;obtain ⟨b', o', c', e1', e2', e3'⟩ := hxs i hil;rw [zi] at e1';cases e1';rw [e2] at e2'; cases e2';simpa using e3'
theorem qde{x:DataW H×List MemPlace}(b:P.underlying t=some .string)(h:DataW.trod enc P W 0 sp held fuel t cs=some x):∃s:El .str,Rd (Fz W) .str s cs:=by obtain⟨s,rfl,_,_⟩:=DataW.trod_string b h;exact⟨s,rfl⟩
theorem qdf{k:IntKind}{x:DataW H×List MemPlace}(b:P.underlying t=some (.int k))(h:DataW.trod enc P W 0 sp held fuel t cs=some x):∃s:El (.int k),Rd (Fz W) (.int k) s cs:=by obtain⟨s,rfl,_,_⟩:=DataW.trod_int b h;exact⟨s,rfl⟩
theorem z4r{x:DataW H×List MemPlace}(i:P.underlying t=some (.slice e))(f:P.underlying e=some .string)(c:P.cellsOf e=1)(b:0<P.bytesOf e)
  (h:DataW.trod enc P W 0 sp held fuel t cs=some x) (k:zjr P t x.1):∃xs:List ByteArray,Rd (Fz W) (.row .str) xs cs:=
 z4q (T:=.str) i c (by decide) b (λn _ cs y l _=>qde f l) h k
theorem four{a b c d:Value}(h:cs.length=4)(h0:(cs.drop 0).take 1=[a])(h1:(cs.drop 1).take 1=[b])(f:(cs.drop 2).take 1=[c])(e:(cs.drop 3).take 1=[d]):cs=[a,b,c,d]:=by
 match cs,h with
 |[w,x,y,z],_=>simp at h0 h1 f e;subst h0;subst h1;subst f;subst e;rfl
theorem qfk{e ts tss tvs tk:TypeId}{o l i c:Field}(J:P.underlying e=some (.struct #[o,l,i,c]))(D:P.cellsOf e=4) (t0:o.type=tk/\o.offset=0/\l.type=ts/\l.offset=1/\i.type=tss/\i.offset=2/\c.type=tvs/\c.offset=3) (uk:P.underlying tk=some (.int .i64)) (us:P.underlying ts=some .string) (r:P.underlying tss=some (.slice ts)) (u:P.underlying tvs=some (.slice e)) (ck:P.cellsOf tk=1) (cs':P.cellsOf ts=1) (z:P.cellsOf tss=1) (A:P.cellsOf tvs=1) (bs:0<P.bytesOf ts) (bv:0<P.bytesOf e):
  ∀(fuel:Nat) (cs:List Value) (x:DataW H×List MemPlace),DataW.trod enc P W 0 sp held fuel e cs=some x->zjr P e x.1->∃t:Tr,Rd (Fz W) .tree t cs:=by
 intro fuel;induction fuel using Dc with
 |_ fuel Y=>intro cs x h hw;obtain⟨xs,n,rfl,hx,hl,q,b⟩:=DataW.trod_struct J h;have p:∀(j:Nat) (f:Field) (I:j<xs.length),(#[o,l,i,c]:Array Field)[j]?=some f->zjr P f.type (xs[j]).1:=λj f I hf m M=>hw m (by rw[hx];unfold DataW.weights;rw[J];exact DataW.weights_mem_each (j:=j) (t:=f.type) (d:=(xs[j]).1) (by rw[Bf,Ca,hf];rfl) (by rw[Bf,Ak I];rfl) m M);obtain⟨a0,o0,Q,o1,a2,S,F,o3⟩:=t0;have L:=b 0 o rfl;have B:=b 1 l rfl;have E:=b 2 i rfl;have G:=b 3 c rfl;have C:xs.length=4:=q;rw[a0,o0,ck,Ak (by omega)]at L;rw[Q,o1,cs',Ak (by omega)]at B;rw[a2,S,z,Ak (by omega)]at E;rw[F,o3,A,Ak (by omega)]at G;obtain⟨k,e0⟩:=qdf uk L;obtain⟨s,e1⟩:=qde us B;obtain⟨ks,Z⟩:=z4r r us cs' bs E (by have:=p 2 i (by omega) rfl;rw[a2]at this;exact this);obtain⟨is,O⟩:=z4q (T:=.tree) u D (by decide) bv (λm M cs y hy w=>Y m (by omega) cs y hy w) G (by have:=p 3 c (by omega) rfl;rw[F]at this;exact this);obtain⟨V,N,h2⟩:=Z;obtain⟨vi,U,h3⟩:=O;have:=four (hl.trans D) e0 e1 N U;subst this;exact⟨.mk k s ks is,TrRd.of ⟨V,rfl,h2⟩ ⟨vi,rfl,h3⟩⟩
end
theorem zjt{f:FuncId}{W:World}{args:List Arg}{vs:Array Value}(H:PC P (Fz W) f args [.bool] (λr=>r=true))(i:zad (Fz W) args vs.toList):
  Calls P f vs W λe w'=>e=.returned (.bool true)/\Below W.heap.size W w':=by
 have c:=H W.heap (Fz W) vs.toList (Fr.le.refl _) (Fz.ag W) i;rw[Array.toArray_toList]at c;refine(c W W.drawn).mono ?_;rintro e w' ⟨v,l,h',rfl,rfl,k,M',r,_,_,_,h,b⟩;have b:r=true:=b;subst b;rw[zib h];exact⟨rfl,rfl,rfl,rfl,k.size,k.get⟩
theorem zxu{M:Fr}{t:Tr}{cs:Array Value}(h:Rd M .tree t cs.toList):RdV M .tree t (.agg cs):=by unfold RdV;simp only[zhf,if_true];exact⟨cs.toList,by simp,h⟩
theorem Fz.var{W:World}{n:String}{g:Nat}{cs:Array Value}(b:P.globalNamed n=some g)(h:W.var? P n=some cs):Fz W g=some cs:=by unfold World.var? at h;rw[b]at h;exact h
end
end Go.X
end
section
namespace Go.Proofs
section
theorem Tryz.mixed:AF.follows .mixedOrders=true:=by kernel_rfl
noncomputable abbrev Tp:= AF
end
end Go.Proofs
end
section
namespace Go.X
section
theorem PF{gl:Fr}{args:List Arg}{f:FuncId}{fn:Func}{rt:List Ty}{R:Els rt->Prop}{F:Prop}(pl:PlanA)(rs:List ResultVar)(n:Nat)(k:AF.funcs[f]?=Td fn)(H:F)(c:Qy fn=Ta:=by kernel_rfl)(h:fn.results.toList=rs:=by kernel_rfl)(i:fn.ntmps=n:=by kernel_rfl)(b:Nat.ble args.length n=Ta:=by kernel_rfl)(e:F=WA Tp gl 26 n pl (codeOf fn) [] (qls Tp rs rt R) (zvm 0 args) []:=by kernel_rfl):PC Tp gl f args rt R:=z0o Tryz.mixed gl 26 pl args k c h i b H e
theorem zft(gl:Fr)(f:Tr)(e:Int)(R:Bool->Prop) (H:PC Tp gl 91 [Arg.mk .tree (Tr.mk f.kind f.text f.keys f.items),Arg.mk (.int .i64) e,Arg.mk (.int .i64) 0] [.int .i64] (λa:Int=>∃b:Bool->Prop,(decide (a>=0)=Ta->PC Tp gl 92 [Arg.mk .tree (Tr.mk f.kind f.text f.keys f.items)] [.bool] b)/\∀c:Bool,(decide (a>=0)=Ta->b c)->R (bif (decide (a>=0))then c else Tc))):
  PC Tp gl 32 [Arg.mk .tree f,Arg.mk (.int .i64) e] [.bool] R:=
 PF ⟨[],[],[],[]⟩ [.tmp 4] 15 Tryz.func32 H
theorem zfu(gl:Fr)(b:List Bt)(c:List Tr)(R:Tr->Prop) (H:R (Tr.mk 6 (⟨#[]⟩:Bt) b c)):
  PC Tp gl 99 [Arg.mk (.row .str) b,Arg.mk (.row .tree) c] [.tree] R:=
 PF ⟨[],[],[],[]⟩ [.cell 4 26] 8 Tryz.func99 H
theorem zfv(gl:Fr)(b:List Tr)(R:Tr->Prop) (H:R (Tr.mk 5 (⟨#[]⟩:Bt) [] b)):
  PC Tp gl 29 [Arg.mk (.row .tree) b] [.tree] R:=
 PF ⟨[],[],[],[]⟩ [.cell 2 26] 5 Tryz.func29 H
theorem zr9(gl:Fr)(n0:Int)(R:Tr->Prop) (H:PC Tp gl 110 [Arg.mk (.int .i64) n0] [.pair .bool (.pair .str (.int .i64))] (λa:Bool×Bt×Int=>PC Tp gl 26 [Arg.mk (.pair .bool (.pair .str (.int .i64))) (a.1,(a.2.1,a.2.2))] [.str] (λb:Bt=>R (Tr.mk 3 b [] [])))):
  PC Tp gl 58 [Arg.mk (.int .i64) n0] [.tree] R:=
 PF ⟨[],[],[],[]⟩ [.cell 2 26] 7 Tryz.func58 H
theorem zfw(gl:Fr)(k:Tr)(i:Int)(h:Int)(R:Int->Prop) (H:(decide (h>60)=Ta->R (-1))/\(decide (h>60)=Tc->∃(a:Int->Int->Prop) (b:Int->Int->Nat),a (Aa .i64 ((Aa .i64 (i-1))-(k.keys.length:Int))) 0/\∀c d:Int,a c d->(((bif (decide (d<k.items.length))then(decide (c>=0))else Tc)=Ta->∃e,(0<=d/\k.items[d.toNat]?=Td e)/\PC Tp gl 91 [Arg.mk .tree (Tr.mk e.kind e.text e.keys e.items),Arg.mk (.int .i64) c,Arg.mk (.int .i64) (Aa .i64 (h+1))] [.int .i64] (λf:Int=>(a f (Aa .i64 (d+1))/\b f (Aa .i64 (d+1))<b c d)))/\((bif (decide (d<k.items.length))then(decide (c>=0))else Tc)=Tc->R c)))):
  PC Tp gl 91 [Arg.mk .tree k,Arg.mk (.int .i64) i,Arg.mk (.int .i64) h] [.int .i64] R:=
 PF ⟨[],[],[(5,⟨[(1,.one (.dat (.int .i64))),(7,.one (.dat (.int .i64)))],[],[3],[100064,100448]⟩)],[]⟩ [.tmp 6] 37 Tryz.func91 H
theorem zcm(gl:Fr)(h:Tr)(R:Bool->Prop) (H:(decide ((h.text.size:Int)>2048)=Ta->R Tc)/\(decide ((h.text.size:Int)>2048)=Tc->∃(a:Int->Prop) (b:Int->Nat),a 0/\∀c:Int,a c->((decide (c<h.keys.length)=Ta->∃d,(0<=c/\h.keys[c.toNat]?=Td d)/\(decide ((d.size:Int)>1024)=Ta->R Tc)/\(decide ((d.size:Int)>1024)=Tc->(a (Aa .i64 (c+1))/\b (Aa .i64 (c+1))<b c)))/\(decide (c<h.keys.length)=Tc->∃(e:Int->Prop) (f:Int->Nat),e 0/\∀g:Int,e g->((decide (g<h.items.length)=Ta->∃i,(0<=g/\h.items[g.toNat]?=Td i)/\PC Tp gl 92 [Arg.mk .tree (Tr.mk i.kind i.text i.keys i.items)] [.bool] (λj:Bool=>((!j)=Ta->R Tc)/\((!j)=Tc->(e (Aa .i64 (g+1))/\f (Aa .i64 (g+1))<f g))))/\(decide (g<h.items.length)=Tc->R Ta)))))):
  PC Tp gl 92 [Arg.mk .tree h] [.bool] R:=
 PF ⟨[],[],[(4,⟨[(3,.one (.dat (.int .i64)))],[],[1],[100192]⟩),(9,⟨[(4,.one (.dat (.int .i64)))],[],[1],[100256]⟩)],[]⟩ [.tmp 2] 39 Tryz.func92 H
theorem zlo(gl:Fr)(n0:Bool×Bt×Int)(R:Bt->Prop) (H:PC Tp gl 78 [Arg.mk (.pair .bool (.pair .str (.int .i64))) (n0.1,(n0.2.1,n0.2.2))] [.bool] (λa:Bool=>((!a)=Ta->R (⟨#[]⟩:Bt))/\((!a)=Tc->((n0.2.1.toList==(⟨#[]⟩:Bt).toList)=Ta->R (⟨#[48]⟩:Bt))/\((n0.2.1.toList==(⟨#[]⟩:Bt).toList)=Tc->∀b:Bt->Prop,(∀c:Bt,(((n0.2.2 != 0)=Ta->PC Tp gl 79 [Arg.mk (.int .i64) n0.2.2] [.str] (λd:Bt=>wu (((⟨#[101]⟩:Bt)).size+d.size)/\wu (c.size+((⟨#[101]⟩:Bt)++d).size)/\R (c++((⟨#[101]⟩:Bt)++d))))/\((n0.2.2 != 0)=Tc->R c))->b c)->(n0.1=Ta->wu (((⟨#[45]⟩:Bt)).size+n0.2.1.size)/\b ((⟨#[45]⟩:Bt)++n0.2.1))/\(n0.1=Tc->b n0.2.1))))):
  PC Tp gl 26 [Arg.mk (.pair .bool (.pair .str (.int .i64))) n0] [.str] R:=
 PF ⟨[],[],[],[(8,⟨[(3,.one (.dat .str))],[],[1],[100192]⟩)]⟩ [.tmp 2] 26 Tryz.func26 H
theorem zsa(gl:Fr)(n0:Int)(R:(Bool×Bt×Int)->Prop) (H:PC Tp gl 79 [Arg.mk (.int .i64) n0] [.str] (λa:Bt=>PC Tp gl 25 [Arg.mk .str a] [.pair .bool (.pair .str (.int .i64)),.int .i64] (λb:(Bool×Bt×Int)×Int=>R (b.1.1,(b.1.2.1,b.1.2.2))))):
  PC Tp gl 110 [Arg.mk (.int .i64) n0] [.pair .bool (.pair .str (.int .i64))] R:=
 PF ⟨[],[],[],[]⟩ [.cell 2 46] 12 Tryz.func110 H
theorem zlp(gl:Fr)(f:Bt)(R:(Int×Bool)->Prop) (H:PC Tp gl 150 [Arg.mk .str f] [.bool] (λa:Bool=>(a=Ta->R ((f.size:Int),Ta))/\(a=Tc->∃(b:(Bt×Nat)->Prop) (c:(Bt×Nat)->Nat),b (f,0)/\∀e:Bt×Nat,b e->(((nxB e.1 e.2)=Ta->(nxB e.1 e.2)=Ta/\(nxB e.1 e.2)=Ta/\(((nxR e.1 e.2:Int) != 65533)=Ta->(b (e.1,nxP e.1 e.2)/\c (e.1,nxP e.1 e.2)<c e))/\(((nxR e.1 e.2:Int) != 65533)=Tc->(0<=(e.2:Int)/\(e.2:Int)<=(f.size:Int)/\(f.size:Int)<=(f.size:Int))/\PC Tp gl 151 [Arg.mk .str (f.extract (e.2:Int).toNat (f.size:Int).toNat)] [.int .i32,.int .i64] (λd:Int×Int=>((d.2==1)=Ta->R ((e.2:Int),Tc))/\((d.2==1)=Tc->(b (e.1,nxP e.1 e.2)/\c (e.1,nxP e.1 e.2)<c e)))))/\((nxB e.1 e.2)=Tc->R ((f.size:Int),Ta)))))):
  PC Tp gl 80 [Arg.mk .str f] [.int .i64,.bool] R:=
 PF ⟨[],[],[(4,⟨[],[(13,[.dat .iter])],[],[1000832]⟩)],[]⟩ [.tmp 2,.tmp 3] 32 Tryz.func80 H
theorem zlq(gl:Fr)(e:Tr)(R:Bool->Prop) (H:PC Tp gl 56 [Arg.mk .tree (Tr.mk e.kind e.text e.keys e.items)] [.int .i64] (λa:Int=>∃b:Int->Prop,(decide (a<=4096)=Ta->PC Tp gl 161 [Arg.mk .tree (Tr.mk e.kind e.text e.keys e.items)] [.int .i64] b)/\∀c:Int,(decide (a<=4096)=Ta->b c)->R (bif (decide (a<=4096))then(decide (c<=32))else Tc))):
  PC Tp gl 93 [Arg.mk .tree e] [.bool] R:=
 PF ⟨[],[],[],[]⟩ [.tmp 2] 11 Tryz.func93 H
theorem zop(gl:Fr)(e:Tr)(R:Bool->Prop) (H:((e.kind==5)=Ta->R (bif (!(decide ((e.keys.length:Int)>0)))then(e.text.toList==(⟨#[]⟩:Bt).toList)else Tc))/\((e.kind==5)=Tc->((e.kind==6)=Ta->PC Tp gl 164 [Arg.mk (.row .str) e.keys,Arg.mk (.int .i64) (e.items.length:Int)] [.bool] (λa:Bool=>R (bif a then(e.text.toList==(⟨#[]⟩:Bt).toList)else Tc)))/\((e.kind==6)=Tc->((bif (decide ((e.keys.length:Int)>0))then Ta else(decide ((e.items.length:Int)>0)))=Ta->R Tc)/\((bif (decide ((e.keys.length:Int)>0))then Ta else(decide ((e.items.length:Int)>0)))=Tc->((e.kind==1)=Ta->R (e.text.toList==(⟨#[]⟩:Bt).toList))/\((e.kind==1)=Tc->((e.kind==2)=Ta->R (bif (e.text.toList==(⟨#[116,114,117,101]⟩:Bt).toList)then Ta else(e.text.toList==(⟨#[102,97,108,115,101]⟩:Bt).toList)))/\((e.kind==2)=Tc->((e.kind==3)=Ta->PC Tp gl 165 [Arg.mk .str e.text] [.pair .bool (.pair .str (.int .i64)),.bool] (λb:(Bool×Bt×Int)×Bool=>R b.2))/\((e.kind==3)=Tc->((e.kind==4)=Ta->PC Tp gl 166 [Arg.mk .str e.text] [.bool] (λc:Bool=>R c))/\((e.kind==4)=Tc->((e.kind==7)=Ta->PC Tp gl 167 [Arg.mk .str e.text] [.bool] (λd:Bool=>R d))/\((e.kind==7)=Tc->R Tc))))))))):
  PC Tp gl 96 [Arg.mk .tree e] [.bool] R:=
 PF ⟨[],[],[],[]⟩ [.tmp 2] 79 Tryz.func96 H
theorem zju(gl:Fr)(n0:Bool×Bt×Int)(R:Bool->Prop) (H:(((n0.1==Tc)&&((n0.2.1.toList==(⟨#[]⟩:Bt).toList)&&((n0.2.2==0)&&Ta)))=Ta->R Ta)/\(((n0.1==Tc)&&((n0.2.1.toList==(⟨#[]⟩:Bt).toList)&&((n0.2.2==0)&&Ta)))=Tc->PC Tp gl 141 [Arg.mk .str n0.2.1] [.bool] (λa:Bool=>((!a)=Ta->((!a)=Ta->R Tc)/\((!a)=Tc->R (bif (decide (n0.2.2>=(-1000000)))then(decide (n0.2.2<=1000000))else Tc)))/\((!a)=Tc->(decide ((n0.2.1.size:Int)>1000)=Ta->(decide ((n0.2.1.size:Int)>1000)=Ta->R Tc)/\(decide ((n0.2.1.size:Int)>1000)=Tc->R (bif (decide (n0.2.2>=(-1000000)))then(decide (n0.2.2<=1000000))else Tc)))/\(decide ((n0.2.1.size:Int)>1000)=Tc->(0<=(0:Int)/\(0:Int)<(n0.2.1.size:Int))/\(((zr n0.2.1 (0:Int).toNat:Int)==48)=Ta->(((zr n0.2.1 (0:Int).toNat:Int)==48)=Ta->R Tc)/\(((zr n0.2.1 (0:Int).toNat:Int)==48)=Tc->R (bif (decide (n0.2.2>=(-1000000)))then(decide (n0.2.2<=1000000))else Tc)))/\(((zr n0.2.1 (0:Int).toNat:Int)==48)=Tc->(0<=(Aa .i64 ((n0.2.1.size:Int)-1))/\(Aa .i64 ((n0.2.1.size:Int)-1))<(n0.2.1.size:Int))/\(((zr n0.2.1 (Aa .i64 ((n0.2.1.size:Int)-1)).toNat:Int)==48)=Ta->R Tc)/\(((zr n0.2.1 (Aa .i64 ((n0.2.1.size:Int)-1)).toNat:Int)==48)=Tc->R (bif (decide (n0.2.2>=(-1000000)))then(decide (n0.2.2<=1000000))else Tc)))))))):
  PC Tp gl 78 [Arg.mk (.pair .bool (.pair .str (.int .i64))) n0] [.bool] R:=
 PF ⟨[],[],[],[]⟩ [.tmp 2] 34 Tryz.func78 H
theorem zjv(gl:Fr)(r:Bt)(R:((Bool×Bt×Int)×Int)->Prop) (H:PC Tp gl 75 [Arg.mk .str r] [.pair .bool (.pair .bool (.pair .str (.pair .str .str))),.bool] (λa:(Bool×Bool×Bt×Bt×Bt)×Bool=>PC Tp gl 76 [Arg.mk .str a.1.2.2.2.2,Arg.mk .str (⟨#[48]⟩:Bt)] [.str] (λb:Bt=>((!a.2)=Ta->R ((Tc,((⟨#[]⟩:Bt),0)),2))/\((!a.2)=Tc->((decide ((Aa .i64 ((a.1.2.2.1.size:Int)+(a.1.2.2.2.1.size:Int)))>1000))=Ta->R ((Tc,((⟨#[]⟩:Bt),0)),3))/\((decide ((Aa .i64 ((a.1.2.2.1.size:Int)+(a.1.2.2.2.1.size:Int)))>1000))=Tc->(decide ((b.size:Int)>9)=Ta->R ((Tc,((⟨#[]⟩:Bt),0)),4))/\(decide ((b.size:Int)>9)=Tc->∃(c:Int->Bool->Bt->Int->(Bt×Nat)->Prop) (d:Int->Bool->Bt->Int->(Bt×Nat)->Nat),c 0 Tc (⟨#[]⟩:Bt) 0 (b,0)/\∀e:Int,∀n:Bool,∀l:Bt,∀m:Int,∀h:Bt×Nat,c e n l m h->(((nxB h.1 h.2)=Ta->(nxB h.1 h.2)=Ta/\(c (Aa .i64 ((Aa .i64 (10*e))+(Aa .i64 (Aa .i32 ((nxR h.1 h.2)-48))))) n l m (h.1,nxP h.1 h.2)/\d (Aa .i64 ((Aa .i64 (10*e))+(Aa .i64 (Aa .i32 ((nxR h.1 h.2)-48))))) n l m (h.1,nxP h.1 h.2)<d e n l m h))/\((nxB h.1 h.2)=Tc->∀f:Int->Bool->Bt->Int->Prop,(∀g:Int,∀p:Bool,∀q:Bt,∀o:Int,(wu (a.1.2.2.1.size+a.1.2.2.2.1.size)/\PC Tp gl 76 [Arg.mk .str (a.1.2.2.1++a.1.2.2.2.1),Arg.mk .str (⟨#[48]⟩:Bt)] [.str] (λi:Bt=>((i.toList==(⟨#[]⟩:Bt).toList)=Ta->R ((Tc,((⟨#[]⟩:Bt),0)),0))/\((i.toList==(⟨#[]⟩:Bt).toList)=Tc->PC Tp gl 77 [Arg.mk .str i,Arg.mk .str (⟨#[48]⟩:Bt)] [.str] (λj:Bt=>PC Tp gl 78 [Arg.mk (.pair .bool (.pair .str (.int .i64))) (a.1.1,(j,Aa .i64 ((Aa .i64 ((Aa .i64 (g-(a.1.2.2.2.1.size:Int)))+(i.size:Int)))-(j.size:Int))))] [.bool] (λk:Bool=>((!k)=Ta->R ((Tc,((⟨#[]⟩:Bt),0)),4))/\((!k)=Tc->R ((a.1.1,(j,Aa .i64 ((Aa .i64 ((Aa .i64 (g-(a.1.2.2.2.1.size:Int)))+(i.size:Int)))-(j.size:Int)))),0)))))))->f g p q o)->(a.1.2.1=Ta->f (Aa .i64 (0-e)) n l m)/\(a.1.2.1=Tc->f e n l m))))))))):
  PC Tp gl 25 [Arg.mk .str r] [.pair .bool (.pair .str (.int .i64)),.int .i64] R:=
 PF ⟨[],[],[(11,⟨[(7,.one (.dat (.int .i64)))],[(2,[.dat .bool,.dat .str,.dat (.int .i64)]),(41,[.dat .iter])],[4],[100448,1000128,1000129,1000130,1002624]⟩)],[(16,⟨[(7,.one (.dat (.int .i64)))],[(2,[.dat .bool,.dat .str,.dat (.int .i64)])],[4],[100448,1000128,1000129,1000130]⟩)]⟩ [.cell 2 46,.tmp 3] 86 Tryz.func25 H
theorem zoq(gl:Fr)(h:Tr)(R:Int->Prop) (H:∃(a:Int->Int->Prop) (b:Int->Int->Nat),a 1 0/\∀c d:Int,a c d->((decide (d<h.items.length)=Ta->∃e,(0<=d/\h.items[d.toNat]?=Td e)/\PC Tp gl 56 [Arg.mk .tree (Tr.mk e.kind e.text e.keys e.items)] [.int .i64] (λf:Int=>(a (Aa .i64 (c+f)) (Aa .i64 (d+1))/\b (Aa .i64 (c+f)) (Aa .i64 (d+1))<b c d)))/\(decide (d<h.items.length)=Tc->R c))):
  PC Tp gl 56 [Arg.mk .tree h] [.int .i64] R:=
 PF ⟨[],[],[(3,⟨[(3,.one (.dat (.int .i64))),(9,.one (.dat (.int .i64)))],[],[],[100192,100576]⟩)],[]⟩ [.tmp 2] 19 Tryz.func56 H
theorem zlr(gl:Fr)(h:Tr)(R:Int->Prop) (H:∃(a:Int->Int->Prop) (b:Int->Int->Nat),a 0 0/\∀c d:Int,a c d->((decide (d<h.items.length)=Ta->∃e,(0<=d/\h.items[d.toNat]?=Td e)/\PC Tp gl 161 [Arg.mk .tree (Tr.mk e.kind e.text e.keys e.items)] [.int .i64] (λf:Int=>(a (if c<f then f else c) (Aa .i64 (d+1))/\b (if c<f then f else c) (Aa .i64 (d+1))<b c d)))/\(decide (d<h.items.length)=Tc->R (Aa .i64 (c+1))))):
  PC Tp gl 161 [Arg.mk .tree h] [.int .i64] R:=
 PF ⟨[],[],[(3,⟨[(3,.one (.dat (.int .i64))),(9,.one (.dat (.int .i64)))],[],[],[100192,100576]⟩)],[]⟩ [.tmp 2] 20 Tryz.func161 H
theorem zhi(gl:Fr)(e:Bt)(R:((Bool×Bt×Int)×Bool)->Prop) (H:PC Tp gl 25 [Arg.mk .str e] [.pair .bool (.pair .str (.int .i64)),.int .i64] (λa:(Bool×Bt×Int)×Int=>∃b:Bt->Prop,((a.2==0)=Ta->PC Tp gl 26 [Arg.mk (.pair .bool (.pair .str (.int .i64))) (a.1.1,(a.1.2.1,a.1.2.2))] [.str] b)/\∀c:Bt,((a.2==0)=Ta->b c)->R ((a.1.1,(a.1.2.1,a.1.2.2)),bif (a.2==0)then(c.toList==e.toList)else Tc))):
  PC Tp gl 165 [Arg.mk .str e] [.pair .bool (.pair .str (.int .i64)),.bool] R:=
 PF ⟨[],[(2,9,[],[0,1,2,3,4,6,5,7,8],[6,7,8])],[],[]⟩ [.cell 2 46,.tmp 3] 20 Tryz.func165 H
theorem zls(gl:Fr)(b:Bt)(R:Bool->Prop) (H:PC Tp gl 80 [Arg.mk .str b] [.int .i64,.bool] (λa:Int×Bool=>R a.2)):
  PC Tp gl 166 [Arg.mk .str b] [.bool] R:=
 PF ⟨[],[],[],[]⟩ [.tmp 2] 11 Tryz.func166 H
theorem zor(gl:Fr)(c:Bt)(R:Bool->Prop) (H:PC Tp gl 165 [Arg.mk .str c] [.pair .bool (.pair .str (.int .i64)),.bool] (λa:(Bool×Bt×Int)×Bool=>PC Tp gl 234 [Arg.mk (.pair .bool (.pair .str (.int .i64))) (a.1.1,(a.1.2.1,a.1.2.2))] [.int .i64,.bool] (λb:Int×Bool=>R (bif (bif a.2 then b.2 else Tc)then(decide (b.1>=0))else Tc)))):
  PC Tp gl 167 [Arg.mk .str c] [.bool] R:=
 PF ⟨[],[],[],[]⟩ [.tmp 2] 25 Tryz.func167 H
theorem zhj(gl:Fr)(e:Bt)(R:Bool->Prop) (H:∃(a:(Bt×Nat)->Prop) (b:(Bt×Nat)->Nat),a (e,0)/\∀c:Bt×Nat,a c->(((nxB c.1 c.2)=Ta->(nxB c.1 c.2)=Ta/\((bif (decide ((nxR c.1 c.2:Int)<48))then Ta else(decide ((nxR c.1 c.2:Int)>57)))=Ta->R Tc)/\((bif (decide ((nxR c.1 c.2:Int)<48))then Ta else(decide ((nxR c.1 c.2:Int)>57)))=Tc->(a (c.1,nxP c.1 c.2)/\b (c.1,nxP c.1 c.2)<b c)))/\((nxB c.1 c.2)=Tc->R (!(e.toList==(⟨#[]⟩:Bt).toList))))):
  PC Tp gl 141 [Arg.mk .str e] [.bool] R:=
 PF ⟨[],[],[(2,⟨[],[(6,[.dat .iter])],[],[1000384]⟩)],[]⟩ [.tmp 2] 18 Tryz.func141 H
theorem zlt(gl:Fr)(y:Bt)(R:((Bool×Bool×Bt×Bt×Bt)×Bool)->Prop) (H:PC Tp gl 138 [Arg.mk .str y,Arg.mk .str (⟨#[45]⟩:Bt)] [.str,.bool] (λa:Bt×Bool=>PC Tp gl 139 [Arg.mk .str a.1,Arg.mk .str (⟨#[101,69]⟩:Bt)] [.str,.str,.bool] (λb:Bt×Bt×Bool=>∀c:Bt->Bool->Bool->Bt->Bt->Bt->Prop,(∀d:Bt,∀t s:Bool,∀u w x:Bt,(PC Tp gl 139 [Arg.mk .str b.1,Arg.mk .str (⟨#[46]⟩:Bt)] [.str,.str,.bool] (λe:Bt×Bt×Bool=>PC Tp gl 141 [Arg.mk .str e.1] [.bool] (λf:Bool=>∃g:Bool->Prop,(((!(!f))&&e.2.2)=Ta->PC Tp gl 141 [Arg.mk .str e.2.1] [.bool] g)/\∀i:Bool,(((!(!f))&&e.2.2)=Ta->g i)->((bif (!f)then Ta else(bif e.2.2 then(!i)else Tc))=Ta->R ((t,(s,(e.1,(e.2.1,d)))),Tc))/\((bif (!f)then Ta else(bif e.2.2 then(!i)else Tc))=Tc->((!(e.1.toList==(⟨#[48]⟩:Bt).toList))=Ta->(0<=(0:Int)/\(0:Int)<(e.1.size:Int)))/\R ((t,(s,(e.1,(e.2.1,d)))),bif (e.1.toList==(⟨#[48]⟩:Bt).toList)then Ta else((zr e.1 (0:Int).toNat:Int) != 48))))))->c d t s u w x)->(b.2.2=Ta->PC Tp gl 138 [Arg.mk .str b.2.1,Arg.mk .str (⟨#[45]⟩:Bt)] [.str,.bool] (λj:Bt×Bool=>∀k:Bt->Bool->Bool->Bt->Bt->Bt->Prop,(∀l:Bt,∀h o:Bool,∀q r p:Bt,(PC Tp gl 141 [Arg.mk .str l] [.bool] (λm:Bool=>((!m)=Ta->R ((h,(o,(q,(r,p)))),Tc))/\((!m)=Tc->c l h o q r p)))->k l h o q r p)->((!j.2)=Ta->PC Tp gl 140 [Arg.mk .str j.1,Arg.mk .str (⟨#[43]⟩:Bt)] [.str] (λn:Bt=>k n a.2 j.2 (⟨#[]⟩:Bt) (⟨#[]⟩:Bt) (⟨#[]⟩:Bt)))/\((!j.2)=Tc->k j.1 a.2 j.2 (⟨#[]⟩:Bt) (⟨#[]⟩:Bt) (⟨#[]⟩:Bt))))/\(b.2.2=Tc->c b.2.1 a.2 Tc (⟨#[]⟩:Bt) (⟨#[]⟩:Bt) (⟨#[]⟩:Bt))))):
  PC Tp gl 75 [Arg.mk .str y] [.pair .bool (.pair .bool (.pair .str (.pair .str .str))),.bool] R:=
 PF ⟨[],[(14,8,[],[0,1,2,3,4,5,6,7],[4,5,6,7])],[],[(9,⟨[(4,.one (.dat .str))],[(2,[.dat .bool,.dat .bool,.dat .str,.dat .str,.dat .str])],[],[100256,1000128,1000129,1000130,1000131,1000132]⟩),(7,⟨[(4,.one (.dat .str))],[(2,[.dat .bool,.dat .bool,.dat .str,.dat .str,.dat .str])],[],[100256,1000128,1000129,1000130,1000131,1000132]⟩)]⟩ [.cell 2 102,.tmp 3] 69 Tryz.func75 H
theorem zos(gl:Fr)(n0:Bool×Bt×Int)(R:(Int×Bool)->Prop) (H:PC Tp gl 78 [Arg.mk (.pair .bool (.pair .str (.int .i64))) (n0.1,(n0.2.1,n0.2.2))] [.bool] (λa:Bool=>((bif (bif (!a)then Ta else(decide (n0.2.2<0)))then Ta else(decide ((Aa .i64 ((n0.2.1.size:Int)+n0.2.2))>19)))=Ta->R (0,Tc))/\((bif (bif (!a)then Ta else(decide (n0.2.2<0)))then Ta else(decide ((Aa .i64 ((n0.2.1.size:Int)+n0.2.2))>19)))=Tc->PC Tp gl 86 [Arg.mk .str (⟨#[48]⟩:Bt),Arg.mk (.int .i64) n0.2.2] [.str] (λb:Bt=>wu (n0.2.1.size+b.size)/\∀c:Bt->Prop,(∀d:Bt,(((d.toList==(⟨#[]⟩:Bt).toList)=Ta->R (0,Ta))/\((d.toList==(⟨#[]⟩:Bt).toList)=Tc->PC Tp gl 277 [Arg.mk .str d,Arg.mk (.int .i64) 10,Arg.mk (.int .i64) 64] [.int .i64,.err] (λe:Int×Bool=>((!e.2)=Ta->R (0,Tc))/\((!e.2)=Tc->R (e.1,Ta)))))->c d)->(n0.1=Ta->wu (((⟨#[45]⟩:Bt)).size+(n0.2.1++b).size)/\c ((⟨#[45]⟩:Bt)++(n0.2.1++b)))/\(n0.1=Tc->c (n0.2.1++b)))))):
  PC Tp gl 234 [Arg.mk (.pair .bool (.pair .str (.int .i64))) n0] [.int .i64,.bool] R:=
 PF ⟨[],[(3,5,[],[0,1,2,3,4],[])],[],[(6,⟨[(4,.one (.dat .str))],[],[],[100256]⟩)]⟩ [.tmp 2,.tmp 3] 44 Tryz.func234 H
theorem zot(gl:Fr)(e:Bt)(f:Bt)(R:(Bt×Bt×Bool)->Prop) (H:∃(a:Int->Prop) (b:Int->Nat),a 0/\∀c:Int,a c->((decide (c<e.size)=Ta->(0<=c/\c<e.size)/\PC Tp gl 212 [Arg.mk .str f,Arg.mk (.int .u8) (zr e c.toNat)] [.int .i64] (λd:Int=>(decide (d>=0)=Ta->(0<=(0:Int)/\(0:Int)<=c/\c<=e.size)/\(0<=(Aa .i64 (c+1))/\(Aa .i64 (c+1))<=(e.size:Int)/\(e.size:Int)<=(e.size:Int))/\R (e.extract (0:Int).toNat c.toNat,e.extract (Aa .i64 (c+1)).toNat (e.size:Int).toNat,Ta))/\(decide (d>=0)=Tc->(a (Aa .i64 (c+1))/\b (Aa .i64 (c+1))<b c))))/\(decide (c<e.size)=Tc->R (e,(⟨#[]⟩:Bt),Tc)))):
  PC Tp gl 139 [Arg.mk .str e,Arg.mk .str f] [.str,.str,.bool] R:=
 PF ⟨[],[],[(2,⟨[(10,.one (.dat (.int .i64)))],[],[],[100640]⟩)],[]⟩ [.tmp 4,.tmp 5,.tmp 6] 28 Tryz.func139 H
end
section
abbrev bl(l:List UInt8):Bt:=⟨l.toArray⟩
abbrev lb(s:Bt):List UInt8:=s.data.toList
@[simp] theorem yh(l:List UInt8):lb (bl l)=l:=by simp[lb]
@[simp] theorem Y4(s:Bt):bl (lb s)=s:=by cases s;simp[lb,bl]
theorem zxv{s t:Bt}:lb s=lb t↔s=t:=⟨λh=>by rw[<-Y4 s,h,Y4],λh=>by rw[h]⟩
theorem zbz(s:Bt):(lb s).length=s.size:=by cases s;simp[lb,ByteArray.size]
theorem z4s(s t:Bt):lb (s++t)=lb s++lb t:=by cases s;cases t;simp[lb]
theorem z0r(s:Bt)(a b:Nat):lb (s.extract a b)=((lb s).drop a).take (b-a):=by cases s;simp[lb,ByteArray.data_extract,List.extract_eq_take_drop]
theorem z4t(s:Bt)(i:Nat):zr s i=((((lb s)[i]?).getD 0).toNat:Int):=by cases s;simp[lb,zr]
theorem qfl(s:Bt)(i:Nat):s.get! i=((lb s)[i]?).getD 0:=by
 cases s with
 |mk d=>simp[lb,ByteArray.get!,Array.getElem!_eq_getD];rfl
def dec(l:List UInt8):Nat×Nat:=Go.Lib.decodeN l.length (l.getD 0 0).toNat (l.getD 1 0).toNat (l.getD 2 0).toNat (l.getD 3 0).toNat
theorem zxw(s:Bt)(i:Nat):DW s i=dec ((lb s).drop i):=by rw[Go.Lib.decode_at,dec];simp only[qfl,A6,A9,AI,zbz,CO]
theorem wy(l:List UInt8):1<=(dec l).2/\(dec l).2<=4:=by
 unfold dec Go.Lib.decodeN;repeat' split
 all_goals simp
theorem zxx{l:List UInt8}(h:l≠[]):(dec l).2<=l.length:=by
 have:0<l.length:=Bv.2 h;unfold dec Go.Lib.decodeN;repeat' split
 all_goals simp only
 all_goals omega
def zlg(d:Nat×Nat):Bool:=d.1==65533&&d.2==1
def Z8(l:List UInt8):Bool:=if h:l=[]then Ta else if zlg (dec l)then Tc else Z8 (l.drop (dec l).2)
termination_by l.length
decreasing_by
 have h1:=wy l;have h2:0<l.length:=Bv.2 h;simp only[AI];omega
theorem Yv:Z8 []=Ta:=by unfold Z8;simp
theorem Z0{l:List UInt8}(h:l≠[]):Z8 l=if zlg (dec l)then Tc else Z8 (l.drop (dec l).2):=by rw[Z8];simp[h]
theorem zah{c:UInt8}{l:List UInt8}(h:c.toNat<128):dec (c::l)=(c.toNat,1):=by simp[dec,Go.Lib.decodeN,h]
end
end Go.X
end
section
namespace Go.X
open Go Go.Lib
section
abbrev Bs:=List UInt8
end
end Go.X
end
section
namespace Go.X
section
theorem zai{n:Int}(h1:-2147483648<=n)(c:n<=2147483647):Aa .i32 n=n:=by
 unfold Aa;have e:(2:Int) ^ Bm .i32=4294967296:=by decide
 have e':(2:Int) ^ (Bm .i32-1)=2147483648:=by decide
 simp only[e,e'];have b:Dm .i32=Ta:=rfl;simp only[b,Cc,decide_eq_true_eq];split <;> omega
end
end Go.X
end
section
namespace Go.X
open Go Go.Proofs Go.Shelf Go.RowKit
section
def zou:Go.Shelf.Ren:=⟨fun|161=>76|231=>142|227=>143|233=>144|235=>145|228=>214|197=>151|151=>215|260=>218|152=>269|137=>212|119=>300|224=>301|225=>302|217=>268|266=>299|n=>n,fun|9=>9|4=>4|3=>3|5=>5|117=>170|116=>169|0=>0|124=>173|105=>174|21=>21|119=>230|46=>177|139=>233|138=>232|n=>n,fun|3=>0|4=>1|n=>n⟩
theorem z4u:Go.Proofs.Lays.n161 Tp zou:=by constructor <;> intros <;> kernel_rfl
theorem Xo(s:Bt)(c:UInt8)(b:c.toNat<128)(w:World): Calls Tp 76 #[.string s,.string ⟨#[c]⟩] w λe w'=>e=.returned (.string ⟨(Lib.trimLeftB s.data.toList c).toArray⟩)/\w'=w:=Any.strings_TrimLeft_one z4u s c b w
def zov:Go.Shelf.Ren:=⟨fun|162=>77|232=>146|227=>143|234=>147|236=>148|228=>214|271=>216|151=>215|120=>270|197=>151|152=>269|260=>218|137=>212|119=>300|224=>301|225=>302|217=>268|266=>299|n=>n,fun|9=>9|4=>4|3=>3|5=>5|117=>170|116=>169|0=>0|124=>173|21=>21|105=>174|46=>177|119=>230|139=>233|138=>232|n=>n,fun|3=>0|4=>1|n=>n⟩
theorem z4v:Go.Proofs.Lays.n162 Tp zov:=by constructor <;> intros <;> kernel_rfl
theorem Ww(s:Bt)(c:UInt8)(b:c.toNat<128)(w:World)(f:s.size<=9223372036854775807): Calls Tp 77 #[.string s,.string ⟨#[c]⟩] w λe w'=>e=.returned (.string ⟨(Lib.trimRightB s.data.toList c).toArray⟩)/\w'=w:=Any.strings_TrimRight_one z4v s c b w f
def zow:Go.Shelf.Ren:=⟨fun|137=>212|217=>268|266=>299|n=>n,fun|9=>9|5=>5|3=>3|n=>n,fun|n=>n⟩
theorem z4w:Go.Proofs.Lays.n137 Tp zow:=by constructor <;> intros <;> kernel_rfl
theorem jh(s:Bt)(c:Int)(w:World): Calls Tp 212 #[.string s,.int .u8 c] w λe w'=>e=.returned (.int .i64 (Lib.indexByte s.data.toList c.toNat.toUInt8))/\w'=w:=Any.strings_IndexByte z4w s c w
def zox:Go.Shelf.Ren:=⟨fun|103=>138|210=>211|206=>227|n=>n,fun|9=>9|4=>4|24=>163|3=>3|n=>n,fun|n=>n⟩
theorem z4x:Go.Proofs.Lays.n103 Tp zox:=by constructor <;> intros <;> kernel_rfl
theorem zcn(s p:Bt)(w:World): Calls Tp 138 #[.string s,.string p] w λe w'=>e=.returned (.tuple #[.string ⟨(Lib.trimPrefix s.data.toList p.data.toList).toArray⟩,.bool (Lib.hasPrefix s.data.toList p.data.toList)])/\w'=w:=Any.strings_CutPrefix z4x s p w
def zoy:Go.Shelf.Ren:=⟨fun|242=>153|278=>220|n=>n,fun|37=>110|21=>21|51=>236|4=>4|5=>5|46=>177|n=>n,fun|n=>n⟩
theorem z4y:Go.Proofs.Lays.n242 Tp zoy:=by constructor <;> intros <;> kernel_rfl
theorem Wx(B:Nat)(v:Value)(n:Nat)(xs:List Value)(r:Int)(f:-2147483648<=r)(i:r<=2147483647)(w:World)(c:w.ownsRow B 5 1 v n xs)(b:n+4<=140737488355328)(h:B<=w.heap.size): Calls Tp 153 #[v,.int .i32 r] w λe w'=>∃k,e=.returned k/\w'.ownsRow B 5 1 k (n+(Lib.runeCells r).length) (xs++Lib.runeCells r)/\∃o,(w.alloc o).grownBy w' v.ownBlock:=Any.utf8_AppendRune_plain z4y (by kernel_rfl) B v n xs r f i w c b h
def zlu:Go.Shelf.Ren:=⟨fun|171=>79|243=>149|246=>154|283=>221|284=>222|285=>223|286=>224|129=>252|317=>271|318=>272|319=>273|320=>274|337=>303|338=>304|n=>n,fun|3=>3|9=>9|2=>2|4=>4|171=>237|0=>0|53=>238|37=>110|5=>5|173=>241|212=>273|51=>236|20=>20|213=>274|46=>177|232=>306|233=>307|n=>n,fun|17=>2|18=>6|19=>7|n=>n⟩
theorem z0s:Go.Proofs.LaysM.n171 Tp zlu:=by repeat' first|(intros;kernel_rfl)|constructor
open Go.RowKit Go.Sort Go.Lib in
theorem zlv(n : Int)(h0 : -9223372036854775808 ≤ n)(h1 : n ≤ 9223372036854775807)(w : World)(htab : Lib.TabIs Tp w "internal/strconv.uint64pow10" .u64 Lib.pow10Tab): Calls Tp 79 #[.int .i64 n] w λe w'=>e=.returned (.string ⟨(Lib.itoa n).toArray⟩)/\∃k os,w'=grow (w.drewN k) os:=Any.strconv_Itoa z0s n h0 h1 w htab
def zlw:Go.Shelf.Ren:=⟨fun|245=>267|279=>295|280=>296|281=>297|282=>298|316=>317|171=>79|205=>318|243=>149|246=>154|283=>221|284=>222|285=>223|286=>224|129=>252|317=>271|318=>272|319=>273|320=>274|337=>303|338=>304|n=>n,fun|9=>9|3=>3|75=>114|167=>287|4=>4|168=>288|210=>304|37=>110|0=>0|127=>181|145=>315|143=>313|2=>2|171=>237|53=>238|5=>5|173=>241|212=>273|51=>236|20=>20|213=>274|46=>177|232=>306|233=>307|80=>122|n=>n,fun|15=>4|16=>5|17=>2|18=>6|19=>7|n=>n⟩
theorem z0t:Go.Proofs.LaysC.n245 Tp zlw:=by repeat' first|(intros;kernel_rfl)|constructor
theorem Jo(fn s:Bt)(base b:Int)(c:Value)(w:World)(f:s.size<=281474976710656)(k:w.cell? ⟨4,0,Te⟩=Td c)(h:c=.nilIface\/∃i l,c=.iface i l): Calls Tp 267 #[.string fn,.string s,.int .i64 base,.int .i64 b,.iface 287 (.int .i64 2)] w λe w'=>∃N,e=.returned (.iface 288 (.pointer (Td ⟨N,0,Te⟩)))/\w.heap.size<=N/\w'.heap[N]?=Td (.cells #[.string fn,.string s,c] 304 (0,0))/\Below w.heap.size w w':=Any.strconv_toError_syntax z0t fn s base b c w f k h
def zoz:Go.Shelf.Ren:=⟨fun|321=>325|n=>n,fun|5=>5|n=>n,fun|n=>n⟩
theorem z4z:Go.Proofs.Lays.n321 Tp zoz:=by constructor <;> intros <;> kernel_rfl
theorem Jp(c:Int)(w:World): Calls Tp 325 #[.int .u8 c] w λe w'=>e=.returned (.int .u8 (bits .or .u8 c 32))/\w'=w:=Any.internal_strconv_lower z4z c w
def zlx:Go.Shelf.Ren:=⟨fun|174=>277|247=>294|245=>267|287=>316|279=>295|280=>296|281=>297|282=>298|321=>325|322=>326|316=>317|171=>79|205=>318|243=>149|246=>154|283=>221|284=>222|285=>223|286=>224|129=>252|317=>271|318=>272|319=>273|320=>274|337=>303|338=>304|n=>n,fun|9=>9|3=>3|2=>2|75=>114|85=>277|4=>4|167=>287|5=>5|53=>238|175=>300|46=>177|168=>288|37=>110|0=>0|210=>304|21=>21|127=>181|145=>315|143=>313|171=>237|173=>241|212=>273|51=>236|20=>20|213=>274|232=>306|233=>307|80=>122|n=>n,fun|15=>4|16=>5|17=>2|18=>6|19=>7|n=>n⟩
theorem zfx:Go.Proofs.LaysC.n174 Tp zlx:=by repeat' first|(intros;kernel_rfl)|constructor
theorem Z9(s:Bt)(b:s.size<=9223372036854775806)(v:Int)(h:Lib.parseIntB 64 s.data.toList=.ok v)(w:World): Calls Tp 277 #[.string s,.int .i64 10,.int .i64 64] w λe w'=>e=.returned (.tuple #[.int .i64 v,.nilIface])/\(w'=w\/∃t,w'=Lib.bytesWorld w 5 t):=Any.strconv_ParseInt_10_at64_ok zfx s b v h w
theorem xu(s:Bt)(c:s.size<=281474976710656)(h:Lib.parseIntB 64 s.data.toList=Lib.parseIntB 64 [])(b:Value)(w:World)(k:w.cell? ⟨4,0,Te⟩=Td b)(f:b=.nilIface\/∃i l,b=.iface i l): Calls Tp 277 #[.string s,.int .i64 10,.int .i64 64] w λe w'=>∃N,e=.returned (.tuple #[.int .i64 (0),.iface 288 (.pointer (Td ⟨N,0,Te⟩))])/\w.heap.size<=N/\w'.heap[N]?=Td (.cells #[.string ⟨#[80,97,114,115,101,73,110,116]⟩,.string s,b] 304 (0,0))/\Below w.heap.size w w':=Any.strconv_ParseInt_10_at64_syntax zfx s c h b w k f
theorem Zd(s:Bt)(c:s.size<=281474976710656)(h:Lib.parseIntB 64 s.data.toList=.range)(b:Value)(w:World)(k:w.cell? ⟨5,0,Te⟩=Td b)(f:b=.nilIface\/∃i l,b=.iface i l): Calls Tp 277 #[.string s,.int .i64 10,.int .i64 64] w λe w'=>∃N,e=.returned (.tuple #[.int .i64 (Lib.intSat 64 s.data.toList),.iface 288 (.pointer (Td ⟨N,0,Te⟩))])/\w.heap.size<=N/\w'.heap[N]?=Td (.cells #[.string ⟨#[80,97,114,115,101,73,110,116]⟩,.string s,b] 304 (0,0))/\Below w.heap.size w w':=Any.strconv_ParseInt_10_at64_range zfx s c h b w k f
def zsb:Go.Shelf.Ren:=⟨fun|99=>156|206=>227|n=>n,fun|9=>9|4=>4|3=>3|n=>n,fun|n=>n⟩
theorem qbg:Go.Proofs.Lays.n99 Tp zsb:=by constructor <;> intros <;> kernel_rfl
open Go.RowKit Go.Lib in
theorem zco(s p:Bt)(w:World): Calls Tp 156 #[.string s,.string p] w λe w'=>e=.returned (.bool (Lib.hasPrefix s.data.toList p.data.toList))/\w'=w:=Any.strings_HasPrefix qbg s p w
def zo0:Go.Shelf.Ren:=⟨fun|101=>140|208=>213|206=>227|n=>n,fun|9=>9|4=>4|3=>3|n=>n,fun|n=>n⟩
theorem z5a:Go.Proofs.Lays.n101 Tp zo0:=by constructor <;> intros <;> kernel_rfl
open Go.RowKit Go.Lib in
theorem zbm(s p:Bt)(w:World): Calls Tp 140 #[.string s,.string p] w λe w'=>e=.returned (.string ⟨(Lib.trimPrefix s.data.toList p.data.toList).toArray⟩)/\w'=w:=Any.strings_TrimPrefix z5a s p w
def zo1:Go.Shelf.Ren:=⟨fun|197=>151|260=>218|n=>n,fun|9=>9|21=>21|3=>3|4=>4|5=>5|105=>174|119=>230|0=>0|46=>177|139=>233|138=>232|n=>n,fun|3=>0|4=>1|n=>n⟩
theorem z5b:Go.Proofs.Lays.n197 Tp zo1:=by constructor <;> intros <;> kernel_rfl
def zo2:Go.Shelf.Ren:=⟨fun|150=>209|153=>265|152=>269|226=>293|227=>143|228=>214|137=>212|119=>300|224=>301|225=>302|217=>268|266=>299|n=>n,fun|9=>9|4=>4|3=>3|5=>5|21=>21|117=>170|116=>169|0=>0|46=>177|124=>173|n=>n,fun|n=>n⟩
theorem z5c:Go.Proofs.Lays.n150 Tp zo2:=by constructor <;> intros <;> kernel_rfl
open Go.RowKit Go.Lib in
theorem Yi(s c:Bt)(w:World)(k:s.size<4294967281)(h:c.size<4294967281)(f:∀(j:Nat) b,s.data.toList[j]?=Td b->b.toNat<128)(i:∀(j:Nat) b,c.data.toList[j]?=Td b->b.toNat<128): Calls Tp 209 #[.string s,.string c] w λe w'=>e=.returned (.bool (Lib.containsAny s.data.toList c.data.toList))/\Below w.heap.size w w':=Any.strings_ContainsAny_laid z5c (by kernel_rfl) s c w k h f i
def zea:Go.Shelf.Ren:=⟨fun|105=>86|212=>155|99=>156|165=>157|166=>85|170=>158|169=>87|263=>225|264=>226|206=>227|240=>152|241=>228|276=>219|277=>275|n=>n,fun|9=>9|3=>3|4=>4|20=>20|0=>0|46=>177|109=>178|5=>5|72=>112|76=>117|51=>236|146=>243|53=>238|148=>245|70=>109|37=>110|75=>114|127=>181|164=>234|80=>122|n=>n,fun|n=>n⟩
theorem z5d:Go.Proofs.Lays.n105 Tp zea:=by constructor <;> intros <;> kernel_rfl
theorem zcp:Builder.Extra Tp zea:={
 sizeBuilder:=by kernel_rfl
 liesBuilder:=by kernel_rfl
 t5:=Tryz.underlying5
 a5:=Tryz.isAgg5
 z5:=Tryz.sizeOf5
 v5:=Tryz.zeroValue5
 infoByte:=by kernel_rfl
 cellsByte:=by kernel_rfl
 sizeByte:=by kernel_rfl
 neB5:=by decide }
open Go.RowKit Go.Lib in
theorem zhk(s:Bt)(c:Nat)(w:World)(f:c<=9223372036854775807)(b:s.size*c<=140737488355328): Calls Tp 86 #[.string s,.int .i64 c] w λe w'=>e=.returned (.string ⟨(Lib.repeatL s.data.toList c).toArray⟩)/\Below w.heap.size w w':=Any.strings_Repeat z5d zcp s c w f b
open Go.RowKit Go.Lib in
theorem Y5(s:Bt)(w:World)(b:Lib.Utf8Tabs 0 1 w): Calls Tp 151 #[.string s] w λe w'=>e=.returned (.tuple #[.int .i32 (Lib.decodeGo s).1,.int .i64 (Lib.decodeGo s).2])/\Below w.heap.size w w':=Any.utf8_DecodeRuneInString z5b s w b
end
end Go.X
end
section
namespace Go.X
open Go Go.X Go.Proofs Go.RowKit
section
variable {gl M:Fr} {s:Bt}
theorem zaj{c:Int}{R:Int->Prop}(h:R (Lib.indexByte (lb s) c.toNat.toUInt8)):PC Tp gl 212 [Arg.mk .str s,Arg.mk (.int .u8) c] [.int .i64] R:= PC.of_same rfl (λ_=>z4l _ _) h λw _=>jh s c w
theorem zsc{s p:Bt}{R:Bt×Bool->Prop}(h:R (bl (Lib.trimPrefix (lb s) (lb p)),Lib.hasPrefix (lb s) (lb p))):PC Tp gl 138 [Arg.mk .str s,Arg.mk .str p] [.str,.bool] R:= PC.of_same rfl (λM=>⟨[_,_],⟨_,_,rfl,rfl,_,rfl,rfl⟩,rfl⟩) h λw _=>zcn s p w
theorem zo3{s p:Bt}{R:Bt->Prop}(h:R (bl (Lib.trimPrefix (lb s) (lb p)))):PC Tp gl 140 [Arg.mk .str s,Arg.mk .str p] [.str] R:= PC.of_same rfl (λ_=>zjp _) h λw _=>zbm s p w
theorem zvn{c:UInt8}(b:c.toNat<128){R:Bt->Prop}(h:R (bl (Lib.trimLeftB (lb s) c))):PC Tp gl 76 [Arg.mk .str s,Arg.mk .str ⟨#[c]⟩] [.str] R:= PC.of_same rfl (λ_=>zjp _) h λw _=>Xo s c b w
theorem zsd{c:UInt8}(b:c.toNat<128)(e:s.size<=9223372036854775807){R:Bt->Prop}(h:R (bl (Lib.trimRightB (lb s) c))):PC Tp gl 77 [Arg.mk .str s,Arg.mk .str ⟨#[c]⟩] [.str] R:= PC.of_same rfl (λ_=>zjp _) h λw _=>Ww s c b w e
def qdg(gl:Fr):Prop:=∃(cs:Array Value) (m:Int),gl 3=Td cs/\cs[0]?=Td (.int .i64 m)
theorem zjw(w:World)(n:Nat):Below w.heap.size w (w.drewN n):=⟨rfl,rfl,rfl,Ab _,λ_ _=>rfl⟩
theorem zjx{c:Nat}(e:c<=9223372036854775807)(b:s.size*c<=140737488355328){R:Bt->Prop}(h:R (bl (Lib.repeatL (lb s) c))):PC Tp gl 86 [Arg.mk .str s,Arg.mk (.int .i64) (c:Int)] [.str] R:= PC.of_scal rfl (λ_=>zjp _) h λw f=>zhk s c w e b
def Tabs(gl:Fr):Prop:=(∃cs:Array Value,gl 0=Td cs/\∀c,c<256->cs[c]?=Td (.int .u8 (Lib.firstT c)))/\∃cs:Array Value,gl 1=Td cs/\∀i,i<16->cs[2*i]?=Td (.int .u8 (Lib.accLo i))/\cs[2*i+1]?=Td (.int .u8 (Lib.accHi i))
theorem Tabs.at(h:Tabs gl){w:World}(b:AgM gl w.heap):Lib.Utf8Tabs 0 1 w:=by obtain⟨⟨c1,f,b1⟩,c2,a2,b2⟩:=h;exact⟨λc e=>b.glob f (b1 c e),λi hi=>⟨b.glob a2 (b2 i hi).1,b.glob a2 (b2 i hi).2⟩⟩
theorem zse(b:Tabs gl){R:Int×Int->Prop}(h:R ((Lib.decodeGo s).1,(Lib.decodeGo s).2)):PC Tp gl 151 [Arg.mk .str s] [.int .i32,.int .i64] R:= PC.of_scal rfl (λM=>⟨[_,_],⟨_,_,rfl,rfl,_,rfl,rfl⟩,rfl⟩) h λw c=>Y5 s w (b.at c)
theorem z0u(w:World)(k:Nat)(os:Array Obj):Below w.heap.size w (Go.Sort.grow (w.drewN k) os):=⟨rfl,rfl,rfl,by simp[Go.Sort.grow,World.drewN],λi hi=>by show((w.drewN k).heap++os)[i]?=_;exact Cv hi⟩
def Pow(gl : Fr): Prop := ∃ b cs, Tryz.prog.globalNamed "internal/strconv.uint64pow10" = some b ∧ gl b = some cs ∧ cs = (Lib.pow10Tab.map λz => Value.int .u64 z).toArray
theorem z5e(p:Pow gl){n:Int}(h0:-9223372036854775808<=n)(h1:n<=9223372036854775807){R:Bt->Prop}(h:R (bl (Lib.itoa n))):PC Tp gl 79 [Arg.mk (.int .i64) n] [.str] R:=by obtain⟨b,cs,q,r,i⟩:=p;refine PC.of_scal rfl (λ_=>zjp _) h λw o=>(zlv n h0 h1 w ?_).mono λe w' ⟨f,k,os,c⟩=>⟨f,c ▸ z0u w k os⟩;obtain⟨T,m,l⟩:=o b cs r;unfold Lib.TabIs World.var?;rw[q];simp only[CC,l,i]
def zvo(gl:Fr):Prop:=(∃(cs:Array Value) (e:Value),gl 4=Td cs/\cs[0]?=Td e/\(e=.nilIface\/∃b c,e=.iface b c))/\∃(cs:Array Value) (e:Value),gl 5=Td cs/\cs[0]?=Td e/\(e=.nilIface\/∃b c,e=.iface b c)
theorem zvp(k:IntKind)(i:Int)(t:TypeId)(u:Value):Y3 M [.int k,.err] (i,Tc) (.tuple #[.int k i,.iface t u]):=⟨[_,_],⟨_,_,rfl,rfl,.iface t u,rfl,⟨_,rfl,.inr ⟨rfl,_,_,rfl⟩⟩⟩,rfl⟩
theorem zsf(k:IntKind)(i:Int):Y3 M [.int k,.err] (i,Ta) (.tuple #[.int k i,.nilIface]):=⟨[_,_],⟨_,_,rfl,rfl,.nilIface,rfl,⟨_,rfl,.inl ⟨rfl,rfl⟩⟩⟩,rfl⟩
def zjy(l:List UInt8):Int×Bool:=match Lib.parseIntB 64 l with
 |.ok v=>(v,Ta)
 |.range=>(Lib.intSat 64 l,Tc)
 |_=>(0,Tc)
theorem zvq(p:zvo gl)(o:s.size<=281474976710656){R:Int×Bool->Prop}(h:R (zjy (lb s))):PC Tp gl 277 [Arg.mk .str s,Arg.mk (.int .i64) 10,Arg.mk (.int .i64) 64] [.int .i64,.err] R:=by
 unfold zjy at h;cases hx:Lib.parseIntB 64 (lb s)with
 |ok v=>rw[hx]at h;refine PC.of_ex rfl λw f=>(Z9 s (by omega) v hx w).mono λe w' ⟨c,n⟩=>⟨_,(v,Ta),c,λM=>zsf _ _,h,?_⟩;rcases n with rfl|⟨t,rfl⟩;exact Below.refl _ _;exact Lib.bytesWorld_below _ _ _
 |range=>rw[hx]at h;obtain⟨_,⟨cs,k,l,m,i⟩⟩:=p;exact PC.of_ex rfl λw f=>(Zd s o hx k w (f.glob l m) i).mono λe w' ⟨N,c,_,_,b⟩=>⟨_,(Lib.intSat 64 (lb s),Tc),c,λM=>zvp _ _ _ _,h,b⟩
 |_=>rw[hx]at h;obtain⟨⟨cs,k,l,m,i⟩,_⟩:=p;exact PC.of_ex rfl λw f=>(xu s o hx k w (f.glob l m) i).mono λe w' ⟨N,c,_,_,b⟩=>⟨_,(0,Tc),c,λM=>zvp _ _ _ _,h,b⟩
theorem zly{s c:Bt}(k:s.size<4294967281)(i:c.size<4294967281)(e:∀(j:Nat) b,(lb s)[j]?=Td b->b.toNat<128)(f:∀(j:Nat) b,(lb c)[j]?=Td b->b.toNat<128){R:Bool->Prop}(h:R (Lib.containsAny (lb s) (lb c))):
  PC Tp gl 209 [Arg.mk .str s,Arg.mk .str c] [.bool] R:=
 PC.of_scal rfl (λ_=>zoo _) h λw l=>Yi s c w k i e f
end
end Go.X
end
section
namespace Go.X
open Go Go.Lib
section
theorem zf(l:Bs):(bl l).size=l.length:=by rw[<-zbz,yh]
theorem wm(l:Bs)(a b:Nat):(bl l).extract a b=bl ((l.drop a).take (b-a)):=by rw[<-zxv,z0r,yh,yh]
theorem wz(a b:Bs):bl a++bl b=bl (a++b):=by rw[<-zxv,z4s,yh,yh,yh]
theorem jm(l:Bs)(i:Nat):zr (bl l) i=((l[i]?.getD 0).toNat:Int):=by rw[z4t,yh]
theorem zeb(s:Bt):s.toList=lb s:=by
 cases s with
 |mk d=>exact Go.Lib.toList_data ⟨d⟩
theorem zhl(a b:Bs):((bl a).toList==(bl b).toList)=decide (a=b):=by rw[zeb,zeb,yh,yh];rw[AM];simp
theorem zsg{a b:Bs}:bl a=bl b↔a=b:=by rw[<-zxv,yh,yh]
theorem zsh(l:Bs)(p:Nat):nxB (bl l) p=decide (p<l.length):=by rw[AM];simp[nxB,zf]
theorem zsi(l:Bs)(p:Nat):nxR (bl l) p=((dec (l.drop p)).1:Int):=by rw[nxR,zxw,yh]
theorem zjz(l:Bs)(p:Nat)(h:p<l.length):nxP (bl l) p=p+(dec (l.drop p)).2:=by
 rw[nxP,zxw,yh];have:Nat.blt p (bl l).size=Ta:=by simp[zf,h]
 rw[this];rfl
theorem z5f{l:Bs}{i:Nat}(h:i<l.length):l[i]?.getD 0=l[i]:=by rw[Ak h];rfl
def jb(c:UInt8):Bool:=decide (48<=c.toNat)&&decide (c.toNat<=57)
def J3(l:Bs):Bool:=l.all jb && !l.isEmpty
abbrev Nm:=Bool×Bs×Int
abbrev nmB(n:Nm):Bool×Bt×Int:=(n.1,(bl n.2.1,n.2.2))
def zak(n:Nm):Bool:=!n.1&&(n.2.1.isEmpty&&n.2.2==0)
def yo(n:Nm):Bool:=zak n||(J3 n.2.1&&decide (n.2.1.length<=1000)&&n.2.1.head? != Td 48&&n.2.1.getLast? != Td 48&&decide (-1000000<=n.2.2)&&decide (n.2.2<=1000000))
def qm(n:Nm):Bs:=if yo n then(if n.2.1=[]then [48]else(if n.1 then [45]else [])++n.2.1++(if n.2.2=0 then []else 101::Go.Lib.itoa n.2.2))else []
theorem zj0{n:Nm}(h:yo n=Ta)(e:n.2.1=[]):zak n=Ta:=by unfold yo at h;rcases BK _ _ ▸ h with h|h;exact h;simp[J3,e]at h
theorem zcq{n:Nm}(h:yo n=Ta):n.2.1.length<=1000/\-1000000<=n.2.2/\n.2.2<=1000000:=by unfold yo zak at h;obtain⟨a,d,e⟩:=n;simp at h;rcases h with⟨_,h,h'⟩|h;subst h;subst h';simp;simp only;omega
def cutAt(p:UInt8->Bool):Bs->Bs×Bs×Bool
 |[]=>([],[],Tc)
 |c::l=>if p c then([],l,Ta)else(c::(cutAt p l).1,(cutAt p l).2)
theorem zbh{p:UInt8->Bool}:∀{l},(∀c∈l,p c=Tc)->cutAt p l=(l,[],Tc)
 |[],_=>rfl
 |c::l,h=>by unfold cutAt;rw[if_neg (by simp[h c (by simp)]),zbh λc b=>h c (by simp[b])]
theorem zo4{p:UInt8->Bool}:∀{l:Bs} {k:Nat} (b:k<l.length),(∀i (hi:i<k),p (l[i]'(by omega))=Tc)->p l[k]=Ta->cutAt p l=(l.take k,l.drop (k+1),Ta)
 |c::l,0,_,_,h=>by unfold cutAt;rw[if_pos (by simpa using h)];simp
 |c::l,k+1,b,h0,h=>by unfold cutAt;have h1:p c=Tc:=h0 0 (by omega);rw[if_neg (by simp[h1]),zo4 (k:=k) (by simpa using b) (λi hi=>by simpa using h0 (i+1) (by omega)) (by simpa using h)];simp
structure Lit where
 neg:Bool
 whole:Bs
 rest:Bs
 low:Bool
 exp:Bs
def zqz(s:Bs):Bs:=if s.head?==Td 45 then s.tail else s
def isE(c:UInt8):Bool:=c==101||c==69
def zj1(c:UInt8):Bool:=c==46
def Zr(s:Bs):Bs×Bs×Bool:=cutAt isE (zqz s)
def Q5(s:Bs):Bool:=(Zr s).2.2&&(Zr s).2.1.head?==Td 45
def zlh(s:Bs):Bs:=if Q5 s then(Zr s).2.1.tail else if(Zr s).2.1.head?==Td 43 then(Zr s).2.1.tail else(Zr s).2.1
def Ze(s:Bs):Bs×Bs×Bool:=cutAt zj1 (Zr s).1
def zec(s:Bs):Bool:=(!(Zr s).2.2||J3 (zlh s))&&J3 (Ze s).1&&(!(Ze s).2.2||J3 (Ze s).2.1)&&((Ze s).1==[48]||(Ze s).1.head? != Td 48)
def zhm(s:Bs):Lit:=⟨s.head?==Td 45,(Ze s).1,(Ze s).2.1,Q5 s,if(Zr s).2.2 then zlh s else []⟩
def Xm(s:Bs):Option Lit:=if zec s then Td (zhm s)else Te
theorem zcr{s:Bs}{x:Lit}(h:Xm s=Td x):zec s=Ta/\x=zhm s:=by unfold Xm at h;split at h;rename_i e;exact⟨e,(Az h).symm⟩;exact absurd h (by simp)
theorem Jq{p:UInt8->Bool}:∀{l:Bs},(cutAt p l).2.2=Tc->(cutAt p l).1=l/\(cutAt p l).2.1=[]
 |[],_=>⟨rfl,rfl⟩
 |c::l,h=>by unfold cutAt at h ⊢;split;rename_i e;rw[if_pos e]at h;exact absurd h (by simp);rename_i e;rw[if_neg e]at h;have:=Jq h;exact⟨by simp[this.1],this.2⟩
def yp(l:Bs):Bs:=((l.dropWhile (· == 48)).reverse.dropWhile (· == 48)).reverse
def zm(l:Bs):Nat:=l.foldl (λn c=>10*n+(c.toNat-48)) 0
def zj(s:Bs):Nm×Int:=match Xm s with
 |none=>((Tc,[],0),2)
 |some x=>
  if x.whole.length+x.rest.length>1000 then((Tc,[],0),3)
  else if(x.exp.dropWhile (· == 48)).length>9 then((Tc,[],0),4)
  else
   let e:Int:=if x.low then-(zm (x.exp.dropWhile (· == 48)):Int)else zm (x.exp.dropWhile (· == 48))
   let d:=(x.whole++x.rest).dropWhile (· == 48)
   let b:=yp (x.whole++x.rest)
   if d=[]then((Tc,[],0),0)
   else if -1000000<=e-x.rest.length+d.length-b.length/\e-x.rest.length+d.length-b.length<=1000000 then((x.neg,b,e-x.rest.length+d.length-b.length),0)
   else((Tc,[],0),4)
def qbh(n:Nm):Int×Bool:=
 if yo n&&decide (0<=n.2.2)&&decide ((n.2.1.length:Int)+n.2.2<=19)then
  let v:Int:=if n.1 then-((zm n.2.1*10 ^ n.2.2.toNat:Nat):Int)else(zm n.2.1*10 ^ n.2.2.toNat:Nat)
  if -9223372036854775808<=v/\v<=9223372036854775807 then(v,Ta)else(0,Tc)
 else(0,Tc)
end
end Go.X
end
section
namespace Go.X
section
variable {n:Nat} {l:Bs} {gl:Fr} {R:Bool -> Prop}
theorem jc{k n:Nat}(h:k<n)(b:n<=4611686018427387904):Aa .i64 ((k:Int)+1)=((k+1:Nat):Int):=z2v (by omega)
theorem qfm(h:l≠[]):(48<=(dec l).1/\(dec l).1<=57)->(dec l).2=1/\∃c t,l=c::t/\jb c=Ta/\(dec l).1=c.toNat:=by obtain⟨c,t,rfl⟩:=Bq h;intro b;by_cases e:c.toNat<128;rw[zah e]at b ⊢;exact⟨rfl,c,t,rfl,by simp[jb];simpa using b,rfl⟩;exfalso;unfold dec at b;have b0:((c::t).getD 0 0).toNat=c.toNat:=rfl;rw[b0]at b;have:=c.toNat_lt;have b1:=((c::t).getD 1 0).toNat_lt;have b2:=((c::t).getD 2 0).toNat_lt;have b3:=((c::t).getD 3 0).toNat_lt;generalize ((c::t).getD 1 0).toNat=x1 at *;generalize ((c::t).getD 2 0).toNat=x2 at *;generalize ((c::t).getD 3 0).toNat=x3 at *;generalize c.toNat=x0 at *;unfold Lib.decodeN at b;rw[if_neg e]at b;split at b;split at b <;> simp only at b <;> omega;split at b;split at b <;> simp only at b <;> omega;split at b;split at b <;> simp only at b <;> omega;simp only at b;omega
theorem zed(h:R (J3 l)):PC Tp gl 141 [Arg.mk .str (bl l)] [.bool] R:=by
 apply zhj;refine⟨λp=>p.1=bl l/\p.2<=l.length/\(l.drop p.2).all jb=l.all jb,λp=>l.length-p.2,⟨rfl,by omega,by simp⟩,?_⟩;rintro⟨_,p⟩ ⟨rfl,q,m⟩;simp only at q m ⊢;rw[zsh,zsi];refine⟨λn=>⟨n,λf=>?_,λf=>?_⟩,λn=>?_⟩;all_goals first
  |have k:p<l.length:=by simpa using n
  |have k:¬p<l.length:=by simpa using n
 have i:l.drop p≠[]:=λe=>by have:=congrArg Cd e;simp at this;omega
 have o:¬(48<=(dec (l.drop p)).1/\(dec (l.drop p)).1<=57):=by rw[Bool.cond_true_left]at f;rcases BK _ _ ▸ f with f|f <;> simp at f <;> omega
 have s:l.all jb=Tc:=by
  rw[<-m];obtain⟨c,t,e⟩:=Bq i;rw[e];cases b:jb c with
  |false=>simp[b]
  |true=>
   exfalso;apply o;have:c.toNat<128:=by simp[jb]at b;omega
   rw[e,zah this];simpa[jb]using b
 have:J3 l=Tc:=by simp[J3,s]
 rw[this]at h;exact h;have i:l.drop p≠[]:=λe=>by have:=congrArg Cd e;simp at this;omega
 have o:48<=(dec (l.drop p)).1/\(dec (l.drop p)).1<=57:=by rw[Bool.cond_true_left]at f;have:=Do.1 f;simp at this;omega
 obtain⟨h1,c,t,e,b,_⟩:=qfm i o;rw[zjz l p k,h1];refine⟨⟨trivial,by omega,?_⟩,by omega⟩;have r:l.drop (p+1)=t:=by rw[<-BM,e];rfl
 rw[r,<-m,e];simp[b];have:l.drop p=[]:=Br (by omega);rw[this]at m;have e:J3 l=!(decide (l=[])):=by rw[J3,<-m];cases l <;> simp
 have:=zhl l [];rw[show(⟨#[]⟩:Bt)=bl []from rfl,this,<-e];exact h
abbrev tN:Ty:=.pair .bool (.pair .str (.int .i64))
theorem zxy(h:0<l.length):(((l[0]?.getD 0).toNat:Int) != 48)=(l.head? != Td 48):=by
 cases l with
 |nil=>simp at h
 |cons c t=>rw[AM];simp;constructor;intro h1 b;exact h1 (by rw[b];rfl);intro h1 b;exact h1 (UInt8.toNat_inj.1 (by(have:c.toNat=48:=by omega);rw[this];rfl))
theorem qbi(h:0<l.length):(((l[l.length-1]?.getD 0).toNat:Int) != 48)=(l.getLast? != Td 48):=by rw[List.getLast?_eq_getElem?];rw[Ak (by omega)];rw[AM];simp;constructor;intro h1 b;exact h1 (by rw[b];rfl);intro h1 b;exact h1 (UInt8.toNat_inj.1 (by(have:l[l.length-1].toNat=48:=by omega);rw[this];rfl))
theorem zxz(h:J3 l=Ta):0<l.length:=by
 cases l with
 |nil=>simp[J3]at h
 |cons=>simp
theorem qfn(h:0<n)(b:n<=4611686018427387904):Aa .i64 ((n:Int)-1)=((n-1:Nat):Int):=by rw[wrap64 (by omega) (by omega)];omega
theorem zo5{n:Nm}(m:n.2.1.length<=4611686018427387904)(h:R (yo n)):PC Tp gl 78 [Arg.mk tN (nmB n)] [.bool] R:=by
 apply zju;simp only[show(⟨#[]⟩:Bt)=bl []from rfl,zhl,zf,jm];have e:((n.1==Tc)&&(decide (n.2.1=[])&&((n.2.2==0)&&Ta)))=zak n:=by unfold zak;rcases n with⟨_|_,_|⟨_,_⟩,e⟩ <;> simp
 rw[e];refine⟨λh1=>?_,λh1=>?_⟩;have:yo n=Ta:=by simp[yo,h1]
 rw[this]at h;exact h
 ·unfold yo at h;rw[h1,Dw]at h;refine zed ⟨λk=>⟨λ_=>?_,λf=>?_⟩,λk=>⟨λf=>⟨λ_=>?_,λc=>?_⟩,λf=>⟨?_,λc=>⟨λ_=>?_,λb=>?_⟩,λc=>⟨?_,λb=>?_,λb=>?_⟩⟩⟩⟩;have:J3 n.2.1=Tc:=by simpa using k
  rw[this]at h;simpa using h;rw[k]at f;cases f;have:decide (n.2.1.length<=1000)=Tc:=by simp at f ⊢;omega
  rw[this]at h;simpa using h;rw[f]at c;cases c;all_goals
   have p:J3 n.2.1=Ta:=by simpa using k
   have i:=zxz p;have l:decide (n.2.1.length<=1000)=Ta:=by simp at f ⊢;omega
   have o:=zxy i;have el:=qbi i
  omega;have:(n.2.1.head? != Td 48)=Tc:=by rw[<-o];simp at c ⊢;exact c
  rw[this]at h;simpa using h;rw[c]at b;cases b;rw[qfn i m];omega;have:(n.2.1.getLast? != Td 48)=Tc:=by rw[<-el];rw[qfn i m]at b;simp at b ⊢;exact b
  rw[this]at h;simpa using h;have q:(n.2.1.head? != Td 48)=Ta:=by rw[<-o];simp at c ⊢;exact c
  have r:(n.2.1.getLast? != Td 48)=Ta:=by rw[<-el];rw[qfn i m]at b;simp at b ⊢;exact b
  rw[p,l,q,r]at h;simp only[Cc]at h;rw[Bool.cond_false_right];exact h
end
end Go.X
end
section
namespace Go.X
open Go Go.Lib
section
variable {n k:Nat} {l s:Bs}
theorem u8n{c:UInt8}(b:n<256):c=Bb n↔c.toNat=n:=by constructor;rintro rfl;simp;omega;intro h;rw[<-h];simp
theorem xw(c:UInt8):∀l:Bs,-1<=indexByte l c/\(0<=indexByte l c↔c∈l)
 |[]=>by simp[indexByte]
 |b::l=>by have i:=xw c l;unfold indexByte;by_cases h:b=c;simp[h];have h':¬c=b:=λe=>h e.symm;simp only[beq_iff_eq,h,if_false,Ai,h',false_or];obtain⟨k,f⟩:=i;split;rename_i e;rw[e]at f;exact⟨by omega,by rw[<-f]⟩;rename_i e;refine⟨by omega,?_⟩;rw[<-f];omega
theorem Wy(u:Nat):(decDigits u).length<=u+1:=by rw[decDigits];split;simp;rename_i h;have:=Wy (u / 10);simp;omega
theorem itoa_len(n:Int):(itoa n).length<=n.natAbs+2:=by unfold itoa;split;have:=Wy n.natAbs;simp;omega;have:=Wy n.toNat;omega
theorem zee(l:Bs)(c:UInt8):hasPrefix l [c]=(l.head?==Td c):=by
 cases l with
 |nil=>rfl
 |cons b t=>simp[hasPrefix,List.isPrefixOf];rw[AM];simp;exact eq_comm
theorem zb0(l:Bs)(c:UInt8):trimPrefix l [c]=if l.head?==Td c then l.tail else l:=by unfold trimPrefix;rw[zee];split <;> simp
theorem zj2(l:Bs)(c:UInt8):zm (l++[c])=10*zm l+(c.toNat-48):=by simp[zm,List.foldl_append]
theorem zj3(b:k<l.length):zm (l.take (k+1))=10*zm (l.take k)+(l[k].toNat-48):=by rw[Ay b,zj2]
theorem zx0{p:UInt8->Bool}(h:l.all p=Ta)(k:Nat):(l.take k).all p=Ta:=by rw[Av]at h ⊢;exact λx b=>h x (List.mem_of_mem_take b)
theorem qdh(h:l.all jb=Ta)(b:k<l.length):48<=l[k].toNat/\l[k].toNat<=57:=by have:=Av.1 h _ (AE b);simpa[jb]using this
theorem zsj:∀(n:Nat) (l:Bs),l.length=n->l.all jb=Ta->zm l<10 ^ n
 |0,l,h,_=>by have:l=[]:=AO h;subst this;simp[zm]
 |n+1,l,h,hd=>by
  have b:l=l.take (n+1):=by rw[<-h,A5]
  rw[b,zj3 (by omega)];have h1:=zsj n (l.take n) (by simp;omega) (zx0 hd n);have c:=qdh hd (k:=n) (by omega);rw[DI];omega
theorem zj4(b:l.length<=n)(h:l.all jb=Ta):zm l<10 ^ n:= CV (zsj _ l rfl h) (Nat.pow_le_pow_right (by omega) b)
theorem Yw(h:J3 l=Ta):l.all jb=Ta:=by unfold J3 at h;exact(Bool.and_eq_true_iff.1 h).1
theorem Wz{p q:UInt8->Bool}(h:l.all p=Ta):(l.dropWhile q).all p=Ta:=by rw[Av]at h ⊢;exact λx b=>h x ((List.dropWhile_sublist q).mem b)
theorem xx(l:Bs)(q:UInt8->Bool):(l.dropWhile q).length<=l.length:=(List.dropWhile_sublist q).length_le
theorem zb1{q:UInt8->Bool}:∀c,(l.dropWhile q).head?=Td c->q c=Tc:=by
 induction l with
 |nil=>simp
 |cons b t f=>intro c h;rw[List.dropWhile_cons]at h;split at h;exact f c h;rename_i e;simp at h;subst h;exact Bool.eq_false_iff.2 e
theorem zef(h:l.all jb=Ta)(i:l.dropWhile (· == 48)≠[]):J3 (yp l)=Ta/\(yp l).length<=(l.dropWhile (· == 48)).length/\((yp l).head? != Td 48)=Ta/\((yp l).getLast? != Td 48)=Ta:=by
 unfold yp;obtain⟨c,t,f⟩:=Bq i;have k:(c==48)=Tc:=by have:=zb1 (l:=l) (q:=(· == 48)) c (by rw[f];rfl);simpa using this
 have key:∀(t:Bs),∃u,((c::t).reverse.dropWhile (· == 48)).reverse=c::u:=by
  intro t;rw[List.reverse_cons];have n:∀(r:Bs),∃u,(r++[c]).dropWhile (· == 48)=u++[c]:=by
   intro r;induction r with
   |nil=>exact⟨[],by simp[k]⟩
   |cons b r m=>rw[AD,List.dropWhile_cons];split;exact m;exact⟨b::r,rfl⟩
  obtain⟨u,e⟩:=n t.reverse;exact⟨u.reverse,by rw[e];simp⟩
 rw[f];obtain⟨u,e⟩:=key t;refine⟨?_,?_,?_,?_⟩;rw[J3,Bool.and_eq_true_iff];refine⟨?_,by rw[e];rfl⟩;rw[List.all_reverse];apply Wz;rw[List.all_reverse,<-f];exact Wz h;rw[List.length_reverse];refine BX (xx _ _) ?_;simp;rw[e];simp;simpa using k;rw[List.getLast?_reverse];cases hh:((c::t).reverse.dropWhile (· == 48)).head? with
 |none=>rfl
 |some x=>have:=zb1 (l:=(c::t).reverse) (q:=(· == 48)) x hh;simpa using this
theorem zm6(h:l.all jb=Ta)(b:l.dropWhile (· == 48)≠[])(k:l.length<=1000)(neg:Bool)(e:Int):yo (neg,yp l,e)=(decide (-1000000<=e)&&decide (e<=1000000)):=by
 obtain⟨h1,n,i,f⟩:=zef h b;have m:=xx l (· == 48);have c:(yp l).isEmpty=Tc:=by rw[J3]at h1;have:=(Bool.and_eq_true_iff.1 h1).2;simpa using this
 unfold yo zak;simp only[h1,i,f,c,Bool.and_false,DJ,Dw,Cc];have:decide ((yp l).length<=1000)=Ta:=by simp;omega
 rw[this];simp
theorem zj5{x:Lit}(h:Xm s=Td x):J3 x.whole=Ta/\x.rest.all jb=Ta/\x.exp.all jb=Ta:=by
 obtain⟨b,rfl⟩:=zcr h;unfold zec at b;simp only[Ao]at b;obtain⟨⟨⟨h1,e⟩,c⟩,f⟩:=b;refine⟨e,?_,?_⟩;show(Ze s).2.1.all jb=Ta;cases hp:(Ze s).2.2 with
 |true=>rw[hp]at c;exact Yw (by simpa using c)
 |false=>rw[show(Ze s).2.1=[]from(Jq hp).2];rfl
 show(if(Zr s).2.2 then zlh s else []).all jb=Ta;cases hm:(Zr s).2.2 with
 |true=>rw[hm]at h1;simpa using Yw (by simpa using h1)
 |false=>rfl
theorem zfy(p:UInt8->Bool)(l:Bs):(cutAt p l).1.length+(cutAt p l).2.1.length<=l.length:=by
 induction l with
 |nil=>simp[cutAt]
 |cons c t b=>unfold cutAt;split <;> simp <;> omega
theorem zm7{x:Lit}(h:Xm s=Td x):x.whole.length+x.rest.length+x.exp.length<=s.length:=by
 obtain⟨b,rfl⟩:=zcr h;have h1:(zqz s).length<=s.length:=by unfold zqz;split <;> simp
 have i:=zfy isE (zqz s);have f:=zfy zj1 (Zr s).1;have c:(zlh s).length<=(Zr s).2.1.length:=by unfold zlh;split;simp;split <;> simp
 have e:(if(Zr s).2.2 then zlh s else []).length<=(Zr s).2.1.length:=by split;exact c;simp
 show(Ze s).1.length+(Ze s).2.1.length+(if(Zr s).2.2 then zlh s else []).length<=s.length;unfold Ze;unfold Zr at *;omega
end
end Go.X
end
section
namespace Go.X
section
variable {gl:Fr} {l s:Bs}
theorem qim(c:UInt8):(((c.toNat:Int)).toNat).toUInt8=c:=by simp
theorem qdi{l sep:Bs}{p:UInt8->Bool}(s:∀c,p c=Ta↔c∈sep)(w:l.length<=4611686018427387904){R:Bt×Bt×Bool->Prop}(h:R (bl (cutAt p l).1,bl (cutAt p l).2.1,(cutAt p l).2.2)):
  PC Tp gl 139 [Arg.mk .str (bl l),Arg.mk .str (bl sep)] [.str,.str,.bool] R:=by
 apply zot;simp only[zf,jm,wm];refine⟨λi=>∃k:Nat,i=k/\k<=l.length/\∀j (f:j<l.length),j<k->p l[j]=Tc,λi=>l.length-i.toNat,⟨0,rfl,by omega,λj _ h=>by omega⟩,?_⟩;rintro i ⟨k,rfl,x,r⟩;refine⟨λo=>?_,λo=>?_⟩;have b:k<l.length:=by simpa using o
 simp only[Ag,z5f b];refine⟨by omega,zaj ?_⟩;rw[qim,yh];have t:=(xw l[k] sep).2;rw[jc b w];refine⟨λq=>⟨by omega,by omega,?_⟩,λq=>⟨⟨k+1,rfl,by omega,λj f u=>?_⟩,by simp;omega⟩⟩;have n:p l[k]=Ta:=(s _).2 (t.1 (by simpa using q));rw[zo4 b (λj f=>r j (by omega) f) n]at h;simp only[Ag,Int.toNat_zero,BQ,Nat.sub_zero];rw[BE (l:=l.drop (k+1)) (by simp)];exact h;by_cases e:j=k;subst e;cases hpj:p l[j]with
 |false=>rfl
 |true=>exact absurd (t.2 ((s _).1 hpj)) (by simpa using q)
 exact r j f (by omega);have b:¬k<l.length:=by simpa using o
 rw[zbh (λc m=>by obtain⟨j,f,rfl⟩:=List.getElem_of_mem m;exact r j f (by omega))]at h;exact h
theorem zm8{c:UInt8}{R:Bt×Bool->Prop}(h:R (bl (if l.head?==Td c then l.tail else l),l.head?==Td c)):PC Tp gl 138 [Arg.mk .str (bl l),Arg.mk .str (bl [c])] [.str,.bool] R:=by refine zsc ?_;rw[yh,yh,zb0,zee];exact h
theorem zvr{c:UInt8}{R:Bt->Prop}(h:R (bl (if l.head?==Td c then l.tail else l))):PC Tp gl 140 [Arg.mk .str (bl l),Arg.mk .str (bl [c])] [.str] R:=by refine zo3 ?_;rw[yh,yh,zb0];exact h
theorem zj6{R:Bt->Prop}(h:R (bl (l.dropWhile (· == 48)))):PC Tp gl 76 [Arg.mk .str (bl l),Arg.mk .str (bl [48])] [.str] R:=by refine zvn (c:=48) (by decide) ?_;rw[yh];exact h
theorem z0v(b:l.length<=4611686018427387904){R:Bt->Prop}(h:R (bl (l.reverse.dropWhile (· == 48)).reverse)):PC Tp gl 77 [Arg.mk .str (bl l),Arg.mk .str (bl [48])] [.str] R:=by refine zsd (c:=48) (by decide) (by rw[zf];omega) ?_;rw[yh];exact h
theorem qfo(S:s.length<=4611686018427387904){R:(Bool×Bool×Bt×Bt×Bt)×Bool->Prop} (h1:zec s=Ta->R (((zhm s).neg,(zhm s).low,bl (zhm s).whole,bl (zhm s).rest,bl (zhm s).exp),Ta)) (D:zec s=Tc->∀a b c d e,R ((a,b,bl c,bl d,bl e),Tc)):
  PC Tp gl 75 [Arg.mk .str (bl s)] [.pair .bool (.pair .bool (.pair .str (.pair .str .str))),.bool] R:=by
 apply zlt;refine zm8 (c:=45) ?_;dsimp only;have Q:(zqz s).length<=s.length:=by unfold zqz;split <;> simp
 have O:=zfy isE (zqz s);refine qdi (l:=zqz s) (sep:=[101,69]) (p:=isE) (λc=>by simp[isE]) (by omega) ?_;dsimp only;have I:(Zr s).1.length+(Zr s).2.1.length<=(zqz s).length:=O;have tail:∀(e:Bs) (low:Bool),((Zr s).2.2=Ta->J3 (zlh s)=Ta/\low=Q5 s/\e=zlh s)->((Zr s).2.2=Tc->low=Tc/\e=[]) ->
   PC Tp gl 139 [Arg.mk .str (bl (Zr s).1),Arg.mk .str (bl [46])] [.str,.str,.bool] (λf:Bt×Bt×Bool=>PC Tp gl 141 [Arg.mk .str f.1] [.bool] (λm:Bool=>∃t:Bool->Prop,(((!(!m))&&f.2.2)=Ta->PC Tp gl 141 [Arg.mk .str f.2.1] [.bool] t) /\ ∀q:Bool,(((!(!m))&&f.2.2)=Ta->t q)->((bif (!m)then Ta else(bif f.2.2 then(!q)else Tc))=Ta->R ((s.head?==Td 45,(low,(f.1,(f.2.1,bl e)))),Tc)) /\ ((bif (!m)then Ta else(bif f.2.2 then(!q)else Tc))=Tc->((!((f.1:Bt).toList==((⟨#[48]⟩:Bt):Bt).toList))=Ta->(0<=(0:Int)/\(0:Int)<((f.1).size:Int))) /\ R ((s.head?==Td 45,(low,(f.1,(f.2.1,bl e)))),bif ((f.1:Bt).toList==((⟨#[48]⟩:Bt):Bt).toList)then Ta else((zr f.1 (0:Int).toNat:Int) != 48))))):=by
  intro e low N k2;have w:(!(Zr s).2.2||J3 (zlh s))=Ta/\Q5 s=low/\(if(Zr s).2.2 then zlh s else [])=e:=by
   cases A:(Zr s).2.2 with
   |true=>obtain⟨a,b,c⟩:=N A;exact⟨by simp[a],b.symm,by simp[c]⟩
   |false=>obtain⟨a,b⟩:=k2 A;exact⟨rfl,by unfold Q5;rw[A,a];rfl,by simp[b]⟩
  refine qdi (l:=(Zr s).1) (sep:=[46]) (p:=zj1) (λc=>by simp[zj1]) (by omega) ?_;refine zed ⟨λx=>J3 (Ze s).2.1=x,λ_=>zed rfl,λy G=>?_⟩;dsimp only;simp only[show(⟨#[48]⟩:Bt)=bl [48]from rfl,zhl,zf,jm];change (_->J3 (Ze s).2.1=y)at G;show((bif (!J3 (Ze s).1)then Ta else(bif (Ze s).2.2 then(!y)else Tc))=Ta->R ((s.head?==Td 45,(low,(bl (Ze s).1,(bl (Ze s).2.1,bl e)))),Tc)) /\ ((bif (!J3 (Ze s).1)then Ta else(bif (Ze s).2.2 then(!y)else Tc))=Tc->((!decide ((Ze s).1=[48]))=Ta->(0<=(0:Int)/\(0:Int)<((Ze s).1.length:Int))) /\ R ((s.head?==Td 45,(low,(bl (Ze s).1,(bl (Ze s).2.1,bl e)))),bif decide ((Ze s).1=[48])then Ta else(((((Ze s).1[(0:Int).toNat]?).getD 0).toNat:Int) != 48)));have B:J3 (Ze s).1=Ta->(Ze s).2.2=Ta->J3 (Ze s).2.1=y:=λa b=>G (by show((!(!J3 (Ze s).1))&&(Ze s).2.2)=Ta;rw[a,b];rfl);refine⟨λi=>D ?_ _ _ _ _ _,λi=>⟨λ_=>?_,?_⟩⟩;unfold zec;cases r:J3 (Ze s).1 with
  |false=>simp
  |true=>
   rw[r]at i;cases hw:(Ze s).2.2 with
   |false=>rw[hw]at i;simp at i
   |true=>rw[hw]at i;have:=B r hw;rw[this];simp at i;simp[i]
  all_goals
   have r:J3 (Ze s).1=Ta:=by
    cases r:J3 (Ze s).1 with
    |true=>rfl
    |false=>rw[r]at i;simp at i
   have H:=zxz r
  omega;have P:(!(Ze s).2.2||J3 (Ze s).2.1)=Ta:=by
   cases hw:(Ze s).2.2 with
   |false=>rfl
   |true=>rw[r,hw]at i;have:=B r hw;rw[this];simpa using i
  have L:(bif decide ((Ze s).1=[48])then Ta else(((((Ze s).1[(0:Int).toNat]?).getD 0).toNat:Int) != 48))=((Ze s).1==[48]||(Ze s).1.head? != Td 48):=by rw[show(0:Int).toNat=0 from rfl,zxy H,Bool.cond_true_left,AM];simp
  have u:zec s=((Ze s).1==[48]||(Ze s).1.head? != Td 48):=by unfold zec;rw[w.1,r,P];simp
  rw[L];cases ho:((Ze s).1==[48]||(Ze s).1.head? != Td 48)with
  |true=>have:=h1 (u.trans ho);unfold zhm at this;rw[w.2.1,w.2.2]at this;exact this
  |false=>exact D (u.trans ho) _ _ _ _ _
 intro K F;refine⟨λA=>?_,λA=>?_⟩;have o:(Zr s).2.2=Ta:=A;refine zm8 (c:=45) (l:=(Zr s).2.1) ?_;dsimp only;intro M C;have step:∀low e,low=Q5 s->e=zlh s->M (bl e) (s.head?==Td 45) low (bl []) (bl []) (bl []):=by
  intro low e E z;refine C _ _ _ _ _ _ (zed ⟨λi=>?_,λi=>?_⟩);refine D ?_ _ _ [] [] [];unfold zec;rw[o,<-z];have:J3 e=Tc:=by simpa using i
  rw[this];rfl;refine F _ _ _ _ _ _ (tail e low (λ_=>⟨by rw[<-z];simpa using i,E,z⟩) λh=>by rw[o]at h;cases h)
 have n:Q5 s=((Zr s).2.1.head?==Td 45):=by unfold Q5;rw[o];rfl
 refine⟨λi=>?_,λi=>?_⟩;have k:((Zr s).2.1.head?==Td 45)=Tc:=by simpa using i
 rw[k];refine zvr (c:=43) ?_;simp only[Bc,if_false];refine step Tc _ (by rw[n,k]) ?_;unfold zlh;rw[n,k];simp;have k:((Zr s).2.1.head?==Td 45)=Ta:=by simpa using i
 rw[k];simp only[if_true];refine step Ta _ (by rw[n,k]) ?_;unfold zlh;rw[n,k];simp;have o:(Zr s).2.2=Tc:=A;have J:(Zr s).2.1=[]:=(Jq o).2;have:=tail [] Tc (λh=>by rw[o]at h;cases h) λ_=>⟨rfl,rfl⟩;show K (bl (Zr s).2.1) _ _ _ _ _;rw[J];exact F _ _ _ _ _ _ this
theorem qin{α β γ δ:Type}{B:α->β->γ->δ->Prop}{c:Bool}{a b:α}{x:β}{y:γ}{z:δ}(h:∀e,e=(bif c then a else b)->B e x y z):∀K:α->β->γ->δ->Prop,(∀e x y z,B e x y z->K e x y z)->(c=Ta->K a x y z)/\(c=Tc->K b x y z):= λK i=>⟨λf=>i _ _ _ _ (h _ (by subst f;rfl)),λf=>i _ _ _ _ (h _ (by subst f;rfl))⟩
theorem w64{n:Int}(h:-4611686018427387904<=n/\n<=4611686018427387904):Aa .i64 n=n:=wrap64 (by omega) (by omega)
set_option maxHeartbeats 1000000 in
theorem zic(Y:s.length<=1152921504606846976){R:(Bool×Bt×Int)×Int->Prop}(h:R (nmB (zj s).1,(zj s).2)):PC Tp gl 25 [Arg.mk .str (bl s)] [tN,.int .i64] R:=by
 apply zjv;refine qfo (by omega) (λr=>?_) (λr a b c d e=>?_);rotate_left;refine zj6 ⟨λ_=>?_,λm=>by cases m⟩;have:Xm s=Te:=by unfold Xm;simp[r]
 unfold zj at h;rw[this]at h;exact h;have i:Xm s=Td (zhm s):=by unfold Xm;simp[r]
 have I:=zm7 i;obtain⟨S,d2,J⟩:=zj5 i;unfold zj at h;rw[i]at h;simp only at h;generalize zhm s=x at *;refine zj6 ⟨λm=>(by cases m),λ_=>?_⟩;simp only[zf];rw[w64 (by omega)];refine⟨λm=>?_,λm=>?_⟩;rw[if_pos (by simp at m;omega)]at h;exact h;rw[if_neg (by simp at m;omega)]at h;refine⟨λk=>?_,λk=>?_⟩;rw[if_pos (by simp at k;omega)]at h;exact h;rw[if_neg (by simp at k;omega)]at h;have F:x.whole.length+x.rest.length<=1000:=by simp at m;omega
 have P:x.exp.all jb=Ta:=J;generalize Q:x.exp.dropWhile (· == 48)=E at *;have u:E.all jb=Ta:=by rw[<-Q];exact Wz J
 have D:E.length<=9:=by simp at k;omega
 have N:zm E<10 ^ 9:=zj4 D u;refine⟨λe _ _ _ p=>p.1=bl E/\p.2<=E.length/\e=(zm (E.take p.2):Int),λ_ _ _ _ p=>E.length-p.2,⟨rfl,by omega,by simp[zm]⟩,?_⟩;rintro e b1 b2 b3 ⟨_,p⟩ ⟨rfl,M,rfl⟩;simp only at M ⊢;rw[zsh,zsi];refine⟨λz=>⟨z,?_⟩,λz=>?_⟩;have f:p<E.length:=by simpa using z
 have Z:=qdh u f;have C:E.drop p=E[p]::E.drop (p+1):=Bw f;rw[zjz E p f,C,zah (by omega)];have O:=zj4 (n:=9) (l:=E.take p) (by simp;omega) (zx0 u p);rw[zai (by omega) (by omega),w64 (n:=10*_) (by omega),w64 (n:=(_:Int)-48) (by omega),w64 (by omega)];simp only;refine⟨⟨trivial,by omega,?_⟩,by omega⟩;rw[zj3 f];omega;have f:¬p<E.length:=by simpa using z
 have H:p=E.length:=by omega
 subst H;rw[A5];apply qin;intro w B;refine⟨by unfold wu;omega,?_⟩;rw[wz];refine zj6 ?_;rw[show(⟨#[]⟩:Bt)=bl []from rfl];simp only[zhl];have L:(x.whole++x.rest).all jb=Ta:=by rw[Dd,Yw S,d2];rfl
 refine⟨λo=>?_,λo=>?_⟩;rw[if_pos (by simpa using o)]at h;exact h;have q:(x.whole++x.rest).dropWhile (· == 48)≠[]:=by simpa using o
 rw[if_neg q]at h;have G:=xx (x.whole++x.rest) (· == 48);rw[Ah]at G;refine z0v (by omega) ?_;have U:=(zef L q).2.1;have A:=zm6 L q (by rw[Ah];exact F);simp only[zf,show((List.dropWhile (λx=>x==48) (x.whole++x.rest)).reverse.dropWhile (λx=>x==48)).reverse=yp (x.whole++x.rest)from rfl];have y:w=if x.low then-(zm E:Int)else(zm E:Int):=by rw[B];cases x.low <;> simp;exact w64 (by omega)
 have V:-1000000000<=w/\w<=1000000000:=by rw[y];split <;> omega
 rw[w64 (n:=w-_) (by omega),w64 (n:=w-_+_) (by omega),w64 (by omega)];refine zo5 (n:=(x.neg,yp (x.whole++x.rest),w-(x.rest.length:Int)+(((x.whole++x.rest).dropWhile (· == 48)).length:Int)-((yp (x.whole++x.rest)).length:Int))) (by simp only;omega) ?_;rw[A];change R (nmB (if -1000000<=(if x.low=Ta then-(zm E:Int)else(zm E:Int))-(x.rest.length:Int)+(((x.whole++x.rest).dropWhile (· == 48)).length:Int)-((yp (x.whole++x.rest)).length:Int)/\(if x.low=Ta then-(zm E:Int)else(zm E:Int))-(x.rest.length:Int)+(((x.whole++x.rest).dropWhile (· == 48)).length:Int)-((yp (x.whole++x.rest)).length:Int)<=1000000 then((x.neg,yp (x.whole++x.rest),(if x.low=Ta then-(zm E:Int)else(zm E:Int))-(x.rest.length:Int)+(((x.whole++x.rest).dropWhile (· == 48)).length:Int)-((yp (x.whole++x.rest)).length:Int)),0)else((Tc,[],0),4)).1,_)at h;rw[<-y]at h;refine⟨λt=>?_,λt=>?_⟩;rw[if_neg (by simp at t;omega)]at h;exact h;rw[if_pos (by simp at t;omega)]at h;exact h
end
section
variable {gl:Fr}
theorem z0w{a b:Bs}(h:a.length+b.length<=4611686018427387904):wu ((bl a).size+(bl b).size):=by unfold wu;rw[zf,zf];omega
theorem zvs(p:Pow gl){n:Nm}(o:n.2.1.length<=4611686018427387904){R:Bt->Prop}(h:R (bl (qm n))):PC Tp gl 26 [Arg.mk tN (nmB n)] [.str] R:=by
 apply zlo;refine zo5 o ⟨λf=>?_,λf=>?_⟩;have:yo n=Tc:=by simpa using f
 have e:qm n=[]:=by unfold qm;simp[this]
 rw[e]at h;exact h;have i:yo n=Ta:=by simpa using f
 obtain⟨u,l,r⟩:=zcq i;unfold qm at h;rw[if_pos i]at h;simp only[show(⟨#[]⟩:Bt)=bl []from rfl,zhl];refine⟨λc=>?_,λc=>?_⟩;rw[if_pos (by simpa using c)]at h;exact h;rw[if_neg (by simpa using c)]at h;intro K q;have key:∀t:Bs,t=(if n.1 then [45]else [])++n.2.1->K (bl t):=by
  intro t k;have m:t.length<=1001:=by rw[k];split <;> simp <;> omega
  rw[<-k]at h;refine q _ ⟨λb=>?_,λb=>?_⟩;rw[if_neg (by simpa using b)]at h;have s:=Go.X.itoa_len n.2.2;refine z5e p (by omega) (by omega) ?_;refine⟨z0w (a:=[101]) (by simp;omega),?_⟩;rw[show(⟨#[101]⟩:Bt)=bl [101]from rfl,wz,wz];exact⟨z0w (by simp;omega),h⟩;rw[if_pos (by simpa using b),AR]at h;exact h
 refine⟨λb=>⟨z0w (a:=[45]) (by simp;omega),?_⟩,λb=>?_⟩;rw[show(⟨#[45]⟩:Bt)=bl [45]from rfl,wz];exact key _ (by rw[if_pos (by simpa using b)]);exact key _ (by rw[if_neg (by simpa using b)];rfl)
theorem qlu(e:Pow gl){n:Int}(h1:-9223372036854775808<=n)(i:n<=9223372036854775807){R:Bool×Bt×Int->Prop}(h:R (nmB (zj (Lib.itoa n)).1)):PC Tp gl 110 [Arg.mk (.int .i64) n] [tN] R:=by
 apply zsa;refine z5e e h1 i (zic ?_ h);have:=Go.X.itoa_len n;have b:∀u:Nat,u<10 ^ 20->(Lib.decDigits u).length<=20:=by
  have:∀(k u:Nat),u<10 ^ (k+1)->(Lib.decDigits u).length<=k+1:=by
   intro k;induction k with
   |zero=>intro u c;rw[Lib.decDigits,dif_pos (by simpa using c)];simp
   |succ k f=>intro u c;rw[Lib.decDigits];split;simp;have:=f (u / 10) (by rw[DI]at c;omega);simp;omega
  exact this 19
 have:(Lib.itoa n).length<=21:=by unfold Lib.itoa;split;have:=b n.natAbs (by omega);simp;omega;have:=b n.toNat (by omega);omega
 omega
end
section
theorem qio{n:Int}(h1:0<=n)(c:n<256):Aa .u8 n=n:=by
 unfold Aa;have e:(2:Int) ^ Bm .u8=256:=by decide
 simp only[e];have b:Dm .u8=Tc:=rfl;simp only[b,DJ,Bc,if_false];omega
end
end Go.X
end
section
namespace Go.X
open Go Go.Proofs Go.Shelf Go.RowKit
section
def zo6:Go.Shelf.Ren:=⟨fun|196=>150|259=>217|n=>n,fun|9=>9|4=>4|3=>3|5=>5|12=>12|119=>230|0=>0|46=>177|139=>233|138=>232|53=>238|n=>n,fun|3=>0|4=>1|n=>n⟩
theorem z5g:Go.Proofs.Lays.n196 Tp zo6:=by constructor <;> intros <;> kernel_rfl
open Go.RowKit Go.Lib in
theorem zeg(s:Bt)(w:World)(b:s.size<=9223372036854775807)(c:Lib.Utf8Tabs 0 1 w): Calls Tp 150 #[.string s] w λe w'=>e=.returned (.bool (Lib.validD s.data.toList))/\Below w.heap.size w w':=Any.utf8_ValidString z5g s w b c
end
end Go.X
end
section
namespace Go.X
section
variable {l:Bs}
theorem qhj{n:Int}{k:Nat}(b:n=(k:Int)):(bl l).extract n.toNat ((l.length:Int)).toNat=bl (l.drop k):=by subst b;rw[Ag,Ag,wm,BE (by simp)]
theorem zsk(l:Bs):Lib.validD l=Z8 l:=by
 by_cases h:l=[];subst h;rw[Yv];rfl;rw[Lib.validD_step l h,Z0 h,Lib.decodeL_N,zsk (l.drop _)];have e:zlg (dec l)=decide ((dec l).1=65533/\(dec l).2=1):=by unfold zlg;rw[Bool.decide_and];rfl
 rw[e];by_cases c:(dec l).1=65533/\(dec l).2=1;rw[decide_eq_true c];exact if_pos c;rw[decide_eq_false c];exact if_neg c
termination_by l.length
decreasing_by
 have h1:=wy l;have h2:0<l.length:=Bv.2 h;unfold dec at h1;simp only[AI];omega
theorem zlz{gl:Fr}(b:Tabs gl)(e:l.length<=4611686018427387904){R:Bool->Prop}(h:R (Z8 l)):PC Tp gl 150 [Arg.mk .str (bl l)] [.bool] R:= PC.of_scal rfl (λ_=>zoo _) (by rw[<-zsk]at h;exact h) λw c=>zeg (bl l) w (by rw[zf];omega) (b.at c)
end
end Go.X
end
section
namespace Go.X
open Go Go.Lib
section
theorem z5h(l:Bs)(a:Nat):l.foldl (λn c=>10*n+(c.toNat-48)) a=a*10 ^ l.length+zm l:=by
 induction l generalizing a with
 |nil=>simp[zm]
 |cons c t b=>
  simp only[List.foldl_cons,Aq,zm];rw[b,b (10*0+(c.toNat-48)),DI];have:(10*a+(c.toNat-48))*10 ^ t.length=a*(10 ^ t.length*10)+(c.toNat-48)*10 ^ t.length:=by rw[BZ,C4 10 a,Nat.mul_assoc,C4 10 (10 ^ t.length)]
  rw[this];simp;omega
theorem zeh(a b:Bs):zm (a++b)=zm a*10 ^ b.length+zm b:=by rw[zm,List.foldl_append,z5h];rfl
theorem zsl(n:Nat):zm (BC n 48)=0:=by
 induction n with
 |zero=>rfl
 |succ n b=>rw[List.replicate_succ];exact b
theorem zsm:∀(l:Bs) (b:Nat),l.all jb=Ta->b*10 ^ l.length+zm l<10 ^ 19->parseUintM (2 ^ 64-1) b l=.ok (b*10 ^ l.length+zm l)
 |[],b,_,_=>by simp[parseUintM,zm]
 |c::t,b,hd,hl=>by
  rw[De,Ao]at hd
  have h:48<=c.toNat/\c.toNat<=57:=by simpa[jb]using hd.1
  have e:zm (c::t)=(c.toNat-48)*10 ^ t.length+zm t:=by
   have:=zeh [c] t
   rw[List.singleton_append]at this
   rw[this];simp[zm]
  have f:(b*10+(c.toNat-48))*10 ^ t.length+zm t=b*10 ^ (c::t).length+zm (c::t):=by
   rw[e,Aq,DI,BZ,Nat.mul_assoc,C4 10 (10 ^ t.length)];omega
  have i:1<=10 ^ t.length:=Nat.one_le_pow _ _ (by decide)
  have k:b*10+(c.toNat-48)<=b*10 ^ (c::t).length+zm (c::t):=by
   rw[<-f]
   calc b*10+(c.toNat-48)=(b*10+(c.toNat-48))*1:=by omega
    _<=(b*10+(c.toNat-48))*10 ^ t.length:=Nat.mul_le_mul_left _ i
    _<=_:=by omega
  rw[parseUintM,if_pos h,if_neg (by omega),if_neg (by omega),zsm t _ hd.2 (by rw[f];exact hl),f]
def Jr(n:Nm):Bs:=n.2.1++BC n.2.2.toNat 48
theorem z0x(n:Nm):zm (Jr n)=zm n.2.1*10 ^ n.2.2.toNat:=by rw[Jr,zeh,zsl,Co,CO]
theorem zvt{n:Nm}(h:yo n=Ta):n.2.1.all jb=Ta:=by unfold yo zak at h;rcases BK _ _ ▸ h with h|h;simp at h;rw[h.2.1];rfl;simp only[Ao]at h;exact Yw h.1.1.1.1.1
theorem z0y{n:Nm}(h:yo n=Ta):(Jr n).all jb=Ta:=by rw[Jr,Dd,zvt h,Cc,Av];intro x b;rw[List.mem_replicate]at b;rw[b.2];rfl
theorem z5i{l:Bs}(neg:Bool)(e:l.all jb=Ta)(k:l.length<=19)(b:l≠[]):
  parseIntB 64 ((if neg then [45]else [])++l)=if neg then(if zm l<=9223372036854775808 then .ok (-(zm l:Int))else .range)else(if zm l<=9223372036854775807 then .ok (zm l:Int)else .range):=by
 have n:zm l<10 ^ 19:=zj4 k e;have f:=zsm l 0 e (by rw[DD];omega);rw[DD,AL]at f;cases neg with
 |true=>simp only[if_true,List.singleton_append];unfold parseIntB;simp only[show(45:UInt8).toNat=45 from rfl,or_true,if_true];unfold parseUintB;rw[if_neg b,f];simp only[not_true_eq_false,false_and,if_false,true_and];split;rename_i h;rw[if_neg (by omega)];rename_i h;rw[if_pos (by omega)]
 |false=>
  simp only[Bc,if_false,A8];obtain⟨c,t,rfl⟩:=Bq b;have m:48<=c.toNat/\c.toNat<=57:=by rw[De,Ao]at e;simpa[jb]using e.1
  unfold parseIntB;simp only;rw[if_neg (by omega)];unfold parseUintB;rw[if_neg (by simp),f];have i:¬c.toNat=45:=by omega
  simp only[i,not_false_eq_true,true_and,false_and,if_false];split;rename_i h;rw[if_neg (by omega)];rename_i h;rw[if_pos (by omega)]
theorem qlv{a b:Nat}(l:a<18446744073709551616)(k:b<18446744073709551616):Aa .u64 (((BO (Bm .u64) (a:Int)) &&& (BO (Bm .u64) (b:Int))).toNat:Int)=((a &&& b:Nat):Int):=by
 have c:Bm .u64=64:=rfl;have e:((BO (Bm .u64) (a:Int)) &&& (BO (Bm .u64) (b:Int))).toNat=a &&& b:=by rw[BitVec.toNat_and,BitVec.ofInt_natCast,BitVec.ofInt_natCast,BitVec.toNat_ofNat,BitVec.toNat_ofNat,c,Nat.mod_eq_of_lt (by omega),Nat.mod_eq_of_lt (by omega)]
 rw[e];have h:a &&& b<2 ^ 64:=Nat.and_lt_two_pow _ (by omega);unfold Aa;have f:(2:Int) ^ Bm .u64=18446744073709551616:=by decide
 simp only[f];have i:Dm .u64=Tc:=rfl;simp only[i,DJ,Bc,if_false];omega
theorem qfp{n:Int}(h1:0<=n)(e:n<18446744073709551616):Aa .u64 n=n:=by
 unfold Aa;have b:(2:Int) ^ Bm .u64=18446744073709551616:=by decide
 simp only[b];have c:Dm .u64=Tc:=rfl;simp only[c,DJ,Bc,if_false];omega
end
section
variable {v x:Tr} {l:List Tr} {k:Nat}
mutual
def tsz:Tr->Nat | .mk _ _ _ xs=>1+Zs xs
def Zs:List Tr->Nat | []=>0|x::l=>tsz x+Zs l
end
mutual
def tdp:Tr->Nat | .mk _ _ _ xs=>Xp xs+1
def Xp:List Tr->Nat | []=>0|x::l=>max (tdp x) (Xp l)
end
mutual
def Qt(p:Tr->Bool):Tr->Bool | .mk k s ks xs=>p (.mk k s ks xs)&&Xq p xs
def Xq(p:Tr->Bool):List Tr->Bool | []=>Ta|x::l=>Qt p x&&Xq p l
end
mutual
def txB(m:Nat):Tr->Prop | .mk _ s ks xs=>(s.size<=m/\ks.length<=m/\∀k∈ks,k.size<=m)/\zo7 m xs
def zo7(m:Nat):List Tr->Prop | []=>True|x::l=>txB m x/\zo7 m l
end
theorem y0(v:Tr):tsz v=1+Zs v.items:=by cases v;rw[tsz]
theorem zj7(v:Tr):tdp v=Xp v.items+1:=by cases v;rw[tdp]
theorem y5(p:Tr->Bool)(v:Tr):Qt p v=(p v&&Xq p v.items):=by cases v;rw[Qt]
theorem zm9(m:Nat)(v:Tr):txB m v↔(v.text.size<=m/\v.keys.length<=m/\∀k∈v.keys,k.size<=m)/\zo7 m v.items:=by cases v;rw[txB]
theorem zid{m:Nat}:∀{l:List Tr},zo7 m l↔∀x∈l,txB m x
 |[]=>by simp[zo7]
 |x::l=>by rw[zo7,zid];simp
theorem qbj{m:Nat}(h:txB m v)(b:x∈v.items):txB m x:=zid.1 ((zm9 m v).1 h).2 x b
theorem jo(p:Tr->Bool):∀l:List Tr,Xq p l=l.all (Qt p)
 |[]=>rfl
 |x::l=>by rw[Xq,jo p l];rfl
theorem zcs:∀a b:List Tr,Zs (a++b)=Zs a+Zs b
 |[],b=>by simp[Zs]
 |x::l,b=>by rw[AD,Zs,Zs,zcs l b];omega
theorem zj8:∀a b:List Tr,Xp (a++b)=max (Xp a) (Xp b)
 |[],b=>by simp[Xp]
 |x::l,b=>by rw[AD,Xp,Xp,zj8 l b];omega
theorem zx1{x:Tr}:∀{l:List Tr},x∈l->tsz x<=Zs l
 |y::l,h=>by rw[Zs];rcases Ai.1 h with rfl|h;omega;have:=zx1 h;omega
theorem yj(h:x∈v.items):tsz x<tsz v:=by have:=zx1 h;rw[y0 v];omega
theorem Yx:∀l:List Tr,l.length<=Zs l
 |[]=>by simp[Zs]
 |x::l=>by have:=Yx l;rw[Zs,Aq,y0];omega
theorem Q6(v:Tr):0<tsz v:=by rw[y0];omega
theorem z5j(b:k<l.length):Zs (l.take (k+1))=Zs (l.take k)+tsz l[k]:=by rw[Ay b,zcs];simp[Zs]
theorem z5k(b:k<l.length):Xp (l.take (k+1))=max (Xp (l.take k)) (tdp l[k]):=by rw[Ay b,zj8];simp[Xp]
mutual
theorem qip:∀v:Tr,tdp v<=tsz v
 |.mk _ _ _ xs=>by rw[tdp,tsz];have:=zvu xs;omega
theorem zvu:∀l:List Tr,Xp l<=Zs l
 |[]=>by simp[Xp]
 |x::l=>by rw[Xp,Zs];have:=qip x;have:=zvu l;omega
end
def wo(ks:List Bt):Bool:=ks.all (λk=>Z8 (lb k))&&decide ks.Nodup
def z0z(s:Bs):Nm×Bool:=((zj s).1,(zj s).2==0&&decide (qm (zj s).1=s))
def z5l(s:Bs):Bool:=(z0z s).2&&(qbh (z0z s).1).2&&decide (0<=(qbh (z0z s).1).1)
def zn(v:Tr):Bool:=
 if v.kind=1 then lb v.text==[]&&v.keys.isEmpty&&v.items.isEmpty
 else if v.kind=2 then(lb v.text==[116,114,117,101]||lb v.text==[102,97,108,115,101])&&v.keys.isEmpty&&v.items.isEmpty
 else if v.kind=3 then(z0z (lb v.text)).2&&v.keys.isEmpty&&v.items.isEmpty
 else if v.kind=4 then Z8 (lb v.text)&&v.keys.isEmpty&&v.items.isEmpty
 else if v.kind=5 then lb v.text==[]&&v.keys.isEmpty
 else if v.kind=6 then wo v.keys&&decide (v.keys.length=v.items.length)&&lb v.text==[]
 else if v.kind=7 then z5l (lb v.text)&&v.keys.isEmpty&&v.items.isEmpty
 else Tc
def Zi(v:Tr):Bool:=decide (tsz v<=4096)&&decide (tdp v<=32)
def Zf(v:Tr):Bool:=Zi v&&Qt zn v
def zy(v:Tr):Bool:=Zi v&&Qt (λx=>decide (x.kind≠7)&&zn x) v
structure Sm (v:Tr):Prop where
 sz:tsz v<=1000000000000
 tx:txB 1048576 v
theorem Sm.item(h:Sm v)(b:x∈v.items):Sm x:=⟨by have:=yj b;have:=h.sz;omega,qbj h.tx b⟩
theorem Sm.text(h:Sm v):(lb v.text).length<=1048576:=by rw[zbz];exact((zm9 _ v).1 h.tx).1.1
theorem Sm.key(h:Sm v){k:Bt}(b:k∈v.keys):(lb k).length<=1048576:=by rw[zbz];exact((zm9 _ v).1 h.tx).1.2.2 k b
theorem Sm.items(h:Sm v):v.items.length<=1000000000000:=by have:=Yx v.items;have:=h.sz;rw[y0]at this;omega
end
end Go.X
end
section
namespace Go.X
section
variable {gl:Fr} {l:Bs}
theorem zx2(t:Tabs gl)(z:l.length<=4611686018427387904){R:Int×Bool->Prop}(h:∀k,R (k,Z8 l)):PC Tp gl 80 [Arg.mk .str (bl l)] [.int .i64,.bool] R:=by
 apply zlp;refine zlz t z ⟨λo=>?_,λo=>?_⟩;have:=h ((bl l).size:Int);rw[o]at this;exact this;refine⟨λp=>p.1=bl l/\p.2<=l.length/\Z8 (l.drop p.2)=Tc,λp=>l.length-p.2,⟨rfl,by omega,by simpa using o⟩,?_⟩;rintro⟨_,p⟩ ⟨rfl,u,c⟩;simp only at u c ⊢;rw[zsh,zsi];refine⟨λi=>⟨i,i,λr=>?_,λr=>⟨?_,?_⟩⟩,λi=>?_⟩;have f:p<l.length:=by simpa using i
 have b:l.drop p≠[]:=λe=>by have:=congrArg Cd e;simp at this;omega
 have q:zlg (dec (l.drop p))=Tc:=by
  unfold zlg;have:¬(dec (l.drop p)).1=65533:=λe=>by rw[e]at r;simp at r
  simp[this]
 rw[Z0 b,q]at c;simp only[Bc,if_false,BM]at c;rw[zjz l p f];have y:=wy (l.drop p);have n:=zxx b;simp only[AI]at n;exact⟨⟨trivial,by omega,c⟩,by omega⟩;have f:p<l.length:=by simpa using i
 rw[zf];omega;have f:p<l.length:=by simpa using i
 have b:l.drop p≠[]:=λe=>by have:=congrArg Cd e;simp at this;omega
 rw[zf,qhj (k:=p) rfl];refine zse t ?_;have s:(bl (l.drop p)).size≠0:=by rw[zf];simp;omega
 have w:Lib.decodeGo (bl (l.drop p))=dec (l.drop p):=by unfold Lib.decodeGo;rw[if_neg s,zxw,yh,BQ]
 rw[w];refine⟨λm=>?_,λm=>?_⟩;have:=h (p:Int);have x:Z8 l=Tc:=o;rw[x]at this;exact this;have q:zlg (dec (l.drop p))=Tc:=by
  unfold zlg;have:¬(dec (l.drop p)).2=1:=λe=>by rw[e]at m;simp at m
  simp[this]
 rw[Z0 b,q]at c;simp only[Bc,if_false,BM]at c;rw[zjz l p f];have y:=wy (l.drop p);have n:=zxx b;simp only[AI]at n;exact⟨⟨trivial,by omega,c⟩,by omega⟩;have:l.drop p=[]:=Br (by(have:¬p<l.length:=by simpa using i);omega);rw[this,Yv]at c;cases c
theorem zsn(c:Tabs gl)(b:l.length<=4611686018427387904){R:Bool->Prop}(h:R (Z8 l)):PC Tp gl 166 [Arg.mk .str (bl l)] [.bool] R:=by apply zls;exact zx2 c b λk=>h
structure GL (gl:Fr):Prop where
 tabs:Tabs gl
 pow:Pow gl
 max:qdg gl
 err:zvo gl
theorem Yy(s:Bs)(h:s.length<=1152921504606846976):(zj s).1.2.1.length<=4611686018427387904:=by
 unfold zj;split;simp;rename_i x c;have h1:=zm7 c;split;simp;split;simp;simp only;generalize (if x.low=Ta then-(zm (x.exp.dropWhile (· == 48)):Int)else zm (x.exp.dropWhile (· == 48)))=e;split;simp;rename_i b;have f:(yp (x.whole++x.rest)).length<=(x.whole++x.rest).length:=by unfold yp;rw[List.length_reverse];refine BX (xx _ _) ?_;rw[List.length_reverse];exact xx _ _
 rw[Ah]at f;split;show(yp (x.whole++x.rest)).length<=_;omega;simp
theorem zct(c:GL gl){s:Bs}(b:s.length<=1152921504606846976){R:(Bool×Bt×Int)×Bool->Prop}(h:R (nmB (z0z s).1,(z0z s).2)):PC Tp gl 165 [Arg.mk .str (bl s)] [tN,.bool] R:=by
 apply zhi;refine zic b ?_;refine⟨λt=>t=bl (qm (zj s).1),λ_=>zvs c.pow (Yy s b) rfl,λr f=>?_⟩;have e:(bif ((zj s).2==0)then(r.toList==(bl s).toList)else Tc)=(z0z s).2:=by
  unfold z0z;cases hc:((zj s).2==0)with
  |false=>rfl
  |true=>rw[f hc,cond_true,zhl];rfl
 simp only at e ⊢;rw[e];exact h
theorem qfq(n:Nat):Lib.repeatL [48] n=BC n 48:=by
 induction n with
 |zero=>rfl
 |succ n b=>rw[Lib.repeatL,b];rfl
theorem qiq(A:GL gl){n:Nm}(C:n.2.1.length<=4611686018427387904){R:Int×Bool->Prop}(h:R (qbh n)):PC Tp gl 234 [Arg.mk tN (nmB n)] [.int .i64,.bool] R:=by
 apply zos;refine zo5 C ?_;unfold qbh at h;cases hr:yo n with
 |false=>rw[hr]at h;exact⟨λ_=>by simpa using h,λr=>by simp at r⟩
 |true=>
  obtain⟨F,E,D⟩:=zcq hr;rw[hr]at h;simp only[Cc]at h;simp only[zf];rw[w64 (by omega)];refine⟨λr=>?_,λr=>?_⟩;rw[if_neg]at h;exact h;simp at r ⊢;omega;have y:0<=n.2.2/\(n.2.1.length:Int)+n.2.2<=19:=by simp at r;omega
  rw[if_pos (by simp;omega)]at h;rw[<-z0x]at h;obtain⟨e,x⟩:∃e:Nat,n.2.2=(e:Int):=⟨n.2.2.toNat,by omega⟩;show PC Tp gl 86 [Arg.mk .str (bl [48]),Arg.mk (.int .i64) n.2.2] [.str] _;rw[x];refine zjx (by omega) (by rw[zf];simp;omega) ?_;rw[yh,qfq,wz];have l:n.2.1++BC e 48=Jr n:=by rw[Jr,x,Ag]
  have k:(Jr n).length<=19:=by rw[<-l];simp;omega
  have s:=z0y hr;rw[l];refine⟨z0w (a:=n.2.1) (by rw[Co];omega),?_⟩;rw[show(⟨#[]⟩:Bt)=bl []from rfl,show(⟨#[45]⟩:Bt)=bl [45]from rfl];simp only[wz];intro K B;have key:∀t:Bs,t=(if n.1 then [45]else [])++Jr n->K (bl t):=by
   intro t c;refine B _ ⟨λq=>?_,λq=>?_⟩;have u:t=[]:=by have:=zhl t [];rw[this]at q;simpa using q
   rw[u]at c;have p:n.1=Tc:=by cases hb:n.1 <;> simp[hb]at c;rfl
   have i:Jr n=[]:=by simp[p]at c;exact c
   rw[p,i]at h;exact h;have o:t≠[]:=by intro e;rw[e,zhl]at q;simp at q
   refine zvq A.err (by rw[zf,c];split <;> simp <;> omega) ?_;rw[yh,c];have i:Jr n≠[]:=by
    intro w;cases hb:n.1 with
    |false=>rw[c,hb,w]at o;exact o rfl
    |true=>
     have z:n.2.1=[]:=by rw[Jr]at w;exact(List.append_eq_nil_iff.1 w).1
     have:=zj0 hr z;unfold zak at this;rw[hb]at this;simp at this
   unfold zjy;rw[z5i n.1 s k i];cases hb:n.1 with
   |true=>rw[hb]at h;simp only[if_true]at h ⊢;by_cases m:zm (Jr n)<=9223372036854775808;rw[if_pos (by omega)]at h;rw[if_pos m];exact⟨λf=>(by cases f),λ_=>h⟩;rw[if_neg (by omega)]at h;rw[if_neg m];exact⟨λ_=>h,λf=>(by cases f)⟩
   |false=>rw[hb]at h;simp only[Bc,if_false]at h ⊢;by_cases m:zm (Jr n)<=9223372036854775807;rw[if_pos (by omega)]at h;rw[if_pos m];exact⟨λf=>(by cases f),λ_=>h⟩;rw[if_neg (by omega)]at h;rw[if_neg m];exact⟨λ_=>h,λf=>(by cases f)⟩
  refine⟨λb=>⟨z0w (a:=[45]) (by simp;omega),?_⟩,λb=>?_⟩;exact key _ (by rw[if_pos (by simpa using b)]);exact key _ (by rw[if_neg (by simpa using b)];rfl)
end
end Go.X
end
section
namespace Go.Proofs.YtjohlemfgcmaoaaGreatDoor
open Go Go.X Go.ChangeShapes Go.WideShapes Go.ChangeAt Go.RowKit Go.Lib
open Go.ChangeMaps (open_string shut_string)
set_option linter.unusedVariables false
section
variable {H:Type} {g:Nat} {t:TypeId} {held:Bool}
theorem Tryz.own:ownKnob AF.godebug=none:=by kernel_rfl
theorem Tryz.laidOut:laidOutB AF=true:=by kernel_rfl
theorem zei{enc:TypeId×Value->H}{a:Assume}{C:Checked}{os:Os}{f:FuncId}{fn:Func}{s:ChangeSpec}{l:List PathCond}{apart p h m:Bool}{X:World->Array Value->Prop} (O:∀(w w':World) (args:Array Value),w.heap=w'.heap->X w args->X w' args) (own:ownKnob C.prog.godebug=none) (o:os.Started) (q:C.prog.inits.idxOf? f=none) (B:C.prog.funcs[f]?=some fn) (n:∃(w:World) (b:Tape) (i:Input),w.os=os/\(w.forCall b i).Shaped C.prog/\i.vars=[]/\Input.okWide C.prog (w.forCall b i) .any w.heap.size f i /\ ((s.pre enc C.prog fn l apart (w.forCall b i).memory i.args/\X (w.forCall b i).memory i.args)/\sizedMet enc C.prog fn (OpenSpec.ofChange s) apart (w.forCall b i).memory i.args)/\a.holds C.prog (lone (Frame.enter C.prog f i.args .normal) [] (w.forCall b i))) (k:∀(W:World) (base:Nat) (args:Array Value) (A y:List (DataW H)) (c:List MemPlace),(∀(j:Nat) t v,fn.params[j]?=some t->args[j]?=some v->Value.okWide C.prog W .any base t v) -> DataW.Whole enc C.prog fn.params.toList s.vars apart W args.toList A y c -> (DataW.weightsEach C.prog (fn.params.toList++s.plain.varTypes C.prog) (A++y)).all (·<=reachBytes)=true -> X W args->W.ShapedOpen C.prog -> Calls C.prog f args W λe J=>∃v,e=.returned v/\s.post enc C.prog fn apart p h m W args v J):
  ReturnsInHanded a C os f .any (λw args=>(s.pre enc C.prog fn l apart w args/\X w args)/\sizedMet enc C.prog fn (OpenSpec.ofChange s) apart w args) (s.post enc C.prog fn apart p h m):=by
 refine returnsInHanded_of_calls own o q n ?_;intro w b i _ D _ F r z;obtain⟨_,_,_,E,u,_,_,_,_,x⟩:=F;have e:E=fn:=Az (u.symm.trans B);subst e;obtain⟨⟨⟨A,y,c,I,Q⟩,M⟩,N⟩:=r;have G:=DataW.Whole.of_heap (w':=w.forCall b i) (by rfl) I;refine(k (w.forCall b i) w.heap.size i.args A y c x G (N.weights I) (O _ _ _ (by rfl) M) D).mono λe J ⟨v,P,L⟩=>?_;subst P;exact ChangeSpec.post_blind L
theorem z5m{P:Program}{W:World}{n:String}{k:IntKind}{q:List Int}{t e:TypeId}{m:Nat}(o:P.globalNamed n=some g)(w:(P.globals[g]?).map (·.type)=some t)(u:P.underlying t=some (.array m e))(r:P.underlying e=some (.int k))
  (i:P.cellsOf e=1) (l:P.cellsOf t=m) (h:VarReads P W n (tabData k q)):∃cs:Array Value,Fz W g=some cs/\cs.toList=q.map λz=>Bn k z:=by
 obtain⟨g',t',cs,fuel,p,c,f,b,s⟩:=h;obtain rfl:=Az (o.symm.trans c);obtain rfl:=Az (w.symm.trans f);exact⟨cs,Fz.var o b,cells_of_tab u r i l s⟩
theorem qbk{W : World}(h : VarReads Tryz.prog W "unicode/utf8.first" Pinned.utf8First): ∃ cs : Array Value, Fz W 0 = some cs ∧ ∀ c, c < 256 → cs[c]? = some (.int .u8 (Lib.firstT c)) := by rw[Pinned.utf8First_eq]at h;obtain⟨cs,h1,h2⟩:=z5m (g:=0) (t:=230) (e:=5) (m:=256) (by kernel_rfl) (by kernel_rfl) (by kernel_rfl) (by kernel_rfl) (by kernel_rfl) (by kernel_rfl) h;refine⟨cs,h1,λc hc=>?_⟩;rw[<-Array.getElem?_toList,h2];simp[firstTab,hc]
theorem z5n{W : World}(h : VarReads Tryz.prog W "unicode/utf8.acceptRanges" acceptData): ∃ cs : Array Value, Fz W 1 = some cs ∧ ∀ i, i < 16 → cs[2 * i]? = some (.int .u8 (Lib.accLo i)) ∧ cs[2 * i + 1]? = some (.int .u8 (Lib.accHi i)) := by
 obtain⟨g,t,cs,fuel,p,hg,hty,hvar,hd⟩:=h;obtain rfl := Option.some.inj ((show Tryz.prog.globalNamed "unicode/utf8.acceptRanges" = some 1 by kernel_rfl).symm.trans hg);obtain rfl:=Option.some.inj ((show(Tryz.prog.globals[1]?).map (·.type)=some 233 by kernel_rfl).symm.trans hty);refine⟨cs,Fz.var hg hvar,λi hi=>?_⟩;obtain⟨fuel',d,q,hdi,he⟩:=array_elem (show Tryz.prog.underlying 233=some (.array 16 232)by kernel_rfl) hd i hi;simp only[List.getElem?_map,List.getElem?_range hi,Option.map_some,Option.some.injEq]at hdi;subst hdi;have hc:Tryz.prog.cellsOf 232=2:=by kernel_rfl
 have c5:AF.cellsOf 5=1:=by kernel_rfl
 have u5:AF.underlying 5=some (.int .u8):=by kernel_rfl
 rw[hc]at he;have hcs:=ints_of_struct Tryz.underlying232 (λj f hj=>by
  match j,hj with
  |0,hj=>simp at hj;subst hj;exact⟨u5,rfl,c5⟩
  |1,hj=>simp at hj;subst hj;exact⟨u5,rfl,c5⟩
  |j+2,hj=>simp at hj) (by rw[hc];rfl) he
 have e0:=congrArg (·[0]?) hcs;have e1:=congrArg (·[1]?) hcs;simp only[AK,A9]at e0 e1;constructor;rw[<-Ca];simpa[C4]using e0;rw[<-Ca];simpa[C4]using e1
theorem qir{W : World}{d : DataW Unit}(hd : d = tabData .u64 Lib.pow10Tab)(h : VarReads Tryz.prog W "internal/strconv.uint64pow10" d): Pow (Fz W) := by subst hd;obtain⟨cs,h1,h2⟩:=z5m (g:=2) (t:=273) (e:=238) (m:=20) (by kernel_rfl) (by kernel_rfl) (by kernel_rfl) (by kernel_rfl) (by kernel_rfl) (by kernel_rfl) h;exact⟨_,cs,by kernel_rfl,h1,by rw[<-h2]⟩
theorem qdj{W:World}{n:String}{ms:Array (String×TypeId)}{q:String}{d:DataW Unit}(k:AF.globalNamed n=some g)(s:(AF.globals[g]?).map (·.type)=some t)(m:AF.underlying t=some (.interface ms))(h:VarReads AF W n (.iface q d)):
  ∃(cs:Array Value) (e:Value),Fz W g=some cs/\cs[0]?=some e/\(e=.nilIface\/∃r o,e=.iface r o):=by
 obtain⟨g',t',cs,fuel,p,c,f,b,l⟩:=h;obtain rfl:=Az (k.symm.trans c);obtain rfl:=Az (s.symm.trans f);obtain⟨w,u,v,i,_,_⟩:=iface_of_trod m l;exact⟨cs,.iface u v,Fz.var k b,by rw[<-Ca,i];rfl,.inr ⟨u,v,rfl⟩⟩
theorem qis{W:World}(h:W.ShapedOpen AF):qdg (Fz W):=by obtain⟨m,f⟩:=cell_of_shapedOpen_int (P:=AF) (g:=3) (t:=3) (zero:=#[.int .i64 0]) (k:=.i64) h (by decide +kernel) (by kernel_rfl) rfl (by kernel_rfl) (by kernel_rfl) (by kernel_rfl);obtain⟨b,o,c,e,h1,i⟩:=Fz.cell f;cases e;exact⟨c,m,h1,i⟩
def zej:List (String×DataW Unit):=Rows.readReadsRow.laid
theorem qit{W:World}(h:laidMetH AF zej W)(f:W.ShapedOpen AF):GL (Fz W):=by
 have c:laidMet AF zej W:=by rw[MakeChecks.laidMetH_plain _ _ _ (by kernel_rfl)]at h;exact h
 have b:∀(i:Nat) (n:String) (d:DataW Unit),zej[i]?=some (n,d)->VarReads AF W n d:=λi n d e=>Go.Lib.laidMet.reads c (Bz e);exact {
  tabs:=⟨qbk (b 6 _ _ rfl),z5n (by
   have e:(Rows.laid_unicode_utf8_acceptRanges:DataW Unit)=acceptData:=by kernel_rfl
   rw[<-e];exact b 3 _ _ rfl)⟩
  pow:=qir (by kernel_rfl) (b 2 _ _ rfl)
  max:=qis f
  err:=⟨qdj (g:=4) (t:=114) (by kernel_rfl) (by kernel_rfl) Tryz.underlying114 (b 5 _ _ rfl),qdj (g:=5) (t:=114) (by kernel_rfl) (by kernel_rfl) Tryz.underlying114 (b 4 _ _ rfl)⟩ }
noncomputable def qkt(os:Os):World:=World.laidAll AF os zej
theorem zj9(os:Os)(args:Array Value):((qkt os).forCall (λ_ _=>0) ⟨#[],args,[]⟩).Shaped AF:=World.shaped_of_ZipB (by kernel_rfl) (by kernel_rfl)
theorem zx3(os:Os)(args:Array Value):laidMetH AF zej ((qkt os).forCall (λ_ _=>0) ⟨#[],args,[]⟩).memory:=by rw[MakeChecks.laidMetH_plain _ _ _ (by kernel_rfl)];exact laidMet_laidAll _ (by kernel_rfl) (by kernel_rfl)
theorem z5o{enc:TypeId×Value->H}{W:World}{sp:Nat->Bool}(fuel:Nat)(cs:List Value)(x:DataW H×List MemPlace)(h:DataW.trod enc AF W 0 sp held fuel 26 cs=some x)(b:zjr AF 26 x.1):∃t:Tr,Rd (Fz W) .tree t cs:= qfk (tk:=3) (ts:=9) (tss:=23) (tvs:=24) Tryz.underlying26 (by kernel_rfl) ⟨rfl,rfl,rfl,rfl,rfl,rfl,rfl,rfl⟩ (by kernel_rfl) (by kernel_rfl) (by kernel_rfl) (by kernel_rfl) (by kernel_rfl) (by kernel_rfl) (by kernel_rfl) (by kernel_rfl) (by decide +kernel) (by decide +kernel) fuel cs x h b
theorem qfr{enc:TypeId×Value->H}{W:World}{sp:Nat->Bool}{fuel:Nat}{cs:List Value}{x:DataW H×List MemPlace}(h:DataW.trod enc AF W 0 sp held fuel 23 cs=some x)(b:zjr AF 23 x.1):∃xs:List ByteArray,Rd (Fz W) (.row .str) xs cs:= z4r Tryz.underlying23 Tryz.underlying9 (by kernel_rfl) (by decide +kernel) h b
theorem zo8{ts:List TypeId}{b:List (DataW H)}(h:(DataW.weightsEach AF ts b).all (·<=reachBytes)=true){j:Nat}{d:DataW H}(e:ts[j]?=some t)(c:b[j]?=some d):zjr AF t d:=λn f=>by have:=Av.1 h n (DataW.weights_mem_each e c n f);simpa using this
end
end Go.Proofs.YtjohlemfgcmaoaaGreatDoor
end
section
namespace Go.X
section
theorem XF{vs:List Value}{f:FuncId}{fn:Func}{h:zb}{R:Value->zb->Prop}{F:Prop}(pl:Plan)(rs:List ResultVar)(n:Nat)(l:AF.funcs[f]?=Td fn)(H:F)(c:Qy fn=Ta:=by kernel_rfl)(i:fn.results.toList=rs:=by kernel_rfl)(k:fn.ntmps=n:=by kernel_rfl)(b:Nat.ble vs.length n=Ta:=by kernel_rfl)(e:F=W Tp n pl (codeOf fn) (qkk Tp rs R) (z2s 0 vs) h:=by kernel_rfl):XC Tp f vs.toArray h R:=zzy Tryz.mixed pl vs l c i k b (Eq.mp e H)
theorem zbn(f:Int)(e:Int)(h:zb)(R:Value->zb->Prop) (H:XC Tp 154 #[iV f,iV e] h (λa b=>∃c,a=.string c/\R (.string c) b)):
  XC Tp 84 #[.int .i64 f,.int .i64 e] h R:=
 XF ⟨[],[],[]⟩ [.tmp 4] 8 Tryz.func84 H
theorem Zg(x0:Int)(h:zb)(R:Value->zb->Prop) (H:R (.bool ((Aa .i64 (((BO (Bm .i64) x0) &&& (BO (Bm .i64) (Aa .i64 (x0-1)))).toNat:Int):Int)==0)) h):
  XC Tp 273 #[.int .i64 x0] h R:=
 XF ⟨[],[],[]⟩ [.tmp 2] 8 Tryz.func273 H
theorem Yj(x0:Int)(h:zb)(R:Value->zb->Prop) (H:(Tc=Ta->XC Tp 303 #[.int .u32 (Aa .u32 x0)] h (λa b=>∃c,a=iV c/\R (iV c) b))/\(Tc=Tc->XC Tp 304 #[.int .u64 x0] h (λd e=>∃f,d=iV f/\R (iV f) e))):
  XC Tp 274 #[.int .u64 x0] h R:=
 XF ⟨[],[],[]⟩ [.tmp 2] 8 Tryz.func274 H
theorem Qg(x0:Int)(h:zb)(R:Value->zb->Prop) (H:((x0==0)=Ta->R (iV 64) h)/\((x0==0)=Tc->∃a:Addr,(Td ⟨7,0,Te⟩=Td a/\0<=((Aa .u64 ((Aa .u64 (((BO (Bm .u64) x0) &&& (BO (Bm .u64) (Aa .u64 (0-x0)))).toNat:Int))*285870213051353865):Int).fdiv (2 ^ 58):Int)/\((Aa .u64 ((Aa .u64 (((BO (Bm .u64) x0) &&& (BO (Bm .u64) (Aa .u64 (0-x0)))).toNat:Int))*285870213051353865):Int).fdiv (2 ^ 58):Int)<((64:Nat):Int))/\∃b,zc h (a.add (((Aa .u64 ((Aa .u64 (((BO (Bm .u64) x0) &&& (BO (Bm .u64) (Aa .u64 (0-x0)))).toNat:Int))*285870213051353865):Int).fdiv (2 ^ 58):Int).toNat*1))=Td (.int .u8 b)/\R (iV (Aa .i64 b)) h)):
  XC Tp 304 #[.int .u64 x0] h R:=
 XF ⟨[],[],[]⟩ [.tmp 2] 14 Tryz.func304 H
theorem zka(c0:Int)(h:zb)(R:Value->zb->Prop) (H:∀a:Bool->zb->Prop,(∀b:Bool,∀c:zb,((b=Ta->R (.int .u8 (Aa .u8 c0)) c)/\(b=Tc->((c0==8)=Ta->R (.int .u8 98) c)/\((c0==8)=Tc->((c0==12)=Ta->R (.int .u8 102) c)/\((c0==12)=Tc->((c0==10)=Ta->R (.int .u8 110) c)/\((c0==10)=Tc->((c0==13)=Ta->R (.int .u8 114) c)/\((c0==13)=Tc->((c0==9)=Ta->R (.int .u8 116) c)/\((c0==9)=Tc->R (.int .u8 0) c)))))))->a b c)->((c0==34)=Ta->a (c0==34) h)/\((c0==34)=Tc->a (c0==92) h)):
  XC Tp 82 #[.int .i32 c0] h R:=
 XF ⟨[],[],[(4,[(4,.one (.bool))])]⟩ [.tmp 2] 19 Tryz.func82 H
end
section
theorem zo9(s0:Bt)(h:zb)(R:Value->zb->Prop) (H:let b:=h.push (.cells #[.string (⟨#[]⟩:Bt),.slice Te 0 0] 36);XC Tp 60 #[.string s0] b (λc d=>∃e f g,c=.tuple #[slV e,iV f,iV g]/\((g != 0)=Ta->XRunU Tp (Af 36 (.pointer (Td ⟨h.size,0,Te⟩)) (.agg #[.string (⟨#[]⟩:Bt),.slice Te 0 0])) d (λi=>∃j k,zd i ⟨h.size,0,Te⟩ 0 [.string j,slV k]/\R (.tuple #[.agg #[.string j,slV k],iV f,iV g]) i))/\((g != 0)=Tc->let l:=d.push (.cells #[.string s0,.slice Te 0 0,iV 0,iV 0,.slice Te 0 0,iV 0,iV 0] 88);∃(m:Int->zb->Prop) (n:Int->zb->Nat),m 0 l/\∀o:Int,∀p:zb,m o p->((decide (o<e.len)=Ta->∃q,(e.a=Td q/\0<=o/\o<e.len)/\∃r s t,zd p (q.add (o.toNat*3)) 0 [iV r,iV s,iV t]/\let u:=p.push (.cells #[iV 0,iV 0,iV 0] 90);XRunU Tp (Af 90 (.pointer (Td ⟨p.size,0,Te⟩)) (.agg #[iV r,iV s,iV t])) u (λv=>∃w,zc v (Ad ⟨p.size,0,Te⟩ 0)=Td (iV w)/\((w != 1)=Ta->∃x:Addr,Td ⟨d.size,0,Te⟩=Td x/\∃y,zc v (Ad x 1)=Td (slV y)/\∃z A B,zd v ⟨p.size,0,Te⟩ 0 [iV z,iV A,iV B]/\let C:=v.push (.cells #[iV z,iV A,iV B] 90);(C)[((Ad x 1):Addr).block]?=(v)[((Ad x 1):Addr).block]?/\XRun Tp (Au #[83,83] 83 #[slV y,.slice (Td ⟨v.size,0,Te⟩) 1 1]) C (λD E=>∃F,D=slV F/\∃G:Addr,Td ⟨d.size,0,Te⟩=Td G/\XRunU Tp (Af 83 (.pointer (Td (Ad G 1))) (slV F)) E (λI=>(m (Aa .i64 (o+1)) I/\n (Aa .i64 (o+1)) I<n o p))))/\((w != 1)=Tc->(m (Aa .i64 (o+1)) v/\n (Aa .i64 (o+1)) v<n o p))))/\(decide (o<e.len)=Tc->XC Tp 61 #[.pointer (Td ⟨d.size,0,Te⟩),iV 1,.agg #[iV 0,iV 0]] p (λJ L=>∃M,J=.bool M/\∀N:Bool->zb->Prop,(∀O:Bool,∀P:zb,(((!O)=Ta->∃Q:Addr,Td ⟨d.size,0,Te⟩=Td Q/\∃S,zc P (Ad Q 5)=Td (iV S)/\∃T:Addr,Td ⟨d.size,0,Te⟩=Td T/\∃U,zc P (Ad T 6)=Td (iV U)/\(P)[((Ad T 6):Addr).block]?=(P)[((Ad T 6):Addr).block]?/\(P)[((Ad Q 5):Addr).block]?=(P)[((Ad Q 5):Addr).block]?/\XRunU Tp (Af 36 (.pointer (Td ⟨h.size,0,Te⟩)) (.agg #[.string (⟨#[]⟩:Bt),.slice Te 0 0])) P (λV=>(V)[((Ad T 6):Addr).block]?=(P)[((Ad T 6):Addr).block]?/\(V)[((Ad Q 5):Addr).block]?=(P)[((Ad Q 5):Addr).block]?/\(V)[((Ad T 6):Addr).block]?=(P)[((Ad T 6):Addr).block]?/\∃W X,zd V ⟨h.size,0,Te⟩ 0 [.string W,slV X]/\R (.tuple #[.agg #[.string W,slV X],iV S,iV U]) V))/\((!O)=Tc->∃Y:Addr,Td ⟨d.size,0,Te⟩=Td Y/\∃Z,zc P (Ad Y 4)=Td (slV Z)/\XRunU Tp (Af 36 (.pointer (Td ⟨h.size,0,Te⟩)) (.agg #[.string s0,slV Z])) P (λaa=>∃ab ac,zd aa ⟨h.size,0,Te⟩ 0 [.string ab,slV ac]/\R (.tuple #[.agg #[.string ab,slV ac],iV (s0.size:Int),iV 0]) aa)))->N O P)->∃ad,(M=Ta->Td ⟨d.size,0,Te⟩=Td ad)/\∃ae,(M=Ta->zc L (Ad ad 1)=Td (slV ae))/\((bif M then(decide ((ae.len:Int)>0))else Tc)=Ta->XC Tp 62 #[.pointer (Td ⟨d.size,0,Te⟩),iV 2] L (λaf ag=>∃ah,af=.bool ah/\N ah ag))/\((bif M then(decide ((ae.len:Int)>0))else Tc)=Tc->N M L))))))):
  XC Tp 19 #[.string s0] h R:=
 XF ⟨[(9,8000),(15,8000)],[(6,[(28,.one (.int .i64))])],[(14,[(11,.one (.bool))])]⟩ [.cell 2 36,.tmp 3,.tmp 4] 79 Tryz.func19 H
theorem zl0(s0:Bt)(h:zb)(R:Value->zb->Prop) (H:XC Tp 80 #[.string s0] h (λa b=>∃c d,a=.tuple #[iV c,.bool d]/\((!d)=Ta->R (.tuple #[.string (⟨#[]⟩:Bt),iV 2]) b)/\((!d)=Tc->let e:=b.push (.cells #[.pointer Te,.slice Te 0 0] 112);XC Tp 81 #[.pointer (Td ⟨b.size,0,Te⟩),.int .u8 34] e (λf g=>∃i:Value,f=i/\let j:=g.push (.stringIter s0 0);∃(k:zb->Prop) (l:zb->Nat),k j/\∀m:zb,k m->(XRun Tp (CW (.pointer (Td ⟨g.size,0,Te⟩)) Ta 0) m (λn o=>(n=.tuple #[.bool Tc]/\(Tc=Ta->False)/\(Tc=Tc->XC Tp 81 #[.pointer (Td ⟨b.size,0,Te⟩),.int .u8 34] o (λp q=>∃r:Value,p=r/\XC Tp 87 #[.pointer (Td ⟨b.size,0,Te⟩)] q (λs t=>∃u,s=.string u/\R (.tuple #[.string u,iV 0]) t))))\/∃v w:Int,n=.tuple #[.bool Ta,iV v,.int .i32 w]/\(Ta=Ta->XC Tp 82 #[.int .i32 w] o (λx y=>∃z,x=.int .u8 z/\((z != 0)=Ta->XC Tp 81 #[.pointer (Td ⟨b.size,0,Te⟩),.int .u8 92] y (λA B=>∃C:Value,A=C/\XC Tp 81 #[.pointer (Td ⟨b.size,0,Te⟩),.int .u8 z] B (λD E=>∃F:Value,D=F/\(k E/\l E<l m))))/\((z != 0)=Tc->(decide (w>=32)=Ta->XC Tp 83 #[.pointer (Td ⟨b.size,0,Te⟩),.int .i32 w] y (λG I=>∃J,∃L:Value,G=.tuple #[iV J,L]/\(k I/\l I<l m)))/\(decide (w>=32)=Tc->XC Tp 84 #[iV (Aa .i64 w),iV 16] y (λM N=>∃O,M=.string O/\XC Tp 86 #[.string (⟨#[48]⟩:Bt),iV (Aa .i64 (4-(O.size:Int)))] N (λP Q=>∃S,P=.string S/\wu (((⟨#[92,117]⟩:Bt)).size+S.size)/\wu (((⟨#[92,117]⟩:Bt)++S).size+O.size)/\XC Tp 85 #[.pointer (Td ⟨b.size,0,Te⟩),.string (((⟨#[92,117]⟩:Bt)++S)++O)] Q (λT U=>∃V,∃W:Value,T=.tuple #[iV V,W]/\(k U/\l U<l m))))))))/\(Ta=Tc->XC Tp 81 #[.pointer (Td ⟨b.size,0,Te⟩),.int .u8 34] o (λX Y=>∃Z:Value,X=Z/\XC Tp 87 #[.pointer (Td ⟨b.size,0,Te⟩)] Y (λaa ab=>∃ac,aa=.string ac/\R (.tuple #[.string ac,iV 0]) ab))))))))):
  XC Tp 27 #[.string s0] h R:=
 XF ⟨[],[(7,[])],[]⟩ [.tmp 2,.tmp 3] 48 Tryz.func27 H
theorem zso(b:Bt)(c:Sl)(k1:Int)(a8:Int)(h:zb)(R:Value->zb->Prop) (H:let d:=h.push (.cells #[.string b,slV c] 36);let e:=d.push (.cells tC 26);∃f,zc e (Ad ⟨h.size,0,Te⟩ 1)=Td (slV f)/\∃g,(f.a=Td g/\0<=k1/\k1<f.len)/\∃i j k l m n o,zd e (g.add (k1.toNat*7)) 0 [iV i,iV j,iV k,iV l,iV m,slV n,slV o]/\let p:=e.push (.cells #[iV 0,iV 0,iV 0,iV 0,iV 0,.slice Te 0 0,.slice Te 0 0] 62);XRunU Tp (Af 62 (.pointer (Td ⟨e.size,0,Te⟩)) (.agg #[iV i,iV j,iV k,iV l,iV m,slV n,slV o])) p (λq=>∀r:Addr->zb->Prop,(∀s:Addr,∀t:zb,(∃u,zc t (Ad ⟨e.size,0,Te⟩ 5)=Td (slV u)/\∃(v:Int->zb->Prop) (w:Int->zb->Nat),v 0 t/\∀x:Int,∀y:zb,v x y->((decide (x<u.len)=Ta->∃z,zc y (Ad ⟨e.size,0,Te⟩ 5)=Td (slV z)/\∃A,(z.a=Td A/\0<=x/\x<z.len)/\∃B,zc y (A.add (x.toNat*1))=Td (iV B)/\∃C,((!(decide (B<0)))=Ta->zc y (Ad ⟨h.size,0,Te⟩ 1)=Td (slV C))/\((bif (bif (decide (B<0))then Ta else(decide (B>=C.len)))then Ta else(decide (a8>32)))=Ta->∃D E F G,zd y s 0 (tL D E F G)/\XRunU Tp (Af 26 (.pointer (Td ⟨d.size,0,Te⟩)) (tA D E F G)) y (λI=>∃J L M N,zd I ⟨d.size,0,Te⟩ 0 (tL J L M N)/\R (tA J L M N) I))/\((bif (bif (decide (B<0))then Ta else(decide (B>=C.len)))then Ta else(decide (a8>32)))=Tc->∀O:zb->Prop,(∀P:zb,(∃Q,zc P (Ad s 3)=Td (slV Q)/\∃S T,zd P ⟨h.size,0,Te⟩ 0 [.string S,slV T]/\XC Tp 59 #[.agg #[.string S,slV T],iV B,iV (Aa .i64 (a8+1))] P (λU V=>∃W X Y Z,U=tA W X Y Z/\(V)[((Ad s 3):Addr).block]?=(P)[((Ad s 3):Addr).block]?/\let aa:=V.push (.cells #[iV W,.string X,slV Y,slV Z] 26);(aa)[((Ad s 3):Addr).block]?=(P)[((Ad s 3):Addr).block]?/\XRun Tp (Au #[24,24] 24 #[slV Q,.slice (Td ⟨V.size,0,Te⟩) 1 1]) aa (λab ac=>∃ae,ab=slV ae/\XRunU Tp (Af 24 (.pointer (Td (Ad s 3))) (slV ae)) ac (λaf=>(v (Aa .i64 (x+1)) af/\w (Aa .i64 (x+1)) af<w x y)))))->O P)->∃ag,zc y (Ad ⟨e.size,0,Te⟩ 0)=Td (iV ag)/\((ag==6)=Ta->∃ah,zc y (Ad s 2)=Td (slV ah)/\∃ai aj,zd y ⟨h.size,0,Te⟩ 0 [.string ai,slV aj]/\XC Tp 112 #[.agg #[.string ai,slV aj],iV B] y (λak al=>∃am,ak=.string am/\(al)[((Ad s 2):Addr).block]?=(y)[((Ad s 2):Addr).block]?/\let an:=al.push (.cells #[.string am] 9);(an)[((Ad s 2):Addr).block]?=(y)[((Ad s 2):Addr).block]?/\XRun Tp (Au #[23,23] 23 #[slV ah,.slice (Td ⟨al.size,0,Te⟩) 1 1]) an (λao ap=>∃aq,ao=slV aq/\XRunU Tp (Af 23 (.pointer (Td (Ad s 2))) (slV aq)) ap (λar=>O ar))))/\((ag==6)=Tc->O y)))/\(decide (x<u.len)=Tc->∃au av aw ax,zd y s 0 (tL au av aw ax)/\XRunU Tp (Af 26 (.pointer (Td ⟨d.size,0,Te⟩)) (tA au av aw ax)) y (λay=>∃az aA aB aC,zd ay ⟨d.size,0,Te⟩ 0 (tL az aA aB aC)/\R (tA az aA aB aC) ay))))->r s t)->∃aD,zc q (Ad ⟨e.size,0,Te⟩ 0)=Td (iV aD)/\∃aE,zc q (Ad ⟨e.size,0,Te⟩ 0)=Td (iV aE)/\∃aF aG,zd q ⟨h.size,0,Te⟩ 0 [.string aF,slV aG]/\∃aH aI,zd q (Ad ⟨e.size,0,Te⟩ 1) 0 [iV aH,iV aI]/\(XC Tp 31 #[.agg #[.string aF,slV aG],.agg #[iV aH,iV aI]] q (λaJ aL=>∃aM,aJ=.string aM/\(aL)[((Ad ⟨e.size,0,Te⟩ 0):Addr).block]?=(q)[((Ad ⟨e.size,0,Te⟩ 0):Addr).block]?/\(aL)[((Ad ⟨e.size,0,Te⟩ 0):Addr).block]?=(q)[((Ad ⟨e.size,0,Te⟩ 0):Addr).block]?/\(XC Tp 111 #[iV aE,.string aM] aL (λaN aO=>∃aP,aN=.string aP/\(aO)[((Ad ⟨e.size,0,Te⟩ 0):Addr).block]?=(q)[((Ad ⟨e.size,0,Te⟩ 0):Addr).block]?/\(let aQ:=aO.push (.cells tC 26);XRunU Tp (Af 26 (.pointer (Td ⟨aO.size,0,Te⟩)) (.agg #[iV aD,.string aP,.slice Te 0 0,.slice Te 0 0])) aQ (λaS=>r ⟨aO.size,0,Te⟩ aS))/\(let aT:=aO.push (.cells tC 26);(aT)[((Ad ⟨e.size,0,Te⟩ 0):Addr).block]?=(q)[((Ad ⟨e.size,0,Te⟩ 0):Addr).block]?/\XRunU Tp (Af 26 (.pointer (Td ⟨aO.size,0,Te⟩)) (.agg #[iV aD,.string aP,.slice Te 0 0,.slice Te 0 0])) aT (λaU=>r ⟨aO.size,0,Te⟩ aU))))/\(let aV:=aL.push (.cells tC 26);(aV)[((Ad ⟨e.size,0,Te⟩ 0):Addr).block]?=(q)[((Ad ⟨e.size,0,Te⟩ 0):Addr).block]?/\(aV)[((Ad ⟨e.size,0,Te⟩ 0):Addr).block]?=(q)[((Ad ⟨e.size,0,Te⟩ 0):Addr).block]?/\XC Tp 111 #[iV aE,.string aM] aV (λaW aX=>∃aY,aW=.string aY/\(aX)[((Ad ⟨e.size,0,Te⟩ 0):Addr).block]?=(q)[((Ad ⟨e.size,0,Te⟩ 0):Addr).block]?/\XRunU Tp (Af 26 (.pointer (Td ⟨aL.size,0,Te⟩)) (.agg #[iV aD,.string aY,.slice Te 0 0,.slice Te 0 0])) aX (λaZ=>r ⟨aL.size,0,Te⟩ aZ)))))/\(let a0:=q.push (.cells tC 26);(a0)[((Ad ⟨e.size,0,Te⟩ 1):Addr).block]?=(q)[((Ad ⟨e.size,0,Te⟩ 1):Addr).block]?/\(a0)[(⟨h.size,0,Te⟩:Addr).block]?=(q)[(⟨h.size,0,Te⟩:Addr).block]?/\(a0)[((Ad ⟨e.size,0,Te⟩ 0):Addr).block]?=(q)[((Ad ⟨e.size,0,Te⟩ 0):Addr).block]?/\(a0)[((Ad ⟨e.size,0,Te⟩ 0):Addr).block]?=(q)[((Ad ⟨e.size,0,Te⟩ 0):Addr).block]?/\XC Tp 31 #[.agg #[.string aF,slV aG],.agg #[iV aH,iV aI]] a0 (λa1 a2=>∃a3,a1=.string a3/\(a2)[((Ad ⟨e.size,0,Te⟩ 0):Addr).block]?=(q)[((Ad ⟨e.size,0,Te⟩ 0):Addr).block]?/\(a2)[((Ad ⟨e.size,0,Te⟩ 0):Addr).block]?=(q)[((Ad ⟨e.size,0,Te⟩ 0):Addr).block]?/\XC Tp 111 #[iV aE,.string a3] a2 (λa4 a5=>∃a6,a4=.string a6/\(a5)[((Ad ⟨e.size,0,Te⟩ 0):Addr).block]?=(q)[((Ad ⟨e.size,0,Te⟩ 0):Addr).block]?/\XRunU Tp (Af 26 (.pointer (Td ⟨q.size,0,Te⟩)) (.agg #[iV aD,.string a6,.slice Te 0 0,.slice Te 0 0])) a5 (λa7=>r ⟨q.size,0,Te⟩ a7)))))):
  XC Tp 59 #[.agg #[.string b,.slice c.a c.len c.cap],.int .i64 k1,.int .i64 a8] h R:=
 XF ⟨[(11,8000),(10,8000),(2,8000)],[(4,[(29,.one (.int .i64))])],[(3,[(8,.one (.ad))]),(11,[])]⟩ [.cell 6 26] 74 Tryz.func59 H
theorem Qe(p0:Option Addr)(aC:Int)(b:Int)(c:Int)(h:zb)(R:Value->zb->Prop) (H:let d:=h.push (.cells #[.pointer p0] 86);let e:=d.push (.cells #[iV b,iV c] 58);∃f:Option Addr,zc e ⟨h.size,0,Te⟩=Td (.pointer f)/\XC Tp 115 #[.pointer f] e (λg i=>∃j,g=iV j/\XC Tp 114 #[iV j] i (λk l=>∃m,k=iV m/\((m==0)=Ta->∃n:Option Addr,zc l ⟨h.size,0,Te⟩=Td (.pointer n)/\XC Tp 62 #[.pointer n,iV 2] l (λo p=>∃q,o=.bool q/\R (.bool q) p))/\((m==0)=Tc->(decide (aC>32)=Ta->∃r:Option Addr,zc l ⟨h.size,0,Te⟩=Td (.pointer r)/\XC Tp 62 #[.pointer r,iV 5] l (λs t=>∃u,s=.bool u/\R (.bool u) t))/\(decide (aC>32)=Tc->∃v:Option Addr,zc l ⟨h.size,0,Te⟩=Td (.pointer v)/\∃w,v=Td w/\∃x,zc l (Ad w 4)=Td (slV x)/\(((x.len:Int)==4096)=Ta->∃y:Option Addr,zc l ⟨h.size,0,Te⟩=Td (.pointer y)/\XC Tp 62 #[.pointer y,iV 6] l (λz A=>∃B,z=.bool B/\R (.bool B) A))/\(((x.len:Int)==4096)=Tc->∃C:Option Addr,zc l ⟨h.size,0,Te⟩=Td (.pointer C)/\∃D,C=Td D/\∃E,zc l (Ad D 4)=Td (slV E)/\∃F:Option Addr,zc l ⟨h.size,0,Te⟩=Td (.pointer F)/\∃G:Option Addr,zc l ⟨h.size,0,Te⟩=Td (.pointer G)/\∃I,G=Td I/\∃J,zc l (Ad I 4)=Td (slV J)/\∃L:Option Addr,zc l ⟨h.size,0,Te⟩=Td (.pointer L)/\∃M,L=Td M/\∃N,zc l (Ad M 1)=Td (slV N)/\∃O,(N.a=Td O/\0<=(0:Int)/\(0:Int)<(N.len:Int))/\∃P Q,zd l (Ad (O.add ((0:Int).toNat*3)) 1) 0 [iV P,iV Q]/\∃S T,zd l ⟨d.size,0,Te⟩ 0 [iV S,iV T]/\(l)[((Ad I 4):Addr).block]?=(l)[((Ad I 4):Addr).block]?/\(l)[(⟨h.size,0,Te⟩:Addr).block]?=(l)[(⟨h.size,0,Te⟩:Addr).block]?/\(l)[(⟨h.size,0,Te⟩:Addr).block]?=(l)[(⟨h.size,0,Te⟩:Addr).block]?/\let U:=l.push (.cells #[iV m,iV P,iV Q,iV S,iV T,.slice Te 0 0,.slice Te 0 0] 62);(U)[((Ad I 4):Addr).block]?=(l)[((Ad I 4):Addr).block]?/\(U)[(⟨h.size,0,Te⟩:Addr).block]?=(l)[(⟨h.size,0,Te⟩:Addr).block]?/\(U)[(⟨h.size,0,Te⟩:Addr).block]?=(l)[(⟨h.size,0,Te⟩:Addr).block]?/\XRun Tp (Au #[34,34] 34 #[slV J,.slice (Td ⟨l.size,0,Te⟩) 1 1]) U (λV W=>∃X,V=slV X/\∃Y,F=Td Y/\(W)[(⟨h.size,0,Te⟩:Addr).block]?=(l)[(⟨h.size,0,Te⟩:Addr).block]?/\XRunU Tp (Af 34 (.pointer (Td (Ad Y 4))) (slV X)) W (λZ=>∃aa:Option Addr,zc Z ⟨h.size,0,Te⟩=Td (.pointer aa)/\XC Tp 116 #[.pointer aa] Z (λab ac=>ab=.tuple #[]/\∀ad:Bool->zb->Prop,(∀ae:Bool,∀af:zb,(∃ag:Option Addr,zc af ⟨h.size,0,Te⟩=Td (.pointer ag)/\∃ah,ag=Td ah/\∃ai,zc af (Ad ah 4)=Td (slV ai)/\∃aj:Option Addr,zc af ⟨h.size,0,Te⟩=Td (.pointer aj)/\∃ak,aj=Td ak/\∃al,zc af (Ad (Ad ak 2) 1)=Td (iV al)/\∃am,(ai.a=Td am/\0<=(E.len:Int)/\(E.len:Int)<(ai.len:Int))/\XRunU Tp (Af 3 (.pointer (Td (Ad (Ad (am.add ((E.len:Int).toNat*7)) 1) 1))) (iV al)) af (λan=>R (.bool ae) an))->ad ae af)->((m==5)=Ta->∃ao:Option Addr,zc ac ⟨h.size,0,Te⟩=Td (.pointer ao)/\∃ap:Option Addr,zc ac ⟨h.size,0,Te⟩=Td (.pointer ap)/\XC Tp 117 #[.pointer ao,iV (E.len:Int),iV aC,iV 5,.func (.func 118) #[.pointer ap] #[]] ac (λaq ar=>∃au,aq=.bool au/\ad au ar))/\((m==5)=Tc->((m==6)=Ta->let av:=ac.push (.map #[] 0);let aw:=av.push (.cells #[.map Te] 154);XRunU Tp (Af 154 (.pointer (Td ⟨av.size,0,Te⟩)) (.map (Td ac.size))) aw (λax=>∃ay:Option Addr,zc ax ⟨h.size,0,Te⟩=Td (.pointer ay)/\XC Tp 117 #[.pointer ay,iV (E.len:Int),iV aC,iV 3,.func (.func 119) #[] #[.pointer (Td ⟨h.size,0,Te⟩),.pointer (Td ⟨av.size,0,Te⟩)]] ax (λaz aA=>∃aB,az=.bool aB/\ad aB aA)))/\((m==6)=Tc->ad Ta ac))))))))))):
  XC Tp 61 #[.pointer p0,.int .i64 aC,.agg #[.int .i64 b,.int .i64 c]] h R:=
 XF ⟨[(9,8000),(18,8000)],[],[(18,[(9,.one (.bool))])]⟩ [.tmp 6] 90 Tryz.func61 H
theorem zcu(k:Option Addr)(i:Int)(h:zb)(R:Value->zb->Prop) (H:XC Tp 121 #[.pointer k] h (λa b=>∃c,a=iV c/\∃d,k=Td d/\XRunU Tp (Af 3 (.pointer (Td (Ad d 5))) (iV c)) b (λe=>∃f,k=Td f/\XRunU Tp (Af 27 (.pointer (Td (Ad f 6))) (iV i)) e (λg=>R (.bool Tc) g)))):
  XC Tp 62 #[.pointer k,.int .i64 i] h R:=
 XF ⟨[],[],[]⟩ [.tmp 4] 14 Tryz.func62 H
theorem Qh(b0:Option Addr)(p:Int)(h:zb)(R:Value->zb->Prop) (H:XC Tp 152 #[.pointer b0] h (λb c=>b=.tuple #[]/\∃d,b0=Td d/\∃e,zc c (Ad d 1)=Td (slV e)/\∃f,b0=Td f/\∃g,zc c (Ad f 1)=Td (slV g)/\XC Tp 153 #[slV g,.int .i32 p] c (λi j=>∃k,i=slV k/\∃l,b0=Td l/\XRunU Tp (Af 110 (.pointer (Td (Ad l 1))) (slV k)) j (λm=>∃n,b0=Td n/\∃o,zc m (Ad n 1)=Td (slV o)/\R (.tuple #[iV (Aa .i64 ((o.len:Int)-(e.len:Int))),.nilIface]) m)))):
  XC Tp 83 #[.pointer b0,.int .i32 p] h R:=
 XF ⟨[],[],[]⟩ [.tmp 4,.tmp 5] 30 Tryz.func83 H
theorem z00(b:Bt)(h:zb)(R:Value->zb->Prop) (H:let a:=h.push (.cells #[.string b] 9);R (.func (.func 197) #[] #[.pointer (Td ⟨h.size,0,Te⟩)]) a):
  XC Tp 113 #[.string b] h R:=
 XF ⟨[],[],[]⟩ [.tmp 2] 4 Tryz.func113 H
theorem zcv(i:Option Addr)(h:zb)(R:Value->zb->Prop) (H:∃b,i=Td b/\∃c,zc h (Ad b 1)=Td (slV c)/\(((c.len:Int)==0)=Ta->R (iV 0) h)/\(((c.len:Int)==0)=Tc->∃d,i=Td d/\∃e,zc h (Ad d 1)=Td (slV e)/\∃f,(e.a=Td f/\0<=(0:Int)/\(0:Int)<(e.len:Int))/\∃g,zc h (Ad (f.add ((0:Int).toNat*3)) 0)=Td (iV g)/\R (iV g) h)):
  XC Tp 115 #[.pointer i] h R:=
 XF ⟨[],[],[]⟩ [.tmp 2] 16 Tryz.func115 H
theorem zcw(n:Option Addr)(h:zb)(R:Value->zb->Prop) (H:∃b,n=Td b/\∃c,zc h (Ad b 1)=Td (slV c)/\∃d,(c.a=Td d/\0<=(0:Int)/\(0:Int)<(c.len:Int))/\∃e f,zd h (Ad (d.add ((0:Int).toNat*3)) 1) 0 [iV e,iV f]/\∃g,n=Td g/\∃i,zc h (Ad g 1)=Td (slV i)/\((Te:Option Value)=Te\/∃v,(Te:Option Value)=Td v)/\(0<=(1:Int)/\(1:Int)<=(i.len:Int)/\(i.len:Int)<=(i.cap:Int)/\(i.cap:Int)<=(i.cap:Int))/\∃j,n=Td j/\XRunU Tp (Af 58 (.pointer (Td (Ad j 2))) (.agg #[iV e,iV f])) h (λk=>∃l,n=Td l/\XRunU Tp (Af 83 (.pointer (Td (Ad l 1))) (.slice (ze7 i.a 3 ((1:Int).toNat) ((i.cap:Int).toNat)) ((i.len:Int).toNat-(1:Int).toNat) ((i.cap:Int).toNat-(1:Int).toNat))) k (λm=>R (.tuple #[]) m))):
  XC Tp 116 #[.pointer n] h R:=
 XF ⟨[(0,8000)],[],[]⟩ [] 20 Tryz.func116 H
theorem zcx(p0:Option Addr)(n1:Int)(aa:Int)(Y:Int)(Z:FuncId)(ab:Array Value)(ae:Array Value)(h:zb)(R:Value->zb->Prop) (H:XC Tp 199 #[.pointer p0,iV Y] h (λb c=>∃d,b=.bool d/\(d=Ta->R (.bool Ta) c)/\(d=Tc->∃(e:zb->Prop) (f:zb->Nat),e c/\∀g:zb,e g->(∃i,p0=Td i/\∃j,zc g (Ad (Ad i 2) 1)=Td (iV j)/\∃k,p0=Td k/\∃l,zc g (Ad k 4)=Td (slV l)/\zh Tp Z=Ta/\XC Tp Z (ab++#[iV (Aa .i64 (aa+1))]++ae) g (λm n=>∃o,m=.bool o/\((!o)=Ta->R (.bool Tc) n)/\((!o)=Tc->∃p,p0=Td p/\∃q,zc n (Ad p 4)=Td (slV q)/\∃r,(q.a=Td r/\0<=n1/\n1<q.len)/\∃s,Td (r.add (n1.toNat*7))=Td s/\∃t,zc n (Ad s 5)=Td (slV t)/\let u:=n.push (.cells #[iV (l.len:Int)] 3);XRun Tp (Au #[59,59] 59 #[slV t,.slice (Td ⟨n.size,0,Te⟩) 1 1]) u (λv w=>∃x,v=slV x/\∃y,Td (r.add (n1.toNat*7))=Td y/\XRunU Tp (Af 59 (.pointer (Td (Ad y 5))) (slV x)) w (λz=>∃A,Td (r.add (n1.toNat*7))=Td A/\∃B,zc z (Ad A 6)=Td (slV B)/\XC Tp 121 #[.pointer p0] z (λC D=>∃E,C=iV E/\(D)[((Ad A 6):Addr).block]?=(z)[((Ad A 6):Addr).block]?/\(D)[((Ad A 6):Addr).block]?=(z)[((Ad A 6):Addr).block]?/\let F:=D.push (.cells #[iV j,iV E] 58);(F)[((Ad A 6):Addr).block]?=(z)[((Ad A 6):Addr).block]?/\XRun Tp (Au #[60,60] 60 #[slV B,.slice (Td ⟨D.size,0,Te⟩) 1 1]) F (λG I=>∃J,G=slV J/\∃L,Td (r.add (n1.toNat*7))=Td L/\XRunU Tp (Af 60 (.pointer (Td (Ad L 6))) (slV J)) I (λM=>XC Tp 199 #[.pointer p0,iV Y] M (λN O=>∃P,N=.bool P/\(P=Ta->R (.bool Ta) O)/\(P=Tc->XC Tp 199 #[.pointer p0,iV 6] O (λQ S=>∃T,Q=.bool T/\((!T)=Ta->XC Tp 62 #[.pointer p0,iV 2] S (λU V=>∃W,U=.bool W/\R (.bool W) V))/\((!T)=Tc->(e S/\f S<f g)))))))))))))))):
  XC Tp 117 #[.pointer p0,.int .i64 n1,.int .i64 aa,.int .i64 Y,.func (.func Z) ab ae] h R:=
 XF ⟨[(8,8000)],[(3,[])],[]⟩ [.tmp 10] 71 Tryz.func117 H
theorem zcy(f:Option Addr)(e:Int)(h:zb)(R:Value->zb->Prop) (H:XC Tp 61 #[.pointer f,iV e,.agg #[iV 0,iV 0]] h (λa b=>∃c,a=.bool c/\R (.bool c) b)):
  XC Tp 118 #[.pointer f,.int .i64 e] h R:=
 XF ⟨[],[],[]⟩ [.tmp 4] 9 Tryz.func118 H
theorem Xr(f:Int)(c1:Addr)(c2:Addr)(h:zb)(R:Value->zb->Prop) (H:∃a:Option Addr,zc h c1=Td (.pointer a)/\∃b:Option Nat,zc h c2=Td (.map b)/\XC Tp 120 #[.pointer a,iV f,.map b] h (λc d=>∃e,c=.bool e/\R (.bool e) d)):
  XC Tp 119 #[.int .i64 f,.pointer (Td c1),.pointer (Td c2)] h R:=
 XF ⟨[],[],[]⟩ [.tmp 4] 9 Tryz.func119 H
theorem zal(Y:Option Addr)(U:Int)(V:Option Nat)(h:zb)(R:Value->zb->Prop) (H:XC Tp 115 #[.pointer Y] h (λb c=>∃d,b=iV d/\((d != 8)=Ta->XC Tp 62 #[.pointer Y,iV 2] c (λe f=>∃g,e=.bool g/\R (.bool g) f))/\((d != 8)=Tc->∃i,Y=Td i/\∃j,zc c (Ad i 1)=Td (slV j)/\∃k,(j.a=Td k/\0<=(0:Int)/\(0:Int)<(j.len:Int))/\∃l m,zd c (Ad (k.add ((0:Int).toNat*3)) 1) 0 [iV l,iV m]/\let n:=c.push (.cells #[iV 0,iV 0] 58);XRunU Tp (Af 58 (.pointer (Td ⟨c.size,0,Te⟩)) (.agg #[iV l,iV m])) n (λo=>∃p,Y=Td p/\∃q,zc o (Ad p 0)=Td (.string q)/\∃r,zc o (Ad ⟨c.size,0,Te⟩ 0)=Td (iV r)/\∃s,zc o (Ad ⟨c.size,0,Te⟩ 1)=Td (iV s)/\(0<=r/\r<=s/\s<=q.size)/\XC Tp 196 #[.string (q.extract r.toNat s.toNat)] o (λt u=>∃v w x,t=.tuple #[.string v,iV w,iV x]/\∃y,QExec Tp (C9 154 (.map V) (.string v) Tc) u (.bool y)/\(y=Ta->XC Tp 62 #[.pointer Y,iV 7] u (λz A=>∃B,z=.bool B/\R (.bool B) A))/\(y=Tc->XRunU Tp (Ce 154 (.map V) (.string v) (.bool Ta)) u (λC=>XC Tp 116 #[.pointer Y] C (λD E=>D=.tuple #[]/\XC Tp 199 #[.pointer Y,iV 7] E (λF G=>∃I,F=.bool I/\((!I)=Ta->XC Tp 62 #[.pointer Y,iV 2] G (λJ L=>∃M,J=.bool M/\R (.bool M) L))/\((!I)=Tc->∃N O,zd G ⟨c.size,0,Te⟩ 0 [iV N,iV O]/\XC Tp 61 #[.pointer Y,iV U,.agg #[iV N,iV O]] G (λP Q=>∃S,P=.bool S/\R (.bool S) Q))))))))))):
  XC Tp 120 #[.pointer Y,.int .i64 U,.map V] h R:=
 XF ⟨[(4,8000)],[],[]⟩ [.tmp 6] 55 Tryz.func120 H
theorem zcz(k:Option Addr)(h:zb)(R:Value->zb->Prop) (H:∃b,k=Td b/\∃c,zc h (Ad b 1)=Td (slV c)/\(((c.len:Int)==0)=Ta->∃d,k=Td d/\∃e,zc h (Ad d 0)=Td (.string e)/\R (iV (e.size:Int)) h)/\(((c.len:Int)==0)=Tc->∃f,k=Td f/\∃g,zc h (Ad f 1)=Td (slV g)/\∃i,(g.a=Td i/\0<=(0:Int)/\(0:Int)<(g.len:Int))/\∃j,zc h (Ad (Ad (i.add ((0:Int).toNat*3)) 1) 0)=Td (iV j)/\R (iV j) h)):
  XC Tp 121 #[.pointer k] h R:=
 XF ⟨[],[],[]⟩ [.tmp 2] 22 Tryz.func121 H
theorem zvv(s0:Bt)(bz:Int)(h:zb)(R:Value->zb->Prop) (H:let a:=h.push (.cells #[iV bz] 3);let b:=a.push (.cells #[iV 0,iV 0,iV 0] 90);∃c,zc b ⟨h.size,0,Te⟩=Td (iV c)/\(0<=c/\c<=s0.size/\(s0.size:Int)<=(s0.size:Int))/\(0<=(0:Int)/\(0:Int)<((s0.extract c.toNat (s0.size:Int).toNat).size:Int))/\XC Tp 212 #[.string (⟨#[123,125,91,93,44,58]⟩:Bt),.int .u8 (zr (s0.extract c.toNat (s0.size:Int).toNat) (0:Int).toNat)] b (λd e=>∃f,d=iV f/\(decide (f>=0)=Ta->∃g,zc e ⟨h.size,0,Te⟩=Td (iV g)/\zh Tp 254=Ta/\XC Tp 254 #[iV (Aa .i64 (2+f)),iV (Aa .i64 (g+1)),.pointer (Td ⟨h.size,0,Te⟩)] e (λi j=>∃k l m n,i=.tuple #[.agg #[iV k,iV l,iV m],iV n]/\XRunU Tp (Af 90 (.pointer (Td ⟨a.size,0,Te⟩)) (.agg #[iV k,iV l,iV m])) j (λo=>∃p q r,zd o ⟨a.size,0,Te⟩ 0 [iV p,iV q,iV r]/\R (.tuple #[.agg #[iV p,iV q,iV r],iV n]) o)))/\(decide (f>=0)=Tc->XC Tp 212 #[.string (⟨#[32,9,10,13]⟩:Bt),.int .u8 (zr (s0.extract c.toNat (s0.size:Int).toNat) (0:Int).toNat)] e (λs t=>∃u,s=iV u/\(decide (u>=0)=Ta->∃v,zc t ⟨h.size,0,Te⟩=Td (iV v)/\XC Tp 257 #[.string (⟨#[32,9,10,13]⟩:Bt)] t (λw x=>∃y:Value,w=y/\(x)[(⟨h.size,0,Te⟩:Addr).block]?=(t)[(⟨h.size,0,Te⟩:Addr).block]?/\XC Tp 256 #[.string (s0.extract c.toNat (s0.size:Int).toNat),y] x (λz A=>∃B,z=iV B/\(A)[(⟨h.size,0,Te⟩:Addr).block]?=(t)[(⟨h.size,0,Te⟩:Addr).block]?/\zh Tp 254=Ta/\XC Tp 254 #[iV 1,iV (Aa .i64 (v+B)),.pointer (Td ⟨h.size,0,Te⟩)] A (λC D=>∃E F G I,C=.tuple #[.agg #[iV E,iV F,iV G],iV I]/\XRunU Tp (Af 90 (.pointer (Td ⟨a.size,0,Te⟩)) (.agg #[iV E,iV F,iV G])) D (λJ=>∃L M N,zd J ⟨a.size,0,Te⟩ 0 [iV L,iV M,iV N]/\R (.tuple #[.agg #[iV L,iV M,iV N],iV I]) J)))))/\(decide (u>=0)=Tc->(((zr (s0.extract c.toNat (s0.size:Int).toNat) (0:Int).toNat:Int)==34)=Ta->∃O,zc t ⟨h.size,0,Te⟩=Td (iV O)/\XC Tp 258 #[.string s0,iV O] t (λP Q=>∃S T,P=.tuple #[iV S,iV T]/\((T != 0)=Ta->zh Tp 255=Ta/\XC Tp 255 #[iV S,iV T] Q (λU V=>∃W X Y Z,U=.tuple #[.agg #[iV W,iV X,iV Y],iV Z]/\XRunU Tp (Af 90 (.pointer (Td ⟨a.size,0,Te⟩)) (.agg #[iV W,iV X,iV Y])) V (λaa=>∃ab ac ad,zd aa ⟨a.size,0,Te⟩ 0 [iV ab,iV ac,iV ad]/\R (.tuple #[.agg #[iV ab,iV ac,iV ad],iV Z]) aa)))/\((T != 0)=Tc->zh Tp 254=Ta/\XC Tp 254 #[iV 8,iV S,.pointer (Td ⟨h.size,0,Te⟩)] Q (λae af=>∃ag ah ai aj,ae=.tuple #[.agg #[iV ag,iV ah,iV ai],iV aj]/\XRunU Tp (Af 90 (.pointer (Td ⟨a.size,0,Te⟩)) (.agg #[iV ag,iV ah,iV ai])) af (λak=>∃al am an,zd ak ⟨a.size,0,Te⟩ 0 [iV al,iV am,iV an]/\R (.tuple #[.agg #[iV al,iV am,iV an],iV aj]) ak)))))/\(((zr (s0.extract c.toNat (s0.size:Int).toNat) (0:Int).toNat:Int)==34)=Tc->((bif ((zr (s0.extract c.toNat (s0.size:Int).toNat) (0:Int).toNat:Int)==45)then Ta else(bif (decide ((zr (s0.extract c.toNat (s0.size:Int).toNat) (0:Int).toNat:Int)>=48))then(decide ((zr (s0.extract c.toNat (s0.size:Int).toNat) (0:Int).toNat:Int)<=57))else Tc))=Ta->∃ao,zc t ⟨h.size,0,Te⟩=Td (iV ao)/\XC Tp 257 #[.string (⟨#[45,43,46,48,49,50,51,52,53,54,55,56,57,101,69]⟩:Bt)] t (λap aq=>∃ar:Value,ap=ar/\(aq)[(⟨h.size,0,Te⟩:Addr).block]?=(t)[(⟨h.size,0,Te⟩:Addr).block]?/\XC Tp 256 #[.string (s0.extract c.toNat (s0.size:Int).toNat),ar] aq (λau av=>∃aw,au=iV aw/\(av)[(⟨h.size,0,Te⟩:Addr).block]?=(t)[(⟨h.size,0,Te⟩:Addr).block]?/\∃ax,zc av ⟨h.size,0,Te⟩=Td (iV ax)/\(0<=ax/\ax<=(Aa .i64 (ao+aw))/\(Aa .i64 (ao+aw))<=(s0.size:Int))/\XC Tp 25 #[.string (s0.extract ax.toNat (Aa .i64 (ao+aw)).toNat)] av (λay az=>∃aA aB aC aD,ay=.tuple #[.agg #[.bool aA,.string aB,iV aC],iV aD]/\let aE:=az.push (.cells #[.bool Tc,.string (⟨#[]⟩:Bt),iV 0] 46);XRunU Tp (Af 46 (.pointer (Td ⟨az.size,0,Te⟩)) (.agg #[.bool aA,.string aB,iV aC])) aE (λaF=>((aD != 0)=Ta->∃aG,zc aF ⟨h.size,0,Te⟩=Td (iV aG)/\zh Tp 255=Ta/\XC Tp 255 #[iV aG,iV aD] aF (λaH aI=>∃aJ aL aM aN,aH=.tuple #[.agg #[iV aJ,iV aL,iV aM],iV aN]/\XRunU Tp (Af 90 (.pointer (Td ⟨a.size,0,Te⟩)) (.agg #[iV aJ,iV aL,iV aM])) aI (λaO=>∃aP aQ aS,zd aO ⟨a.size,0,Te⟩ 0 [iV aP,iV aQ,iV aS]/\R (.tuple #[.agg #[iV aP,iV aQ,iV aS],iV aN]) aO)))/\((aD != 0)=Tc->zh Tp 254=Ta/\XC Tp 254 #[iV 9,iV (Aa .i64 (ao+aw)),.pointer (Td ⟨h.size,0,Te⟩)] aF (λaT aU=>∃aV aW aX aY,aT=.tuple #[.agg #[iV aV,iV aW,iV aX],iV aY]/\XRunU Tp (Af 90 (.pointer (Td ⟨a.size,0,Te⟩)) (.agg #[iV aV,iV aW,iV aX])) aU (λaZ=>∃a0 a1 a2,zd aZ ⟨a.size,0,Te⟩ 0 [iV a0,iV a1,iV a2]/\R (.tuple #[.agg #[iV a0,iV a1,iV a2],iV aY]) aZ))))))))/\((bif ((zr (s0.extract c.toNat (s0.size:Int).toNat) (0:Int).toNat:Int)==45)then Ta else(bif (decide ((zr (s0.extract c.toNat (s0.size:Int).toNat) (0:Int).toNat:Int)>=48))then(decide ((zr (s0.extract c.toNat (s0.size:Int).toNat) (0:Int).toNat:Int)<=57))else Tc))=Tc->XC Tp 256 #[.string (s0.extract c.toNat (s0.size:Int).toNat),.func (.func 259) #[] #[]] t (λa3 a4=>∃a5,a3=iV a5/\(0<=(0:Int)/\(0:Int)<=a5/\a5<=((s0.extract c.toNat (s0.size:Int).toNat).size:Int))/\XC Tp 260 #[.string ((s0.extract c.toNat (s0.size:Int).toNat).extract (0:Int).toNat a5.toNat)] a4 (λa6 a7=>∃a8,a6=iV a8/\((a8 != 0)=Ta->∃a9,zc a7 ⟨h.size,0,Te⟩=Td (iV a9)/\zh Tp 254=Ta/\XC Tp 254 #[iV a8,iV (Aa .i64 (a9+a5)),.pointer (Td ⟨h.size,0,Te⟩)] a7 (λba bb=>∃bc bd be bf,ba=.tuple #[.agg #[iV bc,iV bd,iV be],iV bf]/\XRunU Tp (Af 90 (.pointer (Td ⟨a.size,0,Te⟩)) (.agg #[iV bc,iV bd,iV be])) bb (λbg=>∃bh bi bj,zd bg ⟨a.size,0,Te⟩ 0 [iV bh,iV bi,iV bj]/\R (.tuple #[.agg #[iV bh,iV bi,iV bj],iV bf]) bg)))/\((a8 != 0)=Tc->∃bk,zc a7 ⟨h.size,0,Te⟩=Td (iV bk)/\zh Tp 255=Ta/\XC Tp 255 #[iV bk,iV 2] a7 (λbl bm=>∃bn bo bp bq,bl=.tuple #[.agg #[iV bn,iV bo,iV bp],iV bq]/\XRunU Tp (Af 90 (.pointer (Td ⟨a.size,0,Te⟩)) (.agg #[iV bn,iV bo,iV bp])) bm (λbr=>∃bs bt bu,zd br ⟨a.size,0,Te⟩ 0 [iV bs,iV bt,iV bu]/\R (.tuple #[.agg #[iV bs,iV bt,iV bu],iV bq]) br)))))))))))):
  XC Tp 198 #[.string s0,.int .i64 bz] h R:=
 XF ⟨[(9,8000),(16,8000)],[],[]⟩ [.cell 4 90,.tmp 5] 130 Tryz.func198 H
theorem zbo(i:Option Addr)(f:Int)(h:zb)(R:Value->zb->Prop) (H:XC Tp 115 #[.pointer i] h (λa b=>∃c,a=iV c/\((c != f)=Ta->R (.bool Tc) b)/\((c != f)=Tc->XC Tp 116 #[.pointer i] b (λd e=>d=.tuple #[]/\R (.bool Ta) e)))):
  XC Tp 199 #[.pointer i,.int .i64 f] h R:=
 XF ⟨[],[],[]⟩ [.tmp 4] 11 Tryz.func199 H
theorem zpa(s:Bt)(r:Int)(h:zb)(R:Value->zb->Prop) (H:((!(decide (r>=s.size)))=Ta->(0<=r/\r<s.size))/\((bif (decide (r>=s.size))then Ta else((zr s r.toNat:Int) != 34))=Ta->R (.tuple #[.string (⟨#[]⟩:Bt),iV r,iV 2]) h)/\((bif (decide (r>=s.size))then Ta else((zr s r.toNat:Int) != 34))=Tc->let a:=h.push (.cells #[.pointer Te,.slice Te 0 0] 112);∃(b:Int->zb->Prop) (c:Int->zb->Nat),b (Aa .i64 (r+1)) a/\∀d:Int,∀e:zb,b d e->((decide (d<s.size)=Ta->(0<=d/\d<s.size)/\(((zr s d.toNat:Int)==34)=Ta->XC Tp 87 #[.pointer (Td ⟨h.size,0,Te⟩)] e (λf g=>∃i,f=.string i/\R (.tuple #[.string i,iV (Aa .i64 (d+1)),iV 0]) g))/\(((zr s d.toNat:Int)==34)=Tc->(0<=d/\d<=s.size/\(s.size:Int)<=(s.size:Int))/\XC Tp 291 #[.string (s.extract d.toNat (s.size:Int).toNat)] e (λj k=>∃l m,j=.tuple #[.int .i32 l,iV m]/\((m==0)=Ta->R (.tuple #[.string (⟨#[]⟩:Bt),iV d,iV 2]) k)/\((m==0)=Tc->XC Tp 83 #[.pointer (Td ⟨h.size,0,Te⟩),.int .i32 l] k (λn o=>∃p,∃q:Value,n=.tuple #[iV p,q]/\(b (Aa .i64 (d+m)) o/\c (Aa .i64 (d+m)) o<c d e))))))/\(decide (d<s.size)=Tc->R (.tuple #[.string (⟨#[]⟩:Bt),iV (s.size:Int),iV 2]) e)))):
  XC Tp 253 #[.string s,.int .i64 r] h R:=
 XF ⟨[],[(5,[(1,.one (.int .i64))])],[]⟩ [.tmp 4,.tmp 5,.tmp 6] 51 Tryz.func253 H
theorem zpb(i:Int)(k:Int)(c2:Addr)(h:zb)(R:Value->zb->Prop) (H:let a:=h.push (.cells #[iV 0,iV 0,iV 0] 90);∃b,zc a c2=Td (iV b)/\XRunU Tp (Af 90 (.pointer (Td ⟨h.size,0,Te⟩)) (.agg #[iV i,iV b,iV k])) a (λc=>∃d e f,zd c ⟨h.size,0,Te⟩ 0 [iV d,iV e,iV f]/\R (.tuple #[.agg #[iV d,iV e,iV f],iV 0]) c)):
  XC Tp 254 #[.int .i64 i,.int .i64 k,.pointer (Td c2)] h R:=
 XF ⟨[],[],[]⟩ [.cell 5 90,.tmp 6] 12 Tryz.func254 H
theorem z01(m:Bt)(i:FuncId)(l:Array Value)(k:Array Value)(h:zb)(R:Value->zb->Prop) (H:∃(a:Int->zb->Prop) (b:Int->zb->Nat),a 0 h/\∀c:Int,∀d:zb,a c d->((decide (c<m.size)=Ta->(0<=c/\c<m.size)/\zh Tp i=Ta/\XC Tp i (l++#[.int .u8 (zr m c.toNat)]++k) d (λe f=>∃g,e=.bool g/\((!g)=Ta->R (iV c) f)/\((!g)=Tc->(a (Aa .i64 (c+1)) f/\b (Aa .i64 (c+1)) f<b c d))))/\(decide (c<m.size)=Tc->R (iV (m.size:Int)) d))):
  XC Tp 256 #[.string m,.func (.func i) l k] h R:=
 XF ⟨[],[(2,[(8,.one (.int .i64))])],[]⟩ [.tmp 4] 21 Tryz.func256 H
theorem zsp(b:Bt)(h:zb)(R:Value->zb->Prop) (H:let a:=h.push (.cells #[.string b] 9);R (.func (.func 292) #[] #[.pointer (Td ⟨h.size,0,Te⟩)]) a):
  XC Tp 257 #[.string b] h R:=
 XF ⟨[],[],[]⟩ [.tmp 2] 4 Tryz.func257 H
theorem zl1(c0:Int)(c1:Addr)(h:zb)(R:Value->zb->Prop) (H:∃a,zc h c1=Td (.string a)/\XC Tp 212 #[.string a,.int .u8 c0] h (λb c=>∃d,b=iV d/\R (.bool (decide (d>=0))) c)):
  XC Tp 292 #[.int .u8 c0,.pointer (Td c1)] h R:=
 XF ⟨[],[],[]⟩ [.tmp 3] 8 Tryz.func292 H
theorem Qa(s0:Bt)(aM:Int)(aL:Int)(h:zb)(R:Value->zb->Prop) (H:((s0.toList==(⟨#[]⟩:Bt).toList)=Ta->R (.tuple #[.int .u64 0,.iface 287 (iV 2)]) h)/\((s0.toList==(⟨#[]⟩:Bt).toList)=Tc->∀b:Bt->Int->zb->Prop,(∀c:Bt,∀d:Int,∀e:zb,(∀f:Int->zb->Prop,(∀g:Int,∀i:zb,(∀j:Int->zb->Prop,(∀k:Int,∀l:zb,(0<=(Aa .u64 g)/\XRun Tp (convert 9 110 (.string c)) l (λm n=>∃o,m=slV o/\∃(p:Bool->Int->Int->zb->Prop) (q:Bool->Int->Int->zb->Nat),p Tc 0 0 n/\∀r:Bool,∀s t:Int,∀u:zb,p r s t u->((decide (t<o.len)=Ta->∃v,(o.a=Td v/\0<=t/\t<o.len)/\∃w,zc u (v.add (t.toNat*1))=Td (.int .u8 w)/\∀x:Bool->Int->zb->Prop,(∀y:Bool,∀z:Int,∀A:zb,((decide (z>=(Aa .u8 d))=Ta->R (.tuple #[.int .u64 0,.iface 287 (iV 2)]) A)/\(decide (z>=(Aa .u8 d))=Tc->(decide (s>=k)=Ta->R (.tuple #[.int .u64 (Aa .u64 ((Aa .u64 (1*2 ^ (min (Aa .u64 g).toNat 64)))-1)),.iface 287 (iV 1)]) A)/\(decide (s>=k)=Tc->((bif (decide ((Aa .u64 ((Aa .u64 (s*(Aa .u64 d)))+(Aa .u64 z)):Int)<(Aa .u64 (s*(Aa .u64 d)))))then Ta else(decide ((Aa .u64 ((Aa .u64 (s*(Aa .u64 d)))+(Aa .u64 z)):Int)>(Aa .u64 ((Aa .u64 (1*2 ^ (min (Aa .u64 g).toNat 64)))-1)))))=Ta->R (.tuple #[.int .u64 (Aa .u64 ((Aa .u64 (1*2 ^ (min (Aa .u64 g).toNat 64)))-1)),.iface 287 (iV 1)]) A)/\((bif (decide ((Aa .u64 ((Aa .u64 (s*(Aa .u64 d)))+(Aa .u64 z)):Int)<(Aa .u64 (s*(Aa .u64 d)))))then Ta else(decide ((Aa .u64 ((Aa .u64 (s*(Aa .u64 d)))+(Aa .u64 z)):Int)>(Aa .u64 ((Aa .u64 (1*2 ^ (min (Aa .u64 g).toNat 64)))-1)))))=Tc->(p y (Aa .u64 ((Aa .u64 (s*(Aa .u64 d)))+(Aa .u64 z))) (Aa .i64 (t+1)) A/\q y (Aa .u64 ((Aa .u64 (s*(Aa .u64 d)))+(Aa .u64 z))) (Aa .i64 (t+1)) A<q r s t u)))))->x y z A)->((bif (w==95)then(aM==0)else Tc)=Ta->(p Ta s (Aa .i64 (t+1)) u/\q Ta s (Aa .i64 (t+1)) u<q r s t u))/\((bif (w==95)then(aM==0)else Tc)=Tc->((bif (decide ((48:Int)<=w))then(decide (w<=57))else Tc)=Ta->x r (Aa .u8 (w-48)) u)/\((bif (decide ((48:Int)<=w))then(decide (w<=57))else Tc)=Tc->XC Tp 325 #[.int .u8 w] u (λB C=>∃D,B=.int .u8 D/\∃E:Value->zb->Prop,(decide ((97:Int)<=D)=Ta->XC Tp 325 #[.int .u8 w] C (λF G=>∃I,F=.int .u8 I/\E (.int .u8 I) G))/\(decide ((97:Int)<=D)=Tc->∃J,E (.int .u8 J) C)/\(decide ((97:Int)<=D)=Ta->∀L M,E L M->∃N,L=.int .u8 N)/\∀O:Int,∀P,E (.int .u8 O) P->((bif (decide ((97:Int)<=D))then(decide (O<=122))else Tc)=Ta->XC Tp 325 #[.int .u8 w] P (λQ S=>∃T,Q=.int .u8 T/\x r (Aa .u8 ((Aa .u8 (T-97))+10)) S))/\((bif (decide ((97:Int)<=D))then(decide (O<=122))else Tc)=Tc->R (.tuple #[.int .u64 0,.iface 287 (iV 2)]) P)))))/\(decide (t<o.len)=Tc->∃U:Value->zb->Prop,(r=Ta->XC Tp 326 #[.string s0] u (λV W=>∃X,V=.bool X/\U (.bool X) W))/\(r=Tc->∃Y,U (.bool Y) u)/\(r=Ta->∀Z aa,U Z aa->∃ab,Z=.bool ab)/\∀ac:Bool,∀ad,U (.bool ac) ad->((bif r then(!ac)else Tc)=Ta->R (.tuple #[.int .u64 0,.iface 287 (iV 2)]) ad)/\((bif r then(!ac)else Tc)=Tc->R (.tuple #[.int .u64 s,.nilIface]) ad)))))->j k l)->((d==10)=Ta->j 1844674407370955162 i)/\((d==10)=Tc->((d==16)=Ta->j 1152921504606846976 i)/\((d==16)=Tc->IntKind.u64=IntKind.u64/\(Aa .u64 d)≠0/\j (Aa .u64 ((Aa .u64 ((18446744073709551615:Int).tdiv (Aa .u64 d)))+1)) i)))->f g i)->((aL==0)=Ta->f 64 e)/\((aL==0)=Tc->((bif (decide (aL<0))then Ta else(decide (aL>64)))=Ta->R (.tuple #[.int .u64 0,.iface 287 (iV 4)]) e)/\((bif (decide (aL<0))then Ta else(decide (aL>64)))=Tc->f aL e)))->b c d e)->((bif (decide ((2:Int)<=aM))then(decide (aM<=36))else Tc)=Ta->b s0 aM h)/\((bif (decide ((2:Int)<=aM))then(decide (aM<=36))else Tc)=Tc->((aM==0)=Ta->(0<=(0:Int)/\(0:Int)<(s0.size:Int))/\(((zr s0 (0:Int).toNat:Int)==48)=Ta->(decide ((s0.size:Int)>=3)=Ta->(0<=(1:Int)/\(1:Int)<(s0.size:Int)))/\∃ae:Value->zb->Prop,(decide ((s0.size:Int)>=3)=Ta->XC Tp 325 #[.int .u8 (zr s0 (1:Int).toNat)] h (λaf ag=>∃ah,af=.int .u8 ah/\ae (.int .u8 ah) ag))/\(decide ((s0.size:Int)>=3)=Tc->∃ai,ae (.int .u8 ai) h)/\(decide ((s0.size:Int)>=3)=Ta->∀aj ak,ae aj ak->∃al,aj=.int .u8 al)/\∀am:Int,∀an,ae (.int .u8 am) an->((bif (decide ((s0.size:Int)>=3))then(am==98)else Tc)=Ta->(0<=(2:Int)/\(2:Int)<=(s0.size:Int)/\(s0.size:Int)<=(s0.size:Int))/\b (s0.extract (2:Int).toNat (s0.size:Int).toNat) 2 an)/\((bif (decide ((s0.size:Int)>=3))then(am==98)else Tc)=Tc->(decide ((s0.size:Int)>=3)=Ta->(0<=(1:Int)/\(1:Int)<(s0.size:Int)))/\∃ao:Value->zb->Prop,(decide ((s0.size:Int)>=3)=Ta->XC Tp 325 #[.int .u8 (zr s0 (1:Int).toNat)] an (λap aq=>∃ar,ap=.int .u8 ar/\ao (.int .u8 ar) aq))/\(decide ((s0.size:Int)>=3)=Tc->∃au,ao (.int .u8 au) an)/\(decide ((s0.size:Int)>=3)=Ta->∀av aw,ao av aw->∃ax,av=.int .u8 ax)/\∀ay:Int,∀az,ao (.int .u8 ay) az->((bif (decide ((s0.size:Int)>=3))then(ay==111)else Tc)=Ta->(0<=(2:Int)/\(2:Int)<=(s0.size:Int)/\(s0.size:Int)<=(s0.size:Int))/\b (s0.extract (2:Int).toNat (s0.size:Int).toNat) 8 az)/\((bif (decide ((s0.size:Int)>=3))then(ay==111)else Tc)=Tc->(decide ((s0.size:Int)>=3)=Ta->(0<=(1:Int)/\(1:Int)<(s0.size:Int)))/\∃aA:Value->zb->Prop,(decide ((s0.size:Int)>=3)=Ta->XC Tp 325 #[.int .u8 (zr s0 (1:Int).toNat)] az (λaB aC=>∃aD,aB=.int .u8 aD/\aA (.int .u8 aD) aC))/\(decide ((s0.size:Int)>=3)=Tc->∃aE,aA (.int .u8 aE) az)/\(decide ((s0.size:Int)>=3)=Ta->∀aF aG,aA aF aG->∃aH,aF=.int .u8 aH)/\∀aI:Int,∀aJ,aA (.int .u8 aI) aJ->((bif (decide ((s0.size:Int)>=3))then(aI==120)else Tc)=Ta->(0<=(2:Int)/\(2:Int)<=(s0.size:Int)/\(s0.size:Int)<=(s0.size:Int))/\b (s0.extract (2:Int).toNat (s0.size:Int).toNat) 16 aJ)/\((bif (decide ((s0.size:Int)>=3))then(aI==120)else Tc)=Tc->(0<=(1:Int)/\(1:Int)<=(s0.size:Int)/\(s0.size:Int)<=(s0.size:Int))/\b (s0.extract (1:Int).toNat (s0.size:Int).toNat) 8 aJ))))/\(((zr s0 (0:Int).toNat:Int)==48)=Tc->b s0 10 h))/\((aM==0)=Tc->R (.tuple #[.int .u64 0,.iface 287 (iV 3)]) h)))):
  XC Tp 316 #[.string s0,.int .i64 aM,.int .i64 aL] h R:=
 XF ⟨[],[(36,[(12,.one (.bool)),(13,.one (.int .u64)),(101,.one (.int .i64))])],[(21,[(0,.one (.str)),(1,.one (.int .i64))]),(25,[(2,.one (.int .i64))]),(32,[(10,.one (.int .u64))]),(46,[(12,.one (.bool)),(16,.one (.int .u8))])]⟩ [.tmp 6,.tmp 7] 172 Tryz.func316 H
theorem zbp(l:Bt)(k:Int)(i:Int)(h:zb)(R:Value->zb->Prop) (H:XC Tp 316 #[.string l,iV k,iV i] h (λa b=>∃c,∃d:Value,a=.tuple #[.int .u64 c,d]/\ifc d=Ta/\((!qhr d)=Ta->XC Tp 267 #[.string (⟨#[80,97,114,115,101,85,105,110,116]⟩:Bt),.string l,iV k,iV i,d] b (λe f=>∃g:Value,e=g/\R (.tuple #[.int .u64 c,g]) f))/\((!qhr d)=Tc->R (.tuple #[.int .u64 c,.nilIface]) b))):
  XC Tp 329 #[.string l,.int .i64 k,.int .i64 i] h R:=
 XF ⟨[],[],[]⟩ [.tmp 6,.tmp 7] 26 Tryz.func329 H
theorem Z1(aa:Sl)(u1:Int)(Y:Int)(Z:Bool)(b:Bool)(h:zb)(R:Value->zb->Prop) (H:∀c:zb->Prop,(∀d:zb,(let e:=d.push (.cells #[.int .u8 0,.int .u8 0,.int .u8 0,.int .u8 0,.int .u8 0,.int .u8 0,.int .u8 0,.int .u8 0,.int .u8 0,.int .u8 0,.int .u8 0,.int .u8 0,.int .u8 0,.int .u8 0,.int .u8 0,.int .u8 0,.int .u8 0,.int .u8 0,.int .u8 0,.int .u8 0,.int .u8 0,.int .u8 0,.int .u8 0,.int .u8 0,.int .u8 0,.int .u8 0,.int .u8 0,.int .u8 0,.int .u8 0,.int .u8 0,.int .u8 0,.int .u8 0,.int .u8 0,.int .u8 0,.int .u8 0,.int .u8 0,.int .u8 0,.int .u8 0,.int .u8 0,.int .u8 0,.int .u8 0,.int .u8 0,.int .u8 0,.int .u8 0,.int .u8 0,.int .u8 0,.int .u8 0,.int .u8 0,.int .u8 0,.int .u8 0,.int .u8 0,.int .u8 0,.int .u8 0,.int .u8 0,.int .u8 0,.int .u8 0,.int .u8 0,.int .u8 0,.int .u8 0,.int .u8 0,.int .u8 0,.int .u8 0,.int .u8 0,.int .u8 0,.int .u8 0] 274);∀f:Int->zb->Prop,(∀g:Int,∀i:zb,(∀j:Int->zb->Prop,(∀k:Int,∀l:zb,(∀m:Int->zb->Prop,(∀n:Int,∀o:zb,((b=Ta->(0<=n/\n<=(65:Int)/\(65:Int)<=(65:Int))/\XRun Tp (Au #[110,110] 110 #[slV aa,.slice (ze7 (Td ⟨d.size,0,Te⟩) 1 n.toNat 65) ((65:Int).toNat-n.toNat) (65-n.toNat)]) o (λp q=>∃r,p=slV r/\R (.tuple #[slV r,.string (⟨#[]⟩:Bt)]) q))/\(b=Tc->(0<=n/\n<=(65:Int)/\(65:Int)<=(65:Int))/\XRun Tp (convert 110 9 (.slice (ze7 (Td ⟨d.size,0,Te⟩) 1 n.toNat 65) ((65:Int).toNat-n.toNat) (65-n.toNat))) o (λs t=>∃u,s=.string u/\R (.tuple #[.slice Te 0 0,.string u]) t)))->m n o)->(Z=Ta->∃v:Addr,(Td ⟨d.size,0,Te⟩=Td v/\0<=(Aa .i64 (k-1))/\(Aa .i64 (k-1))<((65:Nat):Int))/\XRunU Tp (Af 5 (.pointer (Td (v.add ((Aa .i64 (k-1)).toNat*1)))) (.int .u8 45)) l (λw=>m (Aa .i64 (k-1)) w))/\(Z=Tc->m k l))->j k l)->XC Tp 273 #[iV Y] i (λx y=>∃z,x=.bool z/\(z=Ta->XC Tp 274 #[.int .u64 (Aa .u64 Y)] y (λA B=>∃C,A=iV C/\∃(D:Int->Int->zb->Prop) (E:Int->Int->zb->Nat),D g 65 B/\∀F G:Int,∀I:zb,D F G I->((decide (F>=(Aa .u64 Y))=Ta->(0<=(Aa .u64 (((BO (Bm .u64) F) &&& (BO (Bm .u64) (Aa .u64 ((Aa .u64 Y)-1)))).toNat:Int):Int)/\(Aa .u64 (((BO (Bm .u64) F) &&& (BO (Bm .u64) (Aa .u64 ((Aa .u64 Y)-1)))).toNat:Int):Int)<(((⟨#[48,49,50,51,52,53,54,55,56,57,97,98,99,100,101,102,103,104,105,106,107,108,109,110,111,112,113,114,115,116,117,118,119,120,121,122]⟩:Bt)).size:Int))/\∃J:Addr,(Td ⟨d.size,0,Te⟩=Td J/\0<=(Aa .i64 (G-1))/\(Aa .i64 (G-1))<((65:Nat):Int))/\XRunU Tp (Af 5 (.pointer (Td (J.add ((Aa .i64 (G-1)).toNat*1)))) (.int .u8 (zr (⟨#[48,49,50,51,52,53,54,55,56,57,97,98,99,100,101,102,103,104,105,106,107,108,109,110,111,112,113,114,115,116,117,118,119,120,121,122]⟩:Bt) (Aa .u64 (((BO (Bm .u64) F) &&& (BO (Bm .u64) (Aa .u64 ((Aa .u64 Y)-1)))).toNat:Int):Int).toNat))) I (λL=>0<=(Aa .u64 C)/\(D (F.fdiv (2 ^ (min (Aa .u64 C).toNat 64))) (Aa .i64 (G-1)) L/\E (F.fdiv (2 ^ (min (Aa .u64 C).toNat 64))) (Aa .i64 (G-1)) L<E F G I)))/\(decide (F>=(Aa .u64 Y))=Tc->(0<=F/\F<(((⟨#[48,49,50,51,52,53,54,55,56,57,97,98,99,100,101,102,103,104,105,106,107,108,109,110,111,112,113,114,115,116,117,118,119,120,121,122]⟩:Bt)).size:Int))/\∃M:Addr,(Td ⟨d.size,0,Te⟩=Td M/\0<=(Aa .i64 (G-1))/\(Aa .i64 (G-1))<((65:Nat):Int))/\XRunU Tp (Af 5 (.pointer (Td (M.add ((Aa .i64 (G-1)).toNat*1)))) (.int .u8 (zr (⟨#[48,49,50,51,52,53,54,55,56,57,97,98,99,100,101,102,103,104,105,106,107,108,109,110,111,112,113,114,115,116,117,118,119,120,121,122]⟩:Bt) F.toNat))) I (λN=>j (Aa .i64 (G-1)) N)))))/\(z=Tc->∃(O:Int->Int->zb->Prop) (P:Int->Int->zb->Nat),O g 65 y/\∀Q S:Int,∀T:zb,O Q S T->((decide (Q>=(Aa .u64 Y))=Ta->IntKind.u64=IntKind.u64/\(Aa .u64 Y)≠0/\(0<=(Aa .u64 (Q-(Aa .u64 ((Aa .u64 (Q.tdiv (Aa .u64 Y)))*(Aa .u64 Y)))):Int)/\(Aa .u64 (Q-(Aa .u64 ((Aa .u64 (Q.tdiv (Aa .u64 Y)))*(Aa .u64 Y)))):Int)<(((⟨#[48,49,50,51,52,53,54,55,56,57,97,98,99,100,101,102,103,104,105,106,107,108,109,110,111,112,113,114,115,116,117,118,119,120,121,122]⟩:Bt)).size:Int))/\∃U:Addr,(Td ⟨d.size,0,Te⟩=Td U/\0<=(Aa .i64 (S-1))/\(Aa .i64 (S-1))<((65:Nat):Int))/\XRunU Tp (Af 5 (.pointer (Td (U.add ((Aa .i64 (S-1)).toNat*1)))) (.int .u8 (zr (⟨#[48,49,50,51,52,53,54,55,56,57,97,98,99,100,101,102,103,104,105,106,107,108,109,110,111,112,113,114,115,116,117,118,119,120,121,122]⟩:Bt) (Aa .u64 (Q-(Aa .u64 ((Aa .u64 (Q.tdiv (Aa .u64 Y)))*(Aa .u64 Y)))):Int).toNat))) T (λV=>(O (Aa .u64 (Q.tdiv (Aa .u64 Y))) (Aa .i64 (S-1)) V/\P (Aa .u64 (Q.tdiv (Aa .u64 Y))) (Aa .i64 (S-1)) V<P Q S T)))/\(decide (Q>=(Aa .u64 Y))=Tc->(0<=Q/\Q<(((⟨#[48,49,50,51,52,53,54,55,56,57,97,98,99,100,101,102,103,104,105,106,107,108,109,110,111,112,113,114,115,116,117,118,119,120,121,122]⟩:Bt)).size:Int))/\∃W:Addr,(Td ⟨d.size,0,Te⟩=Td W/\0<=(Aa .i64 (S-1))/\(Aa .i64 (S-1))<((65:Nat):Int))/\XRunU Tp (Af 5 (.pointer (Td (W.add ((Aa .i64 (S-1)).toNat*1)))) (.int .u8 (zr (⟨#[48,49,50,51,52,53,54,55,56,57,97,98,99,100,101,102,103,104,105,106,107,108,109,110,111,112,113,114,115,116,117,118,119,120,121,122]⟩:Bt) Q.toNat))) T (λX=>j (Aa .i64 (S-1)) X))))))->f g i)->(Z=Ta->f (Aa .u64 (0-u1)) e)/\(Z=Tc->f u1 e))->c d)->((bif (bif (decide (Y<2))then Ta else(Y==10))then Ta else(decide (Y>36)))=Ta->False)/\((bif (bif (decide (Y<2))then Ta else(Y==10))then Ta else(decide (Y>36)))=Tc->c h)):
  XC Tp 224 #[.slice aa.a aa.len aa.cap,.int .u64 u1,.int .i64 Y,.bool Z,.bool b] h R:=
 XF ⟨[],[(11,[(1,.one (.int .u64)),(13,.one (.int .i64))]),(18,[(1,.one (.int .u64)),(13,.one (.int .i64))])],[(3,[]),(7,[(1,.one (.int .u64))]),(25,[(13,.one (.int .i64))]),(28,[(13,.one (.int .i64))])]⟩ [.tmp 10,.tmp 11] 102 Tryz.func224 H
theorem Qb(B:Int)(A:Int)(h:zb)(R:Value->zb->Prop) (H:((A==10)=Ta->((bif (decide ((0:Int)<=B))then(decide (B<100))else Tc)=Ta->XC Tp 221 #[iV B] h (λb c=>∃d,b=.string d/\R (.string d) c))/\((bif (decide ((0:Int)<=B))then(decide (B<100))else Tc)=Tc->let e:=h.push (.cells #[.int .u8 0,.int .u8 0,.int .u8 0,.int .u8 0,.int .u8 0,.int .u8 0,.int .u8 0,.int .u8 0,.int .u8 0,.int .u8 0,.int .u8 0,.int .u8 0,.int .u8 0,.int .u8 0,.int .u8 0,.int .u8 0,.int .u8 0,.int .u8 0,.int .u8 0,.int .u8 0,.int .u8 0,.int .u8 0,.int .u8 0,.int .u8 0] 237);∀f:Int->zb->Prop,(∀g:Int,∀i:zb,(XC Tp 222 #[.int .u64 g] i (λj k=>∃l,j=iV l/\(0<=(1:Int)/\(1:Int)<=(Aa .i64 (1+l))/\(Aa .i64 (1+l))<=(24:Int))/\XC Tp 223 #[.slice (ze7 (Td ⟨h.size,0,Te⟩) 1 ((1:Int).toNat) 24) ((Aa .i64 (1+l)).toNat-(1:Int).toNat) (24-(1:Int).toNat),.int .u64 g] k (λm n=>m=.tuple #[]/\(decide (B<0)=Ta->∃o:Addr,(Td ⟨h.size,0,Te⟩=Td o/\0<=(0:Int)/\(0:Int)<((24:Nat):Int))/\XRunU Tp (Af 5 (.pointer (Td (o.add ((0:Int).toNat*1)))) (.int .u8 45)) n (λp=>(0<=(0:Int)/\(0:Int)<=(Aa .i64 (1+l))/\(Aa .i64 (1+l))<=(24:Int))/\XRun Tp (convert 110 9 (.slice (ze7 (Td ⟨h.size,0,Te⟩) 1 ((0:Int).toNat) 24) ((Aa .i64 (1+l)).toNat-(0:Int).toNat) (24-(0:Int).toNat))) p (λq r=>∃s,q=.string s/\R (.string s) r)))/\(decide (B<0)=Tc->(0<=(1:Int)/\(1:Int)<=(Aa .i64 (1+l))/\(Aa .i64 (1+l))<=(24:Int))/\XRun Tp (convert 110 9 (.slice (ze7 (Td ⟨h.size,0,Te⟩) 1 ((1:Int).toNat) 24) ((Aa .i64 (1+l)).toNat-(1:Int).toNat) (24-(1:Int).toNat))) n (λt u=>∃v,t=.string v/\R (.string v) u)))))->f g i)->(decide (B<0)=Ta->f (Aa .u64 (0-(Aa .u64 B))) e)/\(decide (B<0)=Tc->f (Aa .u64 B) e)))/\((A==10)=Tc->XC Tp 224 #[.slice Te 0 0,.int .u64 (Aa .u64 B),iV A,.bool (decide (B<0)),.bool Tc] h (λw x=>∃y z,w=.tuple #[slV y,.string z]/\R (.string z) x))):
  XC Tp 154 #[.int .i64 B,.int .i64 A] h R:=
 XF ⟨[],[],[(8,[(6,.one (.int .u64))])]⟩ [.tmp 4] 54 Tryz.func154 H
end
section
variable {gl:Fr} {R:Bool -> Prop}
theorem qfs(c:GL gl){s:Bs}(b:s.length<=1152921504606846976)(h:R (z5l s)):PC Tp gl 167 [Arg.mk .str (bl s)] [.bool] R:=by apply zor;refine zct c b (qiq c (n:=(z0z s).1) (Yy s b) ?_);simp only[Bool.cond_false_right];exact h
theorem zam(v:Tr):Tr.mk v.kind v.text v.keys v.items=v:=by cases v;rfl
theorem zpc{l:List Tr}{k:Nat}(h:k<l.length):l[((k:Int)).toNat]?=Td l[k]:=by rw[Ag,Ak h]
theorem z5p{gl:Fr}(v:Tr)(r:tsz v<=1000000000000){R:Int->Prop}(h:R (tsz v:Int)):PC Tp gl 56 [Arg.mk .tree v] [.int .i64] R:=by
 apply zoq;have f:=Yx v.items;have e:=y0 v;refine⟨λn i=>∃k:Nat,i=k/\k<=v.items.length/\n=((1+Zs (v.items.take k):Nat):Int),λ_ i=>v.items.length-i.toNat,⟨0,rfl,by omega,by simp[Zs]⟩,?_⟩;rintro n i ⟨k,rfl,p,rfl⟩;refine⟨λc=>?_,λc=>?_⟩;have b:k<v.items.length:=by simp at c;omega
 refine⟨v.items[k],⟨by omega,zpc b⟩,?_⟩;rw[zam];have o:v.items[k]∈v.items:=AE b;have m:=yj o;have l:Zs (v.items.take (k+1))<=Zs v.items:=by have:=zcs (v.items.take (k+1)) (v.items.drop (k+1));rw[B8]at this;omega
 have q:=z5j b;refine z5p (v.items[k]) (by omega) ?_;rw[jc b (by omega),w64 (by omega)];exact⟨⟨k+1,rfl,by omega,by omega⟩,by simp only[Ag];omega⟩;have b:k=v.items.length:=by simp at c;omega
 subst b;rw[A5,<-e];exact h
termination_by tsz v
theorem zx4{gl:Fr}(v:Tr)(s:tsz v<=1000000000000){R:Int->Prop}(h:R (tdp v:Int)):PC Tp gl 161 [Arg.mk .tree v] [.int .i64] R:=by
 apply zlr;have e:=Yx v.items;have o:=y0 v;have q:=zvu v.items;have l:=zj7 v;refine⟨λn i=>∃k:Nat,i=k/\k<=v.items.length/\n=((Xp (v.items.take k):Nat):Int),λ_ i=>v.items.length-i.toNat,⟨0,rfl,by omega,by simp[Xp]⟩,?_⟩;rintro n i ⟨k,rfl,r,rfl⟩;refine⟨λc=>?_,λc=>?_⟩;have b:k<v.items.length:=by simp at c;omega
 refine⟨v.items[k],⟨by omega,zpc b⟩,?_⟩;rw[zam];have p:v.items[k]∈v.items:=AE b;have f:=yj p;have m:=z5k b;refine zx4 (v.items[k]) (by omega) ?_;rw[jc b (by omega)];refine⟨⟨k+1,rfl,by omega,?_⟩,by simp only[Ag];omega⟩;rw[m];split <;> omega;have b:k=v.items.length:=by simp at c;omega
 subst b;rw[A5,w64 (by omega)];have:((Xp v.items:Nat):Int)+1=(tdp v:Int):=by omega
 rw[this];exact h
termination_by tsz v
theorem zx5{v:Tr}(b:Sm v)(h:R (Zi v)):PC Tp gl 93 [Arg.mk .tree v] [.bool] R:=by
 apply zlq;rw[zam];refine z5p v b.sz ⟨λr=>r=(tdp v:Int),λ_=>zx4 v b.sz rfl,λr c=>?_⟩;have e:(bif decide ((tsz v:Int)<=4096)then decide (r<=32)else Tc)=Zi v:=by
  unfold Zi;cases hc:decide ((tsz v:Int)<=4096)with
  |false=>(have:decide (tsz v<=4096)=Tc:=by simp at hc ⊢;omega);rw[this];rfl
  |true=>
   have:decide (tsz v<=4096)=Ta:=by simp at hc ⊢;omega
   rw[this,c hc,cond_true,Cc,AM];simp;omega
 rw[e];exact h
end
section
theorem zl2(w:Sl)(x:Int)(h:zb)(R:Value->zb->Prop) (H:let b:=h.push (.map #[] 0);∃(c:Int->zb->Prop) (d:Int->zb->Nat),c 0 b/\∀e:Int,∀f:zb,c e f->((decide (e<w.len)=Ta->∃g,(w.a=Td g/\0<=e/\e<w.len)/\∃i,zc f (g.add (e.toNat*1))=Td (.string i)/\∃j,QExec Tp (C9 154 (.map (Td h.size)) (.string i) Tc) f (.bool j)/\∃k:Value->zb->Prop,((!j)=Ta->XC Tp 166 #[.string i] f (λl m=>∃n,l=.bool n/\k (.bool n) m))/\((!j)=Tc->∃o,k (.bool o) f)/\((!j)=Ta->∀p q,k p q->∃r,p=.bool r)/\∀s:Bool,∀t,k (.bool s) t->((bif j then Ta else(!s))=Ta->R (.bool Tc) t)/\((bif j then Ta else(!s))=Tc->XRunU Tp (Ce 154 (.map (Td h.size)) (.string i) (.bool Ta)) t (λu=>(c (Aa .i64 (e+1)) u/\d (Aa .i64 (e+1)) u<d e f))))/\(decide (e<w.len)=Tc->R (.bool ((w.len:Int)==x)) f))):
  XC Tp 164 #[.slice w.a w.len w.cap,.int .i64 x] h R:=
 XF ⟨[],[(3,[(13,.one (.int .i64))])],[]⟩ [.tmp 4] 32 Tryz.func164 H
theorem jq(k:Sl)(e:FuncId)(i:Array Value)(f:Array Value)(h:zb)(R:Value->zb->Prop) (H:XC Tp 233 #[slV k,.func (.func e) i f] h (λb c=>∃d,b=iV d/\R (.bool (decide (d>=0))) c)):
  XC Tp 162 #[.slice k.a k.len k.cap,.func (.func e) i f] h R:=
 XF ⟨[],[],[]⟩ [.tmp 4] 9 Tryz.func162 H
theorem wb(p:Sl)(o:FuncId)(q:Array Value)(r:Array Value)(h:zb)(R:Value->zb->Prop) (H:∃(b:Int->zb->Prop) (c:Int->zb->Nat),b 0 h/\∀d:Int,∀e:zb,b d e->((decide (d<p.len)=Ta->∃f,(p.a=Td f/\0<=d/\d<p.len)/\∃g i j k,zd e (f.add (d.toNat*4)) 0 (tL g i j k)/\zh Tp o=Ta/\XC Tp o (q++#[tA g i j k]++r) e (λl m=>∃n,l=.bool n/\(n=Ta->R (iV d) m)/\(n=Tc->(b (Aa .i64 (d+1)) m/\c (Aa .i64 (d+1)) m<c d e))))/\(decide (d<p.len)=Tc->R (iV (-1)) e))):
  XC Tp 233 #[.slice p.a p.len p.cap,.func (.func o) q r] h R:=
 XF ⟨[],[(2,[(8,.one (.int .i64))])],[]⟩ [.tmp 4] 19 Tryz.func233 H
theorem zhn(b:Int)(c:Bt)(d:Sl)(e:Sl)(c1:Addr)(h:zb)(R:Value->zb->Prop) (H:let f:=h.push (.cells #[iV b,.string c,slV d,slV e] 26);∃g i j k,zd f ⟨h.size,0,Te⟩ 0 (tL g i j k)/\∃l:Value,zc f c1=Td l/\XC Tp 94 #[tA g i j k,l] f (λm n=>∃o,m=.bool o/\R (.bool (!o)) n)):
  XC Tp 163 #[.agg #[.int .i64 b,.string c,.slice d.a d.len d.cap,.slice e.a e.len e.cap],.pointer (Td c1)] h R:=
 XF ⟨[],[],[]⟩ [.tmp 3] 8 Tryz.func163 H
theorem zl3(b:Int)(c:Bt)(d:Sl)(e:Sl)(D:FuncId)(F:Array Value)(E:Array Value)(h:zb)(R:Value->zb->Prop) (H:let f:=h.push (.cells #[iV b,.string c,slV d,slV e] 26);let g:=f.push (.cells #[.func (.func D) F E] 65);∃i:Value,zc g ⟨f.size,0,Te⟩=Td i/\∃j k l m,zd g ⟨h.size,0,Te⟩ 0 (tL j k l m)/\qhs Tp i #[tA j k l m] (λn o=>XC Tp n o g (λp q=>∃r,p=.bool r/\∃s,(r=Ta->zc q (Ad ⟨h.size,0,Te⟩ 3)=Td (slV s))/\∃t:Value->zb->Prop,(r=Ta->XC Tp 162 #[slV s,.func (.func 163) #[] #[.pointer (Td ⟨f.size,0,Te⟩)]] q (λu v=>∃w,u=.bool w/\t (.bool w) v))/\(r=Tc->∃x,t (.bool x) q)/\(r=Ta->∀y z,t y z->∃A,y=.bool A)/\∀B:Bool,∀C,t (.bool B) C->R (.bool (bif r then(!B)else Tc)) C))):
  XC Tp 94 #[.agg #[.int .i64 b,.string c,.slice d.a d.len d.cap,.slice e.a e.len e.cap],.func (.func D) F E] h R:=
 XF ⟨[],[],[]⟩ [.tmp 4] 15 Tryz.func94 H
theorem zpd(b:Int)(c:Bt)(d:Sl)(e:Sl)(h:zb)(R:Value->zb->Prop) (H:let f:=h.push (.cells #[iV b,.string c,slV d,slV e] 26);∃g i j k,zd f ⟨h.size,0,Te⟩ 0 (tL g i j k)/\XC Tp 93 #[tA g i j k] f (λl m=>∃n,l=.bool n/\∃o p q r,(n=Ta->zd m ⟨h.size,0,Te⟩ 0 (tL o p q r))/\∃s:Value->zb->Prop,(n=Ta->XC Tp 94 #[tA o p q r,.func (.func 96) #[] #[]] m (λt u=>∃v,t=.bool v/\s (.bool v) u))/\(n=Tc->∃w,s (.bool w) m)/\(n=Ta->∀x y,s x y->∃z,x=.bool z)/\∀A:Bool,∀B,s (.bool A) B->R (.bool (bif n then A else Tc)) B)):
  XC Tp 88 #[.agg #[.int .i64 b,.string c,.slice d.a d.len d.cap,.slice e.a e.len e.cap]] h R:=
 XF ⟨[],[],[]⟩ [.tmp 2] 9 Tryz.func88 H
theorem j9(b0:Option Addr)(c1:Int)(h:zb)(R:Value->zb->Prop) (H:XC Tp 152 #[.pointer b0] h (λb c=>b=.tuple #[]/\∃d,b0=Td d/\∃e,zc c (Ad d 1)=Td (slV e)/\let f:=c.push (.cells #[.int .u8 c1] 5);XRun Tp (Au #[110,110] 110 #[slV e,.slice (Td ⟨c.size,0,Te⟩) 1 1]) f (λg i=>∃j,g=slV j/\∃k,b0=Td k/\XRunU Tp (Af 110 (.pointer (Td (Ad k 1))) (slV j)) i (λl=>R (.nilIface) l)))):
  XC Tp 81 #[.pointer b0,.int .u8 c1] h R:=
 XF ⟨[],[],[]⟩ [.tmp 4] 17 Tryz.func81 H
theorem jd(b0:Option Addr)(s1:Bt)(h:zb)(R:Value->zb->Prop) (H:XC Tp 152 #[.pointer b0] h (λb c=>b=.tuple #[]/\∃d,b0=Td d/\∃e,zc c (Ad d 1)=Td (slV e)/\XRun Tp (Au #[110,9] 110 #[slV e,.string s1]) c (λf g=>∃i,f=slV i/\∃j,b0=Td j/\XRunU Tp (Af 110 (.pointer (Td (Ad j 1))) (slV i)) g (λk=>R (.tuple #[iV (s1.size:Int),.nilIface]) k)))):
  XC Tp 85 #[.pointer b0,.string s1] h R:=
 XF ⟨[],[],[]⟩ [.tmp 4,.tmp 5] 19 Tryz.func85 H
end
section
variable {gl:Fr}
theorem z5q:MapT Tp 154 9 4 (.bool Tc):=⟨by kernel_rfl,by kernel_rfl,⟨Tryz.t4,by kernel_rfl,by kernel_rfl⟩⟩
set_option maxHeartbeats 1000000 in
theorem qbl(hg:GL gl){ks:List Bt}{n:Int}(hk:∀k∈ks,(lb k).length<=1048576){R:Bool->Prop}(h:R (wo ks&&decide ((ks.length:Int)=n))):PC Tp gl 164 [Arg.mk (.row .str) ks,Arg.mk (.int .i64) n] [.bool] R:=by
 intro f M vs hM ag ha
 match vs,ha with
 |[u,w],⟨h1,h2,_⟩=>
  obtain⟨s,rfl,Z⟩:=z4m h1;have hw:=j8 h2;subst hw;have Z:Rd M (.row .str) ks [slV s]:=Z;obtain⟨I,an,am⟩:=rowLen Z;apply PX.of;apply zl2 s n;intro Y;have kg:Keep f.size f Y:=Keep.push _ _ (Ab _);have sg:Y.size=f.size+1:=Aj _;have mg:MapAt Y f.size []:=MapAt.new f;clear_value Y;refine⟨λi h4=>∃k:Nat,i=k/\k<=ks.length/\f.size<h4.size/\(∃V,Later f M h4 V/\V f.size=Te)/\(∃l,MapAt h4 f.size l/\∀x,zw9 l x (.bool Tc)=.bool (decide (x∈ks.take k)))/\wo (ks.take k)=Ta,λi _=>ks.length-i.toNat,⟨0,rfl,by omega,by omega,⟨M,Later.same ag kg,ag.none (Ab _)⟩,⟨[],mg,λx=>rfl⟩,by simp[wo]⟩,?_⟩;rintro i h4 ⟨k,rfl,ak,G,⟨V,F,J⟩,⟨l,D,Q⟩,A⟩;refine⟨λhc=>?_,λhc=>?_⟩;have q:k<ks.length:=by simp at hc;omega
  have ae:=Rd.mono F.le Z;refine z0q F.ag ae q rfl rfl ?_;have N:=We z5q D ks[k] Tc;rw[Q]at N;refine⟨decide (ks[k]∈ks.take k),N,?_⟩;have p:=zsn hg.tabs (l:=lb ks[k]) (R:=λb=>b=Z8 (lb ks[k])) (by have:=hk _ (AE q);omega) rfl;rw[Y4]at p;generalize hd:decide (ks[k]∈ks.take k)=d;refine⟨λv H=>∃b,v=.bool b/\(d=Tc->b=Z8 (lb ks[k]))/\f.size<H.size/\(∃B,Later f M H B/\B f.size=Te)/\MapAt H f.size l,λhn=>?_,λhn=>⟨Ta,Ta,rfl,λe=>(by rw[e]at hn;cases hn),G,⟨V,F,J⟩,D⟩,λ_ v H ⟨b,e,_⟩=>⟨b,e⟩,?_⟩;refine p.go (vs:=[.string ks[k]]) (hM.trans F.le) F.ag (qb (rdStr _) qq) λv H B r y U ah=>⟨r,zib U,r,rfl,λ_=>ah,by have:=y.keep.size;omega,⟨B,F.trans y,by rw[y.old _ G,J]⟩,D.keep (y.keep.get _ G)⟩;rintro b H ⟨b',e,P,aj,⟨B,y,S⟩,aa⟩;cases e;have L:ks.take (k+1)=ks.take k++[ks[k]]:=Ay q;have O:wo (ks.take (k+1))=(!d&&Z8 (lb ks[k])):=by
   have o:=A;unfold wo at o ⊢;rw[Ao,decide_eq_true_eq]at o;rw[L,Dd,o.1,<-hd];have:decide (List.take k ks++[ks[k]]).Nodup=!decide (ks[k]∈ks.take k):=by rw[AM];simp only[decide_eq_true_eq,Dh,decide_eq_false_iff_not,Cw];constructor;rintro⟨_,_,h3⟩ t;exact h3 _ t _ (by simp) rfl;intro t;exact⟨o.2,by simp,λa ha b P e=>t (by simp at P;rw[<-P,<-e];exact ha)⟩
   rw[this];simp[Bool.and_comm]
  refine⟨λz=>?_,λz=>?_⟩;refine⟨B,_,y,Xl.2 (rdBool _),?_⟩;have hf:wo (ks.take (k+1))=Tc:=by
   rw[O];cases d with
   |true=>rfl
   |false=>rw[P rfl]at z;simpa using z
  have ai:wo ks=Tc:=by
   cases hks:wo ks with
   |false=>rfl
   |true=>
    unfold wo at hks hf;rw[Ao,decide_eq_true_eq]at hks;have h1:((ks.take (k+1)).all λk=>Z8 (lb k))=Ta:=by rw[Av]at hks ⊢;exact λx z=>hks.1 x (List.mem_of_mem_take z)
    have h2:(ks.take (k+1)).Nodup:=hks.2.sublist (List.take_sublist _ _);rw[h1,decide_eq_true h2]at hf;cases hf
  rw[ai]at h;exact h;have E:d=Tc:=by cases d with
   |true=>simp at z
   |false=>rfl
  have af:Z8 (lb ks[k])=Ta:=by rw[<-P E];rw[E]at z;simpa using z
  refine zrd z5q aa ks[k] (.bool Ta) λh6 m6 s6 o6=>?_;rw[jc q (by omega)];refine⟨⟨k+1,rfl,by omega,by omega,⟨B,⟨⟨by have:=y.keep.size;omega,λi hi=>by rw[o6 i (by omega)];exact y.keep.get i hi⟩,y.le,y.old,?_⟩,S⟩,⟨_,m6,λx=>?_⟩,by rw[O,E,af];rfl⟩,by simp only[Ag];omega⟩;intro b c e;have ab:b≠f.size:=λe2=>by rw[e2,S]at e;cases e
  obtain⟨T,m,e'⟩:=y.ag b c e;exact⟨T,m,by rw[o6 b ab];exact e'⟩;unfold zw9;rw[zrc,L];by_cases C:ks[k]=x;subst C;rw[if_pos rfl];simp only[Aw,AY,or_true,decide_true,Option.getD_some];rw[if_neg C];have:=Q x;unfold zw9 at this;rw[this];congr 1;rw[AM,decide_eq_true_eq,decide_eq_true_eq,Aw,AY];exact⟨.inl,λe=>e.elim id λe=>absurd e.symm C⟩;have q:k=ks.length:=by simp at hc;omega
  subst q;rw[A5]at A;refine⟨V,_,F,Xl.2 (rdBool _),?_⟩;rw[A,Cc]at h;have:(((s.len:Nat):Int)==n)=decide ((ks.length:Int)=n):=by rw[I,AM];simp
  rw[this];exact h
def Beh(gl:Fr)(F:FuncId)(A C:Array Value)(h:zb)(M:Fr)(t:Ty)(x:El t)(b:Bool):Prop:=
 zh Tp F=Ta/\∀h' M' u,Later h M h' M'->RdV M' t x u->PX Tp F (A++#[u]++C) h' M' [.bool] (λr=>r=b)
theorem qiu{F:FuncId}{A C:Array Value}{h:zb}{M:Fr}(ag:AgM M h){xs:List Tr}{s:Sl}(w:Rd M (.row .tree) xs [slV s]){p:Tr->Bool}(y:∀x∈xs,Beh gl F A C h M .tree x (p x)):
  PX Tp 162 #[slV s,.func (.func F) A C] h M [.bool] (λr=>r=xs.any p):=by
 apply PX.of;apply jq s F A C;apply wb s F A C;obtain⟨u,E,I⟩:=rowLen w;refine⟨λi o=>∃k:Nat,i=k/\k<=xs.length/\(∃m,Later h M o m)/\(xs.take k).any p=Tc,λi _=>xs.length-i.toNat,⟨0,rfl,by omega,⟨M,Later.refl ag⟩,by simp⟩,?_⟩;rintro i o ⟨k,rfl,J,⟨m,e⟩,c⟩;refine⟨λn=>?_,λn=>?_⟩;have b:k<xs.length:=by simp at n;omega
 obtain⟨a,sk,si,H,D,B,G⟩:=zd9 e.ag (Rd.mono e.le w) b;refine⟨a,⟨H,by omega,by omega⟩,xs[k].kind,xs[k].text,sk,si,by rw[Ag];exact D,(y _ (AE b)).1,?_⟩;refine((y _ (AE b)).2 o m _ e (qf B G)).go λv L z r t f l=>⟨r,zib f,λq=>?_,λq=>?_⟩;refine⟨(k:Int),rfl,z,_,e.trans t,Xl.2 (rdBool _),?_⟩;have:xs.any p=Ta:=List.any_eq_true.2 ⟨xs[k],AE b,by rw[<-l];exact q⟩;rw[this];simp;rw[jc b (by omega)];refine⟨⟨k+1,rfl,by omega,⟨z,e.trans t⟩,?_⟩,by simp only[Ag];omega⟩;rw[Ay b,List.any_append,c];simp only[List.any_cons,List.any_nil,<-l,q];rfl;have b:k=xs.length:=by simp at n;omega
 subst b;rw[A5]at c;refine⟨-1,rfl,m,_,e,Xl.2 (rdBool _),?_⟩;rw[c];rfl
end
section
variable {l:List Bt} {gl:Fr} {v:Tr} {R:Bool -> Prop} {F:FuncId}
theorem qnc:decide (((l.length:Nat):Int)>0)=!l.isEmpty:=by cases l <;> simp
theorem qlw{l:List Tr}:decide (((l.length:Nat):Int)>0)=!l.isEmpty:=by cases l <;> simp
theorem qiv(s:Bt):(s.toList==(⟨#[]⟩:Bt).toList)=(lb s==[]):=by have:=zhl (lb s) [];rw[Y4]at this;rw[show(⟨#[]⟩:Bt)=bl []from rfl,this,AM];simp
theorem qlx(s:Bt)(l:Bs):(s.toList==(bl l).toList)=(lb s==l):=by have:=zhl (lb s) l;rw[Y4]at this;rw[this,AM];simp
theorem qnd{k n:Int}:(k==n)=decide (k=n):=by rw[AM];simp
set_option maxHeartbeats 1000000 in
theorem z5r(o:GL gl)(H:Sm v)(h:R (zn v)):PC Tp gl 96 [Arg.mk .tree v] [.bool] R:=by
 apply zop;have A:(lb v.text).length<=1152921504606846976:=by have:=H.text;omega
 have key:∀b,b=zn v->R b:=λb I=>by rw[I];exact h
 have J:=zct o (s:=lb v.text) (R:=λr=>R r.2\/v.kind≠3) A;have q:=zsn o.tabs (l:=lb v.text) (R:=λr=>r=Z8 (lb v.text)) (by omega) rfl;have n:=qfs o (s:=lb v.text) (R:=λr=>r=z5l (lb v.text)) A rfl;have p:=zct o (s:=lb v.text) (R:=λr=>r.2=(z0z (lb v.text)).2) A rfl;rw[Y4]at q n p;simp only[qnd,qnc,qlw,show(⟨#[116,114,117,101]⟩:Bt)=bl [116,114,117,101]from rfl,show(⟨#[102,97,108,115,101]⟩:Bt)=bl [102,97,108,115,101]from rfl,qlx];unfold zn at key;refine⟨λu=>key _ ?_,λu=>⟨λt=>?_,λt=>⟨λG=>key _ ?_,λG=>?_⟩⟩⟩;have:v.kind=5:=by simpa using u
 simp[this,Bool.and_comm];have c:v.kind=6:=by simpa using t
 refine qbl o (λk m=>H.key m) (key _ ?_);simp only[c];rw[Bool.cond_false_right];have:decide ((v.keys.length:Int)=(v.items.length:Int))=decide (v.keys.length=v.items.length):=by rw[AM,decide_eq_true_eq,decide_eq_true_eq];omega
 rw[this];rfl;have f:v.kind≠5:=by simpa using u
 have c:v.kind≠6:=by simpa using t
 have e:(v.keys.isEmpty&&v.items.isEmpty)=Tc:=by cases m:v.keys.isEmpty <;> cases hi:v.items.isEmpty <;> simp[m,hi]at G ⊢
 simp only[f,c,if_false,Bool.and_assoc,e,Bool.and_false];simp;have f:v.kind≠5:=by simpa using u
 have c:v.kind≠6:=by simpa using t
 have e:v.keys.isEmpty=Ta/\v.items.isEmpty=Ta:=by cases m:v.keys.isEmpty <;> cases hi:v.items.isEmpty <;> simp[m,hi]at G ⊢
 simp only[f,c,if_false,e.1,e.2,C6]at key;refine⟨λh1=>key _ ?_,λh1=>⟨λC=>key _ ?_,λC=>⟨λF=>?_,λF=>⟨λE=>?_,λE=>⟨λx=>?_,λx=>key _ ?_⟩⟩⟩⟩⟩;have:v.kind=1:=by simpa using h1
 simp[this];have:v.kind=2:=by simpa using C
 simp[this];have:v.kind=3:=by simpa using F
 exact p.mono λr i=>key _ (by rw[i];simp[this]);have:v.kind=4:=by simpa using E
 exact q.mono λr i=>key _ (by rw[i];simp[this]);have:v.kind=7:=by simpa using x
 exact n.mono λr i=>key _ (by rw[i];simp[this]);have D:v.kind≠1:=by simpa using h1
 have y:v.kind≠2:=by simpa using C
 have z:v.kind≠3:=by simpa using F
 have w:v.kind≠4:=by simpa using E
 have B:v.kind≠7:=by simpa using x
 simp[D,y,z,w,B]
theorem qly{k:Nat}(h:k<l.length):l[((k:Int)).toNat]?=Td l[k]:=by rw[Ag,Ak h]
theorem qbm(hF:zh Tp F=Ta){p:Tr->Bool}(hp:∀x,Sm x->PC Tp gl F [Arg.mk .tree x] [.bool] (λr=>r=p x))(n:Nat):∀(v:Tr),tsz v<=n->Sm v->∀{h:zb} {M:Fr} {u:Value},Fr.le gl M->AgM M h->RdV M .tree v u ->
  PX Tp 94 #[u,.func (.func F) #[] #[]] h M [.bool] (λr=>r=Qt p v):=by
 induction n with
 |zero=>intro v hn;have:=Q6 v;omega
 |succ n ih=>
 intro v hn hv h M u hM ag hu;have aa:=hu;obtain⟨sk,si,rfl,rk,ri⟩:=yz hu;apply PX.of;apply zl3 v.kind v.text sk si F #[] #[];intro h1 m;have L1:Later h M h1 M:=Later.push ag _;have c:Later h1 M m (Mx M h1.size #[.func (.func F) #[] #[]]):=Later.frz L1.ag _ _;have s1:h1.size=h.size+1:=Aj _;have s2:m.size=h1.size+1:=Aj _;have s:zd m ⟨h.size,0,Te⟩ 0 [.int .i64 v.kind,.string v.text,slV sk,slV si]:=z4p (h':=m) (by have:=c.keep;rw[s1]at this;exact this);have N:∀h':zb,Keep m.size m h'->zc h' (Ad ⟨h.size,0,Te⟩ 3)=Td (slV si):=λh' k=>by refine qfi (h:=h) (T:=26) (cs:=[.int .i64 v.kind,.string v.text,slV sk,slV si]) ?_ rfl;have:=c.keep.trans k (by omega);rw[s1]at this;exact this
 have o:zc m ⟨h1.size,0,Te⟩=Td (.func (.func F) #[] #[]):=c.ag.cell (z4o _ _ _) rfl;have L:(Mx M h1.size #[.func (.func F) #[] #[]]) h1.size=Td #[.func (.func F) #[] #[]]:=z4o _ _ _;have E:=L1.trans c;clear_value h1 m;generalize (Mx M h1.size #[.func (.func F) #[] #[]])=M2 at *;refine⟨_,o,v.kind,v.text,sk,si,s,hF,?_⟩;refine(hp v hv).go (vs:=[.agg #[.int .i64 v.kind,.string v.text,slV sk,slV si]]) (hM.trans E.le) E.ag (qb (RdV.mono E.le aa) qq) λw h3 S r D B hr=>?_;refine⟨r,zib B,si,λ_=>N h3 D.keep,?_⟩;have i:=E.trans D;refine⟨λw C=>∃b,w=.bool b/\(r=Ta->b=!(Xq p v.items))/\∃y,Later h M C y,λaf=>?_,λA=>⟨Ta,Ta,rfl,λe=>(by rw[e]at A;cases A),S,i⟩,λ_ w C ⟨b,e,_⟩=>⟨b,e⟩,?_⟩;have V:Rd S (.row .tree) v.items [slV si]:=Rd.mono i.le ri;have Y:S h1.size=Td #[.func (.func F) #[] #[]]:=D.le _ _ L;refine(qiu (gl:=gl) D.ag V (p:=λx=>!(Qt p x)) λx hx=>⟨by kernel_rfl,λh' M' u' J G=>?_⟩).go λw C y b Z t Q=>⟨b,zib t,b,rfl,λ_=>?_,y,i.trans Z⟩;have ae:=yj hx;obtain⟨f,l,rfl,O,ab⟩:=yz G;apply PX.of;show XC Tp 163 #[.agg #[.int .i64 x.kind,.string x.text,slV f,slV l],.pointer (Td ⟨h1.size,0,Te⟩)] h' _;apply zhn x.kind x.text f l;intro z;have P:Later h' M' z M':=Later.push J.ag _;have U:zd z ⟨h'.size,0,Te⟩ 0 [.int .i64 x.kind,.string x.text,slV f,slV l]:=z4p (Keep.refl _ _);have H:zc z ⟨h1.size,0,Te⟩=Td (.func (.func F) #[] #[]):=P.ag.cell (J.le _ _ Y) rfl;clear_value z;refine⟨x.kind,x.text,f,l,U,_,H,?_⟩;refine(ih x (by omega) (hv.item hx) (h:=z) (M:=M') ((hM.trans i.le).trans J.le) P.ag (qf O ab)).go λw h5 M5 b L5 q I=>⟨b,zib q,M5,_,P.trans L5,Xl.2 (rdBool _),by rw[I]⟩;rw[Q,jo,AM];simp;rintro b C ⟨b',e,hb,y,Z⟩;cases e;refine⟨y,_,Z,Xl.2 (rdBool _),?_⟩;rw[y5,<-hr];cases r with
 |false=>rfl
 |true=>rw[hb rfl];simp
theorem zx6(c:zh Tp F=Ta){p:Tr->Bool}(b:∀x,Sm x->PC Tp gl F [Arg.mk .tree x] [.bool] (λr=>r=p x))(v:Tr)(i:Sm v){h:zb}{M:Fr}{u:Value}(e:Fr.le gl M)(ag:AgM M h)(f:RdV M .tree v u): PX Tp 94 #[u,.func (.func F) #[] #[]] h M [.bool] (λr=>r=Qt p v):=qbm c b (tsz v) v (Ab _) i e ag f
theorem zvw(I:GL gl)(D:Sm v)(o:R (Zf v)):PC Tp gl 88 [Arg.mk .tree v] [.bool] R:=by
 intro h M vs C ag H
 match vs,H with
 |[u],⟨s,_⟩=>
  have s:RdV M .tree v u:=s;have n:=s;obtain⟨sk,si,rfl,U,Y⟩:=yz s;apply PX.of;apply zpd v.kind v.text sk si;intro h1;have q:Later h M h1 M:=Later.push ag _;have s1:h1.size=h.size+1:=Aj _;have f:∀h':zb,Keep h1.size h1 h'->zd h' ⟨h.size,0,Te⟩ 0 [.int .i64 v.kind,.string v.text,slV sk,slV si]:=λh' k=>z4p (h':=h') (by rw[s1]at k;exact k);clear_value h1;refine⟨v.kind,v.text,sk,si,f h1 (Keep.refl _ _),?_⟩;have A:PC Tp gl 93 [Arg.mk .tree v] [.bool] (λr=>r=Zi v):=zx5 D rfl;refine A.go (vs:=[.agg #[.int .i64 v.kind,.string v.text,slV sk,slV si]]) (C.trans q.le) q.ag (qb (RdV.mono q.le n) qq) λw J Q r t l E=>?_;refine⟨r,zib l,v.kind,v.text,sk,si,λ_=>f J t.keep,?_⟩;have c:=q.trans t;refine⟨λw y=>∃b,w=.bool b/\(r=Ta->b=Qt zn v)/\∃B,Later h M y B,λO=>?_,λm=>⟨Ta,Ta,rfl,λe=>(by rw[e]at m;cases m),Q,c⟩,λ_ w y ⟨b,e,_⟩=>⟨b,e⟩,?_⟩;refine(zx6 (F:=96) (by kernel_rfl) (p:=zn) (λx S=>z5r I S rfl) v D (C.trans c.le) t.ag (RdV.mono c.le n)).go λw Z L b G i z=>⟨b,zib i,b,rfl,λ_=>z,L,c.trans G⟩;rintro b y ⟨V,e,N,B,P⟩;cases e;refine⟨B,_,P,Xl.2 (rdBool _),?_⟩;unfold Zf at o;rw[<-E]at o;cases r with
  |false=>exact o
  |true=>rw[cond_true,N rfl];exact o
end
end Go.X
end
section
namespace Go.X
open Go Go.RowKit
section
variable {h h':zb} {bs:List Nat} {v:Tr} {M:Fr} {b o:Nat} {cs:Array Value} {vs:List Value}
def OKeys(h:zb)(ks:List Bt)(bs:List Nat)(s:Sl):Prop:=
 s.len=ks.length/\ks.length<=140737488355328/\ks.length<=s.cap/\((ks=[]/\bs=[]/\s.cap=0)\/∃b cs,bs=[b]/\s.a=Td ⟨b,0,Te⟩/\Blk h b cs/\s.cap<=cs.size/\cut cs 0 ks.length=ks.map A3)
inductive OT (h:zb):Tr->List Nat->List Value->Prop where
 |mk {k:Int} {s:Bt} {ks:List Bt} {xs:List Tr} {sk si:Sl} {bk bb:List Nat} {b:Nat} {cs:Array Value} {bf:Nat->List Nat}
  (hk:OKeys h ks bk sk) (hn:si.len=xs.length/\xs.length<=140737488355328/\xs.length<=si.cap)
  (hz:(xs=[]/\bb=[]/\si.cap=0)\/(bb=[b]/\si.a=Td ⟨b,0,Te⟩/\Blk h b cs/\si.cap*4<=cs.size))
  (hi:∀i (hx:i<xs.length),OT h xs[i] (bf i) (cut cs (i*4) 4))
  (hd:(bk++(bb++(Bj xs.length).flatMap bf)).Nodup):
  OT h (.mk k s ks xs) (bk++(bb++(Bj xs.length).flatMap bf)) [.int .i64 k,.string s,slV sk,slV si]
theorem OKeys.frame{ks:List Bt}{s:Sl}(H:OKeys h ks bs s)(l:∀b∈bs,h'[b]?=h[b]?):OKeys h' ks bs s:=by obtain⟨h1,m,k,e⟩:=H;refine⟨h1,m,k,e.imp id ?_⟩;rintro⟨b,cs,rfl,c,f,i⟩;exact⟨b,cs,rfl,c,f.keep (l b (by simp)),i⟩
theorem OT.frame{cells:List Value}(H:OT h v bs cells):(∀b∈bs,h'[b]?=h[b]?)->OT h' v bs cells:=by
 induction H with
 | @mk k s ks xs sk si bk bb b cs bf hk hn hz hi hd ih=>intro f;refine OT.mk (b:=b) (cs:=cs) (hk.frame λx c=>f x (by simp[c])) hn (hz.imp id ?_) (λi c=>ih i c λx e=>f x ?_) hd;rintro⟨rfl,l,m,n⟩;exact⟨rfl,l,m.keep (f b (by simp)),n⟩;simp only[Aw,Cg,AU];exact .inr (.inr ⟨i,c,e⟩)
theorem OT.nodup{cells:List Value}(H:OT h v bs cells):bs.Nodup:=by cases H with|mk _ _ _ _ b=>exact b
theorem OT.lt{cells:List Value}(H:OT h v bs cells):∀b∈bs,b<h.size:=by
 induction H with
 | @mk k s ks xs sk si bk bb b cs bf hk hn hz hi hd ih=>intro x c;simp only[Aw,Cg,AU]at c;rcases c with c|c|⟨i,h1,l⟩;obtain⟨_,_,_,f⟩:=hk;rcases f with⟨_,rfl,_⟩|⟨m,cs',rfl,_,e,_⟩;cases c;simp at c;subst c;exact e.lt;rcases hz with⟨_,rfl,_⟩|⟨rfl,_,e,_⟩;cases c;simp at c;subst c;exact e.lt;exact ih i h1 x l
theorem OT.len{cells:List Value}(H:OT h v bs cells):cells.length=4:=by cases H;rfl
theorem OT.rd{cells:List Value}(H:OT h v bs cells)(r:∀b∈bs,∀cs,Blk h b cs->M b=Td cs):TrRd M v cells:=by
 induction H with
 | @mk k s ks xs sk si bk bb b cs bf hk hn hz hi hd ih=>
  obtain⟨w,k2,y,z⟩:=hk;have p:RowAt M (λs cs=>cs=[.string s]) 1 ks (slV sk):=by
   refine⟨sk.a,sk.cap,by rw[slV,w],⟨k2,y⟩,?_⟩;rcases z with⟨h0,_⟩|⟨t,cs',rfl,n,q,_,u⟩;exact .inl h0;refine .inr ⟨t,0,cs',n,r t (by simp) cs' q,λi f=>?_⟩;have:(cut cs' 0 ks.length)[i]?=Td (A3 ks[i]):=by rw[u,Bf,Ak f];rfl
   unfold cut at this ⊢;rw[AK,if_pos f,BQ]at this;have c:=(A1.1 this).1;rw[AL,B0,Bw c,CL,CZ];rw[Ak c]at this;rw[Az this]
  have m:slV si=.slice si.a xs.length si.cap:=by rw[slV,hn.1]
  rw[m];refine TrRd.mk (b:=b) (o:=0) (cs:=cs) p hn.2 (hz.imp (·.1) ?_) λi f=>?_;rintro⟨rfl,n,q,_⟩;exact⟨n,r b (by simp) cs q⟩;rw[AL];exact ih i f λx l cs' e=>r x (by simp only[Aw,Cg,AU];exact .inr (.inr ⟨i,f,l⟩)) cs' e
def MxL(M:Fr)(h:zb)(bs:List Nat):Fr:=λi=>if i∈bs then(match h[i]? with
 |some (.cells cs _ _)=>Td cs
 |_=>Te)else M i
theorem MxL.ag{M:Fr}{h:zb}(ag:AgM M h)(bs:List Nat):AgM (MxL M h bs) h:=by intro b c e;unfold MxL at e;split at e;split at e;rename_i cs T m f;cases e;exact⟨T,m,f⟩;cases e;exact ag b c e
theorem MxL.later{h0 h:zb}(ag:AgM M h0)(k:Keep h0.size h0 h)(hb:∀b∈bs,h0.size<=b):Later h0 M h (MxL M h bs) where
 keep:=k
 le:=λb c e=>by have:=ag.lt e;unfold MxL;rw[if_neg (λhm=>by have:=hb b hm;omega)];exact e
 old:=λb hlt=>by unfold MxL;rw[if_neg (λhm=>by have:=hb b hm;omega)]
 ag:=MxL.ag (ag.keep k) bs
theorem MxL.at(c:b∈bs)(e:Blk h b cs):MxL M h bs b=Td cs:=by obtain⟨T,e⟩:=e;unfold MxL;rw[if_pos c,e]
theorem OT.rdv{cells:List Value}(H:OT h v bs cells):RdV (MxL M h bs) .tree v (.agg cells.toArray):=by unfold RdV;simp only[zhf,if_true];exact⟨cells,rfl,H.rd λb c cs e=>MxL.at c e⟩
def upd(cs:Array Value)(o:Nat)(vs:List Value):Array Value:=(cs.toList.take o++vs++cs.toList.drop (o+vs.length)).toArray
theorem zx7(h:o+vs.length<=cs.size):(upd cs o vs).size=cs.size:=by unfold upd;simp;omega
theorem qft(h:o+vs.length<=cs.size)(q:Nat):(upd cs o vs).toList[q]?=if q<o then cs.toList[q]? else if q<o+vs.length then vs[q-o]? else cs.toList[q]?:=by unfold upd;exact Qr (by simpa using h) q
theorem q9{o n i:Nat}:(cut cs o n)[i]?=if i<n then cs.toList[o+i]? else Te:=by unfold cut;rw[AK];split;rw[A9];rfl
theorem zek{P:Program}{t:TypeId}(hi:qc P t=Ta)(H:Blk h b cs){v:Value}(c:v.cells.toList=vs)(k:qi P t=vs.length)(m:o+vs.length<=cs.size)(h1:∀u∈vs,u.oneCell'=Ta){K:zb->Prop}
  (n:∀h':zb,Blk h' b (upd cs o vs)->h'.size=h.size->(∀j,j≠b->h'[j]?=h[j]?)->K h'):XRunU P (Af t (.pointer (Td ⟨b,o,Te⟩)) v) h K:=by
 intro B d;obtain⟨T,e⟩:=H;have f:v.cells.size=vs.length:=by rw[<-c];simp
 obtain⟨h',q,p,l,i⟩:=Q1 (P:=P) hi k e f m (by rw[c];exact h1) B d;refine⟨d,h',q,n h' ⟨T,?_⟩ l i⟩;rw[p];unfold upd;rw[c]
theorem Blk.ofKeep(H:Blk h b cs)(k:Keep h.size h h'):Blk h' b cs:=H.keepN k H.lt
theorem zel(ag:AgM M h)(bs:List Nat):Fr.le M (MxL M h bs):=by intro b c e;unfold MxL;split;obtain⟨T,m,e'⟩:=ag b c e;rw[e'];exact e
end
end Go.X
end
section
namespace Go.X
section
variable {cs:Array Value}
theorem z5s:ElemT Tp 23 9 (.string ⟨#[]⟩) 1 16:=⟨by kernel_rfl,⟨Tryz.t9,by kernel_rfl,by kernel_rfl,by kernel_rfl,by kernel_rfl⟩,rfl,by omega⟩
theorem zpe:ElemT Tp 24 26 (.agg #[.int .i64 0,.string ⟨#[]⟩,.slice Te 0 0,.slice Te 0 0]) 4 72:=⟨by kernel_rfl,⟨Tryz.t26,by kernel_rfl,by kernel_rfl,by kernel_rfl,by kernel_rfl⟩,rfl,by omega⟩
theorem qlz:qc Tp 26=Ta:=by kernel_rfl
theorem ql0:qi Tp 26=4:=by kernel_rfl
theorem qiw:qc Tp 23=Ta:=by kernel_rfl
theorem qix:qi Tp 23=1:=by kernel_rfl
def w7(k:Int)(s:Bt)(sk si:Sl):List Value:=[.int .i64 k,.string s,slV sk,slV si]
theorem z02(k:Int)(s:Bt)(sk si:Sl):∀u∈w7 k s sk si,u.oneCell'=Ta:=by intro u b;simp[w7]at b;rcases b with rfl|rfl|rfl|rfl <;> simp[Value.oneCell',slV]
theorem zsq(k:Int)(s:Bt)(sk si:Sl):(Value.agg #[.int .i64 k,.string s,slV sk,slV si]).cells.toList=w7 k s sk si:=rfl
theorem qfu{vs:List Value}(h:cs.size=vs.length):upd cs 0 vs=vs.toArray:=by unfold upd;rw[CZ,A8,AL,<-h];have:cs.toList.drop cs.size=[]:=Br (by simp);rw[this,AR]
theorem zem{h:zb}{b:Nat}(H:Blk h b cs)(e:cs.size=4)(k:Int)(s:Bt)(sk si:Sl){K:zb->Prop}
  (f:∀h':zb,Blk h' b (w7 k s sk si).toArray->h'.size=h.size->(∀j,j≠b->h'[j]?=h[j]?)->K h'):XRunU Tp (Af 26 (.pointer (Td ⟨b,0,Te⟩)) (.agg #[.int .i64 k,.string s,.slice sk.a sk.len sk.cap,.slice si.a si.len si.cap])) h K:=
 zek (vs:=w7 k s sk si) qlz H (zsq k s sk si) ql0 (by rw[e];exact Ab _) (z02 k s sk si) λh' c i l=>f h' (by rw[qfu (by rw[e];rfl)]at c;exact c) i l
end
end Go.X
end
section
namespace Go.X
open Go Go.Lib
section
mutual
def tks:Tr->Nat | .mk _ _ ks xs=>1+ks.length+zpf xs
def zpf:List Tr->Nat | []=>0|x::l=>tks x+zpf l
end
theorem qiy(v:Tr):tks v=1+v.keys.length+zpf v.items:=by cases v;rw[tks]
theorem zkb:∀a b:List Tr,zpf (a++b)=zpf a+zpf b
 |[],b=>by simp[zpf]
 |x::l,b=>by rw[AD,zpf,zpf,zkb l b];omega
theorem z5t{l:List Tr}{k:Nat}(b:k<l.length):zpf (l.take (k+1))=zpf (l.take k)+tks l[k]:=by rw[Ay b,zkb];simp[zpf]
mutual
theorem z5u:∀v:Tr,tsz v<=tks v
 |.mk k s ks xs=>by rw[tsz,tks];have:=zsr xs;omega
theorem zsr:∀l:List Tr,Zs l<=zpf l
 |[]=>by simp[Zs,zpf]
 |x::l=>by rw[Zs,zpf];have:=z5u x;have:=zsr l;omega
end
mutual
def txS:Tr->Prop | .mk _ s ks xs=>(s.size<=2048/\∀k∈ks,k.size<=1024)/\z1y xs
def z1y:List Tr->Prop | []=>True|x::l=>txS x/\z1y l
end
theorem z5v(v:Tr):txS v↔(v.text.size<=2048/\∀k∈v.keys,k.size<=1024)/\z1y v.items:=by cases v;rw[txS]
theorem zie:∀{l:List Tr},z1y l↔∀x∈l,txS x
 |[]=>by simp[z1y]
 |x::l=>by rw[z1y,zie];simp
mutual
theorem qdk:∀(v:Tr),tks v<=1000000->txS v->txB 1048576 v
 |.mk k s ks xs,h,g=>by rw[tks]at h;rw[txS]at g;rw[txB];exact⟨⟨by omega,by omega,λk b=>by have:=g.1.2 k b;omega⟩,z5w xs (by omega) g.2⟩
theorem z5w:∀(l:List Tr),zpf l<=1000000->z1y l->zo7 1048576 l
 |[],_,_=>by rw[zo7];trivial
 |x::l,h,g=>by rw[zpf]at h;rw[z1y]at g;rw[zo7];exact⟨qdk x (by omega) g.1,z5w l (by omega) g.2⟩
end
theorem Sm.few{v:Tr}(h:tks v<=1000000)(g:txS v):Sm v:=⟨by have:=z5u v;omega,qdk v h g⟩
end
end Go.X
end
section
namespace Go.X
section
variable {gl:Fr} {l:List Tr} {R:Tr -> Prop}
theorem qdl{gl:Fr}(v:Tr)(l d:Int)(A:0<=l/\l<=1000)(w:0<=d/\d<=61){R:Int->Prop}(h:∀r,-1000000000000000<=r->r<=l->(0<=r->r+tks v<=l)->R r):PC Tp gl 91 [Arg.mk .tree v,Arg.mk (.int .i64) l,Arg.mk (.int .i64) d] [.int .i64] R:=by
 refine PC.bd λe=>?_;have z:v.keys.length<=140737488355328/\v.items.length<=140737488355328:=e ⟨.tree,v⟩ (by simp);apply zfw;refine⟨λo=>h _ (by omega) (by omega) (by omega),λo=>?_⟩;have t:d<=60:=by simp at o;omega
 rw[w64 (n:=l-1) (by omega),w64 (by omega)];refine⟨λc i=>∃k:Nat,i=k/\k<=v.items.length/\-1000000000000000<=c/\c<=l/\(0<=c->c+(1+v.keys.length+zpf (v.items.take k))<=l),λc i=>v.items.length-i.toNat,⟨0,rfl,by omega,by omega,by omega,λ_=>by simp[zpf];omega⟩,?_⟩;rintro c i ⟨k,rfl,x,h1,s,m⟩;refine⟨λf=>?_,λf=>h c h1 s λh0=>?_⟩;have b:k<v.items.length/\0<=c:=by simp at f;omega
 refine⟨v.items[k],⟨by omega,zpc b.1⟩,?_⟩;rw[zam,w64 (by omega)];have p:=yj (AE b.1);refine qdl v.items[k] c (d+1) ⟨b.2,by omega⟩ (by omega) λr u y q=>?_;rw[jc b.1 (by omega)];refine⟨⟨k+1,rfl,by omega,u,by omega,λh0=>?_⟩,by simp only[Ag];omega⟩;have:=q h0;have:=m b.2;rw[z5t b.1];omega;have b:k=v.items.length:=by simp at f;omega
 subst b;have:=m h0;rw[A5]at this;rw[qiy];omega
termination_by tsz v
theorem zx8{gl:Fr}(v:Tr){R:Bool->Prop}(h:∀b,(b=Ta->txS v)->R b):PC Tp gl 92 [Arg.mk .tree v] [.bool] R:=by
 refine PC.bd λq=>?_;have t:v.keys.length<=140737488355328/\v.items.length<=140737488355328:=q ⟨.tree,v⟩ (by simp);apply zcm;refine⟨λc=>h _ (λe=>by cases e),λc=>?_⟩;have m:v.text.size<=2048:=by simp at c;omega
 refine⟨λi=>∃k:Nat,i=k/\k<=v.keys.length/\∀x∈v.keys.take k,x.size<=1024,λi=>v.keys.length-i.toNat,⟨0,rfl,by omega,by simp⟩,?_⟩;rintro i ⟨k,rfl,w,h1⟩;refine⟨λr=>?_,λr=>?_⟩;have l:k<v.keys.length:=by simp at r;omega
 refine⟨v.keys[k],⟨by omega,qly l⟩,λ_=>h _ (λe=>by cases e),λp=>?_⟩;have n:v.keys[k].size<=1024:=by simp at p;omega
 rw[jc l (by omega)];refine⟨⟨k+1,rfl,by omega,?_⟩,by simp only[Ag];omega⟩;rw[Ay l];intro x c;rcases Aw.1 c with c|c;exact h1 x c;simp at c;subst c;exact n;have l:k=v.keys.length:=by simp at r;omega
 subst l;rw[A5]at h1;refine⟨λi=>∃k:Nat,i=k/\k<=v.items.length/\∀x∈v.items.take k,txS x,λi=>v.items.length-i.toNat,⟨0,rfl,by omega,by simp⟩,?_⟩;rintro i ⟨k,rfl,w,s⟩;refine⟨λo=>?_,λo=>h _ λ_=>?_⟩;have f:k<v.items.length:=by simp at o;omega
 refine⟨v.items[k],⟨by omega,zpc f⟩,?_⟩;rw[zam];have u:=yj (AE f);refine zx8 v.items[k] λb t=>⟨λ_=>h _ (λe=>by cases e),λp=>?_⟩;rw[jc f (by omega)];refine⟨⟨k+1,rfl,by omega,?_⟩,by simp only[Ag];omega⟩;rw[Ay f];intro x c;rcases Aw.1 c with c|c;exact s x c;simp at c;subst c;exact t (by simpa using p);have f:k=v.items.length:=by simp at o;omega
 subst f;rw[A5]at s;exact(z5v v).2 ⟨⟨m,h1⟩,zie.2 s⟩
termination_by tsz v
theorem qiz(h:R (.mk 5 ⟨#[]⟩ [] l)):PC Tp gl 29 [Arg.mk (.row .tree) l] [.tree] R:=by apply zfv;exact h
theorem qi0{ks:List Bt}(h:R (.mk 6 ⟨#[]⟩ ks l)):PC Tp gl 99 [Arg.mk (.row .str) ks,Arg.mk (.row .tree) l] [.tree] R:=by apply zfu;exact h
theorem qdm(b:GL gl){n:Int}(h1:-1000000<=n)(c:n<=1000000)(h:R (.mk 3 (bl (qm (zj (Lib.itoa n)).1)) [] [])):PC Tp gl 58 [Arg.mk (.int .i64) n] [.tree] R:=by apply zr9;refine qlu b.pow (by omega) (by omega) ?_;exact zvs b.pow (Yy _ (by have:=Go.X.itoa_len n;omega)) h
end
end Go.X
end
section
namespace Go.X
open Go Go.Proofs Go.Shelf Go.RowKit
section
def zen:Go.Shelf.Ren:=⟨fun|169=>87|n=>n,fun|70=>109|9=>9|0=>0|72=>112|37=>110|127=>181|3=>3|5=>5|n=>n,fun|n=>n⟩
theorem z5x:Go.Proofs.Lays.n169 Tp zen:=by constructor <;> intros <;> kernel_rfl
theorem zc0:Builder.Extra Tp zen:={
 sizeBuilder:=by kernel_rfl
 liesBuilder:=by kernel_rfl
 t5:=Tryz.underlying5
 a5:=Tryz.isAgg5
 z5:=Tryz.sizeOf5
 v5:=Tryz.zeroValue5
 infoByte:=by kernel_rfl
 cellsByte:=by kernel_rfl
 sizeByte:=by kernel_rfl
 neB5:=by decide }
theorem zbq(B b:Nat)(l:List UInt8)(w:World)(h:Lib.IsBuilder 112 5 B b (Lib.byteCells l) w)(c:B<=w.heap.size): Calls Tp 87 #[.pointer (Td ⟨b,0,Te⟩)] w λe w'=>e=.returned (.string ⟨l.toArray⟩)/\Below B w w':=Any.Builder_String_any z5x zc0 B b l w h c
def zpg:Go.Shelf.Ren:=⟨fun|153=>265|152=>269|226=>293|227=>143|228=>214|137=>212|119=>300|224=>301|225=>302|217=>268|266=>299|n=>n,fun|9=>9|3=>3|4=>4|5=>5|21=>21|117=>170|116=>169|0=>0|46=>177|124=>173|n=>n,fun|n=>n⟩
theorem z5y:Go.Proofs.Lays.n153 Tp zpg:=by constructor <;> intros <;> kernel_rfl
open Go.RowKit Go.Lib in
theorem W0(h:∀w,(zeroValue 169).run Tp w=.ok (.agg (BJ 256 (.bool Tc))) w)(s c:Bt)(w:World)(m:2<=c.size)(k:8<s.size)(l:s.size<4294967281)(i:c.size<4294967281)(f:∀(j:Nat) b,c.data.toList[j]?=Td b->b.toNat<128): Calls Tp 265 #[.string s,.string c] w λe w'=>e=.returned (.int .i64 (Lib.indexAny s.data.toList c.data.toList))/\w'=((w.alloc (.cells (Lib.setCells c.data.toList) 169)).alloc (.cells (Lib.setCells c.data.toList) 169)):=Any.strings_IndexAny_long z5y h (by kernel_rfl) s c w m k l i f
end
end Go.X
end
section
namespace Go.X
open Go Go.X Go.Proofs Go.RowKit
section
variable {h h':zb} {b:Nat} {l:Bs} {cs:Array Value} {s:Sl} {K:Value -> zb -> Prop}
def Bld(h:zb)(b:Nat)(l:Bs):Prop:=∃(p:Option Addr) (s:Sl),h[b]?=Td (.cells #[.pointer p,slV s] 112 (0,0))/\(p=Te\/p=Td ⟨b,0,Te⟩)/\Owns h (b+1) 5 1 s (Lib.byteCells l)
theorem Bld.lt(H:Bld h b l):b<h.size:=by obtain⟨p,s,e,_⟩:=H;rcases AX b h.size with q|q;exact q;rw[Array.getElem?_eq_none q]at e;cases e
theorem Bld.keep(H:Bld h b l)(k:Keep h.size h h'):Bld h' b l:=by have c:=H.lt;obtain⟨p,s,e,i,f⟩:=H;exact⟨p,s,by rw[k.get b c];exact e,i,f.keepN k⟩
theorem Bld.new(h:zb):Bld (h.push (.cells #[.pointer Te,.slice Te 0 0] 112)) h.size []:= ⟨Te,⟨Te,0,0⟩,yd _ _,.inl rfl,Owns.nil _ _ _ _⟩
theorem zvx:(AF.info? 112).map (·.size)=Td 2:=by kernel_rfl
theorem qfv:liesAt Tp AF.depth 112 (2 / AF.cellsOf 112) 0 112 1=Ta:=by kernel_rfl
theorem zss:AF.underlying 109=Td (.pointer 112):=by kernel_rfl
theorem zph:AF.underlying 234=Td .unsafePointer:=by kernel_rfl
set_option maxHeartbeats 1000000 in
set_option maxRecDepth 100000 in
theorem zna(b:Nat)(w:World)(h0:w.cell? ⟨b,0,Te⟩=Td (.pointer (Td ⟨b,0,Te⟩))):
  Calls Tp 152 #[.pointer (Td ⟨b,0,Te⟩)] w λe w'=>e=.returned (.tuple #[])/\w'=w:=by
 obtain⟨j,c,_⟩:=Ck.1 zvx;have mixed:=Tryz.mixed
 go_enter Tryz.func152,Tryz.ntmps152
 go_wp2
 rw[Lib.run_neq_ptr_same w _ zss c]
 go_wp2
 go_end0
 exact⟨rfl,rfl⟩
set_option maxHeartbeats 1000000 in
set_option maxRecDepth 100000 in
theorem zvy(b:Nat)(w:World)(h0:w.cell? ⟨b,0,Te⟩=Td (.pointer Te))(c:w.shape? b=Td (112,2))(i:w.frozen? ⟨b,0,Te⟩=Tc):
  Calls Tp 152 #[.pointer (Td ⟨b,0,Te⟩)] w λe w'=>e=.returned (.tuple #[])/\w'=w.setCell ⟨b,0,Te⟩ (.pointer (Td ⟨b,0,Te⟩)):=by
 obtain⟨j,h,f⟩:=Ck.1 zvx;have mixed:=Tryz.mixed
 go_enter Tryz.func152,Tryz.ntmps152
 go_wp2
 rw[Lib.run_to_unsafe w ⟨b,0,Te⟩ zss zph h (by rw[f];decide) c (Nat.zero_lt_succ 1)];simp only[Result.andThen];rw[Oper.upon_value]
 go_wp2
 rw[run_callFunc_extern Tryz.func219 (by kernel_rfl) (by kernel_rfl) (by kernel_rfl) (e:=DZ) (by kernel_rfl)];rw[Lib.run_noEscape];simp only[Result.andThen];rw[Oper.upon_value]
 go_wp2
 rw[Lib.run_from_unsafe w ⟨b,0,Te⟩ zph zss h c qfv];simp only[Result.andThen];rw[Oper.upon_value]
 go_wp2
 go_end0
 exact⟨rfl,rfl⟩
theorem znb{b o:Nat}{T:TypeId}(e:h[b]?=Td (.cells cs T (0,0)))(v:Value)(B:World)(d:Nat):(mk B d h).setCell ⟨b,o,Te⟩ v=mk B d (h.setIfInBounds b (.cells (cs.setIfInBounds o v) T (0,0))):=by
 unfold World.setCell mk;simp only;congr 1;have c:b<h.size:=(An.1 e).1;apply Array.ext_getElem?;intro i;rw[Array.getElem?_modify];by_cases hi:i=b;subst hi;have e':h[i]=.cells cs T (0,0):=by have:=Bo c;rw[e]at this;exact(Az this).symm
 simp[c,e'];rw[if_neg (Ne.symm hi),AB (Ne.symm hi)]
theorem Keep.ne(e:h'.size=h.size)(c:∀i,i≠b->h'[i]?=h[i]?):Keep b h h':=⟨by omega,λi hi=>c i (by omega)⟩
def Itk(h h':zb):Prop:=∀(i:Nat) (s:Bt) (p:Nat),h[i]?=Td (.stringIter s p)->h'[i]?=Td (.stringIter s p)
theorem Itk.trans{a b c:zb}(x:Itk a b)(y:Itk b c):Itk a c:=λi s p e=>y i s p (x i s p e)
theorem Itk.keep(k:Keep h.size h h'):Itk h h':=λi s p e=>by have hi:i<h.size:=(An.1 e).1;rw[k.get i hi];exact e
theorem Itk.ne{T:TypeId}{m:Nat×Nat}(e:h[b]?=Td (.cells cs T m))(f:∀i,i≠b->h'[i]?=h[i]?):Itk h h':=λi s p c=>by by_cases hi:i=b;subst hi;rw[e]at c;cases c;rw[f i hi];exact c
theorem Itk.own{base:Nat}{e:TypeId}{sz:Nat}{xs:List Value}(H:Owns h base e sz s xs)(f:∀i,i<h.size->(∀p,s.a=Td p->i≠p.block)->h'[i]?=h[i]?):Itk h h':=λi t p b=>by have hi:i<h.size:=(An.1 b).1;rw[f i hi λq n m=>?_];exact b;rcases H.2 with⟨c,_⟩|⟨g,cap,k,c,_,l,_⟩;rw[n]at c;cases c;have l:h[g]?=Td (.cells k e (0,0)):=l;rw[n]at c;injection c with e1 _ _;injection e1 with e1;rw[m,e1]at b;rw[l]at b;cases b
theorem chk(H:Bld h b l)(m:∀h',Bld h' b l->Keep b h h'->h'.size=h.size->Itk h h'->K (.tuple #[]) h'):XC Tp 152 #[.pointer (Td ⟨b,0,Te⟩)] h K:=by
 have f:=H.lt;obtain⟨p,s,e,n,k⟩:=H;have c:∀B d,(mk B d h).cell? ⟨b,0,Te⟩=Td (.pointer p):=λB d=>by have:(mk B d h).heap[b]?=Td (.cells #[.pointer p,slV s] 112 (0,0)):=e;simp[World.cell?,this]
 rcases n with rfl|rfl;refine XC.of_calls λB d=>(zvy b (mk B d h) (c B d) ?_ ?_).mono ?_
 have:(mk B d h).heap[b]?=Td (.cells #[.pointer Te,slV s] 112 (0,0)):=e;simp[World.shape?,this];exact zfg ⟨_,e⟩ B d;rintro e' w' ⟨rfl,rfl⟩;rw[znb e];refine⟨_,rfl,rfl,rfl,rfl,?_⟩;show K _ (h.setIfInBounds b _);refine m _ ⟨_,s,?_,.inr rfl,?_⟩ ?_ (by simp) (Itk.ne e λi hi=>AB (Ne.symm hi));rw[Ci f];rfl;refine k.keep λq o=>?_;have:=k.base_le q o;rw[AB (by omega)];exact Keep.setBlk _ (Ab _);refine XC.of_calls λB d=>(zna b (mk B d h) (c B d)).mono ?_;rintro e' w' ⟨rfl,rfl⟩;exact⟨_,rfl,rfl,rfl,rfl,m _ ⟨_,s,e,.inr rfl,k⟩ (Keep.refl _ _) rfl (Itk.keep (Keep.refl _ _))⟩
theorem elemU8:ElemT Tp 110 5 (.int .u8 0) 1 1:=⟨by kernel_rfl,⟨Tryz.t5,by kernel_rfl,by kernel_rfl,by kernel_rfl,by kernel_rfl⟩,rfl,by omega⟩
theorem ql1:AF.underlying 9=Td .string:=by kernel_rfl
theorem z5z:qc Tp 110=Ta:=by kernel_rfl
theorem z6a:qi Tp 110=1:=by kernel_rfl
theorem z6b{p:Option Addr}{s t:Sl}(e:h[b]?=Td (.cells #[.pointer p,slV t] 112 (0,0)))(k:p=Te\/p=Td ⟨b,0,Te⟩)(f:Owns h (b+1) 5 1 s (Lib.byteCells l)){K:zb->Prop}
  (m:∀h',Bld h' b l->Keep b h h'->h'.size=h.size->Itk h h'->K h'):XRunU Tp (Af 110 (.pointer (Td ⟨b,1,Te⟩)) (.slice s.a s.len s.cap)) h K:=by
 intro B d;obtain⟨h',u,n,i,c⟩:=Q1 (P:=Tp) z5z z6a e (o:=1) (v:=slV s) rfl (by simp) (by simp[slV,Value.cells,Value.oneCell']) B d;refine⟨d,h',u,m h' ⟨p,s,?_,k,?_⟩ (Keep.ne i c) i (Itk.ne e c)⟩;rw[n];rfl;refine f.keep λq r=>?_;have:=f.base_le q r;exact c _ (by omega)
theorem W5(H:Bld h b l)(hl:l.length<140737488355328)(c:UInt8)(L:∀h',Bld h' b (l++[c])->Keep b h h'->Itk h h'->K .nilIface h'):
  XC Tp 81 #[.pointer (Td ⟨b,0,Te⟩),.int .u8 (c.toNat:Int)] h K:=by
 apply j9;refine chk H λm B k2 z2 M=>⟨rfl,_,rfl,?_⟩;have z:=B.lt;obtain⟨p,s,e,F,u⟩:=B;have r:=u.1;rw[Lib.byteCells_length,B0]at r;refine⟨s,Blk.cellAdd (o:=0) (k:=1) (cs:=#[.pointer p,slV s]) ⟨_,e⟩ rfl,?_⟩;intro f;have t:Keep m.size m f:=Keep.push _ _ (Ab _);have U:f.size=m.size+1:=Aj _;have b5:Blk f m.size #[.int .u8 (c.toNat:Int)]:=Blk.new _ _ _;have Q:f[b]?=Td (.cells #[.pointer p,slV s] 112 (0,0)):=by rw[t.get b z];exact e
 have C:=u.keepN t;clear_value f;refine zbb elemU8 C (src:=⟨Td ⟨m.size,0,Te⟩,1,1⟩) (news:=[.int .u8 (c.toNat:Int)]) (n:=f.size) ?_ rfl (by simp[Value.oneCell']) (by simp only;omega) (by simp only;omega) (by omega) λD w Y E x Z V=>⟨D,rfl,_,rfl,?_⟩;refine .inr ⟨m.size,0,rfl,by omega,λi v A=>?_⟩
 match i,A with
 |0,A=>cases A;exact b5.cell rfl
 have S:w[b]?=Td (.cells #[.pointer p,slV s] 112 (0,0)):=by rw[x b (by omega) λq y=>by have:=u.base_le q y;omega];exact Q
 have N:Owns w (b+1) 5 1 D (Lib.byteCells (l++[c])):=by
  have:Lib.byteCells (l++[c])=Lib.byteCells l++[.int .u8 (c.toNat:Int)]:=by unfold Lib.byteCells;rw[Bh];rfl
  rw[this];exact E
 have P:Keep b h w:=k2.trans ⟨by omega,λi hi=>by rw[x i (by omega) λq y=>by have:=u.base_le q y;omega];exact t.get i (by omega)⟩ (Ab _);refine z6b S F N λJ G O z7 I=>L J G (P.trans O (Ab _)) (M.trans ((Itk.keep t).trans ((Itk.own C x).trans I)))
theorem zpi(H:Bld h b l)(t:Bs)(hl:l.length+t.length<=140737488355328)(L:∀h',Bld h' b (l++t)->Keep b h h'->Itk h h'->K (.tuple #[.int .i64 (t.length:Int),.nilIface]) h'):
  XC Tp 85 #[.pointer (Td ⟨b,0,Te⟩),.string (bl t)] h K:=by
 apply jd;refine chk H λN z k2 z2 O=>⟨rfl,_,rfl,?_⟩;have F:=z.lt;obtain⟨p,s,e,D,n⟩:=z;have f:=n.1;rw[Lib.byteCells_length,B0]at f;refine⟨s,Blk.cellAdd (o:=0) (k:=1) (cs:=#[.pointer p,slV s]) ⟨_,e⟩ rfl,?_⟩;have c:=zf t;refine zbg elemU8 n (x:=.string (bl t)) (m:=(bl t).size) (news:=Lib.byteCells t) (λB d=>?_) (by rw[c];omega) (by rw[c];omega) (by omega) λA r Z C u q4 Y=>⟨A,rfl,_,rfl,?_⟩;have:=Src.ofString (P:=Tp) (w:=mk B d N) ql1 (bl t);have M:byteCells (bl t)=Lib.byteCells t:=by unfold byteCells Lib.byteCells;have:(bl t).data.toList=t:=yh t;rw[this]
 rw[M]at this;exact this;have Q:r[b]?=Td (.cells #[.pointer p,slV s] 112 (0,0)):=by rw[u b (by omega) λq y=>by have:=n.base_le q y;omega];exact e
 have S:Owns r (b+1) 5 1 A (Lib.byteCells (l++t)):=by
  have:Lib.byteCells (l++t)=Lib.byteCells l++Lib.byteCells t:=by unfold Lib.byteCells;rw[Bh]
  rw[this];exact C
 have J:Keep b h r:=k2.trans ⟨by omega,λi hi=>u i (by omega) λq y=>by have:=n.base_le q y;omega⟩ (Ab _);refine z6b Q D S λI E U V G=>?_;rw[c];exact L I E (J.trans U (Ab _)) (O.trans ((Itk.own n u).trans G))
theorem zx9(H:Bld h b l)(o:∀h',Keep b h h'->K (.string (bl l)) h'):XC Tp 87 #[.pointer (Td ⟨b,0,Te⟩)] h K:=by
 have i:=H.lt;obtain⟨p,s,e,n,k⟩:=H;refine XC.of_calls λB d=>(zbq b b l (mk B d h) ?_ (Da i)).mono ?_;have m:Lib.BuilderAt 112 5 b b (.pointer p) (Lib.byteCells l) (mk B d h):=by
  refine⟨Ab _,slV s,e,?_,?_⟩;have h1:=k.1;rw[B0]at h1;rw[h1];exact k.base (Nat.le_succ b);intro f;cases ha:s.a with
  |none=>rw[slV,ha]at f;cases f
  |some q=>
   have:=k.base_le q ha;rw[slV,ha]at f;have:q.block=b:=by simpa[Value.ownBlock]using f
   omega
 rcases n with rfl|rfl;exact .inl m;exact .inr m;rintro e' w' ⟨rfl,c⟩;exact⟨_,rfl,c.os,c.tape,c.output,o _ ⟨c.size,c.block⟩⟩
end
end Go.X
end
section
namespace Go.X
section
theorem zpj(gl:Fr)(b:Bt×List (Int×(Int×Int)×(Int×Int)×(List Int)×List (Int×Int)))(s1:Int×Int)(R:Bt->Prop) (H:((bif (bif (decide (s1.1<0))then Ta else(decide (s1.1>s1.2)))then Ta else(decide (s1.2>b.1.size)))=Ta->R (⟨#[]⟩:Bt))/\((bif (bif (decide (s1.1<0))then Ta else(decide (s1.1>s1.2)))then Ta else(decide (s1.2>b.1.size)))=Tc->(0<=s1.1/\s1.1<=s1.2/\s1.2<=b.1.size)/\R (b.1.extract s1.1.toNat s1.2.toNat))):
  PC Tp gl 31 [Arg.mk (.pair .str (.row (.pair (.int .i64) (.pair (.pair (.int .i64) (.int .i64)) (.pair (.pair (.int .i64) (.int .i64)) (.pair (.row (.int .i64)) (.row (.pair (.int .i64) (.int .i64))))))))) b,Arg.mk (.pair (.int .i64) (.int .i64)) s1] [.str] R:=
 PF ⟨[],[],[],[]⟩ [.tmp 4] 30 Tryz.func31 H
theorem zst(gl:Fr)(e:Int)(s1:Bt)(R:Bt->Prop) (H:((e==2)=Ta->R s1)/\((e==2)=Tc->((e==3)=Ta->PC Tp gl 25 [Arg.mk .str s1] [.pair .bool (.pair .str (.int .i64)),.int .i64] (λa:(Bool×Bt×Int)×Int=>PC Tp gl 26 [Arg.mk (.pair .bool (.pair .str (.int .i64))) (a.1.1,(a.1.2.1,a.1.2.2))] [.str] (λb:Bt=>R b)))/\((e==3)=Tc->((e==4)=Ta->PC Tp gl 196 [Arg.mk .str s1] [.str,.int .i64,.int .i64] (λc:Bt×Int×Int=>R c.1))/\((e==4)=Tc->R (⟨#[]⟩:Bt))))):
  PC Tp gl 111 [Arg.mk (.int .i64) e,Arg.mk .str s1] [.str] R:=
 PF ⟨[],[],[],[]⟩ [.tmp 4] 32 Tryz.func111 H
theorem zvz(gl:Fr)(e:Bt×List (Int×(Int×Int)×(Int×Int)×(List Int)×List (Int×Int)))(f:Int)(R:Bt->Prop) (H:∃a:Int×(Int×Int)×(Int×Int)×(List Int)×List (Int×Int),(0<=f/\e.2[f.toNat]?=Td a)/\PC Tp gl 31 [Arg.mk (.pair .str (.row (.pair (.int .i64) (.pair (.pair (.int .i64) (.int .i64)) (.pair (.pair (.int .i64) (.int .i64)) (.pair (.row (.int .i64)) (.row (.pair (.int .i64) (.int .i64))))))))) (e.1,e.2),Arg.mk (.pair (.int .i64) (.int .i64)) (a.2.2.1.1,a.2.2.1.2)] [.str] (λb:Bt=>PC Tp gl 196 [Arg.mk .str b] [.str,.int .i64,.int .i64] (λc:Bt×Int×Int=>R c.1))):
  PC Tp gl 112 [Arg.mk (.pair .str (.row (.pair (.int .i64) (.pair (.pair (.int .i64) (.int .i64)) (.pair (.pair (.int .i64) (.int .i64)) (.pair (.row (.int .i64)) (.row (.pair (.int .i64) (.int .i64))))))))) e,Arg.mk (.int .i64) f] [.str] R:=
 PF ⟨[],[(1,13,[],[0,1,2,3,4,5,6,7,8,9,10,11,12],[11,12])],[],[]⟩ [.tmp 4] 22 Tryz.func112 H
theorem zl4(gl:Fr)(c:Int)(R:Int->Prop) (H:((c==12)=Ta->R 1)/\((c==12)=Tc->∀a:Bool->Prop,(∀b:Bool,((b=Ta->R 2)/\(b=Tc->((c==9)=Ta->R 3)/\((c==9)=Tc->((c==8)=Ta->R 4)/\((c==8)=Tc->((c==4)=Ta->R 5)/\((c==4)=Tc->((c==2)=Ta->R 6)/\((c==2)=Tc->R 0))))))->a b)->((c==10)=Ta->a (c==10))/\((c==10)=Tc->a (c==11)))):
  PC Tp gl 114 [Arg.mk (.int .i64) c] [.int .i64] R:=
 PF ⟨[],[],[],[(6,⟨[(6,.one (.dat .bool))],[],[],[100384]⟩)]⟩ [.tmp 2] 17 Tryz.func114 H
theorem zho(gl:Fr)(b:Bt)(R:(Bt×Int×Int)->Prop) (H:PC Tp gl 253 [Arg.mk .str b,Arg.mk (.int .i64) 0] [.str,.int .i64,.int .i64] (λa:Bt×Int×Int=>((bif (a.2.2==0)then(decide (a.2.1<b.size))else Tc)=Ta->R ((⟨#[]⟩:Bt),a.2.1,2))/\((bif (a.2.2==0)then(decide (a.2.1<b.size))else Tc)=Tc->R (a.1,a.2.1,a.2.2)))):
  PC Tp gl 196 [Arg.mk .str b] [.str,.int .i64,.int .i64] R:=
 PF ⟨[],[],[],[]⟩ [.tmp 2,.tmp 3,.tmp 4] 26 Tryz.func196 H
theorem zpk(gl:Fr)(c:Int)(b:Int)(R:((Int×Int×Int)×Int)->Prop) (H:R ((0,(c,c)),b)):
  PC Tp gl 255 [Arg.mk (.int .i64) c,Arg.mk (.int .i64) b] [.pair (.int .i64) (.pair (.int .i64) (.int .i64)),.int .i64] R:=
 PF ⟨[],[],[],[]⟩ [.cell 4 90,.tmp 5] 11 Tryz.func255 H
theorem zsu(gl:Fr)(c:Bt)(b:Int)(R:(Int×Int)->Prop) (H:((bif (decide (b<0))then Ta else(decide (b>c.size)))=Ta->R (0,2))/\((bif (decide (b<0))then Ta else(decide (b>c.size)))=Tc->PC Tp gl 253 [Arg.mk .str c,Arg.mk (.int .i64) b] [.str,.int .i64,.int .i64] (λa:Bt×Int×Int=>R (a.2.1,a.2.2)))):
  PC Tp gl 258 [Arg.mk .str c,Arg.mk (.int .i64) b] [.int .i64,.int .i64] R:=
 PF ⟨[],[],[],[]⟩ [.tmp 4,.tmp 5] 26 Tryz.func258 H
theorem zsv(gl:Fr)(c0:Int)(R:Bool->Prop) (H:R (bif (decide (c0>=97))then(decide (c0<=122))else Tc)):
  PC Tp gl 259 [Arg.mk (.int .u8) c0] [.bool] R:=
 PF ⟨[],[],[],[]⟩ [.tmp 2] 9 Tryz.func259 H
theorem zv0(gl:Fr)(b:Bt)(R:Int->Prop) (H:((b.toList==(⟨#[116,114,117,101]⟩:Bt).toList)=Ta->R 10)/\((b.toList==(⟨#[116,114,117,101]⟩:Bt).toList)=Tc->((b.toList==(⟨#[102,97,108,115,101]⟩:Bt).toList)=Ta->R 11)/\((b.toList==(⟨#[102,97,108,115,101]⟩:Bt).toList)=Tc->((b.toList==(⟨#[110,117,108,108]⟩:Bt).toList)=Ta->R 12)/\((b.toList==(⟨#[110,117,108,108]⟩:Bt).toList)=Tc->R 0)))):
  PC Tp gl 260 [Arg.mk .str b] [.int .i64] R:=
 PF ⟨[],[],[],[]⟩ [.tmp 2] 10 Tryz.func260 H
theorem zpl(gl:Fr)(c:Bt)(R:(Int×Int)->Prop) (H:(0<=(0:Int)/\(0:Int)<(c.size:Int))/\(((zr c (0:Int).toNat:Int)==92)=Ta->PC Tp gl 315 [Arg.mk .str c] [.int .i32,.int .i64] (λa:Int×Int=>R (a.1,a.2)))/\(((zr c (0:Int).toNat:Int)==92)=Tc->PC Tp gl 151 [Arg.mk .str c] [.int .i32,.int .i64] (λb:Int×Int=>((bif (decide (b.1<32))then Ta else(bif (b.1==65533)then(b.2==1)else Tc))=Ta->R (0,0))/\((bif (decide (b.1<32))then Ta else(bif (b.1==65533)then(b.2==1)else Tc))=Tc->R (b.1,b.2))))):
  PC Tp gl 291 [Arg.mk .str c] [.int .i32,.int .i64] R:=
 PF ⟨[],[],[],[]⟩ [.tmp 2,.tmp 3] 30 Tryz.func291 H
theorem zkc(gl:Fr)(c:Bt)(R:(Int×Int)->Prop) (H:(decide ((c.size:Int)<2)=Ta->R (0,0))/\(decide ((c.size:Int)<2)=Tc->(0<=(1:Int)/\(1:Int)<(c.size:Int))/\PC Tp gl 323 [Arg.mk (.int .u8) (zr c (1:Int).toNat)] [.int .i32,.bool] (λa:Int×Bool=>(a.2=Ta->R (a.1,2))/\(a.2=Tc->(0<=(1:Int)/\(1:Int)<(c.size:Int))/\(((zr c (1:Int).toNat:Int)==117)=Ta->PC Tp gl 324 [Arg.mk .str c] [.int .i32,.int .i64] (λb:Int×Int=>R (b.1,b.2)))/\(((zr c (1:Int).toNat:Int)==117)=Tc->R (0,0)))))):
  PC Tp gl 315 [Arg.mk .str c] [.int .i32,.int .i64] R:=
 PF ⟨[],[],[],[]⟩ [.tmp 2,.tmp 3] 24 Tryz.func315 H
theorem zl5(gl:Fr)(c0:Int)(R:(Int×Bool)->Prop) (H:∀a:Bool->Prop,(∀b:Bool,((b=Ta->R (Aa .i32 c0,Ta))/\(b=Tc->((c0==98)=Ta->R (8,Ta))/\((c0==98)=Tc->((c0==102)=Ta->R (12,Ta))/\((c0==102)=Tc->((c0==110)=Ta->R (10,Ta))/\((c0==110)=Tc->((c0==114)=Ta->R (13,Ta))/\((c0==114)=Tc->((c0==116)=Ta->R (9,Ta))/\((c0==116)=Tc->R (0,Tc))))))))->a b)->((c0==34)=Ta->a (c0==34))/\((c0==34)=Tc->((c0==92)=Ta->a (c0==92))/\((c0==92)=Tc->a (c0==47)))):
  PC Tp gl 323 [Arg.mk (.int .u8) c0] [.int .i32,.bool] R:=
 PF ⟨[],[],[],[(5,⟨[(5,.one (.dat .bool))],[],[],[100320]⟩)]⟩ [.tmp 2,.tmp 3] 21 Tryz.func323 H
theorem zhp(gl:Fr)(f:Bt)(R:(Int×Int)->Prop) (H:(0<=(2:Int)/\(2:Int)<=(f.size:Int)/\(f.size:Int)<=(f.size:Int))/\PC Tp gl 328 [Arg.mk .str (f.extract (2:Int).toNat (f.size:Int).toNat)] [.int .i32,.bool] (λa:Int×Bool=>∀b:Bool->Prop,(∀c:Bool,((c=Ta->R (0,0))/\(c=Tc->((bif (decide (a.1<55296))then Ta else(decide (a.1>=57344)))=Ta->R (a.1,6))/\((bif (decide (a.1<55296))then Ta else(decide (a.1>=57344)))=Tc->(0<=(6:Int)/\(6:Int)<=(f.size:Int)/\(f.size:Int)<=(f.size:Int))/\PC Tp gl 156 [Arg.mk .str (f.extract (6:Int).toNat (f.size:Int).toNat),Arg.mk .str (⟨#[92,117]⟩:Bt)] [.bool] (λd:Bool=>((!d)=Ta->R (0,0))/\((!d)=Tc->(0<=(8:Int)/\(8:Int)<=(f.size:Int)/\(f.size:Int)<=(f.size:Int))/\PC Tp gl 328 [Arg.mk .str (f.extract (8:Int).toNat (f.size:Int).toNat)] [.int .i32,.bool] (λe:Int×Bool=>((bif (bif (!e.2)then Ta else(decide (e.1<56320)))then Ta else(decide (e.1>=57344)))=Ta->R (0,0))/\((bif (bif (!e.2)then Ta else(decide (e.1<56320)))then Ta else(decide (e.1>=57344)))=Tc->R (Aa .i32 ((Aa .i32 ((Aa .i32 (65536+(Aa .i32 ((Aa .i32 (a.1-55296))*1024))))+e.1))-56320),12))))))))->b c)->((!a.2)=Ta->b (!a.2))/\((!a.2)=Tc->b (bif (decide (a.1>=56320))then(decide (a.1<57344))else Tc)))):
  PC Tp gl 324 [Arg.mk .str f] [.int .i32,.int .i64] R:=
 PF ⟨[],[],[],[(4,⟨[(13,.one (.dat .bool))],[],[],[100832]⟩)]⟩ [.tmp 2,.tmp 3] 58 Tryz.func324 H
theorem zpm(gl:Fr)(e:Bt)(R:(Int×Bool)->Prop) (H:((!(decide ((e.size:Int)<4)))=Ta->(0<=(0:Int)/\(0:Int)<=4/\(4:Int)<=(e.size:Int)))/\∃a:Bool->Prop,((!(decide ((e.size:Int)<4)))=Ta->PC Tp gl 209 [Arg.mk .str (e.extract (0:Int).toNat (4:Int).toNat),Arg.mk .str (⟨#[43,45,95]⟩:Bt)] [.bool] a)/\∀b:Bool,((!(decide ((e.size:Int)<4)))=Ta->a b)->((bif (decide ((e.size:Int)<4))then Ta else b)=Ta->R (0,Tc))/\((bif (decide ((e.size:Int)<4))then Ta else b)=Tc->(0<=(0:Int)/\(0:Int)<=4/\(4:Int)<=(e.size:Int))/\PC Tp gl 329 [Arg.mk .str (e.extract (0:Int).toNat (4:Int).toNat),Arg.mk (.int .i64) 16,Arg.mk (.int .i64) 32] [.int .u64,.err] (λc:Int×Bool=>R (Aa .i32 c.1,c.2)))):
  PC Tp gl 328 [Arg.mk .str e] [.int .i32,.bool] R:=
 PF ⟨[],[],[],[]⟩ [.tmp 2,.tmp 3] 24 Tryz.func328 H
end
end Go.X
end
section
namespace Go.X
open Go Go.Lib
section
variable {l:Bs} {n r:Nat}
theorem qne(l:Bs):decodeL l=dec l:=by rw[decodeL_N,dec]
theorem zv1(h:l≠[])(b:zlg (dec l)=Tc):encodeRune ((dec l).1:Int)=l.take (dec l).2:=by rw[<-qne]at b ⊢;refine encode_decode l h λ⟨h1,c⟩=>?_;unfold zlg at b;rw[h1,c]at b;cases b
def zli(c:UInt8):Option Nat:=
 if 48<=c.toNat/\c.toNat<=57 then Td (c.toNat-48)
 else if 97<=c.toNat/\c.toNat<=102 then Td (c.toNat-87)
 else if 65<=c.toNat/\c.toNat<=70 then Td (c.toNat-55)
 else Te
theorem qfw{c:UInt8}(h:zli c=Td n):n<16:=by unfold zli at h;split at h;cases h;omega;split at h;cases h;omega;split at h;cases h;omega;cases h
def zl6:Nat->Bs->Option Nat
 |n,[]=>Td n
 |n,c::l=>match zli c with
  |some d=>zl6 (16*n+d) l
  |none=>Te
def zkd(l:Bs):Option Nat:=if 4<=l.length then zl6 0 (l.take 4)else Te
theorem zv2:∀{l:Bs} {n m:Nat},zl6 n l=Td m->m<(n+1)*16 ^ l.length
 |[],n,m,h=>by cases h;simp
 |c::l,n,m,h=>by
  unfold zl6 at h;cases e:zli c with
  |none=>rw[e]at h;cases h
  |some d=>
   rw[e]at h;have h1:=zv2 h;have i:=qfw e;have f:(16*n+d+1)*16 ^ l.length<=(16*(n+1))*16 ^ l.length:=AQ _ (by omega);have b:(16*(n+1))*16 ^ l.length=(n+1)*16 ^ (l.length+1):=by rw[DI,C4 16,Nat.mul_assoc,C4 16]
   simp only[Aq];omega
theorem zfz(h:zkd l=Td n):n<65536:=by unfold zkd at h;split at h;have:=zv2 h;simp only[AN]at this;rename_i b;rw[Cj b]at this;omega;cases h
def qbn(c:UInt8):Option Nat:=
 if c=34\/c=92\/c=47 then Td c.toNat else if c=98 then Td 8 else if c=102 then Td 12 else if c=110 then Td 10 else if c=114 then Td 13 else if c=116 then Td 9 else Te
def qfx(t:Bs):Option (Nat×Nat):=match zkd t with
 |none=>Te
 |some n=>if 56320<=n/\n<57344 then Te else if n<55296\/57344<=n then Td (n,6)else
  if(t.drop 4).take 2=[92,117]then match zkd (t.drop 6)with
   |some m=>if 56320<=m/\m<57344 then Td (65536+(n-55296)*1024+(m-56320),12)else Te
   |none=>Te
  else Te
def qfy(l:Bs):Option (Nat×Nat):=match l with
 |_::c::t=>match qbn c with
  |some r=>Td (r,2)
  |none=>if c=117 then qfx t else Te
 |_=>Te
def zan(l:Bs):Option (Nat×Nat):=if l.head?=Td 92 then qfy l else if(dec l).1<32\/zlg (dec l)=Ta then Te else Td (dec l)
def zsw:Nat->Bs->Bs×Nat×Bool
 |0,_=>([],0,Tc)
 |f+1,l=>if l=[]then([],0,Tc)else if l.head?=Td 34 then([],1,Ta)else match zan l with
  |none=>([],0,Tc)
  |some (r,n)=>let q:=zsw f (l.drop n);(encodeRune (r:Int)++q.1,n+q.2.1,q.2.2)
def zeo(l:Bs):Bs×Nat×Bool:=zsw l.length l
theorem z03{t:Bs}(h:qfx t=Td (r,n)):(n=6\/n=12)/\n<=t.length+2/\r<=1114111:=by
 unfold qfx at h;cases e:zkd t with
 |none=>rw[e]at h;cases h
 |some m=>
  have f:=zfz e;have c:4<=t.length:=by unfold zkd at e;split at e;assumption;cases e
  rw[e]at h;dsimp only at h;split at h;cases h;split at h;simp only[Ac,Bi]at h;obtain⟨rfl,rfl⟩:=h;exact⟨.inl rfl,by omega,by omega⟩;split at h;cases e2:zkd (t.drop 6)with
  |none=>rw[e2]at h;cases h
  |some k=>
   have b:4<=(t.drop 6).length:=by unfold zkd at e2;split at e2;assumption;cases e2
   rw[AI]at b;rw[e2]at h;dsimp only at h;split at h;simp only[Ac,Bi]at h;obtain⟨rfl,rfl⟩:=h;exact⟨.inr rfl,by omega,by omega⟩;cases h
  cases h
theorem z6c{c:UInt8}(h:qbn c=Td r):r<=255:=by
 have:=c.toNat_lt;unfold qbn at h;repeat' split at h
 all_goals first|(cases h;omega)|cases h
theorem z04(h:qfy l=Td (r,n)):2<=n/\n<=12/\n<=l.length/\r<=1114111:=by
 match l,h with
 |a::c::t,h=>
  unfold qfy at h;dsimp only at h;cases e:qbn c with
  |some k=>rw[e]at h;cases h;have:=z6c e;exact⟨by omega,by omega,by simp,by omega⟩
  |none=>rw[e]at h;dsimp only at h;split at h;obtain⟨h1,f,b⟩:=z03 h;refine⟨by omega,by omega,?_,b⟩;simp only[Aq];omega;cases h
theorem z6d(l:Bs):(dec l).1<=1114111:=by
 have h0:=(l.getD 0 0).toNat_lt;have h1:=(l.getD 1 0).toNat_lt;have c:=(l.getD 2 0).toNat_lt;have b:=(l.getD 3 0).toNat_lt;unfold dec decodeN;repeat' split
 all_goals (simp only;omega)
theorem Q7(e:l≠[])(h:zan l=Td (r,n)):1<=n/\n<=12/\n<=l.length/\r<=1114111:=by
 unfold zan at h;split at h;obtain⟨h1,b,f,c⟩:=z04 h;exact⟨by omega,b,f,c⟩;split at h;cases h;have h:=Az h;obtain⟨rfl,rfl⟩:r=(dec l).1/\n=(dec l).2:=by rw[h];exact⟨rfl,rfl⟩
 have h1:=wy l;have b:=zxx e;exact⟨h1.1,by omega,b,z6d l⟩
theorem znc:∀(f:Nat) (l:Bs),l.length<=f->∀g,l.length<=g->zsw f l=zsw g l
 |0,l,h,g,_=>by have:l=[]:=Bl.1 (by omega);subst this;cases g <;> simp[zsw]
 |f+1,l,h,0,hg=>by have:l=[]:=Bl.1 (by omega);subst this;simp[zsw]
 |f+1,l,h,g+1,hg=>by
  unfold zsw;by_cases h1:l=[];rw[if_pos h1,if_pos h1];rw[if_neg h1,if_neg h1];by_cases b:l.head?=Td 34;rw[if_pos b,if_pos b];rw[if_neg b,if_neg b];cases e:zan l with
  |none=>rfl
  |some x=>obtain⟨r,n⟩:=x;obtain⟨c,_,i,_⟩:=Q7 h1 e;have:=znc f (l.drop n) (by rw[AI];omega) g (by rw[AI];omega);dsimp only;rw[this]
theorem z6e:zeo []=([],0,Tc):=rfl
theorem Js(h:l≠[]):zeo l=if l.head?=Td 34 then([],1,Ta)else match zan l with
  |none=>([],0,Tc)
  |some (r,n)=>(encodeRune (r:Int)++(zeo (l.drop n)).1,n+(zeo (l.drop n)).2.1,(zeo (l.drop n)).2.2):=by
 have i:=Bv.2 h;obtain⟨f,c⟩:∃f,l.length=f+1:=⟨l.length-1,by omega⟩;rw[zeo,c,zsw,if_neg h];by_cases b:l.head?=Td 34;rw[if_pos b,if_pos b];rw[if_neg b,if_neg b];cases e:zan l with
 |none=>rfl
 |some x=>obtain⟨r,n⟩:=x;obtain⟨k,_,m,_⟩:=Q7 h e;dsimp only;rw[zeo,znc f (l.drop n) (by rw[AI];omega) (l.drop n).length (Ab _)]
theorem zsx:∀(k:Nat) (l:Bs),l.length=k->(zeo l).2.1<=l.length/\(zeo l).1.length<=4*l.length:=by
 intro k;induction k using Dc with
 |_ k c=>
  intro l m;by_cases h:l=[];subst h;exact⟨Ab _,Ab _⟩;have b:=Bv.2 h;rw[Js h];split;exact⟨b,by simp⟩;cases e:zan l with
  |none=>exact⟨by simp,by simp⟩
  |some x=>
   obtain⟨r,n⟩:=x;obtain⟨o,_,p,_⟩:=Q7 h e;have f:(l.drop n).length=l.length-n:=AI;have:=c (l.drop n).length (by omega) _ rfl;have i:(encodeRune (r:Int)).length<=4:=by have:=(encodeRuneZ_length (r:Int)).2;rw[encodeRune,Ap];exact this
   dsimp only;rw[Ah];omega
def yq(t:Bs)(a:Nat):Bs×Nat×Int:=
 if(t.drop a).head?=Td 34 then(let q:=zeo (t.drop (a+1));if q.2.2 then(q.1,a+1+q.2.1,0)else([],a+1+q.2.1,2))else([],a,2)
def Xn(t:Bs):Bs×Nat×Int:=let r:=yq t 0;if r.2.2=0/\r.2.1<t.length then([],r.2.1,2)else r
def qdn(c:UInt8):Bs:=
 if c=34\/c=92 then [92,c]else if c=8 then [92,98]else if c=12 then [92,102]else if c=10 then [92,110]else if c=13 then [92,114]else if c=9 then [92,116]
 else if c.toNat<32 then [92,117,48,48,Bb (48+c.toNat / 16),Bb (if c.toNat % 16<10 then 48+c.toNat % 16 else 87+c.toNat % 16)]else [c]
def zbi(l:Bs):Bs:=l.flatMap qdn
def znd(l:Bs):Bs×Int:=if Z8 l then(34::zbi l++[34],0)else([],2)
end
end Go.X
end
section
namespace Go.X
open Go Go.X Go.Proofs Go.RowKit
section
variable {h:zb} {b:Nat} {l:Bs} {r:Int} {K:Value -> zb -> Prop}
theorem zke(H:Bld h b l)(h0:0<=r)(h1:r<=1114111)(hl:l.length+4<=140737488355328)(N:∀h' n,Bld h' b (l++Lib.encodeRune r)->Keep b h h'->Itk h h'->K (.tuple #[.int .i64 n,.nilIface]) h'):
  XC Tp 83 #[.pointer (Td ⟨b,0,Te⟩),.int .i32 r] h K:=by
 apply Qh;refine chk H λf D k2 z2 P=>⟨rfl,_,rfl,?_⟩;have u:=D.lt;obtain⟨p,s,e,E,x⟩:=D;have t:=x.1;rw[Lib.byteCells_length,B0]at t;have c1:=Blk.cellAdd (o:=0) (k:=1) (v:=slV s) (cs:=#[.pointer p,slV s]) ⟨_,e⟩ rfl;refine⟨s,c1,_,rfl,s,c1,?_⟩;refine XC.of_calls λB d=>(Wx (b+1) (slV s) s.len (Lib.byteCells l) r (by omega) (by omega) (mk B d f) x (by omega) (show b+1<=f.size by omega)).mono ?_;rintro e' w' ⟨O,rfl,q,o,m⟩;obtain⟨w,rfl,U⟩:∃w:Sl,O=slV w/\w.len=s.len+(Lib.runeCells r).length:=by rcases q.2 with⟨rfl,hz⟩|⟨g,cap,M,rfl,_⟩;exact⟨⟨Te,0,0⟩,rfl,hz.symm⟩;exact⟨⟨_,_,_⟩,rfl,rfl⟩
 have S:Owns w'.heap (b+1) 5 1 w (Lib.byteCells (l++Lib.encodeRune r)):=by
  have Y:Lib.byteCells (l++Lib.encodeRune r)=Lib.byteCells l++Lib.runeCells r:=by rw[<-Lib.byteCells_encodeRune];unfold Lib.byteCells;rw[Bh]
  rw[Y];rw[<-U]at q;exact q
 have Q:w'.heap[b]?=Td (.cells #[.pointer p,slV s] 112 (0,0)):=by
  have y:=m.block b (by show b<(f.push o).size;rw[Aj];omega) (by
   intro c;cases ha:s.a with
   |none=>rw[slV,ha]at c;cases c
   |some a=>have:=x.base_le a ha;rw[slV,ha]at c;simp only[Value.ownBlock,Ac]at c;omega)
  rw[y];show(f.push o)[b]?=_;rw[Array.getElem?_push_lt u,<-e];simp[u]
 have J:Keep b h w'.heap:=by
  refine k2.trans ⟨?_,λi hi=>?_⟩ (Ab _);have:=m.size;have Z:(f.push o).size<=w'.heap.size:=this;rw[Aj]at Z;omega;have y:=m.block i (by show i<(f.push o).size;rw[Aj];omega) (by
   intro c;cases ha:s.a with
   |none=>rw[slV,ha]at c;cases c
   |some a=>have:=x.base_le a ha;rw[slV,ha]at c;simp only[Value.ownBlock,Ac]at c;omega)
  rw[y];show(f.push o)[i]?=_;rw[Array.getElem?_push_lt (by omega)];simp[show i<f.size by omega]
 have L:Itk f w'.heap:=Itk.own x λi hi A=>by
  have y:=m.block i (by show i<(f.push o).size;rw[Aj];omega) (by
   intro c;cases ha:s.a with
   |none=>rw[slV,ha]at c;cases c
   |some a=>have:=A a ha;rw[slV,ha]at c;simp only[Value.ownBlock,Ac]at c;exact this c)
  rw[y];show(f.push o)[i]?=_;rw[Array.getElem?_push_lt hi];simp[hi]
 refine⟨_,rfl,m.os,m.tape,m.output,w,rfl,_,rfl,?_⟩;refine z6b Q E S λI C k7 z7 G=>?_;have H8:=C;obtain⟨V,z,F,_,_⟩:=H8;exact⟨_,rfl,z,Blk.cellAdd (o:=0) (k:=1) (v:=slV z) (cs:=#[.pointer V,slV z]) ⟨_,F⟩ rfl,N I _ C (J.trans k7 (Ab _)) (P.trans (L.trans G))⟩
theorem zv3(H:Bld h b l)(h0:0<=r)(h1:r<=1114111)(c:l.length+4<=140737488355328)(e:∀h' n,Bld h' b (l++Lib.encodeRune r)->Keep b h h'->K (.tuple #[.int .i64 n,.nilIface]) h'):
  XC Tp 83 #[.pointer (Td ⟨b,0,Te⟩),.int .i32 r] h K:=
 zke H h0 h1 c λh' n a b _=>e h' n a b
def ql2(c:Int):Option Nat:=let lo:=bits .or .u8 c 32
 if 97<=lo/\lo<=122 then(let d:=Aa .u8 ((Aa .u8 (lo-97))+10);if d>=16 then Te else Td d.toNat)else Te
theorem qfz:(Bj 256).all (λc=>decide (48<=c/\c<=57)||(ql2 (c:Int)==zli (Bb c)))=Ta:=by kernel_rfl
theorem qf0{c:UInt8}(h:¬(48<=c.toNat/\c.toNat<=57)):ql2 (c.toNat:Int)=zli c:=by have:=Av.1 qfz c.toNat (AU.2 c.toNat_lt);rw[BK,decide_eq_true_eq]at this;rcases this with h1|h1;exact absurd h1 h;rw[beq_iff_eq]at h1;rw[h1];congr 1;rw[UInt8.ofNat_toNat]
theorem z6f:(Bj 256).all (λc=>decide (0<=Aa .u8 ((Aa .u8 ((bits .or .u8 (c:Int) 32)-97))+10)))=Ta:=by kernel_rfl
theorem zv4{c:Int}(b:K (.int .u8 (bits .or .u8 c 32)) h):XC Tp 325 #[.int .u8 c] h K:=by refine XC.of_calls λB d=>(Jp c (mk B d h)).mono ?_;rintro e w' ⟨rfl,rfl⟩;exact⟨_,rfl,rfl,rfl,rfl,b⟩
theorem zc1:∀(a b:Bs) (n:Nat),zl6 n (a++b)=(zl6 n a).bind λm=>zl6 m b
 |[],b,n=>rfl
 |c::a,b,n=>by
  show(match zli c with|some d=>zl6 (16*n+d) (a++b)|none=>Te)=(match zli c with|some d=>zl6 (16*n+d) a|none=>Te).bind _;cases zli c with
  |none=>rfl
  |some d=>exact zc1 a b _
theorem qbo(n:Nat)(c:UInt8):zl6 n [c]=(zli c).map λd=>16*n+d:=by show(match zli c with|some d=>zl6 (16*n+d) []|none=>Te)=_;cases zli c <;> rfl
theorem qi1{s:Bs}(c:∀(x:Sl) h',Keep h.size h h'->x.len=s.length->x.a=Td ⟨h.size,0,Te⟩->(∀j (b:j<s.length),zc h' ⟨h.size,j,Te⟩=Td (.int .u8 (s[j].toNat:Int)))->K (slV x) h'):
  XRun Tp (convert 9 110 (.string (bl s))) h K:=by
 intro B d;refine⟨_,_,_,Lib.run_convert_string_bytes (P:=Tp) (mk B d h) 9 110 5 (bl s) ql1 elemU8.slice (by kernel_rfl),?_⟩;refine c ⟨Td ⟨h.size,0,Te⟩,(bl s).size,_⟩ _ ⟨?_,λi hi=>?_⟩ (zf s) rfl λj b=>?_;show h.size<=(Lib.bytesWorld (mk B d h) 5 (bl s)).heap.size;rw[Lib.bytesWorld_size];exact Nat.le_succ _;exact Lib.bytesWorld_at_old (mk B d h) 5 (bl s) i hi;have:=Lib.bytesWorld_cell (mk B d h) 5 (bl s) j (by rw[zf];exact b);have e:(bl s).data.toList=s:=yh s;rw[e,A6,Ak b]at this;exact this
set_option maxHeartbeats 4000000 in
theorem zv5(F:l.length=4)(h1:∀n h',zl6 0 l=Td n->Keep h.size h h'->K (.tuple #[.int .u64 (n:Int),.nilIface]) h') (h2:∀h',zl6 0 l=Te->Keep h.size h h'->K (.tuple #[.int .u64 0,.iface 287 (.int .i64 2)]) h'):
  XC Tp 316 #[.string (bl l),.int .i64 16,.int .i64 32] h K:=by
 apply Qa;have he:((bl l:Bt).toList==((⟨#[]⟩:Bt):Bt).toList)=Tc:=by have:((bl l:Bt).toList==((⟨#[]⟩:Bt):Bt).toList)=decide (l=[]):=zhl l [];rw[this,decide_eq_false_iff_not];intro e;rw[e]at F;simp at F
 refine⟨λe=>(by rw[he]at e;cases e),λ_=>?_⟩;intro K4 L;refine⟨λ_=>L _ _ _ ?_,λe=>by simp at e⟩;intro K7 P;refine⟨λe=>by simp at e,λ_=>⟨λe=>by simp at e,λ_=>P _ _ ?_⟩⟩;intro aa t;refine⟨λe=>by simp at e,λ_=>⟨λ_=>t _ _ ?_,λe=>by simp at e⟩⟩;have r:(Aa .u64 32:Int)=32:=by decide
 refine⟨by rw[r];omega,?_⟩;refine qi1 λx h3 J Z xa xc=>⟨x,rfl,?_⟩;refine⟨λu n i g=>u=Tc/\g=h3/\∃(k m:Nat),k<=4/\i=(k:Int)/\n=(m:Int)/\zl6 0 (l.take k)=Td m,λu n i g=>4-i.toNat,⟨rfl,rfl,0,0,by omega,rfl,rfl,rfl⟩,?_⟩;rintro u n i g ⟨rfl,rfl,k,m,hk,rfl,rfl,E⟩;have ab:m<65536:=by
  have:=zv2 E;have hp:(l.take k).length<=4:=by rw[AN];omega
  have:16 ^ (l.take k).length<=16 ^ 4:=Nat.pow_le_pow_right (by omega) hp;omega
 refine⟨λs=>?_,λs=>?_⟩;have y:k<4:=by rw[decide_eq_true_eq,Z,F]at s;omega
 have B:k<l.length:=by omega
 refine⟨⟨h.size,0,Te⟩,⟨xa,by omega,by rw[decide_eq_true_eq]at s;exact s⟩,(l[k].toNat:Int),?_,?_⟩;rw[qd,Ag,B0,AL];exact xc k B;generalize Y:l[k]=c;have f:zl6 0 (l.take (k+1))=(zli c).map λd=>16*m+d:=by rw[Ay B,zc1,E,Y];exact qbo m c
 have o:zli c=Te->zl6 0 l=Te:=by intro e;rw[e]at f;rw[<-B8 (k+1) l,zc1,f];rfl
 have cl:=c.toNat_lt;intro O w;have fin:∀d:Int,0<=d->(d<16->zli c=Td d.toNat)->(16<=d->zli c=Te)->O Tc d g:=by
  intro d S M G;apply w;have V:(Aa .u8 16:Int)=16:=by decide
  have D:(Aa .u64 16:Int)=16:=by decide
  rw[V,D,r];refine⟨λe=>h2 _ (o (G (by simpa using e))) J,λe=>?_⟩;have q:d<16:=by simpa using e
  have hv:=M q;rw[hv]at f;have U:∀z:Int,0<=z->z<18446744073709551616->Aa .u64 z=z:=by
   intro z z0 z1;unfold Aa;have p:(2:Int) ^ Bm .u64=18446744073709551616:=by decide
   have N:Dm .u64=Tc:=rfl;simp only[p,N,DJ,Bc,if_false];exact Int.emod_eq_of_lt z0 z1
  have p:Aa .u64 ((m:Int)*16)=(m:Int)*16:=U _ (by omega) (by omega);have N:Aa .u64 d=d:=U _ S (by omega);have e3:Aa .u64 ((m:Int)*16+d)=(m:Int)*16+d:=U _ (by omega) (by omega);have e4:(Aa .u64 ((Aa .u64 (1*2 ^ (min (32:Int).toNat 64)))-1):Int)=4294967295:=by decide
  rw[p,N,e3,e4];refine⟨λe=>?_,λ_=>⟨λe=>?_,λ_=>?_⟩⟩;rw[decide_eq_true_eq]at e;omega;simp only[Bool.cond_eq_ite,Bool.if_true_left,BK,decide_eq_true_eq]at e;omega;rw[jc (n:=4) y (by omega)];refine⟨⟨rfl,rfl,k+1,16*m+d.toNat,by omega,rfl,by omega,f⟩,?_⟩;show 4-((k+1:Nat):Int).toNat<4-((k:Nat):Int).toNat;omega
 have C:(bif ((c.toNat:Int)==95)then((16:Int)==0)else Tc)=Tc:=by cases((c.toNat:Int)==95) <;> rfl
 refine⟨λe=>(by rw[C]at e;cases e),λ_=>⟨λe=>?_,λe=>?_⟩⟩;have q:48<=c.toNat/\c.toNat<=57:=by simp only[Bool.cond_eq_ite,Bool.if_false_right,Ao,decide_eq_true_eq]at e;omega
 rw[qio (by omega) (by omega)];refine fin _ (by omega) (λ_=>?_) (λh9=>by omega);unfold zli;rw[if_pos q];congr 1;omega;have q:¬(48<=c.toNat/\c.toNat<=57):=by simp only[Bool.cond_eq_ite,Bool.if_false_right,Cp,decide_eq_false_iff_not,decide_eq_true_eq]at e;omega
 have b:=qf0 q;have H:=Av.1 z6f c.toNat (AU.2 cl);rw[decide_eq_true_eq]at H;unfold ql2 at b;dsimp only at b;refine zv4 ?_;generalize A:bits .or .u8 (c.toNat:Int) 32=lo at b H ⊢;refine⟨lo,rfl,λv g'=>v=.int .u8 lo/\g'=g,λ_=>zv4 ?_,λ_=>⟨lo,rfl,rfl⟩,?_,?_⟩;rw[A];exact⟨lo,rfl,rfl,rfl⟩;rintro _ v g' ⟨rfl,_⟩;exact⟨lo,rfl⟩;rintro x g' ⟨p,rfl⟩;injection p with _ p;subst p;refine⟨λQ=>zv4 ?_,λQ=>?_⟩;rw[A];refine⟨x,rfl,?_⟩;have I:97<=x/\x<=122:=by simp only[Bool.cond_eq_ite,Bool.if_false_right,Ao,decide_eq_true_eq]at Q;omega
 rw[if_pos I]at b;refine fin _ H (λh9=>?_) (λh9=>?_);rw[if_neg (by omega)]at b;exact b.symm;rw[if_pos (by omega)]at b;exact b.symm;have I:¬(97<=x/\x<=122):=by simp only[Bool.cond_eq_ite,Bool.if_false_right,Cp,decide_eq_false_iff_not,decide_eq_true_eq]at Q;omega
 rw[if_neg I]at b;exact h2 _ (o b.symm) J;have y:k=4:=by rw[decide_eq_false_iff_not,Z,F]at s;omega
 refine⟨λv g'=>g'=g,(λe=>by cases e),(λ_=>⟨Ta,rfl⟩),(λe=>by cases e),?_⟩;rintro x g' rfl;refine⟨λe=>(by cases e),λ_=>h1 _ _ ?_ J⟩;rw[BE (by omega)]at E;exact E
end
section
theorem qnf{z:UInt8}(h:128<=z.toNat):Lib.indexByte [95] z=-1:=by
 have:z≠95:=by rintro rfl;revert h;decide
 unfold Lib.indexByte;simp[Lib.indexByte,this.symm]
theorem ix0{z:UInt8}:Lib.indexByte [] z=-1:=by simp[Lib.indexByte]
def VR(r:Int)(e:Ending):Prop:=∃b,e=.returned (.bool b)/\(b=Ta->(0<=r/\r<55296)\/(57343<r/\r<=1114111))
set_option maxHeartbeats 4000000 in
set_option maxRecDepth 1000000 in
theorem zv6(r:Int)(w:World):Calls Tp 300 #[.int .i32 r] w λe w'=>VR r e/\w'=w:=by
 have mixed:=Tryz.mixed
 go_enter Tryz.func300,Tryz.ntmps300
 by_cases h1:0<=r <;> by_cases f:r<55296 <;> by_cases c:57343<r <;> by_cases b:r<=1114111 <;> (go_wp2;go_ret;exact⟨⟨_,rfl,λh=>by first|omega|cases h⟩,rfl⟩)
theorem z6g(r:Int)(h:128<=r):(∃a z:UInt8,DR r=⟨#[a,z]⟩/\128<=z.toNat)\/(∃a b z:UInt8,DR r=⟨#[a,b,z]⟩/\128<=z.toNat)\/(∃a b c z:UInt8,DR r=⟨#[a,b,c,z]⟩/\128<=z.toNat):=by
 have f:∀n:Nat,128<=(Bb (128+n % 64)).toNat:=λn=>by have:(Bb (128+n % 64)).toNat=(128+n % 64) % 256:=UInt8.toNat_ofNat;rw[this,Nat.mod_eq_of_lt (by omega)];omega
 have l:∃c:Nat,128<=c/\(if Utf8.valid r then r.toNat else Utf8.runeError)=c:=by refine⟨_,?_,rfl⟩;split;omega;decide
 obtain⟨c,k,e⟩:=l;unfold DR;simp only[e];rw[if_neg (by omega)];by_cases h1:c<2048;rw[if_pos h1];exact .inl ⟨_,_,rfl,f _⟩;rw[if_neg h1];by_cases i:c<65536;rw[if_pos i];exact .inr (.inl ⟨_,_,_,rfl,f _⟩);rw[if_neg i];exact .inr (.inr ⟨_,_,_,_,rfl,f _⟩)
def IR(e:Ending):Prop:=∃n,e=.returned (.int .i64 n)
set_option maxHeartbeats 4000000 in
set_option maxRecDepth 1000000 in
theorem zv7(r:Int)(w:World)(h1:128<=r)(s:r≠65533):Calls Tp 269 #[.string ⟨#[43,45,95]⟩,.int .i32 r] w λe w'=>IR e/\Below w.heap.size w w':=by
 have mixed:=Tryz.mixed;have m:∀args w,(callFunc 212 args).run Tp w=.ok (.enter 212 args) w:=enters_of Tryz.func212 (by kernel_rfl) rfl;have n:∀args w,(callFunc 300 args).run Tp w=.ok (.enter 300 args) w:=enters_of Tryz.func300 (by kernel_rfl) rfl;have q:¬r<128:=by omega
 go_enter Tryz.func269,Tryz.ntmps269
 go_wp2_with (go_at_fn 300;refine(zv6 _ _).mono ?_;rintro e w' ⟨⟨b,rfl,p⟩,o⟩;rw[o];cases b)
 go_ret
 exact⟨⟨_,rfl⟩,Below.refl _ _⟩
 ·rcases z6g r h1 with⟨a,z,k,l⟩|⟨a,b,z,k,l⟩|⟨a,b,c,z,k,l⟩
  ·have f:=λ(w:World)=>run_convert_int_string (P:=Tp) w 21 9 .i32 r (by kernel_rfl) (by kernel_rfl);rw[k]at f;refine wp_scope_straight ?_
   go_wp2
   go_loop [9] (λv=>v=.int .i64 1) (λ_=>0)
   case atStart=>rfl
   case round=>
    subst hrel
    go_wp2
    refine wp_scope_straight ?_;have i:((45:Int) != (z.toNat:Int))=Ta:=bne_iff_ne.2 (by omega)
    go_wp2
    go_region
    simp only[show ∀h,((⟨#[43,45,95]⟩:Bt)[1]'h)=45 from λ_=>rfl,show ∀h,((⟨#[a,z]⟩:Bt)[1]'h)=z from λ_=>rfl,show((45:UInt8).toNat:Int)=45 from rfl,i];all_goals go_wp2
    all_goals go_region_with (go_at_call 212;refine(jh _ _ _).mono ?_;rintro e w' ⟨rfl,rfl⟩)
    all_goals simp only[show ∀h,((⟨#[a,z]⟩:Bt)[1]'h)=z from λ_=>rfl,qnf l]
    all_goals go_wp2
    all_goals simp only[Exit.noGoto,Exit.inBlock]
    all_goals go_wp2
    all_goals simp only[Exit.noGoto,Exit.inBlock]
    all_goals go_wp2
    all_goals go_ret
    all_goals exact⟨⟨_,rfl⟩,zjw w 2⟩
  ·have f:=λ(w:World)=>run_convert_int_string (P:=Tp) w 21 9 .i32 r (by kernel_rfl) (by kernel_rfl);rw[k]at f;refine wp_scope_straight ?_
   go_wp2
   go_loop [9] (λv=>v=.int .i64 2) (λ_=>0)
   case atStart=>rfl
   case round=>
    subst hrel
    go_wp2
    refine wp_scope_straight ?_;have i:((95:Int) != (z.toNat:Int))=Ta:=bne_iff_ne.2 (by omega)
    go_wp2
    go_region
    simp only[show ∀h,((⟨#[43,45,95]⟩:Bt)[2]'h)=95 from λ_=>rfl,show ∀h,((⟨#[a,b,z]⟩:Bt)[2]'h)=z from λ_=>rfl,show((95:UInt8).toNat:Int)=95 from rfl,i];all_goals go_wp2
    all_goals go_region_with (go_at_call 212;refine(jh _ _ _).mono ?_;rintro e w' ⟨rfl,rfl⟩)
    all_goals simp only[show ∀h,((⟨#[a,b,z]⟩:Bt)[2]'h)=z from λ_=>rfl,ix0]
    all_goals go_wp2
    all_goals simp only[Exit.noGoto,Exit.inBlock]
    all_goals go_wp2
    all_goals simp only[Exit.noGoto,Exit.inBlock]
    all_goals go_wp2
    all_goals go_ret
    all_goals exact⟨⟨_,rfl⟩,zjw w 2⟩
  ·have f:=λ(w:World)=>run_convert_int_string (P:=Tp) w 21 9 .i32 r (by kernel_rfl) (by kernel_rfl);rw[k]at f;refine wp_scope_straight ?_
   go_wp2
   go_loop [9] (λv=>v=.int .i64 3) (λ_=>0)
   case atStart=>rfl
   case round=>
    subst hrel
    go_wp2
    go_ret
    exact⟨⟨_,rfl⟩,Below.refl _ _⟩
end
end Go.X
end
section
namespace Go.X
open Go Go.Lib
section
def qf1(l:Bs):Prop:=∀c∈l,c.toNat<128
theorem zao(cs:Bs):∀l:Bs,containsAny l cs=l.any λc=>cs.contains c
 |[]=>by simp[containsAny,indexAny]
 |c::l=>by
  have h:=zao cs l;have i:=indexAny_ge cs l;rw[List.any_cons,<-h];unfold containsAny;rw[indexAny];by_cases b:cs.contains c=Ta;rw[if_pos b,b];simp;have e:cs.contains c=Tc:=by simpa using b
  rw[if_neg b,e,Dw];by_cases h1:indexAny l cs=-1;simp[h1];have f:(indexAny l cs==-1)=Tc:=by rw[beq_eq_false_iff_ne];exact h1
  rw[f,if_neg (by simp),AM,decide_eq_true_eq,decide_eq_true_eq];omega
end
end Go.X
end
section
namespace Go.X
section
theorem Xs(gl:Fr)(c:Bt)(b:Bt)(R:Bool->Prop) (H:PC Tp gl 265 [Arg.mk .str c,Arg.mk .str b] [.int .i64] (λa:Int=>R (decide (a>=0)))):
  PC Tp gl 209 [Arg.mk .str c,Arg.mk .str b] [.bool] R:=
 PF ⟨[],[],[],[]⟩ [.tmp 4] 9 Tryz.func209 H
theorem zc2(gl:Fr)(l:Bt)(k:Bt)(R:Int->Prop) (H:((k.toList==(⟨#[]⟩:Bt).toList)=Ta->R (-1))/\((k.toList==(⟨#[]⟩:Bt).toList)=Tc->(((k.size:Int)==1)=Ta->(0<=(0:Int)/\(0:Int)<(k.size:Int))/\∀a:Int->Prop,(∀b:Int,(PC Tp gl 269 [Arg.mk .str l,Arg.mk (.int .i32) b] [.int .i64] (λc:Int=>R c))->a b)->((decide ((Aa .i32 (zr k (0:Int).toNat))>=128))=Ta->a 65533)/\((decide ((Aa .i32 (zr k (0:Int).toNat))>=128))=Tc->a (Aa .i32 (zr k (0:Int).toNat))))/\(((k.size:Int)==1)=Tc->∀d:Prop,((∃(e:(Bt×Nat)->Prop) (f:(Bt×Nat)->Nat),e (l,0)/\∀h:Bt×Nat,e h->(((nxB h.1 h.2)=Ta->(nxB h.1 h.2)=Ta/\(nxB h.1 h.2)=Ta/\PC Tp gl 269 [Arg.mk .str k,Arg.mk (.int .i32) (nxR h.1 h.2)] [.int .i64] (λg:Int=>(decide (g>=0)=Ta->R (h.2:Int))/\(decide (g>=0)=Tc->(e (h.1,nxP h.1 h.2)/\f (h.1,nxP h.1 h.2)<f h))))/\((nxB h.1 h.2)=Tc->R (-1))))->d)->PC Tp gl 293 [Arg.mk (.int .i64) (l.size:Int)] [.bool] (λi:Bool=>(i=Ta->False)/\(i=Tc->d))))):
  PC Tp gl 265 [Arg.mk .str l,Arg.mk .str k] [.int .i64] R:=
 PF ⟨[],[],[(18,⟨[],[(45,[.dat .iter])],[],[1002880]⟩)],[(7,⟨[(5,.one (.dat (.int .i32)))],[],[],[100320]⟩),(17,⟨[],[],[],[]⟩)]⟩ [.tmp 4] 55 Tryz.func265 H
theorem Qf(gl:Fr)(h:Bt)(f:Int)(R:Int->Prop) (H:((bif (decide ((0:Int)<=f))then(decide (f<128))else Tc)=Ta->PC Tp gl 212 [Arg.mk .str h,Arg.mk (.int .u8) (Aa .u8 f)] [.int .i64] (λa:Int=>R a))/\((bif (decide ((0:Int)<=f))then(decide (f<128))else Tc)=Tc->((f==65533)=Ta->∃(b:(Bt×Nat)->Prop) (c:(Bt×Nat)->Nat),b (h,0)/\∀e:Bt×Nat,b e->(((nxB e.1 e.2)=Ta->(nxB e.1 e.2)=Ta/\(nxB e.1 e.2)=Ta/\(((nxR e.1 e.2:Int)==65533)=Ta->R (e.2:Int))/\(((nxR e.1 e.2:Int)==65533)=Tc->(b (e.1,nxP e.1 e.2)/\c (e.1,nxP e.1 e.2)<c e)))/\((nxB e.1 e.2)=Tc->R (-1))))/\((f==65533)=Tc->PC Tp gl 300 [Arg.mk (.int .i32) f] [.bool] (λd:Bool=>((!d)=Ta->R (-1))/\((!d)=Tc->False))))):
  PC Tp gl 269 [Arg.mk .str h,Arg.mk (.int .i32) f] [.int .i64] R:=
 PF ⟨[],[],[(38,⟨[],[(175,[.dat .iter])],[],[1011200]⟩)],[]⟩ [.tmp 4] 187 Tryz.func269 H
theorem Qi(gl:Fr)(b:Int)(R:Bool->Prop) (H:R (decide (b>8))):
  PC Tp gl 293 [Arg.mk (.int .i64) b] [.bool] R:=
 PF ⟨[],[],[],[]⟩ [.tmp 2] 5 Tryz.func293 H
end
end Go.X
end
section
namespace Go.X
open Go Go.X Go.Proofs Go.RowKit
section
variable {gl:Fr} {R:Int -> Prop}
theorem zkf{f:FuncId}{args:List Arg}{us:List Value}(c:zg6 args=Td us)(i:∀n,R n)
  (H:∀w:World,Calls Tp f us.toArray w λe w'=>IR e/\Below w.heap.size w w'):PC Tp gl f args [.int .i64] R:=by
 intro h M vs m ag l;rw[zd8 c l];refine XC.of_calls λB d=>(H (mk B d h)).mono ?_;rintro e w' ⟨⟨n,rfl⟩,b⟩;have k:Keep h.size h w'.heap:=⟨b.size,b.block⟩;exact⟨_,rfl,b.os,b.tape,b.output,k,M,n,Fr.le.refl _,λ_ _=>rfl,ag.keep k,z4l _ _,i n⟩
theorem zsy{r:Int}(l:0<=r)(b:∀n,R n):PC Tp gl 269 [Arg.mk .str (bl [43,45,95]),Arg.mk (.int .i32) r] [.int .i64] R:=by
 by_cases h1:r<128;apply Qf;have e:(bif decide ((0:Int)<=r)then decide (r<128)else Tc)=Ta:=by simp[l,h1]
 rw[e];exact⟨λ_=>zaj (b _),λf=>by cases f⟩;by_cases i:r=65533;subst i;apply Qf;refine⟨λ_=>zaj (b _),λ_=>⟨λ_=>?_,λf=>by cases f⟩⟩;refine⟨λq=>∃p:Nat,q=(bl [43,45,95],p),λq=>3-q.2,⟨0,rfl⟩,?_⟩;rintro q ⟨p,rfl⟩;simp only[zsh];refine⟨λc=>⟨c,c,λ_=>b _,λ_=>⟨⟨_,rfl⟩,?_⟩⟩,λ_=>b _⟩;have h:p < [43,45,95].length:=by simpa using c
 have k:p<3:=h;rw[zjz _ _ h];have:=(wy (([43,45,95]:Bs).drop p)).1;omega;exact zkf (us:=[.string ⟨#[43,45,95]⟩,.int .i32 r]) rfl b λw=>zv7 r w (by omega) i
theorem z6h(w:World)(b c:Obj):Below w.heap.size w ((w.alloc b).alloc c):=((Below.refl _ w).alloc (Ab _) b).alloc (by show w.heap.size<=(w.heap.push b).size;simp) c
theorem z6i(l:Bs):(0:Int)<=((dec l).1:Int):=Int.natCast_nonneg _
theorem qf2{l:Bs}(B:l.length<=9){R:Bool->Prop}(h1:qf1 l->R (l.any λc=>[43,45,95].contains c))(y:¬qf1 l->∀b,R b):PC Tp gl 209 [Arg.mk .str (bl l),Arg.mk .str (bl [43,45,95])] [.bool] R:=by
 have h:∀(j:Nat) (b:UInt8),([43,45,95]:Bs)[j]?=Td b->b.toNat<128:=by intro j b f;have:b∈([43,45,95]:Bs):=Bz f;simp at this;rcases this with rfl|rfl|rfl <;> decide
 by_cases k:qf1 l;refine zly (s:=bl l) (c:=bl [43,45,95]) (by rw[zf];omega) (by rw[zf];decide) ?_ ?_ ?_;rw[yh];exact λj b f=>k b (Bz f);rw[yh];exact h;rw[yh,yh,zao];exact h1 k;have f:=y k;apply Xs;by_cases C:l.length<=8;apply zc2;have z:((bl [43,45,95]).toList==(⟨#[]⟩:Bt).toList)=Tc:=by rw[qiv,yh];rfl
 have x:((((bl [43,45,95]).size:Int))==1)=Tc:=by rw[zf];rfl
 rw[z,x];refine⟨λi=>(by cases i),λ_=>⟨λi=>(by cases i),λ_ K u=>?_⟩⟩;apply Qi;have r:decide (((bl l).size:Int)>8)=Tc:=by rw[zf];simp;omega
 rw[r];refine⟨λi=>(by cases i),λ_=>u ?_⟩;refine⟨λq=>∃p:Nat,q=(bl l,p),λq=>l.length-q.2,⟨0,rfl⟩,?_⟩;rintro q ⟨p,rfl⟩;simp only[zsh];refine⟨λm=>⟨m,m,?_⟩,λ_=>f _⟩;have o:p<l.length:=by simpa using m
 refine zsy (by rw[zsi];exact z6i _) λn=>⟨λ_=>f _,λ_=>⟨⟨_,rfl⟩,?_⟩⟩;rw[zjz _ _ o];have:=(wy (l.drop p)).1;omega;refine zkf (us:=[.string (bl l),.string (bl [43,45,95])]) rfl (λn=>f _) λw=>?_;have A:=(zero_of_info (P:=Tp) (t:=169) (v:=.agg (BJ 256 (.bool Tc))) (n:=256) (by kernel_rfl)).1;refine(W0 A (bl l) (bl [43,45,95]) w (by rw[zf];decide) (by rw[zf];omega) (by rw[zf];omega) (by rw[zf];decide) h).mono ?_;rintro e w' ⟨rfl,rfl⟩;exact⟨⟨_,rfl⟩,z6h w _ _⟩
end
section
variable {gl:Fr} {l:Bs}
theorem z6j{gl M:Fr}(l:zvo gl)(q:Fr.le gl M){h:zb}(ag:AgM M h){fn s:Bt}(i:s.size<=281474976710656){b n:Int}{K:Value->zb->Prop}(o:∀t u h',Keep h.size h h'->K (.iface t u) h'):
  XC Tp 267 #[.string fn,.string s,.int .i64 b,.int .i64 n,.iface 287 (.int .i64 2)] h K:=by
 obtain⟨⟨cs,k,m,p,f⟩,_⟩:=l;refine XC.of_calls λB d=>(Jo fn s b n k (mk B d h) i (AgM.glob (w:=mk B d h) ag (q _ _ m) p) f).mono ?_;rintro e w' ⟨N,rfl,h1,r,c⟩;exact⟨_,rfl,c.os,c.tape,c.output,o _ _ _ ⟨c.size,c.block⟩⟩
theorem zpn:∀{l:Bs} {c:UInt8} (n:Nat),c∈l->zli c=Te->zl6 n l=Te
 |x::l,c,n,b,hv=>by
  show(match zli x with|some d=>zl6 (16*n+d) l|none=>Te)=Te;rcases Ai.1 b with rfl|b;rw[hv];cases zli x with
  |none=>rfl
  |some d=>exact zpn _ b hv
theorem zya{c:UInt8}(h:c.toNat<48\/c=95\/128<=c.toNat):zli c=Te:=by
 have h':c.toNat<48\/c.toNat=95\/128<=c.toNat:=by rcases h with h|rfl|h <;> simp[*]
 unfold zli;rw[if_neg (by omega),if_neg (by omega),if_neg (by omega)]
theorem zs0(m:GL gl)(i:l.length=4){R:Int×Bool->Prop}(h1:∀n:Nat,zl6 0 l=Td n->R ((n:Int),Ta))(f:zl6 0 l=Te->R (0,Tc)):
  PC Tp gl 329 [Arg.mk .str (bl l),Arg.mk (.int .i64) 16,Arg.mk (.int .i64) 32] [.int .u64,.err] R:=by
 intro h M vs p ag c
 match vs,c with
 |[u1,u2,u3],⟨a1,a2,a3,_⟩=>obtain rfl:=Wv a1;obtain rfl:=j8 a2;obtain rfl:=j8 a3;apply PX.of;apply zbp;refine zv5 i (λn h' e k=>?_) (λh' e k=>?_);exact⟨(n:Int),.nilIface,rfl,rfl,λb=>(by cases b),λ_=>⟨M,((n:Int),Ta),Later.same ag k,zsf _ _,h1 n e⟩⟩;refine⟨0,.iface _ _,rfl,rfl,λ_=>?_,λb=>(by cases b)⟩;refine z6j m.err p (ag.keep k) (by rw[zf];omega) λt u q o=>⟨_,rfl,M,(0,Tc),Later.same ag (k.trans o k.size),zvp _ _ _ _,f e⟩
theorem z6k(u:GL gl)(A:l.length<=1152921504606846976){R:Int×Bool->Prop}(h1:∀n:Nat,zkd l=Td n->R ((n:Int),Ta))(o:zkd l=Te->∀v,R (v,Tc)):
  PC Tp gl 328 [Arg.mk .str (bl l)] [.int .i32,.bool] R:=by
 apply zpm;simp only[zf,wm,show(0:Int).toNat=0 from rfl,show(4:Int).toNat=4 from rfl,BQ,Nat.sub_zero];by_cases z:l.length<4;have e:decide (((l.length:Nat):Int)<4)=Ta:=by rw[decide_eq_true_eq];omega
 have x:zkd l=Te:=by unfold zkd;rw[if_neg (by omega)]
 simp only[e];exact⟨λi=>(by cases i),λ_=>True,λi=>(by cases i),λr _=>⟨λ_=>o x 0,λi=>(by cases i)⟩⟩;have e:decide (((l.length:Nat):Int)<4)=Tc:=by rw[decide_eq_false_iff_not];omega
 simp only[e];have f:zkd l=zl6 0 (l.take 4):=by unfold zkd;rw[if_pos (by omega)]
 have w:(l.take 4).length=4:=by rw[AN];omega
 refine⟨λ_=>⟨by omega,by omega,by omega⟩,λr=>r=Ta->zkd l=Te,λ_=>?_,λr t=>⟨λi=>o (t rfl i) 0,λi=>⟨⟨by omega,by omega,by omega⟩,?_⟩⟩⟩;refine qf2 (l:=l.take 4) (by omega) (λp q=>?_) (λp b q=>?_);obtain⟨c,k,h⟩:=List.any_eq_true.1 q;rw[f];refine zpn 0 k (zya ?_);simp at h;rcases h with rfl|rfl|rfl;left;decide;left;decide;right;left;rfl;rw[f];have:∃c∈l.take 4,128<=c.toNat:=by refine CB λs=>p λc k=>?_;refine CB λy=>s ⟨c,k,by omega⟩
 obtain⟨c,k,h⟩:=this;exact zpn 0 k (zya (.inr (.inr h)));refine zs0 u w (λn m=>?_) (λm=>o (f.trans m) _);have s:=zfz (f.trans m);have:=h1 n (f.trans m);rw[zai (by omega) (by omega)];exact this
end
section
variable {M:Fr} {h:zb} {K:Value -> zb -> Prop} {b o c:Nat}
def Brn(gl:Fr):Prop:=∃cs:Array Value,gl 7=Td cs/\cs[15]?=Td (.int .u8 4)
theorem Brn.mono{gl M:Fr}(h:Brn gl)(le:Fr.le gl M):Brn M:=by obtain⟨cs,e,h⟩:=h;exact⟨cs,le _ _ e,h⟩
theorem qf3(c:K (.bool Ta) h):XC Tp 273 #[.int .i64 16] h K:=by apply Zg;exact Eq.mpr (congrArg (λb=>K (.bool b) h) (by kernel_rfl)) c
theorem qng(f:Brn M)(ag:AgM M h)(i:K (.int .i64 4) h):XC Tp 274 #[.int .u64 16] h K:=by
 obtain⟨cs,e,c⟩:=f;apply Yj;refine⟨λb=>(by cases b),λ_=>?_⟩;apply Qg;refine⟨λb=>(by cases b),λ_=>⟨_,⟨rfl,by decide +kernel,by decide +kernel⟩,4,?_,4,rfl,i⟩⟩;have key:∀n:Nat,n=15->zc h (Ad ⟨7,0,Te⟩ n)=Td (.int .u8 4):=by rintro n rfl;exact ag.cell e c
 exact key _ (by kernel_rfl)
def qm5:Bs:=[48,49,50,51,52,53,54,55,56,57,97,98,99,100,101,102,103,104,105,106,107,108,109,110,111,112,113,114,115,116,117,118,119,120,121,122]
def dgH(k:Nat):UInt8:=qm5[k]?.getD 0
theorem zne(k:Nat):zr (⟨#[48,49,50,51,52,53,54,55,56,57,97,98,99,100,101,102,103,104,105,106,107,108,109,110,111,112,113,114,115,116,117,118,119,120,121,122]⟩:Bt) k=((dgH k).toNat:Int):=jm qm5 k
def zbj(c:Nat):Bs:=if c<16 then [dgH c]else [dgH 1,dgH (c % 16)]
def z65:Array Value:=#[.int .u8 0,.int .u8 0,.int .u8 0,.int .u8 0,.int .u8 0,.int .u8 0,.int .u8 0,.int .u8 0,.int .u8 0,.int .u8 0,.int .u8 0,.int .u8 0,.int .u8 0,.int .u8 0,.int .u8 0,.int .u8 0,.int .u8 0,.int .u8 0,.int .u8 0,.int .u8 0,.int .u8 0,.int .u8 0,.int .u8 0,.int .u8 0,.int .u8 0,.int .u8 0,.int .u8 0,.int .u8 0,.int .u8 0,.int .u8 0,.int .u8 0,.int .u8 0,.int .u8 0,.int .u8 0,.int .u8 0,.int .u8 0,.int .u8 0,.int .u8 0,.int .u8 0,.int .u8 0,.int .u8 0,.int .u8 0,.int .u8 0,.int .u8 0,.int .u8 0,.int .u8 0,.int .u8 0,.int .u8 0,.int .u8 0,.int .u8 0,.int .u8 0,.int .u8 0,.int .u8 0,.int .u8 0,.int .u8 0,.int .u8 0,.int .u8 0,.int .u8 0,.int .u8 0,.int .u8 0,.int .u8 0,.int .u8 0,.int .u8 0,.int .u8 0,.int .u8 0]
theorem qnh:qc Tp 5=Ta:=by kernel_rfl
theorem qni:qi Tp 5=1:=by kernel_rfl
theorem qi2{l:Bs}{cap:Nat}(e:∀j (c:j<l.length),zc h ⟨b,o+j,Te⟩=Td (.int .u8 (l[j].toNat:Int)))(f:K (.string (bl l)) h):
  XRun Tp (convert 110 9 (.slice (Td ⟨b,o,Te⟩) l.length cap)) h K:=by
 intro B d;refine⟨_,d,h,run_convert_bytes_back (P:=Tp) (mk B d h) 110 9 5 ⟨b,o,Te⟩ cap l Tryz.underlying110 Tryz.underlying5 Tryz.underlying9 λj c=>?_,f⟩;rw[zur,zi];exact e j c
theorem qi3(b:c<18446744073709551616):Aa .u64 (((BO (Bm .u64) (c:Int)) &&& (BO (Bm .u64) (15:Int))).toNat:Int)=((c % 16:Nat):Int):=by rw[show(15:Int)=((15:Nat):Int)from rfl,qlv b (by decide)];congr 1;exact Nat.and_two_pow_sub_one_eq_mod c 4
theorem z6l{k:Nat}(h:k<36):0<=(k:Int)/\(k:Int)<(((⟨#[48,49,50,51,52,53,54,55,56,57,97,98,99,100,101,102,103,104,105,106,107,108,109,110,111,112,113,114,115,116,117,118,119,120,121,122]⟩:Bt)).size:Int):=by have:(((⟨#[48,49,50,51,52,53,54,55,56,57,97,98,99,100,101,102,103,104,105,106,107,108,109,110,111,112,113,114,115,116,117,118,119,120,121,122]⟩:Bt)).size:Int)=36:=rfl;rw[this];omega
theorem z6m{g:zb}{cs:Array Value}(B:Blk g b cs)(e:o<cs.size){x:Int}{K:zb->Prop}(c:∀g',Blk g' b (cs.setIfInBounds o (.int .u8 x))->g'.size=g.size->(∀i,i≠b->g'[i]?=g[i]?)->K g'):XRunU Tp (Af 5 (.pointer (Td ⟨b,o,Te⟩)) (.int .u8 x)) g K:= yg qnh qni B e rfl c
set_option maxRecDepth 100000 in
set_option maxHeartbeats 4000000 in
theorem ql3(hc:c<32)(Z:Brn M)(ag:AgM M h)(V:∀h',Keep h.size h h'->K (.tuple #[.slice Te 0 0,.string (bl (zbj c))]) h'):
  XC Tp 224 #[.slice Te 0 0,.int .u64 (c:Int),.int .i64 16,.bool Tc,.bool Tc] h K:=by
 refine Z1 ⟨Te,0,0⟩ (c:Int) 16 Tc Tc h K ?_;intro K2 D;refine⟨λb=>(by simp at b),λ_=>D _ ?_⟩;intro z;have P:Keep h.size h z:=Keep.push _ _ (Ab _);have z3:z.size=h.size+1:=Aj _;have B3:Blk z h.size z65:=Blk.new _ _ _;clear_value z;have I:=ag.keep P;intro K6 N;refine⟨λb=>(by cases b),λ_=>N _ _ ?_⟩;intro Y A;have J:Aa .u64 16=16:=by decide
 have E:Aa .u64 (16-1)=15:=by decide
 rw[J,E];refine qf3 ⟨Ta,rfl,λ_=>?_,λb=>(by cases b)⟩;refine qng Z I ⟨_,rfl,?_⟩;have n:z65.size=65:=rfl;have fin:∀(g:zb) (cs:Array Value) (u i:Nat),Keep h.size h g->Blk g h.size cs->cs.size=65->u<16->1<=i->i<=65->(∀j,j<65-i->∃x:UInt8,(zbj c)[j+1]?=Td x/\cs[i+j]?=Td (.int .u8 (x.toNat:Int)))->(zbj c).length=66-i->(zbj c)[0]?=Td (dgH u) ->
   XRunU Tp (Af 5 (.pointer (Td (Ad ⟨h.size,0,Te⟩ (((i-1:Nat):Int).toNat*1)))) (.int .u8 (zr (⟨#[48,49,50,51,52,53,54,55,56,57,97,98,99,100,101,102,103,104,105,106,107,108,109,110,111,112,113,114,115,116,117,118,119,120,121,122]⟩:Bt) ((u:Int)).toNat))) g (λB=>Y (((i-1:Nat):Int)) B):=by
  intro g cs u i p r w hu U hi2 m t e;rw[Ag,Ag,B0,zne];rw[zi,AL];refine z6m r (by rw[w];omega) λQ H z2 O=>A _ _ ?_;intro S s;refine⟨λb=>(by cases b),λ_=>s _ _ ?_⟩;refine⟨λb=>(by cases b),λ_=>⟨⟨by omega,by omega,by omega⟩,?_⟩⟩;have G:Keep h.size h Q:=⟨by have:=p.size;omega,λj l=>(O j (by omega)).trans (p.get j l)⟩;have F:C8 (ze7 (Td ⟨h.size,0,Te⟩) 1 ((i-1:Nat):Int).toNat 65) ((65:Int).toNat-((i-1:Nat):Int).toNat) (65-((i-1:Nat):Int).toNat)=.slice (Td ⟨h.size,i-1,Te⟩) (zbj c).length (65-(i-1)):=by rw[Ag,t,show(65:Int).toNat-(i-1)=66-i from by have:(65:Int).toNat=65:=rfl;omega];congr 1;unfold ze7;rw[if_neg (by omega)];simp only[DU,zi,AL,B0]
  rw[F];refine qi2 (λj l=>?_) ⟨_,rfl,V _ G⟩;refine H.cell ?_;rw[Array.getElem?_setIfInBounds];cases j with
  |zero=>rw[CO,if_pos rfl,if_pos (by rw[w];omega)];rw[Ak l]at e;rw[Az e]
  |succ j=>rw[if_neg (by omega)];obtain⟨x,y,C⟩:=m j (by omega);rw[show i-1+(j+1)=i+j from by omega,C];rw[Ak l]at y;rw[Az y]
 refine⟨λu i g=>Keep h.size h g/\((u=(c:Int)/\i=65/\Blk g h.size z65)\/(16<=c/\u=1/\i=64/\Blk g h.size (z65.setIfInBounds 64 (.int .u8 ((dgH (c % 16)).toNat:Int))))),λu _ _=>u.toNat,⟨P,.inl ⟨rfl,rfl,B3⟩⟩,?_⟩;rintro u i g ⟨p,⟨rfl,rfl,r⟩|⟨f,rfl,rfl,r⟩⟩;refine⟨λb=>?_,λb=>?_⟩;have f:16<=c:=by have:=of_decide_eq_true b;omega
 rw[qi3 (by omega)];have w64:Aa .i64 ((65:Int)-1)=64:=by decide
 rw[w64];refine⟨z6l (by omega),_,⟨rfl,by decide,by decide⟩,?_⟩;rw[Ag,zne,zi];refine z6m (o:=64) r (by rw[n];omega) λQ H z2 O=>⟨by decide,⟨⟨by have:=p.size;omega,λj l=>(O j (by omega)).trans (p.get j l)⟩,.inr ⟨f,?_,rfl,H⟩⟩,?_⟩;have:(min (Aa .u64 4).toNat 64)=4:=by decide
 rw[this];show(c:Int).fdiv 16=1;rw[Int.fdiv_eq_ediv_of_nonneg _ (by decide)];omega;have:(min (Aa .u64 4).toNat 64)=4:=by decide
 rw[this];show((c:Int).fdiv 16).toNat<(c:Int).toNat;rw[Int.fdiv_eq_ediv_of_nonneg _ (by decide)];omega;have f:c<16:=by have:=of_decide_eq_false b;omega
 have w64:Aa .i64 ((65:Int)-1)=((65-1:Nat):Int):=by decide
 rw[w64];refine⟨z6l (by omega),_,⟨rfl,by decide,by decide⟩,?_⟩;have q:zbj c=[dgH c]:=by unfold zbj;rw[if_pos f]
 exact fin g z65 c 65 p r rfl f (by omega) (by omega) (λj l=>by omega) (by rw[q];rfl) (by rw[q];rfl);refine⟨λb=>?_,λb=>?_⟩;exact absurd (of_decide_eq_true b) (by omega);have L:Aa .i64 ((64:Int)-1)=((64-1:Nat):Int):=by decide
 rw[L];refine⟨z6l (k:=1) (by omega),_,⟨rfl,by decide,by decide⟩,?_⟩;have q:zbj c=[dgH 1,dgH (c % 16)]:=by unfold zbj;rw[if_neg (by omega)]
 refine fin g _ 1 64 p r (by simp[n]) (by omega) (by omega) (by omega) (λj l=>?_) (by rw[q];rfl) (by rw[q];rfl);have:j=0:=by omega
 subst this;exact⟨_,by rw[q];rfl,by rw[Array.getElem?_setIfInBounds,if_pos rfl,if_pos (by rw[n];omega)]⟩
theorem zv8(b:c<32)(f:Brn M)(ag:AgM M h)(i:∀h',Keep h.size h h'->K (.string (bl (zbj c))) h'):XC Tp 84 #[.int .i64 (c:Int),.int .i64 16] h K:=by apply zbn;apply Qb;refine⟨λm=>(by simp at m),λ_=>?_⟩;have e:Aa .u64 (c:Int)=(c:Int):=qfp (by omega) (by omega);have l:decide ((c:Int)<0)=Tc:=decide_eq_false (by omega);rw[e,l];exact ql3 b f ag λh' k=>⟨⟨Te,0,0⟩,_,rfl,_,rfl,i h' k⟩
end
end Go.X
end
section
namespace Go.Proofs.YtjohlemfgcmaoaaGreatDoor
open Go Go.X Go.ChangeShapes Go.WideShapes Go.ChangeAt Go.RowKit Go.Lib
set_option linter.unusedVariables false
section
theorem qdo{W:World}(h:laidMetH AF zej W):Brn (Fz W):=by
 have hl:laidMet AF zej W:=by rw[MakeChecks.laidMetH_plain _ _ _ (by kernel_rfl)]at h;exact h
 have hv : VarReads Tryz.prog W "math/bits.deBruijn64tab" (tabData .u8 [0, 1, 56, 2, 57, 49, 28, 3, 61, 58, 42, 50, 38, 29, 17, 4, 62, 47, 59, 36, 45, 43, 51, 22, 53, 39, 33, 30, 24, 18, 12, 5, 63, 55, 48, 27, 60, 41, 37, 16, 46, 35, 44, 21, 52, 32, 23, 11, 54, 26, 40, 15, 34, 20, 31, 10, 25, 14, 19, 9, 13, 8, 7, 6]) := by
  have := Go.Lib.laidMet.reads hl (List.mem_of_getElem? (show zej[1]? = some ("math/bits.deBruijn64tab", Rows.laid_math_bits_deBruijn64tab) from rfl));have e:(Rows.laid_math_bits_deBruijn64tab:DataW Unit)=tabData .u8 [0,1,56,2,57,49,28,3,61,58,42,50,38,29,17,4,62,47,59,36,45,43,51,22,53,39,33,30,24,18,12,5,63,55,48,27,60,41,37,16,46,35,44,21,52,32,23,11,54,26,40,15,34,20,31,10,25,14,19,9,13,8,7,6]:=by kernel_rfl
  rw[<-e];exact this
 obtain⟨cs,h1,h2⟩:=z5m (g:=7) (t:=307) (e:=5) (m:=64) (by kernel_rfl) (by kernel_rfl) (by kernel_rfl) (by kernel_rfl) (by kernel_rfl) (by kernel_rfl) hv;exact⟨cs,h1,by rw[<-Ca,h2];rfl⟩
end
end Go.Proofs.YtjohlemfgcmaoaaGreatDoor
end
