/- A part of the proof: nothing is stated here for its own sake. -/
import Derived.Test.YtplilfikcimcbaaGreatDoorPdB
import Derived.ProofKit
import Derived.OpenShut
import Derived.ShutString
import Derived.Shelf.Strings.Trim
import Derived.Shelf.Small.Bits
import Derived.Shelf.Small.Wraps
import Derived.Shelf.Strings.BuilderRune
import Derived.Shelf.Utf8.AppendRune
import Derived.Shelf.Utf8.AppendRunePlain
import Derived.Shelf.Strconv.Itoa3
import Derived.Shelf.Strconv.AtoiErr
import Derived.Shelf.Strconv.ErrVarAll
import Derived.Shelf.Strconv.ErrVarParseInt
import Derived.Shelf.Pu.ParseUintPublic10
import Derived.Shelf.Sort.Plain
import Derived.Shelf.Unicode.Decode
import Derived.Shelf.Strings.IndexAnyAll
import Derived.Shelf.Strings.Repeat
import Derived.Shelf.Unicode.DecodeLast
import Derived.Shelf.Strings.BuilderCap
import Derived.Shelf.Slices.Turned
import Derived.Shelf.Slices.Clone
import Derived.Shelf.Slices.In.SortNone
import Derived.Shelf.SlicesE.Clone
import Derived.Shelf.Utf8.RuneCount
import Derived.Shelf.Strings.Shaped
import Derived.Shelf.Strings.SplitShaped
import Derived.Shelf.Strings.RuneCount
import Derived.Shelf.Slices.Cells
import Derived.Shelf.Slices.Empties
import Derived.Shelf.Unicode.ValidAny
import Derived.Test.YtplilfikcimcbaaGreatDoorTie
import Derived.Test.YtplilfikcimcbaaGreatDoorCards
import Derived.PinnedBridge
import Derived.Lay
import Derived.HandedShaped
open _root_.Go.Addr renaming add->XT
open _root_.Array renaming getElem?_append_left->zb0,getElem?_eq_getElem->zae,getElem?_toList->ZZ,size_push->XY,toList->zcn
open _root_.BitVec renaming ofInt->zaz
open _root_.Bool renaming and_comm->zdp,and_eq_true->YH,and_false->zdl,and_true->zcq,cond_false_right->zak,cond_true_left->zbd,eq_false_or_eq_true->zcs,eq_iff_iff->YW,false_and->zdk,false_eq_true->zad,not_eq_true'->zb8,or_eq_true->zbt,true_and->zal
open _root_.Go.Builtin renaming append_->YO
open _root_.Go.Instr renaming lookup->zbe,mapUpdate->zbc,next->zcg,storeAt->YG
open _root_.Int renaming toNat_natCast->XW
open _root_.Go.IntKind renaming bits->zah,i64->zbh,signed->zdi,wrap->XS
open _root_.List renaming all_append->zb9,all_cons->zcr,all_eq_false->zc1,all_eq_true->ZH,any_eq_true->zc8,append_assoc->YS,append_eq_nil_iff->zcd,append_nil->ZO,cons_append->ZU,dropWhile_cons->zcu,drop_drop->zcv,drop_eq_getElem_cons->zaf,drop_eq_nil_of_le->zaw,drop_zero->za2,eq_nil_of_length_eq_zero->YU,exists_cons_of_ne_nil->zb1,ext_getElem?->zab,flatMap_cons->za1,getD_eq_getElem?_getD->YN,getElem?_drop->zaa,getElem?_eq_getElem->YA,getElem?_eq_none->ZQ,getElem?_eq_some_iff->ZV,getElem?_map->zap,getElem?_take->ZJ,getElem_append_left->za8,getElem_append_right->zbm,getElem_mem->YI,getElem_of_mem->zca,length->ZM,length_append->XX,length_cons->YL,length_drop->zai,length_map->YF,length_nil->zag,length_pos_iff->zav,length_replicate->zbq,length_singleton->ZF,mem_append->YK,mem_append_left->YM,mem_append_right->ZD,mem_cons->YB,mem_flatMap->zcf,mem_map->ZI,mem_of_getElem?->zbb,mem_of_mem_take->zbz,mem_range->ZR,mem_singleton->YY,nil_append->za6,nodup_append->za7,range->ZN,replicate->za9,take->zdy,take_append_drop->zan,take_length->YR,take_of_length_le->ZS,take_succ_cons->zct,take_succ_eq_append_getElem->YD,take_zero->zdm
open _root_.List.cons renaming injEq->zbs
open _root_.Nat renaming add_mul->za4,add_zero->zco,le_mul_of_pos_right->zcw,le_refl->XV,le_trans->zay,lt_of_lt_of_le->zbu,lt_or_ge->ZX,mul_comm->zcm,mul_one->zac,not_lt_zero->zao,zero_add->YP,zero_mul->zda
open _root_.Go.Op renaming bytesLess->zcc
open _root_.Option renaming bind_some->zbj
open _root_.Option.some renaming inj->ZA,injEq->XU
open _root_.Go.Proofs.Tryz renaming prog->ZB,underlying5->zdb
open _root_.UInt8 renaming ofNat->zat,toNat_inj->zbi
open _root_.Go.Utf8 renaming decode->zdu
open _root_.Go.Value renaming int->zax,string->ZC
open _root_.Go.Value.slice renaming injEq->ZG
set_option linter.unusedVariables false
set_option maxRecDepth 100000
namespace Go.X
end Go.X
namespace Go.Proofs
end Go.Proofs
open Go Go.X Go.Proofs
open _root_.Bool renaming true->Ta,false->Tc
open _root_.Option renaming some->Td,none->Te
section
namespace Go.X
open Go Go.RowKit
section
variable {P:Program} {gl M:Fr} {f:FuncId} {h h':zc} {vs cs:List Value} {K:Value -> zc -> Prop} {t:Ty} {u v:Value} {i:Int} {k:Nat}
def PX(P:Program)(f:FuncId)(vs:Array Value)(h:zc)(M:Fr)(c:List Ty)(R:ie c->Prop):Prop:=
 XC P f vs h λv h'=>Keep h.size h h'/\∃M' r,Fr.le M M'/\(∀b,b<h.size->M' b=M b)/\AgM M' h'/\ig M' c r v/\R r
theorem PC.px{args:List Arg}{b:List Ty}{R:ie b->Prop}(H:PC P gl f args b R)(c:Fr.le gl M)(ag:AgM M h)(e:Xw M args vs):PX P f vs.toArray h M b R:=H h M vs c ag e
structure Later (h:zc) (M:Fr) (h':zc) (M':Fr):Prop where
 keep:Keep h.size h h'
 le:Fr.le M M'
 old:∀b,b<h.size->M' b=M b
 ag:AgM M' h'
theorem Later.refl(ag:AgM M h):Later h M h M:=⟨Keep.refl _ _,Fr.le.refl _,λ_ _=>rfl,ag⟩
theorem Later.trans{h h' h'':zc}{M M' M'':Fr}(a:Later h M h' M')(b:Later h' M' h'' M''):Later h M h'' M'':= ⟨a.keep.trans b.keep a.keep.size,a.le.trans b.le,λx c=>(b.old x (by have:=a.keep.size;omega)).trans (a.old x c),b.ag⟩
theorem Later.same(ag:AgM M h)(k:Keep h.size h h'):Later h M h' M:=⟨k,Fr.le.refl _,λ_ _=>rfl,ag.keep k⟩
theorem Later.push(ag:AgM M h)(o:Obj):Later h M (h.push o) M:=Later.same ag (Keep.push _ _ (XV _))
theorem PX.go{vs:Array Value}{b:List Ty}{R:ie b->Prop}(H:PX P f vs h M b R)(l:∀v h' M' r,Later h M h' M'->ig M' b r v->R r->K v h'):XC P f vs h K:= XC.mono H λv h' ⟨k,M',r,e,m,i,j,c⟩=>l v h' M' r ⟨k,e,m,i⟩ j c
theorem PX.of{vs:Array Value}{b:List Ty}{R:ie b->Prop}(H:XC P f vs h λv h'=>∃M' r,Later h M h' M'/\ig M' b r v/\R r):PX P f vs h M b R:= XC.mono H λv h' ⟨M',r,l,e,c⟩=>⟨l.keep,M',r,l.le,l.old,l.ag,e,c⟩
theorem PC.go{args:List Arg}{b:List Ty}{R:ie b->Prop}(H:PC P gl f args b R)(e:Fr.le gl M)(ag:AgM M h)(c:Xw M args vs) (i:∀v h' M' r,Later h M h' M'->ig M' b r v->R r->K v h'):XC P f vs.toArray h K:=(H.px e ag c).go i
theorem hG{x:El t}(b:iu t=Tc):RdV M t x u↔Rd M t x [u]:=by unfold RdV;rw[b];simp
theorem Y2{x:El t}:ig M [t] x v↔RdV M t x v:=by constructor;rintro⟨us,⟨u,rfl,h⟩,rfl⟩;exact h;intro h;exact⟨[v],⟨v,rfl,h⟩,rfl⟩
theorem ib{b:Bool}(h:ig M [.bool] b v):v=.bool b:=by have:=Y2.1 h;rw[hG rfl]at this;simpa[Rd]using this
theorem oc{s:Bt}(h:ig M [.str] s v):v=.string s:=by have:=Y2.1 h;rw[hG rfl]at this;simpa[Rd]using this
theorem ym:Xw M [] []:=trivial
theorem qk{a:Arg}{l:List Arg}{us:List Value}(h:RdV M a.t a.x u)(b:Xw M l us):Xw M (a::l) (u::us):=⟨h,b⟩
theorem rdStr(s:Bt):RdV M .str s (.string s):=by rw[hG rfl];rfl
theorem jJ(k:IntKind)(i:Int):RdV M (.int k) i (.int k i):=by rw[hG rfl];rfl
theorem rdBool(b:Bool):RdV M .bool b (.bool b):=by rw[hG rfl];rfl
theorem oB{s:Bt}(h:RdV M .str s u):u=.string s:=by rw[hG rfl]at h;simpa[Rd]using h
theorem rG{k:IntKind}(h:RdV M (.int k) i u):u=.int k i:=by rw[hG rfl]at h;simpa[Rd]using h
theorem qn{v:Tr}(h:RdV M .tree v u):∃sk si:Sl,u=.agg #[.int .i64 v.kind,.string v.text,aK sk,aK si]/\Rd M (.row .str) v.keys [aK sk]/\Rd M (.row .tree) v.items [aK si]:=by unfold RdV at h;simp only[iu,if_true]at h;obtain⟨cs,rfl,j⟩:=h;obtain⟨m,n,rfl,h1,e⟩:=TrRd.keys j;have c:=h1;have b:=e;obtain⟨w1,f,a1,c1,k,_⟩:=c;obtain⟨w2,i,a2,c2,l,_⟩:=b;simp only[zbs,and_true]at f i;subst f;subst i;subst k;subst l;exact⟨⟨a1,v.keys.length,c1⟩,⟨a2,v.items.length,c2⟩,rfl,h1,e⟩
theorem qe{v:Tr}{sk si:Sl}(h1:Rd M (.row .str) v.keys [aK sk])(b:Rd M (.row .tree) v.items [aK si]):RdV M .tree v (.agg #[.int .i64 v.kind,.string v.text,aK sk,aK si]):=by unfold RdV;simp only[iu,if_true];exact⟨[.int .i64 v.kind,.string v.text,aK sk,aK si],rfl,by cases v;exact TrRd.of h1 b⟩
theorem jW{xs:List (El t)}(h:RdV M (.row t) xs u):∃s:Sl,u=aK s/\Rd M (.row t) xs [aK s]:=by rw[hG rfl]at h;have h':=h;obtain⟨w,e,a,c,q,_⟩:=h';simp only[zbs,and_true]at e;subst e;subst q;exact⟨⟨a,xs.length,c⟩,rfl,h⟩
theorem rowLen{xs:List (El t)}{s:Sl}(h:Rd M (.row t) xs [aK s]):s.len=xs.length/\xs.length<=140737488355328/\xs.length<=s.cap:=by obtain⟨w,e,a,c,q,b,_⟩:=h;simp only[zbs,and_true]at e;subst e;simp only[aK,ZG]at q;obtain⟨_,f,i⟩:=q;exact⟨f,b.1,by rw[i];exact b.2⟩
theorem rowAt{xs:List (El t)}{s:Sl}(h:Rd M (.row t) xs [aK s])(f:k<xs.length):∃b o cs,s.a=Td ⟨b,o,Te⟩/\M b=Td cs/\Rd M t xs[k] (cut cs (o+k*sz t) (sz t)):=by obtain⟨w,e,a,c,q,r,j⟩:=h;simp only[zbs,and_true]at e;subst e;simp only[aK,ZG]at q;obtain⟨h1,n,p⟩:=q;rcases j with rfl|⟨b,o,cs,l,i,m⟩;simp at f;exact⟨b,o,cs,by rw[h1,l],i,m k f⟩
theorem o7{M:Fr}{h:zc}(ag:AgM M h){b:Nat}{cs:Array Value}(j:M b=Td cs):∀{vs:List Value} {o i:Nat},cut cs (o+i) vs.length=vs->zf h ⟨b,o,Te⟩ i vs
 |[],_,_,_=>trivial
 |v::vs,o,i,e=>by
  unfold cut at e;have c:o+i<cs.toList.length:=by rcases ZX (o+i) cs.toList.length with f|f;exact f;rw[zaw f]at e;simp at e
  rw[zaf c,YL,zct]at e;injection e with e1 e2;refine⟨?_,o7 ag j (i:=i+1) e2⟩;rw[zh];refine ag.cell j ?_;rw[zae (by simpa using c),<-e1];simp
theorem HR(ag:AgM M h){b:Nat}{cs:Array Value}(c:M b=Td cs){o:Nat}(e:cut cs o 1=[v]):zd h ⟨b,o,Te⟩=Td v:=by have:=o7 (vs:=[v]) (o:=o) (i:=0) ag c (by simpa using e);exact this.1
theorem hH(b o n:Nat):(⟨b,o,Te⟩:Addr).add n=⟨b,o+n,Te⟩:=zh b o n
theorem l8(ag:AgM M h){xs:List Bt}{s:Sl}(H:Rd M (.row .str) xs [aK s])(f:k<xs.length)(hi:i=(k:Int)){L:Nat}(hL:L=s.len){Q:Bt->Prop}(e:Q xs[k]):
  ∃a:Addr,(s.a=Td a/\0<=i/\i<(L:Int))/\∃x:Bt,zd h (a.add (i.toNat*1))=Td (.string x)/\Q x:=by
 obtain⟨b,o,cs,j,c,l⟩:=rowAt H f;have m:=(rowLen H).1;refine⟨_,⟨j,by omega,by omega⟩,xs[k],?_,e⟩;rw[hH,hi,XW];exact HR ag c l
theorem Jn(ag:AgM M h){xs:List Tr}{s:Sl}(H:Rd M (.row .tree) xs [aK s])(f:k<xs.length):∃(a:Addr) (sk si:Sl),s.a=Td a/\zf h (a.add (k*4)) 0 [.int .i64 xs[k].kind,.string xs[k].text,aK sk,aK si]/\Rd M (.row .str) xs[k].keys [aK sk]/\Rd M (.row .tree) xs[k].items [aK si]:=by
 obtain⟨b,o,cs,j,e,l⟩:=rowAt H f;have m:RdV M .tree xs[k] (.agg (cut cs (o+k*sz .tree) (sz .tree)).toArray):=by unfold RdV;simp only[iu,if_true];exact⟨_,rfl,l⟩
 obtain⟨sk,si,q,h1,c⟩:=qn m;refine⟨_,sk,si,j,?_,h1,c⟩;rw[hH];refine o7 ag e (i:=0) ?_;have:(cut cs (o+k*sz .tree) (sz .tree))=[.int .i64 xs[k].kind,.string xs[k].text,aK sk,aK si]:=by injection q with q;exact congrArg zcn q
 exact this
def Mx(M:Fr)(b:Nat)(cs:Array Value):Fr:=λi=>if i=b then Td cs else M i
theorem Later.frz(ag:AgM M h)(cs:Array Value)(T:TypeId):Later h M (h.push (.cells cs T)) (Mx M h.size cs) where
 keep:=Keep.push _ _ (XV _)
 le:=λb c e=>by have:=ag.lt e;unfold Mx;rw[za (by omega)];exact e
 old:=λb hb=>by unfold Mx;rw[za (by omega)]
 ag:=λb c e=>by unfold Mx at e;split at e;rename_i hb;subst hb;cases e;exact⟨T,(0,0),qm _ _⟩;obtain⟨T',m,e'⟩:=ag b c e;exact⟨T',m,by rw[(Keep.push h _ (XV _)).get b (ag.lt e)];exact e'⟩
theorem Is(M:Fr)(b:Nat)(cs:Array Value):Mx M b cs b=Td cs:=by unfold Mx;rw[zb rfl]
theorem pY{T:TypeId}(k:Keep (h.size+1) (h.push (.cells cs.toArray T)) h'):zf h' ⟨h.size,0,Te⟩ 0 cs:= ((Blk.new h cs.toArray T).keep (k.get _ (by omega))).ld
theorem JK{T:TypeId}(k:Keep (h.size+1) (h.push (.cells cs.toArray T)) h'){i:Nat}(b:cs[i]?=Td v):zd h' ((⟨h.size,0,Te⟩:Addr).add i)=Td v:=by have:=((Blk.new h cs.toArray T).keep (k.get _ (by omega)));exact this.cellAdd (o:=0) (by simpa using b)
end
end Go.X
end
section
namespace Go.X
open Go Go.ChangeShapes Go.WideShapes Go.RowKit
set_option linter.unusedVariables false
section
variable {a:Addr} {v:Value} {cs:List Value} {fuel:Nat} {t e:TypeId} {P:Program} {M:Fr}
def Fz(W:World):Fr:=λb=>match W.heap[b]? with|some (.cells cs _ _)=>some cs|_=>none
theorem Fz.ag(W:World):AgM (Fz W) W.heap:=by intro b c e;unfold Fz at e;split at e;rename_i cs T m f;cases e;exact⟨T,m,f⟩;cases e
theorem Fz.cell{W:World}(h:W.cell? a=some v):∃b o c,a=⟨b,o,none⟩/\Fz W b=some c/\c[o]?=some v:=by
 obtain⟨b,o,sp⟩:=a;unfold World.cell? at h;split at h;rename_i c T m e;cases sp with
 |some x=>simp at h
 |none=>refine⟨b,o,c,rfl,?_,by simpa using h⟩;unfold Fz;change W.heap[b]?=_ at e;rw[e]
 cases h
theorem Fz.cells{W:World}{n:Nat}(h:W.cells? 0 a n=some cs)(u:0<n):∃b o c,a=⟨b,o,none⟩/\Fz W b=some c/\cut c o n=cs:=by
 obtain⟨_,w,m⟩:=World.cells?_some h;have h0:=m 0 u;rw[YA (by omega)]at h0;obtain⟨b,o,c,e,k,_⟩:=Fz.cell h0;obtain⟨r,l,sp⟩:=a;rw[show XT ⟨r,l,sp⟩ 0=⟨r,l,sp⟩from rfl]at e;cases e;refine⟨b,o,c,rfl,k,?_⟩;have f:∀i,i<n->c[o+i]?=cs[i]?:=λi hi=>by have h1:=m i hi;rw[YA (by omega)]at h1 ⊢;obtain⟨b2,x,c2,p,j,t⟩:=Fz.cell h1;rw[zh]at p;cases p;rw[k]at j;cases j;exact t
 unfold cut;apply zab;intro i;by_cases hi:i<n;rw[ZJ,if_pos hi,zaa,<-f i hi];simp;rw[ZJ,if_neg hi,ZQ (by omega)]
theorem VS{α:Type}{Q:Nat->α->Prop}(n:Nat)(h:∀i,i<n->∃z,Q i z):∃xs:List α,xs.length=n/\∀i (hi:i<xs.length),Q i xs[i]:=by refine⟨List.ofFn λi:Fin n=>Classical.choose (h i i.2),by simp,λi hi=>?_⟩;rw[List.getElem_ofFn];exact Classical.choose_spec (h i (by simpa using hi))
section
variable {H : Type} {enc : TypeId × Value -> H} {P : Program} {W : World} {sp : Nat -> Bool} {held : Bool}
def kQ(P:Program)(t:TypeId)(d:DataW H):Prop:=∀n∈d.weights P t,n<=reachBytes
theorem Dv{e:TypeId}{y:DataW H}:∀{l:List (DataW H)},y∈l->∀n∈y.weights P e,n∈DataW.weightsAll P e l
 |x::l,b,n,hn=>by unfold DataW.weightsAll;rcases YB.1 b with rfl|b;exact YM _ hn;exact ZD _ (Dv b n hn)
theorem yY{T : Ty}{x : DataW H × List MemPlace}(ht : P.underlying t = some (.slice e))(hz : P.cellsOf e = sz T)(hp : 0 < sz T)(hby : 0 < P.bytesOf e) (hel : ∀ n, n < fuel -> ∀ cs y, DataW.trod enc P W 0 sp held n e cs = some y -> kQ P e y.1 -> ∃ z : El T, Rd (Fz W) T z cs)
    (h : DataW.trod enc P W 0 sp held fuel t cs = some x) (hw : kQ P t x.1) : ∃ xs : List (El T), Rd (Fz W) (.row T) xs cs := by
  rcases DataW.trod_slice ht h with ⟨rfl, _⟩ | ⟨a, len, cap, elems, rest, n, rfl, rfl, hx, _, hlc, hcap, hlen, hi, _, _⟩;exact ⟨[], _, rfl, none, 0, rfl, ⟨by simp, by simp⟩, .inl rfl⟩
  · have hwt : ∀ m, m = (elems.length + rest.length) * P.bytesOf e \/ m ∈ DataW.weightsAll P e (elems.map (·.1)) -> m <= reachBytes := λm hm => hw m (by rw [hx];unfold DataW.weights;rw [ht];simp only [YB, YK, YF];rcases hm with hm | hm;exact .inl hm;exact .inr (.inl hm));have hmax : len <= 140737488355328 := by
      have h1 := hwt _ (.inl rfl);have h2 : elems.length + rest.length <= (elems.length + rest.length) * P.bytesOf e := zcw _ hby;have h3 : reachBytes <= 140737488355328 := by decide
      omega
    have key : ∀ i, i < len -> ∃ z : El T, ∃ b o c, a.add (i * sz T) = ⟨b, o, none⟩ /\ Fz W b = some c /\ Rd (Fz W) T z (cut c o (sz T)) := λi hil => by have h1 := hi i hil;rw [YA (by omega), Option.bind_eq_some_iff] at h1;obtain ⟨cc, h2, h3⟩ := h1;rw [hz] at h2;obtain ⟨b, o, c, e1, e2, e3⟩ := Fz.cells h2 hp;obtain ⟨z, hz⟩ := hel n (by omega) _ _ h3 λm hm => hwt m (.inr (Dv (ZI.2 ⟨elems[i], YI (by omega), rfl⟩) m hm));exact ⟨z, b, o, c, e1, e2, by rw [e3]; exact hz⟩
    obtain ⟨xs, hxl, hxs⟩ := VS len key;subst hxl;refine ⟨xs, _, rfl, some a, cap, rfl, ⟨by omega, hlc⟩, ?_⟩;by_cases h0 : xs.length = 0;exact .inl (YU h0);obtain ⟨b, o, c, e1, e2, _⟩ := hxs 0 (by omega);obtain ⟨ab, ao, asp⟩ := a;rw [zda, show XT ⟨ab, ao, asp⟩ 0 = ⟨ab, ao, asp⟩ from rfl] at e1;cases e1;refine .inr ⟨b, o, c, rfl, e2, λi hil => ?_⟩;obtain ⟨b', o', c', e1', e2', e3'⟩ := hxs i hil;rw [zh] at e1';cases e1';rw [e2] at e2'; cases e2';simpa using e3'
theorem BO{x:DataW H×List MemPlace}(b:P.underlying t=some .string)(h:DataW.trod enc P W 0 sp held fuel t cs=some x):∃s:El .str,Rd (Fz W) .str s cs:=by obtain⟨s,rfl,_,_⟩:=DataW.trod_string b h;exact⟨s,rfl⟩
theorem T5{k:IntKind}{x:DataW H×List MemPlace}(b:P.underlying t=some (.int k))(h:DataW.trod enc P W 0 sp held fuel t cs=some x):∃s:El (.int k),Rd (Fz W) (.int k) s cs:=by obtain⟨s,rfl,_,_⟩:=DataW.trod_int b h;exact⟨s,rfl⟩
theorem Cf{x:DataW H×List MemPlace}(j:P.underlying t=some (.slice e))(f:P.underlying e=some .string)(k:P.cellsOf e=1)(b:0<P.bytesOf e)
  (h:DataW.trod enc P W 0 sp held fuel t cs=some x) (c:kQ P t x.1):∃xs:List ByteArray,Rd (Fz W) (.row .str) xs cs:=
 yY (T:=.str) j k (by decide) b (λn _ cs y i _=>BO f i) h c
theorem four{a b c d:Value}(h:cs.length=4)(h0:(cs.drop 0).take 1=[a])(h1:(cs.drop 1).take 1=[b])(e:(cs.drop 2).take 1=[c])(f:(cs.drop 3).take 1=[d]):cs=[a,b,c,d]:=by
 match cs,h with
 |[w,x,y,z],_=>simp at h0 h1 e f;subst h0;subst h1;subst e;subst f;rfl
theorem QR{c ts tss tvs tk:TypeId}{o p e i:Field}(F:P.underlying c=some (.struct #[o,p,e,i]))(E:P.cellsOf c=4) (Y:o.type=tk/\o.offset=0/\p.type=ts/\p.offset=1/\e.type=tss/\e.offset=2/\i.type=tvs/\i.offset=3) (L:P.underlying tk=some (.int .i64)) (us:P.underlying ts=some .string) (z:P.underlying tss=some (.slice ts)) (w:P.underlying tvs=some (.slice c)) (U:P.cellsOf tk=1) (cs':P.cellsOf ts=1) (r:P.cellsOf tss=1) (A:P.cellsOf tvs=1) (bs:0<P.bytesOf ts) (bv:0<P.bytesOf c):
  ∀(fuel:Nat) (cs:List Value) (x:DataW H×List MemPlace),DataW.trod enc P W 0 sp held fuel c cs=some x->kQ P c x.1->∃t:Tr,Rd (Fz W) .tree t cs:=by
 intro fuel;induction fuel using Nat.strongRecOn with
 |_ fuel ih=>intro cs x h Z;obtain⟨xs,n,rfl,hx,hl,u,b⟩:=DataW.trod_struct F h;have l:∀(j:Nat) (f:Field) (I:j<xs.length),(#[o,p,e,i]:Array Field)[j]?=some f->kQ P f.type (xs[j]).1:=λj f I hf m G=>Z m (by rw[hx];unfold DataW.weights;rw[F];exact DataW.weights_mem_each (j:=j) (t:=f.type) (d:=(xs[j]).1) (by rw[zap,ZZ,hf];rfl) (by rw[zap,YA I];rfl) m G);obtain⟨a0,o0,a1,V,a2,Q,D,o3⟩:=Y;have g0:=b 0 o rfl;have g1:=b 1 p rfl;have g2:=b 2 e rfl;have J:=b 3 i rfl;have C:xs.length=4:=u;rw[a0,o0,U,YA (by omega)]at g0;rw[a1,V,cs',YA (by omega)]at g1;rw[a2,Q,r,YA (by omega)]at g2;rw[D,o3,A,YA (by omega)]at J;obtain⟨k,M⟩:=T5 L g0;obtain⟨s,e1⟩:=BO us g1;obtain⟨ks,S⟩:=Cf z us cs' bs g2 (by have:=l 2 e (by omega) rfl;rw[a2]at this;exact this);obtain⟨is,e3⟩:=yY (T:=.tree) w E (by decide) bv (λm G cs y hy B=>ih m (by omega) cs y hy B) J (by have:=l 3 i (by omega) rfl;rw[D]at this;exact this);obtain⟨vk,q2,N⟩:=S;obtain⟨vi,O,h3⟩:=e3;have:=four (hl.trans E) M e1 q2 O;subst this;exact⟨.mk k s ks is,TrRd.of ⟨vk,rfl,N⟩ ⟨vi,rfl,h3⟩⟩
end
theorem Dh{f:FuncId}{W:World}{args:List Arg}{vs:Array Value}(H:PC P (Fz W) f args [.bool] (λr=>r=true))(i:Xw (Fz W) args vs.toList):
  Calls P f vs W λe w'=>e=.returned (.bool true)/\Below W.heap.size W w':=by
 have c:=H W.heap (Fz W) vs.toList (Fr.le.refl _) (Fz.ag W) i;rw[Array.toArray_toList]at c;refine(c W W.drawn).mono ?_;rintro e w' ⟨v,j,h',rfl,rfl,k,M',r,_,_,_,h,b⟩;have b:r=true:=b;subst b;rw[ib h];exact⟨rfl,rfl,rfl,rfl,k.size,k.get⟩
theorem VE{T:Ty}{xs:List (El T)}(h:Rd M (.row T) xs [v]):RdV M (.row T) xs v:=by rw[hG rfl];exact h
theorem FK{t:Tr}{cs:Array Value}(h:Rd M .tree t cs.toList):RdV M .tree t (.agg cs):=by unfold RdV;simp only[iu,if_true];exact⟨cs.toList,by simp,h⟩
theorem Fz.var{W:World}{n:String}{g:Nat}{cs:Array Value}(b:P.globalNamed n=some g)(h:W.var? P n=some cs):Fz W g=some cs:=by unfold World.var? at h;rw[b]at h;exact h
end
end Go.X
end
section
namespace Go.Proofs
section
theorem Tryz.mixed:ZB.follows .mixedOrders=true:=by kernel_rfl
noncomputable abbrev Tp:= ZB
end
end Go.Proofs
end
section
namespace Go.X
section
theorem PF{gl:Fr}{args:List Arg}{f:FuncId}{fn:Func}{b:List Ty}{R:ie b->Prop}{F:Prop}(pl:PlanA)(rs:List ResultVar)(n:Nat)(c:ZB.funcs[f]?=Td fn)(H:F)(i:Q3 fn=Ta:=by kernel_rfl)(h:fn.results.toList=rs:=by kernel_rfl)(j:fn.ntmps=n:=by kernel_rfl)(hz:Nat.ble args.length n=Ta:=by kernel_rfl)(e:F=WA Tp gl 25 n pl (codeOf fn) [] (Ah Tp rs b R) (nk 0 args) []:=by kernel_rfl):PC Tp gl f args b R:=Rh Tryz.mixed gl 25 pl args c i h j hz H e
theorem VN(gl:Fr)(e:List Bt)(R:Bool->Prop) (H:∃(a:Int->Prop) (b:Int->Nat),a 0/\∀c:Int,a c->(((bif (decide (c<e.length))then(decide (c<300))else Tc)=Ta->∃d,(0<=c/\e[c.toNat]?=Td d)/\(decide ((d.size:Int)>1024)=Ta->R Tc)/\(decide ((d.size:Int)>1024)=Tc->(a (XS .i64 (c+1))/\b (XS .i64 (c+1))<b c)))/\((bif (decide (c<e.length))then(decide (c<300))else Tc)=Tc->R (decide ((e.length:Int)<=200))))):
  PC Tp gl 67 [Arg.mk (.row .str) e] [.bool] R:=
 PF ⟨[],[],[(2,⟨[(3,.one (.dat (.int .i64)))],[],[],[100192]⟩)],[]⟩ [.tmp 2] 23 Tryz.func67 H
theorem Vv(gl:Fr)(f:Tr)(e:Int)(R:Bool->Prop) (H:PC Tp gl 53 [Arg.mk .tree (Tr.mk f.kind f.text f.keys f.items),Arg.mk (.int .i64) e,Arg.mk (.int .i64) 0] [.int .i64] (λa:Int=>∃b:Bool->Prop,(decide (a>=0)=Ta->PC Tp gl 54 [Arg.mk .tree (Tr.mk f.kind f.text f.keys f.items)] [.bool] b)/\∀c:Bool,(decide (a>=0)=Ta->b c)->R (bif (decide (a>=0))then c else Tc))):
  PC Tp gl 12 [Arg.mk .tree f,Arg.mk (.int .i64) e] [.bool] R:=
 PF ⟨[],[],[],[]⟩ [.tmp 4] 15 Tryz.func12 H
theorem Up(gl:Fr)(f:List Bt)(R:Bool->Prop) (H:∃(a:Int->Prop) (b:Int->Nat),a 0/\∀c:Int,a c->((decide (c<f.length)=Ta->∃d,(0<=c/\f[c.toNat]?=Td d)/\PC Tp gl 203 [Arg.mk .str d] [.int .i64,.bool] (λe:Int×Bool=>((!e.2)=Ta->R Tc)/\((!e.2)=Tc->(a (XS .i64 (c+1))/\b (XS .i64 (c+1))<b c))))/\(decide (c<f.length)=Tc->R (decide ((f.length:Int)<=64))))):
  PC Tp gl 129 [Arg.mk (.row .str) f] [.bool] R:=
 PF ⟨[],[],[(2,⟨[(3,.one (.dat (.int .i64)))],[],[],[100192]⟩)],[]⟩ [.tmp 2] 25 Tryz.func129 H
theorem Ns(gl:Fr)(b:List Bt)(c:List Tr)(R:Tr->Prop) (H:R (Tr.mk 6 (⟨#[]⟩:Bt) b c)):
  PC Tp gl 47 [Arg.mk (.row .str) b,Arg.mk (.row .tree) c] [.tree] R:=
 PF ⟨[],[],[],[]⟩ [.cell 4 25] 8 Tryz.func47 H
theorem Nl(gl:Fr)(b:List Tr)(R:Tr->Prop) (H:R (Tr.mk 5 (⟨#[]⟩:Bt) [] b)):
  PC Tp gl 52 [Arg.mk (.row .tree) b] [.tree] R:=
 PF ⟨[],[],[],[]⟩ [.cell 2 25] 5 Tryz.func52 H
theorem Un(gl:Fr)(n0:Int)(R:Tr->Prop) (H:PC Tp gl 93 [Arg.mk (.int .i64) n0] [.pair .bool (.pair .str (.int .i64))] (λa:Bool×Bt×Int=>PC Tp gl 92 [Arg.mk (.pair .bool (.pair .str (.int .i64))) (a.1,(a.2.1,a.2.2))] [.str] (λb:Bt=>R (Tr.mk 3 b [] [])))):
  PC Tp gl 51 [Arg.mk (.int .i64) n0] [.tree] R:=
 PF ⟨[],[],[],[]⟩ [.cell 2 25] 7 Tryz.func51 H
theorem MF(gl:Fr)(b:Bt)(R:Bool->Prop) (H:PC Tp gl 196 [Arg.mk .str b] [.int .i64,.bool] (λa:Int×Bool=>R a.2)):
  PC Tp gl 137 [Arg.mk .str b] [.bool] R:=
 PF ⟨[],[],[],[]⟩ [.tmp 2] 11 Tryz.func137 H
theorem SB(gl:Fr)(j:Tr)(i:Int)(h:Int)(R:Int->Prop) (H:(decide (h>60)=Ta->R (-1))/\(decide (h>60)=Tc->∃(a:Int->Int->Prop) (b:Int->Int->Nat),a (XS .i64 ((XS .i64 (i-1))-(j.keys.length:Int))) 0/\∀c d:Int,a c d->(((bif (decide (d<j.items.length))then(decide (c>=0))else Tc)=Ta->∃e,(0<=d/\j.items[d.toNat]?=Td e)/\PC Tp gl 53 [Arg.mk .tree (Tr.mk e.kind e.text e.keys e.items),Arg.mk (.int .i64) c,Arg.mk (.int .i64) (XS .i64 (h+1))] [.int .i64] (λf:Int=>(a f (XS .i64 (d+1))/\b f (XS .i64 (d+1))<b c d)))/\((bif (decide (d<j.items.length))then(decide (c>=0))else Tc)=Tc->R c)))):
  PC Tp gl 53 [Arg.mk .tree j,Arg.mk (.int .i64) i,Arg.mk (.int .i64) h] [.int .i64] R:=
 PF ⟨[],[],[(5,⟨[(1,.one (.dat (.int .i64))),(7,.one (.dat (.int .i64)))],[],[3],[100064,100448]⟩)],[]⟩ [.tmp 6] 37 Tryz.func53 H
theorem Rc(gl:Fr)(h:Tr)(R:Bool->Prop) (H:(decide ((h.text.size:Int)>2048)=Ta->R Tc)/\(decide ((h.text.size:Int)>2048)=Tc->∃(a:Int->Prop) (b:Int->Nat),a 0/\∀c:Int,a c->((decide (c<h.keys.length)=Ta->∃d,(0<=c/\h.keys[c.toNat]?=Td d)/\(decide ((d.size:Int)>1024)=Ta->R Tc)/\(decide ((d.size:Int)>1024)=Tc->(a (XS .i64 (c+1))/\b (XS .i64 (c+1))<b c)))/\(decide (c<h.keys.length)=Tc->∃(e:Int->Prop) (f:Int->Nat),e 0/\∀g:Int,e g->((decide (g<h.items.length)=Ta->∃i,(0<=g/\h.items[g.toNat]?=Td i)/\PC Tp gl 54 [Arg.mk .tree (Tr.mk i.kind i.text i.keys i.items)] [.bool] (λj:Bool=>((!j)=Ta->R Tc)/\((!j)=Tc->(e (XS .i64 (g+1))/\f (XS .i64 (g+1))<f g))))/\(decide (g<h.items.length)=Tc->R Ta)))))):
  PC Tp gl 54 [Arg.mk .tree h] [.bool] R:=
 PF ⟨[],[],[(4,⟨[(3,.one (.dat (.int .i64)))],[],[1],[100192]⟩),(9,⟨[(4,.one (.dat (.int .i64)))],[],[1],[100256]⟩)],[]⟩ [.tmp 2] 39 Tryz.func54 H
theorem WR(gl:Fr)(f:Bt)(R:(Int×Bool)->Prop) (H:∃(a:Int->Prop) (b:Int->Nat),a 0/\∀c:Int,a c->((decide (c<f.size)=Ta->PC Tp gl 258 [Arg.mk .str f,Arg.mk (.int .i64) c] [.bool] (λd:Bool=>((!d)=Ta->R (c,Tc))/\((!d)=Tc->PC Tp gl 259 [Arg.mk .str f,Arg.mk (.int .i64) c] [.int .i32,.int .i64] (λe:Int×Int=>(a (XS .i64 (c+e.2))/\b (XS .i64 (c+e.2))<b c)))))/\(decide (c<f.size)=Tc->R ((f.size:Int),Ta)))):
  PC Tp gl 203 [Arg.mk .str f] [.int .i64,.bool] R:=
 PF ⟨[],[],[(2,⟨[(4,.one (.dat (.int .i64)))],[],[],[100256]⟩)],[]⟩ [.tmp 2,.tmp 3] 29 Tryz.func203 H
theorem U4(gl:Fr)(n0:Bool×Bt×Int)(R:Bt->Prop) (H:PC Tp gl 158 [Arg.mk (.pair .bool (.pair .str (.int .i64))) (n0.1,(n0.2.1,n0.2.2))] [.bool] (λa:Bool=>((!a)=Ta->R (⟨#[]⟩:Bt))/\((!a)=Tc->((n0.2.1.toList==(⟨#[]⟩:Bt).toList)=Ta->R (⟨#[48]⟩:Bt))/\((n0.2.1.toList==(⟨#[]⟩:Bt).toList)=Tc->∀b:Bt->Prop,(∀c:Bt,(((n0.2.2 != 0)=Ta->PC Tp gl 159 [Arg.mk (.int .i64) n0.2.2] [.str] (λd:Bt=>zw (((⟨#[101]⟩:Bt)).size+d.size)/\zw (c.size+((⟨#[101]⟩:Bt)++d).size)/\R (c++((⟨#[101]⟩:Bt)++d))))/\((n0.2.2 != 0)=Tc->R c))->b c)->(n0.1=Ta->zw (((⟨#[45]⟩:Bt)).size+n0.2.1.size)/\b ((⟨#[45]⟩:Bt)++n0.2.1))/\(n0.1=Tc->b n0.2.1))))):
  PC Tp gl 92 [Arg.mk (.pair .bool (.pair .str (.int .i64))) n0] [.str] R:=
 PF ⟨[],[],[],[(8,⟨[(3,.one (.dat .str))],[],[1],[100192]⟩)]⟩ [.tmp 2] 26 Tryz.func92 H
theorem Sg(gl:Fr)(n0:Int)(R:(Bool×Bt×Int)->Prop) (H:PC Tp gl 159 [Arg.mk (.int .i64) n0] [.str] (λa:Bt=>PC Tp gl 160 [Arg.mk .str a] [.pair .bool (.pair .str (.int .i64)),.int .i64] (λb:(Bool×Bt×Int)×Int=>R (b.1.1,(b.1.2.1,b.1.2.2))))):
  PC Tp gl 93 [Arg.mk (.int .i64) n0] [.pair .bool (.pair .str (.int .i64))] R:=
 PF ⟨[],[],[],[]⟩ [.cell 2 110] 12 Tryz.func93 H
theorem KA(gl:Fr)(f:Bt)(R:(Int×Bool)->Prop) (H:PC Tp gl 246 [Arg.mk .str f] [.bool] (λa:Bool=>(a=Ta->R ((f.size:Int),Ta))/\(a=Tc->∃(b:(Bt×Nat)->Prop) (c:(Bt×Nat)->Nat),b (f,0)/\∀e:Bt×Nat,b e->(((iS e.1 e.2)=Ta->(iS e.1 e.2)=Ta/\(iS e.1 e.2)=Ta/\(((ki e.1 e.2:Int) != 65533)=Ta->(b (e.1,iN e.1 e.2)/\c (e.1,iN e.1 e.2)<c e))/\(((ki e.1 e.2:Int) != 65533)=Tc->(0<=(e.2:Int)/\(e.2:Int)<=(f.size:Int)/\(f.size:Int)<=(f.size:Int))/\PC Tp gl 247 [Arg.mk .str (f.extract (e.2:Int).toNat (f.size:Int).toNat)] [.int .i32,.int .i64] (λd:Int×Int=>((d.2==1)=Ta->R ((e.2:Int),Tc))/\((d.2==1)=Tc->(b (e.1,iN e.1 e.2)/\c (e.1,iN e.1 e.2)<c e)))))/\((iS e.1 e.2)=Tc->R ((f.size:Int),Ta)))))):
  PC Tp gl 196 [Arg.mk .str f] [.int .i64,.bool] R:=
 PF ⟨[],[],[(4,⟨[],[(13,[.dat .iter])],[],[1000832]⟩)],[]⟩ [.tmp 2,.tmp 3] 32 Tryz.func196 H
theorem UE(gl:Fr)(e:Tr)(R:Bool->Prop) (H:PC Tp gl 43 [Arg.mk .tree (Tr.mk e.kind e.text e.keys e.items)] [.int .i64] (λa:Int=>∃b:Int->Prop,(decide (a<=4096)=Ta->PC Tp gl 144 [Arg.mk .tree (Tr.mk e.kind e.text e.keys e.items)] [.int .i64] b)/\∀c:Int,(decide (a<=4096)=Ta->b c)->R (bif (decide (a<=4096))then(decide (c<=32))else Tc))):
  PC Tp gl 86 [Arg.mk .tree e] [.bool] R:=
 PF ⟨[],[],[],[]⟩ [.tmp 2] 11 Tryz.func86 H
theorem Ll(gl:Fr)(e:Tr)(R:Bool->Prop) (H:((e.kind==5)=Ta->R (bif (!(decide ((e.keys.length:Int)>0)))then(e.text.toList==(⟨#[]⟩:Bt).toList)else Tc))/\((e.kind==5)=Tc->((e.kind==6)=Ta->PC Tp gl 147 [Arg.mk (.row .str) e.keys,Arg.mk (.int .i64) (e.items.length:Int)] [.bool] (λa:Bool=>R (bif a then(e.text.toList==(⟨#[]⟩:Bt).toList)else Tc)))/\((e.kind==6)=Tc->((bif (decide ((e.keys.length:Int)>0))then Ta else(decide ((e.items.length:Int)>0)))=Ta->R Tc)/\((bif (decide ((e.keys.length:Int)>0))then Ta else(decide ((e.items.length:Int)>0)))=Tc->((e.kind==1)=Ta->R (e.text.toList==(⟨#[]⟩:Bt).toList))/\((e.kind==1)=Tc->((e.kind==2)=Ta->R (bif (e.text.toList==(⟨#[116,114,117,101]⟩:Bt).toList)then Ta else(e.text.toList==(⟨#[102,97,108,115,101]⟩:Bt).toList)))/\((e.kind==2)=Tc->((e.kind==3)=Ta->PC Tp gl 148 [Arg.mk .str e.text] [.pair .bool (.pair .str (.int .i64)),.bool] (λb:(Bool×Bt×Int)×Bool=>R b.2))/\((e.kind==3)=Tc->((e.kind==4)=Ta->PC Tp gl 149 [Arg.mk .str e.text] [.bool] (λc:Bool=>R c))/\((e.kind==4)=Tc->((e.kind==7)=Ta->PC Tp gl 150 [Arg.mk .str e.text] [.bool] (λd:Bool=>R d))/\((e.kind==7)=Tc->R Tc))))))))):
  PC Tp gl 89 [Arg.mk .tree e] [.bool] R:=
 PF ⟨[],[],[],[]⟩ [.tmp 2] 79 Tryz.func89 H
theorem UQ(gl:Fr)(h:Tr)(R:Int->Prop) (H:∃(a:Int->Int->Prop) (b:Int->Int->Nat),a 1 0/\∀c d:Int,a c d->((decide (d<h.items.length)=Ta->∃e,(0<=d/\h.items[d.toNat]?=Td e)/\PC Tp gl 102 [Arg.mk .tree (Tr.mk e.kind e.text e.keys e.items)] [.int .i64] (λf:Int=>(a (XS .i64 (c+f)) (XS .i64 (d+1))/\b (XS .i64 (c+f)) (XS .i64 (d+1))<b c d)))/\(decide (d<h.items.length)=Tc->R c))):
  PC Tp gl 102 [Arg.mk .tree h] [.int .i64] R:=
 PF ⟨[],[],[(3,⟨[(3,.one (.dat (.int .i64))),(4,.one (.dat (.int .i64)))],[],[1],[100192,100256]⟩)],[]⟩ [.tmp 2] 21 Tryz.func102 H
theorem JN(gl:Fr)(h:Tr)(R:Int->Prop) (H:∃(a:Int->Int->Prop) (b:Int->Int->Nat),a 0 0/\∀c d:Int,a c d->((decide (d<h.items.length)=Ta->∃e,(0<=d/\h.items[d.toNat]?=Td e)/\PC Tp gl 103 [Arg.mk .tree (Tr.mk e.kind e.text e.keys e.items)] [.int .i64] (λf:Int=>(a (if c<f then f else c) (XS .i64 (d+1))/\b (if c<f then f else c) (XS .i64 (d+1))<b c d)))/\(decide (d<h.items.length)=Tc->R (XS .i64 (c+1))))):
  PC Tp gl 103 [Arg.mk .tree h] [.int .i64] R:=
 PF ⟨[],[],[(3,⟨[(3,.one (.dat (.int .i64))),(4,.one (.dat (.int .i64)))],[],[1],[100192,100256]⟩)],[]⟩ [.tmp 2] 22 Tryz.func103 H
theorem S8(gl:Fr)(i:Tr)(h:Bool)(R:Bool->Prop) (H:PC Tp gl 163 [Arg.mk .tree (Tr.mk i.kind i.text i.keys i.items)] [.bool] (λa:Bool=>((bif (!a)then Ta else(bif (i.kind==7)then(!h)else Tc))=Ta->R Tc)/\((bif (!a)then Ta else(bif (i.kind==7)then(!h)else Tc))=Tc->∃(b:Int->Prop) (c:Int->Nat),b 0/\∀d:Int,b d->((decide (d<i.items.length)=Ta->∃e,(0<=d/\i.items[d.toNat]?=Td e)/\PC Tp gl 104 [Arg.mk .tree (Tr.mk e.kind e.text e.keys e.items),Arg.mk .bool h] [.bool] (λf:Bool=>((!f)=Ta->R Tc)/\((!f)=Tc->(b (XS .i64 (d+1))/\c (XS .i64 (d+1))<c d))))/\(decide (d<i.items.length)=Tc->R Ta))))):
  PC Tp gl 104 [Arg.mk .tree i,Arg.mk .bool h] [.bool] R:=
 PF ⟨[],[],[(5,⟨[(6,.one (.dat (.int .i64)))],[],[2],[100384]⟩)],[]⟩ [.tmp 4] 37 Tryz.func104 H
theorem QE(gl:Fr)(c:Bt)(b:Int)(R:Bool->Prop) (H:PC Tp gl 259 [Arg.mk .str c,Arg.mk (.int .i64) b] [.int .i32,.int .i64] (λa:Int×Int=>R (bif (decide (a.2>0))then(!(bif (a.1==65533)then(a.2==1)else Tc))else Tc))):
  PC Tp gl 258 [Arg.mk .str c,Arg.mk (.int .i64) b] [.bool] R:=
 PF ⟨[],[],[],[]⟩ [.tmp 4] 24 Tryz.func258 H
theorem Uu(gl:Fr)(m:Bt)(h:Int)(R:(Int×Int)->Prop) (H:((bif (decide (h<0))then Ta else(decide (h>=m.size)))=Ta->R (0,0))/\((bif (decide (h<0))then Ta else(decide (h>=m.size)))=Tc->(0<=h/\h<m.size)/\PC Tp gl 309 [Arg.mk (.int .i64) (XS .i64 (ze m h.toNat))] [.int .i64] (λa:Int=>((bif (a==0)then Ta else(decide (a>(XS .i64 ((m.size:Int)-h)))))=Ta->R (65533,1))/\((bif (a==0)then Ta else(decide (a>(XS .i64 ((m.size:Int)-h)))))=Tc->(0<=h/\h<m.size)/\∀b:Int->Prop,(∀c:Int,(∀d:Int->Prop,(∀e:Int,(∀f:Int->Prop,(∀g:Int,(∃(i:Int->Int->Prop) (j:Int->Int->Nat),i g 1/\∀k l:Int,i k l->((decide (l<a)=Ta->(0<=(XS .i64 (h+l))/\(XS .i64 (h+l))<(m.size:Int))/\((bif (decide ((XS .i64 (ze m (XS .i64 (h+l):Int).toNat))<128))then Ta else(decide ((XS .i64 (ze m (XS .i64 (h+l):Int).toNat))>191)))=Ta->R (65533,1))/\((bif (decide ((XS .i64 (ze m (XS .i64 (h+l):Int).toNat))<128))then Ta else(decide ((XS .i64 (ze m (XS .i64 (h+l):Int).toNat))>191)))=Tc->(i (XS .i64 ((XS .i64 ((XS .i64 (64*k))+(XS .i64 (ze m (XS .i64 (h+l)).toNat))))-128)) (XS .i64 (l+1))/\j (XS .i64 ((XS .i64 ((XS .i64 (64*k))+(XS .i64 (ze m (XS .i64 (h+l)).toNat))))-128)) (XS .i64 (l+1))<j k l)))/\(decide (l<a)=Tc->((bif (bif (bif (bif (a==3)then(decide (k<2048))else Tc)then Ta else(bif (a==4)then(decide (k<65536))else Tc))then Ta else(decide (k>1114111)))then Ta else(bif (decide (k>=55296))then(decide (k<57344))else Tc))=Ta->R (65533,1))/\((bif (bif (bif (bif (a==3)then(decide (k<2048))else Tc)then Ta else(bif (a==4)then(decide (k<65536))else Tc))then Ta else(decide (k>1114111)))then Ta else(bif (decide (k>=55296))then(decide (k<57344))else Tc))=Tc->R (XS .i32 k,a)))))->f g)->((a==4)=Ta->f (XS .i64 (e-240)))/\((a==4)=Tc->f e))->d e)->((a==3)=Ta->d (XS .i64 (c-224)))/\((a==3)=Tc->d c))->b c)->((a==2)=Ta->b (XS .i64 ((XS .i64 (ze m h.toNat))-192)))/\((a==2)=Tc->b (XS .i64 (ze m h.toNat))))))):
  PC Tp gl 259 [Arg.mk .str m,Arg.mk (.int .i64) h] [.int .i32,.int .i64] R:=
 PF ⟨[],[],[(14,⟨[(7,.one (.dat (.int .i64))),(8,.one (.dat (.int .i64)))],[],[],[100448,100512]⟩)],[(9,⟨[(7,.one (.dat (.int .i64)))],[],[],[100448]⟩),(11,⟨[(7,.one (.dat (.int .i64)))],[],[],[100448]⟩),(13,⟨[(7,.one (.dat (.int .i64)))],[],[],[100448]⟩)]⟩ [.tmp 4,.tmp 5] 100 Tryz.func259 H
theorem JX(gl:Fr)(n0:Bool×Bt×Int)(R:Bool->Prop) (H:(((n0.1==Tc)&&((n0.2.1.toList==(⟨#[]⟩:Bt).toList)&&((n0.2.2==0)&&Ta)))=Ta->R Ta)/\(((n0.1==Tc)&&((n0.2.1.toList==(⟨#[]⟩:Bt).toList)&&((n0.2.2==0)&&Ta)))=Tc->PC Tp gl 215 [Arg.mk .str n0.2.1] [.bool] (λa:Bool=>((!a)=Ta->((!a)=Ta->R Tc)/\((!a)=Tc->R (bif (decide (n0.2.2>=(-1000000)))then(decide (n0.2.2<=1000000))else Tc)))/\((!a)=Tc->(decide ((n0.2.1.size:Int)>1000)=Ta->(decide ((n0.2.1.size:Int)>1000)=Ta->R Tc)/\(decide ((n0.2.1.size:Int)>1000)=Tc->R (bif (decide (n0.2.2>=(-1000000)))then(decide (n0.2.2<=1000000))else Tc)))/\(decide ((n0.2.1.size:Int)>1000)=Tc->(0<=(0:Int)/\(0:Int)<(n0.2.1.size:Int))/\(((ze n0.2.1 (0:Int).toNat:Int)==48)=Ta->(((ze n0.2.1 (0:Int).toNat:Int)==48)=Ta->R Tc)/\(((ze n0.2.1 (0:Int).toNat:Int)==48)=Tc->R (bif (decide (n0.2.2>=(-1000000)))then(decide (n0.2.2<=1000000))else Tc)))/\(((ze n0.2.1 (0:Int).toNat:Int)==48)=Tc->(0<=(XS .i64 ((n0.2.1.size:Int)-1))/\(XS .i64 ((n0.2.1.size:Int)-1))<(n0.2.1.size:Int))/\(((ze n0.2.1 (XS .i64 ((n0.2.1.size:Int)-1)).toNat:Int)==48)=Ta->R Tc)/\(((ze n0.2.1 (XS .i64 ((n0.2.1.size:Int)-1)).toNat:Int)==48)=Tc->R (bif (decide (n0.2.2>=(-1000000)))then(decide (n0.2.2<=1000000))else Tc)))))))):
  PC Tp gl 158 [Arg.mk (.pair .bool (.pair .str (.int .i64))) n0] [.bool] R:=
 PF ⟨[],[],[],[]⟩ [.tmp 2] 34 Tryz.func158 H
theorem NU(gl:Fr)(t:Bt)(R:((Bool×Bt×Int)×Int)->Prop) (H:PC Tp gl 217 [Arg.mk .str t] [.pair .bool (.pair .bool (.pair .str (.pair .str .str))),.bool] (λa:(Bool×Bool×Bt×Bt×Bt)×Bool=>PC Tp gl 218 [Arg.mk .str a.1.2.2.2.2,Arg.mk .str (⟨#[48]⟩:Bt)] [.str] (λb:Bt=>((!a.2)=Ta->R ((Tc,((⟨#[]⟩:Bt),0)),2))/\((!a.2)=Tc->((decide ((XS .i64 ((a.1.2.2.1.size:Int)+(a.1.2.2.2.1.size:Int)))>1000))=Ta->R ((Tc,((⟨#[]⟩:Bt),0)),3))/\((decide ((XS .i64 ((a.1.2.2.1.size:Int)+(a.1.2.2.2.1.size:Int)))>1000))=Tc->(decide ((b.size:Int)>9)=Ta->R ((Tc,((⟨#[]⟩:Bt),0)),4))/\(decide ((b.size:Int)>9)=Tc->∃(c:Int->Bool->Bt->Int->(Bt×Nat)->Prop) (d:Int->Bool->Bt->Int->(Bt×Nat)->Nat),c 0 Tc (⟨#[]⟩:Bt) 0 (b,0)/\∀e:Int,∀m:Bool,∀l:Bt,∀n:Int,∀h:Bt×Nat,c e m l n h->(((iS h.1 h.2)=Ta->(iS h.1 h.2)=Ta/\(c (XS .i64 ((XS .i64 (10*e))+(XS .i64 (XS .i32 ((ki h.1 h.2)-48))))) m l n (h.1,iN h.1 h.2)/\d (XS .i64 ((XS .i64 (10*e))+(XS .i64 (XS .i32 ((ki h.1 h.2)-48))))) m l n (h.1,iN h.1 h.2)<d e m l n h))/\((iS h.1 h.2)=Tc->∀f:Int->Bool->Bt->Int->Prop,(∀g:Int,∀o:Bool,∀r:Bt,∀p:Int,(zw (a.1.2.2.1.size+a.1.2.2.2.1.size)/\PC Tp gl 218 [Arg.mk .str (a.1.2.2.1++a.1.2.2.2.1),Arg.mk .str (⟨#[48]⟩:Bt)] [.str] (λi:Bt=>((i.toList==(⟨#[]⟩:Bt).toList)=Ta->R ((Tc,((⟨#[]⟩:Bt),0)),0))/\((i.toList==(⟨#[]⟩:Bt).toList)=Tc->PC Tp gl 219 [Arg.mk .str i,Arg.mk .str (⟨#[48]⟩:Bt)] [.str] (λj:Bt=>PC Tp gl 158 [Arg.mk (.pair .bool (.pair .str (.int .i64))) (a.1.1,(j,XS .i64 ((XS .i64 ((XS .i64 (g-(a.1.2.2.2.1.size:Int)))+(i.size:Int)))-(j.size:Int))))] [.bool] (λk:Bool=>((!k)=Ta->R ((Tc,((⟨#[]⟩:Bt),0)),4))/\((!k)=Tc->R ((a.1.1,(j,XS .i64 ((XS .i64 ((XS .i64 (g-(a.1.2.2.2.1.size:Int)))+(i.size:Int)))-(j.size:Int)))),0)))))))->f g o r p)->(a.1.2.1=Ta->f (XS .i64 (0-e)) m l n)/\(a.1.2.1=Tc->f e m l n))))))))):
  PC Tp gl 160 [Arg.mk .str t] [.pair .bool (.pair .str (.int .i64)),.int .i64] R:=
 PF ⟨[],[],[(11,⟨[(7,.one (.dat (.int .i64)))],[(2,[.dat .bool,.dat .str,.dat (.int .i64)]),(41,[.dat .iter])],[4],[100448,1000128,1000129,1000130,1002624]⟩)],[(16,⟨[(7,.one (.dat (.int .i64)))],[(2,[.dat .bool,.dat .str,.dat (.int .i64)])],[4],[100448,1000128,1000129,1000130]⟩)]⟩ [.cell 2 110,.tmp 3] 86 Tryz.func160 H
theorem QV(gl:Fr)(h:Tr)(R:Int->Prop) (H:∃(a:Int->Int->Prop) (b:Int->Int->Nat),a 1 0/\∀c d:Int,a c d->((decide (d<h.items.length)=Ta->∃e,(0<=d/\h.items[d.toNat]?=Td e)/\PC Tp gl 43 [Arg.mk .tree (Tr.mk e.kind e.text e.keys e.items)] [.int .i64] (λf:Int=>(a (XS .i64 (c+f)) (XS .i64 (d+1))/\b (XS .i64 (c+f)) (XS .i64 (d+1))<b c d)))/\(decide (d<h.items.length)=Tc->R c))):
  PC Tp gl 43 [Arg.mk .tree h] [.int .i64] R:=
 PF ⟨[],[],[(3,⟨[(3,.one (.dat (.int .i64))),(9,.one (.dat (.int .i64)))],[],[],[100192,100576]⟩)],[]⟩ [.tmp 2] 19 Tryz.func43 H
theorem RG(gl:Fr)(h:Tr)(R:Int->Prop) (H:∃(a:Int->Int->Prop) (b:Int->Int->Nat),a 0 0/\∀c d:Int,a c d->((decide (d<h.items.length)=Ta->∃e,(0<=d/\h.items[d.toNat]?=Td e)/\PC Tp gl 144 [Arg.mk .tree (Tr.mk e.kind e.text e.keys e.items)] [.int .i64] (λf:Int=>(a (if c<f then f else c) (XS .i64 (d+1))/\b (if c<f then f else c) (XS .i64 (d+1))<b c d)))/\(decide (d<h.items.length)=Tc->R (XS .i64 (c+1))))):
  PC Tp gl 144 [Arg.mk .tree h] [.int .i64] R:=
 PF ⟨[],[],[(3,⟨[(3,.one (.dat (.int .i64))),(9,.one (.dat (.int .i64)))],[],[],[100192,100576]⟩)],[]⟩ [.tmp 2] 20 Tryz.func144 H
theorem KY(gl:Fr)(e:Bt)(R:((Bool×Bt×Int)×Bool)->Prop) (H:PC Tp gl 160 [Arg.mk .str e] [.pair .bool (.pair .str (.int .i64)),.int .i64] (λa:(Bool×Bt×Int)×Int=>∃b:Bt->Prop,((a.2==0)=Ta->PC Tp gl 92 [Arg.mk (.pair .bool (.pair .str (.int .i64))) (a.1.1,(a.1.2.1,a.1.2.2))] [.str] b)/\∀c:Bt,((a.2==0)=Ta->b c)->R ((a.1.1,(a.1.2.1,a.1.2.2)),bif (a.2==0)then(c.toList==e.toList)else Tc))):
  PC Tp gl 148 [Arg.mk .str e] [.pair .bool (.pair .str (.int .i64)),.bool] R:=
 PF ⟨[],[(2,9,[],[0,1,2,3,4,6,5,7,8],[6,7,8])],[],[]⟩ [.cell 2 110,.tmp 3] 20 Tryz.func148 H
theorem Kj(gl:Fr)(b:Bt)(R:Bool->Prop) (H:PC Tp gl 196 [Arg.mk .str b] [.int .i64,.bool] (λa:Int×Bool=>R a.2)):
  PC Tp gl 149 [Arg.mk .str b] [.bool] R:=
 PF ⟨[],[],[],[]⟩ [.tmp 2] 11 Tryz.func149 H
theorem Vr(gl:Fr)(c:Bt)(R:Bool->Prop) (H:PC Tp gl 148 [Arg.mk .str c] [.pair .bool (.pair .str (.int .i64)),.bool] (λa:(Bool×Bt×Int)×Bool=>PC Tp gl 209 [Arg.mk (.pair .bool (.pair .str (.int .i64))) (a.1.1,(a.1.2.1,a.1.2.2))] [.int .i64,.bool] (λb:Int×Bool=>R (bif (bif a.2 then b.2 else Tc)then(decide (b.1>=0))else Tc)))):
  PC Tp gl 150 [Arg.mk .str c] [.bool] R:=
 PF ⟨[],[],[],[]⟩ [.tmp 2] 25 Tryz.func150 H
theorem O3(gl:Fr)(h:Tr)(R:Bool->Prop) (H:((bif (bif (h.kind != 6)then(decide ((h.keys.length:Int)>0))else Tc)then Ta else(bif (bif (h.kind != 6)then(h.kind != 5)else Tc)then(decide ((h.items.length:Int)>0))else Tc))=Ta->R Tc)/\((bif (bif (h.kind != 6)then(decide ((h.keys.length:Int)>0))else Tc)then Ta else(bif (bif (h.kind != 6)then(h.kind != 5)else Tc)then(decide ((h.items.length:Int)>0))else Tc))=Tc->∀a:Bool->Prop,(∀b:Bool,((b=Ta->R (h.text.toList==(⟨#[]⟩:Bt).toList))/\(b=Tc->((h.kind==2)=Ta->R (bif (h.text.toList==(⟨#[116,114,117,101]⟩:Bt).toList)then Ta else(h.text.toList==(⟨#[102,97,108,115,101]⟩:Bt).toList)))/\((h.kind==2)=Tc->((h.kind==3)=Ta->PC Tp gl 223 [Arg.mk .str h.text] [.pair .bool (.pair .str (.int .i64)),.bool] (λc:(Bool×Bt×Int)×Bool=>R c.2))/\((h.kind==3)=Tc->((h.kind==4)=Ta->PC Tp gl 224 [Arg.mk .str h.text] [.bool] (λd:Bool=>R d))/\((h.kind==4)=Tc->((h.kind==7)=Ta->PC Tp gl 223 [Arg.mk .str h.text] [.pair .bool (.pair .str (.int .i64)),.bool] (λe:(Bool×Bt×Int)×Bool=>PC Tp gl 225 [Arg.mk (.pair .bool (.pair .str (.int .i64))) (e.1.1,(e.1.2.1,e.1.2.2))] [.int .i64,.bool] (λf:Int×Bool=>R (bif (bif e.2 then f.2 else Tc)then(decide (f.1>=0))else Tc))))/\((h.kind==7)=Tc->((h.kind==6)=Ta->∃(g:Int->Prop) (i:Int->Nat),g 0/\∀j:Int,g j->((decide (j<h.keys.length)=Ta->∃k,(0<=j/\h.keys[j.toNat]?=Td k)/\PC Tp gl 224 [Arg.mk .str k] [.bool] (λl:Bool=>((!l)=Ta->R Tc)/\((!l)=Tc->∃(m:Int->Prop) (n:Int->Nat),m 0/\∀o:Int,m o->((decide (o<j)=Ta->∃p,(0<=o/\h.keys[o.toNat]?=Td p)/\∃q,(0<=j/\h.keys[j.toNat]?=Td q)/\((p.toList==q.toList)=Ta->R Tc)/\((p.toList==q.toList)=Tc->(m (XS .i64 (o+1))/\n (XS .i64 (o+1))<n o)))/\(decide (o<j)=Tc->(g (XS .i64 (j+1))/\i (XS .i64 (j+1))<i j))))))/\(decide (j<h.keys.length)=Tc->R (bif (h.text.toList==(⟨#[]⟩:Bt).toList)then((h.keys.length:Int)==(h.items.length:Int))else Tc))))/\((h.kind==6)=Tc->R Tc)))))))->a b)->((h.kind==1)=Ta->a (h.kind==1))/\((h.kind==1)=Tc->a (h.kind==5)))):
  PC Tp gl 163 [Arg.mk .tree h] [.bool] R:=
 PF ⟨[],[],[(20,⟨[(9,.one (.dat (.int .i64)))],[],[1],[100576]⟩),(26,⟨[(11,.one (.dat (.int .i64)))],[],[],[100704]⟩)],[(6,⟨[(39,.one (.dat .bool))],[],[1],[102496]⟩)]⟩ [.tmp 2] 135 Tryz.func163 H
theorem TC(gl:Fr)(b:Int)(R:Int->Prop) (H:(decide (b<128)=Ta->R 1)/\(decide (b<128)=Tc->((bif (decide (b>=194))then(decide (b<=223))else Tc)=Ta->R 2)/\((bif (decide (b>=194))then(decide (b<=223))else Tc)=Tc->((bif (decide (b>=224))then(decide (b<=239))else Tc)=Ta->R 3)/\((bif (decide (b>=224))then(decide (b<=239))else Tc)=Tc->((bif (decide (b>=240))then(decide (b<=244))else Tc)=Ta->R 4)/\((bif (decide (b>=240))then(decide (b<=244))else Tc)=Tc->R 0))))):
  PC Tp gl 309 [Arg.mk (.int .i64) b] [.int .i64] R:=
 PF ⟨[],[],[],[]⟩ [.tmp 2] 23 Tryz.func309 H
theorem VG(gl:Fr)(e:Bt)(R:Bool->Prop) (H:∃(a:(Bt×Nat)->Prop) (b:(Bt×Nat)->Nat),a (e,0)/\∀c:Bt×Nat,a c->(((iS c.1 c.2)=Ta->(iS c.1 c.2)=Ta/\((bif (decide ((ki c.1 c.2:Int)<48))then Ta else(decide ((ki c.1 c.2:Int)>57)))=Ta->R Tc)/\((bif (decide ((ki c.1 c.2:Int)<48))then Ta else(decide ((ki c.1 c.2:Int)>57)))=Tc->(a (c.1,iN c.1 c.2)/\b (c.1,iN c.1 c.2)<b c)))/\((iS c.1 c.2)=Tc->R (!(e.toList==(⟨#[]⟩:Bt).toList))))):
  PC Tp gl 215 [Arg.mk .str e] [.bool] R:=
 PF ⟨[],[],[(2,⟨[],[(6,[.dat .iter])],[],[1000384]⟩)],[]⟩ [.tmp 2] 18 Tryz.func215 H
theorem LI(gl:Fr)(A:Bt)(R:((Bool×Bool×Bt×Bt×Bt)×Bool)->Prop) (H:PC Tp gl 267 [Arg.mk .str A,Arg.mk .str (⟨#[45]⟩:Bt)] [.str,.bool] (λa:Bt×Bool=>PC Tp gl 268 [Arg.mk .str a.1,Arg.mk .str (⟨#[101,69]⟩:Bt)] [.str,.str,.bool] (λb:Bt×Bt×Bool=>∀c:Bt->Bool->Bool->Bt->Bt->Bt->Prop,(∀d:Bt,∀w u:Bool,∀z x y:Bt,(PC Tp gl 268 [Arg.mk .str b.1,Arg.mk .str (⟨#[46]⟩:Bt)] [.str,.str,.bool] (λe:Bt×Bt×Bool=>PC Tp gl 215 [Arg.mk .str e.1] [.bool] (λf:Bool=>∃g:Bool->Prop,(((!(!f))&&e.2.2)=Ta->PC Tp gl 215 [Arg.mk .str e.2.1] [.bool] g)/\∀i:Bool,(((!(!f))&&e.2.2)=Ta->g i)->((bif (!f)then Ta else(bif e.2.2 then(!i)else Tc))=Ta->R ((w,(u,(e.1,(e.2.1,d)))),Tc))/\((bif (!f)then Ta else(bif e.2.2 then(!i)else Tc))=Tc->((!(e.1.toList==(⟨#[48]⟩:Bt).toList))=Ta->(0<=(0:Int)/\(0:Int)<(e.1.size:Int)))/\R ((w,(u,(e.1,(e.2.1,d)))),bif (e.1.toList==(⟨#[48]⟩:Bt).toList)then Ta else((ze e.1 (0:Int).toNat:Int) != 48))))))->c d w u z x y)->(b.2.2=Ta->PC Tp gl 267 [Arg.mk .str b.2.1,Arg.mk .str (⟨#[45]⟩:Bt)] [.str,.bool] (λj:Bt×Bool=>∀k:Bt->Bool->Bool->Bt->Bt->Bt->Prop,(∀l:Bt,∀o h:Bool,∀r t p:Bt,(PC Tp gl 215 [Arg.mk .str l] [.bool] (λm:Bool=>((!m)=Ta->R ((o,(h,(r,(t,p)))),Tc))/\((!m)=Tc->c l o h r t p)))->k l o h r t p)->((!j.2)=Ta->PC Tp gl 269 [Arg.mk .str j.1,Arg.mk .str (⟨#[43]⟩:Bt)] [.str] (λn:Bt=>k n a.2 j.2 (⟨#[]⟩:Bt) (⟨#[]⟩:Bt) (⟨#[]⟩:Bt)))/\((!j.2)=Tc->k j.1 a.2 j.2 (⟨#[]⟩:Bt) (⟨#[]⟩:Bt) (⟨#[]⟩:Bt))))/\(b.2.2=Tc->c b.2.1 a.2 Tc (⟨#[]⟩:Bt) (⟨#[]⟩:Bt) (⟨#[]⟩:Bt))))):
  PC Tp gl 217 [Arg.mk .str A] [.pair .bool (.pair .bool (.pair .str (.pair .str .str))),.bool] R:=
 PF ⟨[],[(14,8,[],[0,1,2,3,4,5,6,7],[4,5,6,7])],[],[(9,⟨[(4,.one (.dat .str))],[(2,[.dat .bool,.dat .bool,.dat .str,.dat .str,.dat .str])],[],[100256,1000128,1000129,1000130,1000131,1000132]⟩),(7,⟨[(4,.one (.dat .str))],[(2,[.dat .bool,.dat .bool,.dat .str,.dat .str,.dat .str])],[],[100256,1000128,1000129,1000130,1000131,1000132]⟩)]⟩ [.cell 2 221,.tmp 3] 69 Tryz.func217 H
theorem PM(gl:Fr)(n0:Bool×Bt×Int)(R:(Int×Bool)->Prop) (H:PC Tp gl 158 [Arg.mk (.pair .bool (.pair .str (.int .i64))) (n0.1,(n0.2.1,n0.2.2))] [.bool] (λa:Bool=>((bif (bif (!a)then Ta else(decide (n0.2.2<0)))then Ta else(decide ((XS .i64 ((n0.2.1.size:Int)+n0.2.2))>19)))=Ta->R (0,Tc))/\((bif (bif (!a)then Ta else(decide (n0.2.2<0)))then Ta else(decide ((XS .i64 ((n0.2.1.size:Int)+n0.2.2))>19)))=Tc->PC Tp gl 200 [Arg.mk .str (⟨#[48]⟩:Bt),Arg.mk (.int .i64) n0.2.2] [.str] (λb:Bt=>zw (n0.2.1.size+b.size)/\∀c:Bt->Prop,(∀d:Bt,(((d.toList==(⟨#[]⟩:Bt).toList)=Ta->R (0,Ta))/\((d.toList==(⟨#[]⟩:Bt).toList)=Tc->PC Tp gl 262 [Arg.mk .str d,Arg.mk (.int .i64) 10,Arg.mk (.int .i64) 64] [.int .i64,.err] (λe:Int×Bool=>((!e.2)=Ta->R (0,Tc))/\((!e.2)=Tc->R (e.1,Ta)))))->c d)->(n0.1=Ta->zw (((⟨#[45]⟩:Bt)).size+(n0.2.1++b).size)/\c ((⟨#[45]⟩:Bt)++(n0.2.1++b)))/\(n0.1=Tc->c (n0.2.1++b)))))):
  PC Tp gl 209 [Arg.mk (.pair .bool (.pair .str (.int .i64))) n0] [.int .i64,.bool] R:=
 PF ⟨[],[(3,5,[],[0,1,2,3,4],[])],[],[(6,⟨[(4,.one (.dat .str))],[],[],[100256]⟩)]⟩ [.tmp 2,.tmp 3] 44 Tryz.func209 H
theorem X0(gl:Fr)(e:Bt)(R:((Bool×Bt×Int)×Bool)->Prop) (H:PC Tp gl 232 [Arg.mk .str e] [.pair .bool (.pair .str (.int .i64)),.int .i64] (λa:(Bool×Bt×Int)×Int=>∃b:Bt->Prop,((a.2==0)=Ta->PC Tp gl 233 [Arg.mk (.pair .bool (.pair .str (.int .i64))) (a.1.1,(a.1.2.1,a.1.2.2))] [.str] b)/\∀c:Bt,((a.2==0)=Ta->b c)->R ((a.1.1,(a.1.2.1,a.1.2.2)),bif (a.2==0)then(c.toList==e.toList)else Tc))):
  PC Tp gl 223 [Arg.mk .str e] [.pair .bool (.pair .str (.int .i64)),.bool] R:=
 PF ⟨[],[(2,9,[],[0,1,2,3,4,6,5,7,8],[6,7,8])],[],[]⟩ [.cell 2 110,.tmp 3] 20 Tryz.func223 H
theorem NM(gl:Fr)(b:Bt)(R:Bool->Prop) (H:PC Tp gl 203 [Arg.mk .str b] [.int .i64,.bool] (λa:Int×Bool=>R a.2)):
  PC Tp gl 224 [Arg.mk .str b] [.bool] R:=
 PF ⟨[],[],[],[]⟩ [.tmp 2] 11 Tryz.func224 H
theorem OC(gl:Fr)(n0:Bool×Bt×Int)(R:(Int×Bool)->Prop) (H:PC Tp gl 279 [Arg.mk (.pair .bool (.pair .str (.int .i64))) (n0.1,(n0.2.1,n0.2.2))] [.bool] (λa:Bool=>((bif (bif (!a)then Ta else(decide (n0.2.2<0)))then Ta else(decide ((XS .i64 ((n0.2.1.size:Int)+n0.2.2))>19)))=Ta->R (0,Tc))/\((bif (bif (!a)then Ta else(decide (n0.2.2<0)))then Ta else(decide ((XS .i64 ((n0.2.1.size:Int)+n0.2.2))>19)))=Tc->∃(b:Int->Int->Prop) (c:Int->Int->Nat),b 0 0/\∀d e:Int,b d e->(((decide (e<(XS .i64 ((n0.2.1.size:Int)+n0.2.2))))=Ta->∀f:Int->Prop,(∀g:Int,(zbh=zbh/\(10:Int)≠0/\((decide (d<(XS .i64 ((XS .i64 ((-9223372036854775808)+g)).tdiv 10))))=Ta->R (0,Tc))/\((decide (d<(XS .i64 ((XS .i64 ((-9223372036854775808)+g)).tdiv 10))))=Tc->(b (XS .i64 ((XS .i64 (10*d))-g)) (XS .i64 (e+1))/\c (XS .i64 ((XS .i64 (10*d))-g)) (XS .i64 (e+1))<c d e)))->f g)->(decide (e<n0.2.1.size)=Ta->(0<=e/\e<n0.2.1.size)/\f (XS .i64 (XS .u8 ((ze n0.2.1 e.toNat)-48))))/\(decide (e<n0.2.1.size)=Tc->f 0))/\((decide (e<(XS .i64 ((n0.2.1.size:Int)+n0.2.2))))=Tc->(n0.1=Ta->R (d,Ta))/\(n0.1=Tc->((d==(-9223372036854775808))=Ta->R (0,Tc))/\((d==(-9223372036854775808))=Tc->R (XS .i64 (0-d),Ta)))))))):
  PC Tp gl 225 [Arg.mk (.pair .bool (.pair .str (.int .i64))) n0] [.int .i64,.bool] R:=
 PF ⟨[],[],[(6,⟨[(5,.one (.dat (.int .i64))),(6,.one (.dat (.int .i64)))],[],[1],[100320,100384]⟩)],[(11,⟨[(7,.one (.dat (.int .i64)))],[],[],[100448]⟩)]⟩ [.tmp 2,.tmp 3] 63 Tryz.func225 H
theorem Kg(gl:Fr)(e:Bt)(f:Bt)(R:(Bt×Bt×Bool)->Prop) (H:∃(a:Int->Prop) (b:Int->Nat),a 0/\∀c:Int,a c->((decide (c<e.size)=Ta->(0<=c/\c<e.size)/\PC Tp gl 319 [Arg.mk .str f,Arg.mk (.int .u8) (ze e c.toNat)] [.int .i64] (λd:Int=>(decide (d>=0)=Ta->(0<=(0:Int)/\(0:Int)<=c/\c<=e.size)/\(0<=(XS .i64 (c+1))/\(XS .i64 (c+1))<=(e.size:Int)/\(e.size:Int)<=(e.size:Int))/\R (e.extract (0:Int).toNat c.toNat,e.extract (XS .i64 (c+1)).toNat (e.size:Int).toNat,Ta))/\(decide (d>=0)=Tc->(a (XS .i64 (c+1))/\b (XS .i64 (c+1))<b c))))/\(decide (c<e.size)=Tc->R (e,(⟨#[]⟩:Bt),Tc)))):
  PC Tp gl 268 [Arg.mk .str e,Arg.mk .str f] [.str,.str,.bool] R:=
 PF ⟨[],[],[(2,⟨[(10,.one (.dat (.int .i64)))],[],[],[100640]⟩)],[]⟩ [.tmp 4,.tmp 5,.tmp 6] 28 Tryz.func268 H
theorem S1(gl:Fr)(J:Bt)(R:((Bool×Bt×Int)×Int)->Prop) (H:PC Tp gl 291 [Arg.mk .str J] [.bool,.str,.str,.bool,.str,.bool] (λa:Bool×Bt×Bt×Bool×Bt×Bool=>((!a.2.2.2.2.2)=Ta->R ((Tc,((⟨#[]⟩:Bt),0)),2))/\((!a.2.2.2.2.2)=Tc->((decide ((XS .i64 ((a.2.1.size:Int)+(a.2.2.1.size:Int)))>1000))=Ta->R ((Tc,((⟨#[]⟩:Bt),0)),3))/\((decide ((XS .i64 ((a.2.1.size:Int)+(a.2.2.1.size:Int)))>1000))=Tc->∃(b:Bt->Bool->Bt->Int->Prop) (c:Bt->Bool->Bt->Int->Nat),b a.2.2.2.2.1 Tc (⟨#[]⟩:Bt) 0/\∀d:Bt,∀D:Bool,∀C:Bt,∀E:Int,b d D C E->((decide ((d.size:Int)>1)=Ta->(0<=(0:Int)/\(0:Int)<(d.size:Int)))/\((bif (decide ((d.size:Int)>1))then((ze d (0:Int).toNat:Int)==48)else Tc)=Ta->(0<=(1:Int)/\(1:Int)<=(d.size:Int)/\(d.size:Int)<=(d.size:Int))/\(b (d.extract (1:Int).toNat (d.size:Int).toNat) D C E/\c (d.extract (1:Int).toNat (d.size:Int).toNat) D C E<c d D C E))/\((bif (decide ((d.size:Int)>1))then((ze d (0:Int).toNat:Int)==48)else Tc)=Tc->(decide ((d.size:Int)>9)=Ta->R ((Tc,((⟨#[]⟩:Bt),0)),4))/\(decide ((d.size:Int)>9)=Tc->∃(e:Int->Int->Bool->Bt->Int->Prop) (f:Int->Int->Bool->Bt->Int->Nat),e 0 0 D C E/\∀g i:Int,∀w:Bool,∀x:Bt,∀u:Int,e g i w x u->((decide (i<d.size)=Ta->(0<=i/\i<d.size)/\(e (XS .i64 ((XS .i64 (10*g))+(XS .i64 (XS .u8 ((ze d i.toNat)-48))))) (XS .i64 (i+1)) w x u/\f (XS .i64 ((XS .i64 (10*g))+(XS .i64 (XS .u8 ((ze d i.toNat)-48))))) (XS .i64 (i+1)) w x u<f g i w x u))/\(decide (i<d.size)=Tc->∀j:Int->Bool->Bt->Int->Prop,(∀k:Int,∀I:Bool,∀G:Bt,∀F:Int,(zw (a.2.1.size+a.2.2.1.size)/\∃(l:Bt->Bool->Bt->Int->Prop) (m:Bt->Bool->Bt->Int->Nat),l (a.2.1++a.2.2.1) I G F/\∀n:Bt,∀h:Bool,∀y:Bt,∀t:Int,l n h y t->((decide ((n.size:Int)>0)=Ta->(0<=(0:Int)/\(0:Int)<(n.size:Int)))/\((bif (decide ((n.size:Int)>0))then((ze n (0:Int).toNat:Int)==48)else Tc)=Ta->(0<=(1:Int)/\(1:Int)<=(n.size:Int)/\(n.size:Int)<=(n.size:Int))/\(l (n.extract (1:Int).toNat (n.size:Int).toNat) h y t/\m (n.extract (1:Int).toNat (n.size:Int).toNat) h y t<m n h y t))/\((bif (decide ((n.size:Int)>0))then((ze n (0:Int).toNat:Int)==48)else Tc)=Tc->((n.toList==(⟨#[]⟩:Bt).toList)=Ta->R ((Tc,((⟨#[]⟩:Bt),0)),0))/\((n.toList==(⟨#[]⟩:Bt).toList)=Tc->∃(o:Int->Bt->Bool->Bt->Int->Prop) (p:Int->Bt->Bool->Bt->Int->Nat),o (XS .i64 (k-(a.2.2.1.size:Int))) n h y t/\∀q:Int,∀r:Bt,∀z:Bool,∀B:Bt,∀A:Int,o q r z B A->((0<=(XS .i64 ((r.size:Int)-1))/\(XS .i64 ((r.size:Int)-1))<(r.size:Int))/\(((ze r (XS .i64 ((r.size:Int)-1)).toNat:Int)==48)=Ta->(0<=(0:Int)/\(0:Int)<=(XS .i64 ((r.size:Int)-1))/\(XS .i64 ((r.size:Int)-1))<=(r.size:Int))/\(o (XS .i64 (q+1)) (r.extract (0:Int).toNat (XS .i64 ((r.size:Int)-1)).toNat) z B A/\p (XS .i64 (q+1)) (r.extract (0:Int).toNat (XS .i64 ((r.size:Int)-1)).toNat) z B A<p q r z B A))/\(((ze r (XS .i64 ((r.size:Int)-1)).toNat:Int)==48)=Tc->((bif (decide (q<(-1000000)))then Ta else(decide (q>1000000)))=Ta->R ((Tc,((⟨#[]⟩:Bt),0)),4))/\((bif (decide (q<(-1000000)))then Ta else(decide (q>1000000)))=Tc->R ((a.1,(r,q)),0))))))))->j k I G F)->(a.2.2.2.1=Ta->j (XS .i64 (0-g)) w x u)/\(a.2.2.2.1=Tc->j g w x u)))))))))):
  PC Tp gl 232 [Arg.mk .str J] [.pair .bool (.pair .str (.int .i64)),.int .i64] R:=
 PF ⟨[],[],[(6,⟨[(8,.one (.dat .str))],[(2,[.dat .bool,.dat .str,.dat (.int .i64)])],[],[100512,1000128,1000129,1000130]⟩),(12,⟨[(10,.one (.dat (.int .i64))),(11,.one (.dat (.int .i64)))],[(2,[.dat .bool,.dat .str,.dat (.int .i64)])],[],[100640,100704,1000128,1000129,1000130]⟩),(19,⟨[(12,.one (.dat .str))],[(2,[.dat .bool,.dat .str,.dat (.int .i64)])],[],[100768,1000128,1000129,1000130]⟩),(23,⟨[(10,.one (.dat (.int .i64))),(12,.one (.dat .str))],[(2,[.dat .bool,.dat .str,.dat (.int .i64)])],[],[100640,100768,1000128,1000129,1000130]⟩)],[(17,⟨[(10,.one (.dat (.int .i64)))],[(2,[.dat .bool,.dat .str,.dat (.int .i64)])],[],[100640,1000128,1000129,1000130]⟩)]⟩ [.cell 2 110,.tmp 3] 107 Tryz.func232 H
theorem NN(gl:Fr)(n0:Bool×Bt×Int)(R:Bt->Prop) (H:PC Tp gl 279 [Arg.mk (.pair .bool (.pair .str (.int .i64))) (n0.1,(n0.2.1,n0.2.2))] [.bool] (λa:Bool=>((!a)=Ta->R (⟨#[]⟩:Bt))/\((!a)=Tc->PC Tp gl 292 [Arg.mk (.pair .bool (.pair .str (.int .i64))) (n0.1,(n0.2.1,n0.2.2))] [.bool] (λb:Bool=>(b=Ta->R (⟨#[48]⟩:Bt))/\(b=Tc->∀c:Bt->Prop,(∀d:Bt,(((n0.2.2 != 0)=Ta->zw (d.size+((⟨#[101]⟩:Bt)).size)/\PC Tp gl 193 [Arg.mk (.int .i64) n0.2.2] [.str] (λe:Bt=>zw ((d++(⟨#[101]⟩:Bt)).size+e.size)/\R ((d++(⟨#[101]⟩:Bt))++e)))/\((n0.2.2 != 0)=Tc->R d))->c d)->(n0.1=Ta->zw (((⟨#[45]⟩:Bt)).size+n0.2.1.size)/\c ((⟨#[45]⟩:Bt)++n0.2.1))/\(n0.1=Tc->c n0.2.1)))))):
  PC Tp gl 233 [Arg.mk (.pair .bool (.pair .str (.int .i64))) n0] [.str] R:=
 PF ⟨[],[],[],[(9,⟨[(4,.one (.dat .str))],[],[1],[100256]⟩)]⟩ [.tmp 2] 27 Tryz.func233 H
theorem K8(gl:Fr)(n0:Bool×Bt×Int)(R:Bool->Prop) (H:PC Tp gl 292 [Arg.mk (.pair .bool (.pair .str (.int .i64))) (n0.1,(n0.2.1,n0.2.2))] [.bool] (λa:Bool=>(a=Ta->R Ta)/\(a=Tc->PC Tp gl 333 [Arg.mk .str n0.2.1] [.bool] (λb:Bool=>((bif b then(decide ((n0.2.1.size:Int)<=1000))else Tc)=Ta->(0<=(0:Int)/\(0:Int)<(n0.2.1.size:Int)))/\((bif (bif b then(decide ((n0.2.1.size:Int)<=1000))else Tc)then((ze n0.2.1 (0:Int).toNat:Int) != 48)else Tc)=Ta->(0<=(XS .i64 ((n0.2.1.size:Int)-1))/\(XS .i64 ((n0.2.1.size:Int)-1))<(n0.2.1.size:Int)))/\R (bif (bif (bif (bif (bif b then(decide ((n0.2.1.size:Int)<=1000))else Tc)then((ze n0.2.1 (0:Int).toNat:Int) != 48)else Tc)then((ze n0.2.1 (XS .i64 ((n0.2.1.size:Int)-1)).toNat:Int) != 48)else Tc)then(decide (n0.2.2>=(-1000000)))else Tc)then(decide (n0.2.2<=1000000))else Tc))))):
  PC Tp gl 279 [Arg.mk (.pair .bool (.pair .str (.int .i64))) n0] [.bool] R:=
 PF ⟨[],[],[],[]⟩ [.tmp 2] 42 Tryz.func279 H
theorem Vi(gl:Fr)(h:Bt)(R:(Bool×Bt×Bt×Bool×Bt×Bool)->Prop) (H:(decide ((h.size:Int)>0)=Ta->(0<=(0:Int)/\(0:Int)<(h.size:Int)))/\∀a:Bt->Prop,(∀b:Bt,(∃(c:Int->Prop) (d:Int->Nat),c 0/\∀e:Int,c e->((decide (e<b.size)=Ta->(0<=e/\e<b.size))/\((bif (decide (e<b.size))then((ze b e.toNat:Int) != 101)else Tc)=Ta->(0<=e/\e<b.size))/\((bif (bif (decide (e<b.size))then((ze b e.toNat:Int) != 101)else Tc)then((ze b e.toNat:Int) != 69)else Tc)=Ta->(c (XS .i64 (e+1))/\d (XS .i64 (e+1))<d e))/\((bif (bif (decide (e<b.size))then((ze b e.toNat:Int) != 101)else Tc)then((ze b e.toNat:Int) != 69)else Tc)=Tc->∀f:Bt->Bool->Prop,(∀g:Bt,∀i:Bool,((0<=(0:Int)/\(0:Int)<=e/\e<=b.size)/\∃(j:Int->Prop) (k:Int->Nat),j 0/\∀l:Int,j l->(((decide (l<((b.extract (0:Int).toNat e.toNat).size:Int)))=Ta->(0<=l/\l<((b.extract (0:Int).toNat e.toNat).size:Int)))/\((bif (decide (l<((b.extract (0:Int).toNat e.toNat).size:Int)))then((ze (b.extract (0:Int).toNat e.toNat) l.toNat:Int) != 46)else Tc)=Ta->(j (XS .i64 (l+1))/\k (XS .i64 (l+1))<k l))/\((bif (decide (l<((b.extract (0:Int).toNat e.toNat).size:Int)))then((ze (b.extract (0:Int).toNat e.toNat) l.toNat:Int) != 46)else Tc)=Tc->(0<=(0:Int)/\(0:Int)<=l/\l<=((b.extract (0:Int).toNat e.toNat).size:Int))/\∀m:Bt->Prop,(∀n:Bt,(PC Tp gl 333 [Arg.mk .str ((b.extract (0:Int).toNat e.toNat).extract (0:Int).toNat l.toNat)] [.bool] (λo:Bool=>∃p:Bool->Prop,(o=Ta->PC Tp gl 333 [Arg.mk .str n] [.bool] p)/\∀q:Bool,(o=Ta->p q)->∃r:Bool->Prop,((bif o then q else Tc)=Ta->PC Tp gl 333 [Arg.mk .str g] [.bool] r)/\∀s:Bool,((bif o then q else Tc)=Ta->r s)->(((bif (bif o then q else Tc)then s else Tc)&&(!(((b.extract (0:Int).toNat e.toNat).extract (0:Int).toNat l.toNat:Bt).toList==(⟨#[48]⟩:Bt).toList)))=Ta->(0<=(0:Int)/\(0:Int)<(((b.extract (0:Int).toNat e.toNat).extract (0:Int).toNat l.toNat).size:Int)))/\∀t:Bt->Prop,(∀u:Bt,(R (bif (decide ((h.size:Int)>0))then((ze h (0:Int).toNat:Int)==45)else Tc,(b.extract (0:Int).toNat e.toNat).extract (0:Int).toNat l.toNat,u,i,g,bif (bif (bif o then q else Tc)then s else Tc)then(bif (((b.extract (0:Int).toNat e.toNat).extract (0:Int).toNat l.toNat:Bt).toList==(⟨#[48]⟩:Bt).toList)then Ta else((ze ((b.extract (0:Int).toNat e.toNat).extract (0:Int).toNat l.toNat) (0:Int).toNat:Int) != 48))else Tc))->t u)->((l==((b.extract (0:Int).toNat e.toNat).size:Int))=Ta->t (⟨#[]⟩:Bt))/\((l==((b.extract (0:Int).toNat e.toNat).size:Int))=Tc->t n)))->m n)->((decide (l<((b.extract (0:Int).toNat e.toNat).size:Int)))=Ta->(0<=(XS .i64 (l+1))/\(XS .i64 (l+1))<=((b.extract (0:Int).toNat e.toNat).size:Int)/\(((b.extract (0:Int).toNat e.toNat).size:Int):Int)<=((b.extract (0:Int).toNat e.toNat).size:Int))/\m ((b.extract (0:Int).toNat e.toNat).extract (XS .i64 (l+1)).toNat (((b.extract (0:Int).toNat e.toNat).size:Int):Int).toNat))/\((decide (l<((b.extract (0:Int).toNat e.toNat).size:Int)))=Tc->m (⟨#[48]⟩:Bt)))))->f g i)->(decide (e<b.size)=Ta->(0<=(XS .i64 (e+1))/\(XS .i64 (e+1))<=(b.size:Int)/\(b.size:Int)<=(b.size:Int))/\((decide ((((b.extract (XS .i64 (e+1)).toNat (b.size:Int).toNat).size:Int):Int)>0))=Ta->(0<=(0:Int)/\(0:Int)<((b.extract (XS .i64 (e+1)).toNat (b.size:Int).toNat).size:Int)))/\(((!(bif (decide ((((b.extract (XS .i64 (e+1)).toNat (b.size:Int).toNat).size:Int):Int)>0))then((ze (b.extract (XS .i64 (e+1)).toNat (b.size:Int).toNat) (0:Int).toNat:Int)==45)else Tc))&&(decide ((((b.extract (XS .i64 (e+1)).toNat (b.size:Int).toNat).size:Int):Int)>0)))=Ta->(0<=(0:Int)/\(0:Int)<((b.extract (XS .i64 (e+1)).toNat (b.size:Int).toNat).size:Int)))/\((bif (bif (decide ((((b.extract (XS .i64 (e+1)).toNat (b.size:Int).toNat).size:Int):Int)>0))then((ze (b.extract (XS .i64 (e+1)).toNat (b.size:Int).toNat) (0:Int).toNat:Int)==45)else Tc)then Ta else(bif (decide ((((b.extract (XS .i64 (e+1)).toNat (b.size:Int).toNat).size:Int):Int)>0))then((ze (b.extract (XS .i64 (e+1)).toNat (b.size:Int).toNat) (0:Int).toNat:Int)==43)else Tc))=Ta->(0<=(1:Int)/\(1:Int)<=((b.extract (XS .i64 (e+1)).toNat (b.size:Int).toNat).size:Int)/\(((b.extract (XS .i64 (e+1)).toNat (b.size:Int).toNat).size:Int):Int)<=((b.extract (XS .i64 (e+1)).toNat (b.size:Int).toNat).size:Int))/\f ((b.extract (XS .i64 (e+1)).toNat (b.size:Int).toNat).extract (1:Int).toNat (((b.extract (XS .i64 (e+1)).toNat (b.size:Int).toNat).size:Int):Int).toNat) (bif (decide ((((b.extract (XS .i64 (e+1)).toNat (b.size:Int).toNat).size:Int):Int)>0))then((ze (b.extract (XS .i64 (e+1)).toNat (b.size:Int).toNat) (0:Int).toNat:Int)==45)else Tc))/\((bif (bif (decide ((((b.extract (XS .i64 (e+1)).toNat (b.size:Int).toNat).size:Int):Int)>0))then((ze (b.extract (XS .i64 (e+1)).toNat (b.size:Int).toNat) (0:Int).toNat:Int)==45)else Tc)then Ta else(bif (decide ((((b.extract (XS .i64 (e+1)).toNat (b.size:Int).toNat).size:Int):Int)>0))then((ze (b.extract (XS .i64 (e+1)).toNat (b.size:Int).toNat) (0:Int).toNat:Int)==43)else Tc))=Tc->f (b.extract (XS .i64 (e+1)).toNat (b.size:Int).toNat) (bif (decide ((((b.extract (XS .i64 (e+1)).toNat (b.size:Int).toNat).size:Int):Int)>0))then((ze (b.extract (XS .i64 (e+1)).toNat (b.size:Int).toNat) (0:Int).toNat:Int)==45)else Tc)))/\(decide (e<b.size)=Tc->f (⟨#[48]⟩:Bt) Tc))))->a b)->((bif (decide ((h.size:Int)>0))then((ze h (0:Int).toNat:Int)==45)else Tc)=Ta->(0<=(1:Int)/\(1:Int)<=(h.size:Int)/\(h.size:Int)<=(h.size:Int))/\a (h.extract (1:Int).toNat (h.size:Int).toNat))/\((bif (decide ((h.size:Int)>0))then((ze h (0:Int).toNat:Int)==45)else Tc)=Tc->a h)):
  PC Tp gl 291 [Arg.mk .str h] [.bool,.str,.str,.bool,.str,.bool] R:=
 PF ⟨[],[],[(5,⟨[(9,.one (.dat (.int .i64)))],[],[],[100576]⟩),(16,⟨[(9,.one (.dat (.int .i64)))],[],[],[100576]⟩)],[(4,⟨[(0,.one (.dat .str))],[],[],[100000]⟩),(14,⟨[(10,.one (.dat .str)),(11,.one (.dat .bool))],[],[],[100640,100704]⟩),(22,⟨[(13,.one (.dat .str))],[],[],[100832]⟩),(25,⟨[(13,.one (.dat .str))],[],[],[100832]⟩)]⟩ [.tmp 2,.tmp 3,.tmp 4,.tmp 5,.tmp 6,.tmp 7] 128 Tryz.func291 H
theorem T7(gl:Fr)(n0:Bool×Bt×Int)(R:Bool->Prop) (H:R ((n0.1==Tc)&&((n0.2.1.toList==(⟨#[]⟩:Bt).toList)&&((n0.2.2==0)&&Ta)))):
  PC Tp gl 292 [Arg.mk (.pair .bool (.pair .str (.int .i64))) n0] [.bool] R:=
 PF ⟨[],[],[],[]⟩ [.tmp 2] 6 Tryz.func292 H
theorem X1(gl:Fr)(n0:Int)(R:Bt->Prop) (H:((bif (decide (n0>=0))then(decide (n0<10))else Tc)=Ta->(0<=n0/\n0<=(XS .i64 (n0+1))/\(XS .i64 (n0+1))<=(((⟨#[48,49,50,51,52,53,54,55,56,57]⟩:Bt)).size:Int))/\R (((⟨#[48,49,50,51,52,53,54,55,56,57]⟩:Bt)).extract n0.toNat (XS .i64 (n0+1)).toNat))/\((bif (decide (n0>=0))then(decide (n0<10))else Tc)=Tc->(decide (n0>0)=Ta->zbh=zbh/\(10:Int)≠0/\zbh=zbh/\(10:Int)≠0/\zbh=zbh/\(10:Int)≠0/\(0<=(n0.tmod 10:Int)/\(n0.tmod 10:Int)<=(XS .i64 ((n0.tmod 10)+1))/\(XS .i64 ((n0.tmod 10)+1))<=(((⟨#[48,49,50,51,52,53,54,55,56,57]⟩:Bt)).size:Int))/\PC Tp gl 193 [Arg.mk (.int .i64) (XS .i64 (n0.tdiv 10))] [.str] (λa:Bt=>zw (a.size+(((⟨#[48,49,50,51,52,53,54,55,56,57]⟩:Bt)).extract (n0.tmod 10:Int).toNat (XS .i64 ((n0.tmod 10)+1)).toNat).size)/\R (a++(((⟨#[48,49,50,51,52,53,54,55,56,57]⟩:Bt)).extract (n0.tmod 10:Int).toNat (XS .i64 ((n0.tmod 10)+1)).toNat))))/\(decide (n0>0)=Tc->(decide (n0>(-10))=Ta->(0<=(XS .i64 (0-n0))/\(XS .i64 (0-n0))<=(XS .i64 ((XS .i64 (0-n0))+1))/\(XS .i64 ((XS .i64 (0-n0))+1))<=(((⟨#[48,49,50,51,52,53,54,55,56,57]⟩:Bt)).size:Int))/\zw (((⟨#[45]⟩:Bt)).size+(((⟨#[48,49,50,51,52,53,54,55,56,57]⟩:Bt)).extract (XS .i64 (0-n0)).toNat (XS .i64 ((XS .i64 (0-n0))+1)).toNat).size)/\R ((⟨#[45]⟩:Bt)++(((⟨#[48,49,50,51,52,53,54,55,56,57]⟩:Bt)).extract (XS .i64 (0-n0)).toNat (XS .i64 ((XS .i64 (0-n0))+1)).toNat)))/\(decide (n0>(-10))=Tc->zbh=zbh/\(10:Int)≠0/\zbh=zbh/\(10:Int)≠0/\zbh=zbh/\(10:Int)≠0/\(0<=(XS .i64 (0-(n0.tmod 10)))/\(XS .i64 (0-(n0.tmod 10)))<=(XS .i64 ((XS .i64 (0-(n0.tmod 10)))+1))/\(XS .i64 ((XS .i64 (0-(n0.tmod 10)))+1):Int)<=(((⟨#[48,49,50,51,52,53,54,55,56,57]⟩:Bt)).size:Int))/\PC Tp gl 193 [Arg.mk (.int .i64) (XS .i64 (n0.tdiv 10))] [.str] (λb:Bt=>zw (b.size+(((⟨#[48,49,50,51,52,53,54,55,56,57]⟩:Bt)).extract (XS .i64 (0-(n0.tmod 10))).toNat (XS .i64 ((XS .i64 (0-(n0.tmod 10)))+1):Int).toNat).size)/\R (b++(((⟨#[48,49,50,51,52,53,54,55,56,57]⟩:Bt)).extract (XS .i64 (0-(n0.tmod 10))).toNat (XS .i64 ((XS .i64 (0-(n0.tmod 10)))+1):Int).toNat))))))):
  PC Tp gl 193 [Arg.mk (.int .i64) n0] [.str] R:=
 PF ⟨[],[(5,10,[],[0,1,3,4,5,6,7,8,9,2],[]),(8,12,[],[0,1,3,4,5,6,7,8,9,10,11,2],[])],[],[]⟩ [.tmp 2] 51 Tryz.func193 H
theorem LF(gl:Fr)(e:Bt)(R:Bool->Prop) (H:∃(a:Int->Prop) (b:Int->Nat),a 0/\∀c:Int,a c->((decide (c<e.size)=Ta->(0<=c/\c<e.size)/\((!(decide ((ze e c.toNat:Int)<48)))=Ta->(0<=c/\c<e.size))/\((bif (decide ((ze e c.toNat:Int)<48))then Ta else(decide ((ze e c.toNat:Int)>57)))=Ta->R Tc)/\((bif (decide ((ze e c.toNat:Int)<48))then Ta else(decide ((ze e c.toNat:Int)>57)))=Tc->(a (XS .i64 (c+1))/\b (XS .i64 (c+1))<b c)))/\(decide (c<e.size)=Tc->R (decide ((e.size:Int)>0))))):
  PC Tp gl 333 [Arg.mk .str e] [.bool] R:=
 PF ⟨[],[],[(2,⟨[(3,.one (.dat (.int .i64)))],[],[],[100192]⟩)],[]⟩ [.tmp 2] 23 Tryz.func333 H
theorem SA(gl:Fr)(a0:List Bt)(b1:List Bt)(R:Bool->Prop) (H:PC Tp gl 74 [Arg.mk (.row .str) a0,Arg.mk (.row .str) b1] [.int .i64] (λa:Int=>R (a==0))):
  PC Tp gl 40 [Arg.mk (.row .str) a0,Arg.mk (.row .str) b1] [.bool] R:=
 PF ⟨[],[],[],[]⟩ [.tmp 4] 9 Tryz.func40 H
theorem X3(gl:Fr)(a0:List Bt)(b1:List Bt)(R:Int->Prop) (H:∃(a:Int->Prop) (b:Int->Nat),a 0/\∀c:Int,a c->(((bif (decide (c<a0.length))then(decide (c<b1.length))else Tc)=Ta->∃d,(0<=c/\a0[c.toNat]?=Td d)/\∃e,(0<=c/\b1[c.toNat]?=Td e)/\((zcc d.toList e.toList)=Ta->R (-1))/\((zcc d.toList e.toList)=Tc->∃f,(0<=c/\a0[c.toNat]?=Td f)/\∃g,(0<=c/\b1[c.toNat]?=Td g)/\((!(zcc f.toList g.toList||(f.toList==g.toList)))=Ta->R 1)/\((!(zcc f.toList g.toList||(f.toList==g.toList)))=Tc->(a (XS .i64 (c+1))/\b (XS .i64 (c+1))<b c))))/\((bif (decide (c<a0.length))then(decide (c<b1.length))else Tc)=Tc->(decide ((a0.length:Int)<(b1.length:Int))=Ta->R (-1))/\(decide ((a0.length:Int)<(b1.length:Int))=Tc->(decide ((a0.length:Int)>(b1.length:Int))=Ta->R 1)/\(decide ((a0.length:Int)>(b1.length:Int))=Tc->R 0))))):
  PC Tp gl 74 [Arg.mk (.row .str) a0,Arg.mk (.row .str) b1] [.int .i64] R:=
 PF ⟨[],[],[(2,⟨[(5,.one (.dat (.int .i64)))],[],[],[100320]⟩)],[]⟩ [.tmp 4] 46 Tryz.func74 H

theorem Li(gl:Fr)(h:List Bt)(R:(Bt×Int)->Prop) (H:PC Tp gl 129 [Arg.mk (.row .str) h] [.bool] (λa:Bool=>((!a)=Ta->R ((⟨#[]⟩:Bt),1))/\((!a)=Tc->∃(b:(List Int)->Int->Prop) (c:(List Int)->Int->Nat),b [] 0/\∀d:List Int,∀e:Int,b d e->((decide (e<h.length)=Ta->((d.length+ZM ([47]:List Int))*1<=140737488355328/\∃(f:(List Int)->Int->Prop) (g:(List Int)->Int->Nat),f (d++[47]) 0/\∀i:List Int,∀j:Int,f i j->(∃k,(0<=e/\h[e.toNat]?=Td k)/\(decide (j<k.size)=Ta->∃l,(0<=e/\h[e.toNat]?=Td l)/\(0<=j/\j<l.size)/\(((ze l j.toNat:Int)==126)=Ta->((i.length+ZM (yg (⟨#[126,48]⟩:Bt)))*1<=140737488355328/\(f (i++(yg (⟨#[126,48]⟩:Bt))) (XS .i64 (j+1))/\g (i++(yg (⟨#[126,48]⟩:Bt))) (XS .i64 (j+1))<g i j)))/\(((ze l j.toNat:Int)==126)=Tc->(((ze l j.toNat:Int)==47)=Ta->((i.length+ZM (yg (⟨#[126,49]⟩:Bt)))*1<=140737488355328/\(f (i++(yg (⟨#[126,49]⟩:Bt))) (XS .i64 (j+1))/\g (i++(yg (⟨#[126,49]⟩:Bt))) (XS .i64 (j+1))<g i j)))/\(((ze l j.toNat:Int)==47)=Tc->((i.length+ZM ([ze l j.toNat]:List Int))*1<=140737488355328/\(f (i++[ze l j.toNat]) (XS .i64 (j+1))/\g (i++[ze l j.toNat]) (XS .i64 (j+1))<g i j)))))/\(decide (j<k.size)=Tc->(b i (XS .i64 (e+1))/\c i (XS .i64 (e+1))<c d e)))))/\(decide (e<h.length)=Tc->R (mX d,0)))))):
  PC Tp gl 76 [Arg.mk (.row .str) h] [.str,.int .i64] R:=
 PF ⟨[],[],[(6,⟨[(5,.one (.own 5 (.int .u8))),(6,.one (.dat (.int .i64)))],[],[],[100320,100384]⟩),(10,⟨[(5,.one (.own 5 (.int .u8))),(7,.one (.dat (.int .i64)))],[],[],[100320,100448]⟩)],[]⟩ [.tmp 2,.tmp 3] 51 Tryz.func76 H
end
section
abbrev bl(l:List UInt8):Bt:=⟨l.toArray⟩
abbrev lb(s:Bt):List UInt8:=s.data.toList
@[simp] theorem ww(l:List UInt8):lb (bl l)=l:=by simp[lb]
@[simp] theorem Qj(s:Bt):bl (lb s)=s:=by cases s;simp[lb,bl]
theorem nK{s t:Bt}:lb s=lb t↔s=t:=⟨λh=>by rw[<-Qj s,h,Qj],λh=>by rw[h]⟩
theorem Yv(s:Bt):(lb s).length=s.size:=by cases s;simp[lb,ByteArray.size]
theorem XQ(s t:Bt):lb (s++t)=lb s++lb t:=by cases s;cases t;simp[lb]
theorem Pq(s:Bt)(a b:Nat):lb (s.extract a b)=((lb s).drop a).take (b-a):=by cases s;simp[lb,ByteArray.data_extract,List.extract_eq_take_drop]
theorem tD(s:Bt)(i:Nat):ze s i=((((lb s)[i]?).getD 0).toNat:Int):=by cases s;simp[lb,ze]
theorem SO(s:Bt)(i:Nat):s.get! i=((lb s)[i]?).getD 0:=by
 cases s with
 |mk d=>simp[lb,ByteArray.get!,Array.getElem!_eq_getD];rfl
theorem yv(s:Bt)(i:Nat):0<=ze s i/\ze s i<256:=by rw[tD];have:=(((lb s)[i]?).getD 0).toNat_lt;omega
def dec(l:List UInt8):Nat×Nat:=Go.Lib.decodeN l.length (l.getD 0 0).toNat (l.getD 1 0).toNat (l.getD 2 0).toNat (l.getD 3 0).toNat
theorem zQ(s:Bt)(i:Nat):zdu s i=dec ((lb s).drop i):=by rw[Go.Lib.decode_at,dec];simp only[SO,YN,zaa,zai,Yv,zco]
theorem Z6(l:List UInt8):1<=(dec l).2/\(dec l).2<=4:=by
 unfold dec Go.Lib.decodeN;repeat' split
 all_goals simp
theorem uU{l:List UInt8}(h:l≠[]):(dec l).2<=l.length:=by
 have:0<l.length:=zav.2 h;unfold dec Go.Lib.decodeN;repeat' split
 all_goals simp only
 all_goals omega
def i9(d:Nat×Nat):Bool:=d.1==65533&&d.2==1
def Zv(l:List UInt8):Bool:=if h:l=[]then Ta else if i9 (dec l)then Tc else Zv (l.drop (dec l).2)
termination_by l.length
decreasing_by
 have h1:=Z6 l;have h2:0<l.length:=zav.2 h;simp only[zai];omega
theorem w0:Zv []=Ta:=by unfold Zv;simp
theorem Jo{l:List UInt8}(h:l≠[]):Zv l=if i9 (dec l)then Tc else Zv (l.drop (dec l).2):=by rw[Zv];simp[h]
theorem tP{c:UInt8}{l:List UInt8}(h:c.toNat<128):dec (c::l)=(c.toNat,1):=by simp[dec,Go.Lib.decodeN,h]
end
end Go.X
end
section
namespace Go.X
open Go Go.Lib
section
variable {i:Nat}
abbrev Bs:=List UInt8
theorem QX{sub:Bs}{b:UInt8}{l:Bs}(h:sub.isPrefixOf (b::l)=Ta):index (b::l) sub=0:=by unfold index;rw[zb h]
theorem TD{sub:Bs}{b:UInt8}{l:Bs}(h:sub.isPrefixOf (b::l)=Tc)(h':index l sub=-1):index (b::l) sub=-1:=by unfold index;rw[za (by simp[h]),zb (by simp[h'])]
theorem TM{sub:Bs}{b:UInt8}{l:Bs}(h:sub.isPrefixOf (b::l)=Tc)(h':index l sub=i):index (b::l) sub=((i+1:Nat):Int):=by
 unfold index;have:((i:Int)==-1)=Tc:=by rw[beq_eq_false_iff_ne];omega
 rw[za (by simp[h]),h',za (by simp[this])];omega
theorem vH(l sub:Bs):index l sub=-1\/∃i:Nat,index l sub=i:=by have:=index_ge l sub;by_cases h:index l sub=-1;exact .inl h;exact .inr ⟨(index l sub).toNat,by omega⟩
theorem VK{sub:Bs}(h:sub≠[]):index [] sub=-1:=by
 unfold index;cases sub with
 |nil=>exact absurd rfl h
 |cons a t=>rfl
theorem Ib{l sub:Bs}(h:index l sub=i):i+sub.length<=l.length:=by have:=index_room l sub (by omega);omega
def kq(old new:Bs)(s:Bs):Bs:=
 if h:old=[]\/index s old=-1 then s else s.take (index s old).toNat++new++kq old new (s.drop ((index s old).toNat+old.length))
termination_by s.length
decreasing_by
 have h1:old≠[]:=λe=>h (.inl e);have h2:0<old.length:=zav.2 h1;have h3:=index_ge s old;have h4:index s old≠-1:=λe=>h (.inr e);have h5:=index_room s old (by omega);simp only[zai];omega
theorem X4{old new s:Bs}(h:index s old=-1):kq old new s=s:=by rw[kq,dif_pos (.inr h)]
theorem vL{old new s:Bs}(b:old≠[])(h:index s old=i):kq old new s=s.take i++new++kq old new (s.drop (i+old.length)):=by rw[kq,dif_neg (λe=>e.elim b λe=>by omega),h];simp
theorem countFrom_fuel{sub:Bs}(b:sub≠[]):∀(f:Nat) (s:Bs),s.length<f->∀g,s.length<g->countFrom sub f s=countFrom sub g s
 |0,_,h,_,_=>absurd h (zao _)
 |f+1,s,hf,0,hg=>absurd hg (zao _)
 |f+1,s,hf,g+1,hg=>by
  unfold countFrom;rcases vH s sub with e|⟨i,e⟩;simp[e];have c:((i:Int)==-1)=Tc:=by rw[beq_eq_false_iff_ne];omega
  rw[e,za (by simp[c]),za (by simp[c])];have h1:=Ib e;have j:0<sub.length:=zav.2 b;rw[countFrom_fuel b f _ (by simp only[zai,XW];omega) g (by simp only[zai,XW];omega)]
theorem count_hit{sub s:Bs}(b:sub≠[])(e:index s sub=i):count s sub=1+count (s.drop (i+sub.length)) sub:=by
 have c:((i:Int)==-1)=Tc:=by rw[beq_eq_false_iff_ne];omega
 have h1:=Ib e;have f:0<sub.length:=zav.2 b;rw[count,countFrom,e,za (by simp[c]),count,XW,countFrom_fuel b s.length _ (by simp only[zai];omega) ((s.drop (i+sub.length)).length+1) (by omega)]
theorem EK{old new:Bs}(b:old≠[]):∀(k:Nat) (s:Bs),count s old<=k->replaceK old new k s=kq old new s
 |0,s,h=>by rcases vH s old with e|⟨i,e⟩;rw[X4 e];rfl;rw[count_hit b e]at h;omega
 |k+1,s,h=>by rcases vH s old with e|⟨i,e⟩;rw[X4 e,replaceK,zb (by simp[e])];rw[vL b e,replaceK_hit _ _ _ _ _ e,EK b k];rw[count_hit b e]at h;omega
theorem X5{old new s:Bs}(b:old≠[])(c:old≠new):replaceAll s old new=kq old new s:=by unfold replaceAll replace;rw[za (by simpa using c),replaceNum,zb (.inl (by omega))];exact EK b _ _ (XV _)
theorem RV{old new:Bs}(b:old≠[]):kq old new []=[]:=X4 (VK b)
theorem PY{old new:Bs}(c:old≠[])(b:UInt8)(l:Bs):kq old new (b::l)=if old.isPrefixOf (b::l)then new++kq old new ((b::l).drop old.length)else b::kq old new l:=by
 cases hp:old.isPrefixOf (b::l)with
 |true=>rw[vL (i:=0) c (QX hp)];simp
 |false=>simp only[zad,if_false];rcases vH l old with e|⟨i,e⟩;rw[X4 (TD hp e),X4 e];rw[vL c (TM hp e),vL c e,show i+1+old.length=(i+old.length)+1 by omega];simp
theorem sP(c:UInt8)(new:Bs):∀l:Bs,kq [c] new l=l.flatMap λx=>if x=c then new else [x]
 |[]=>RV (by simp)
 |b::l=>by rw[PY (by simp),za1];simp only[List.isPrefixOf,zcq,beq_iff_eq,ZF,List.drop_succ_cons,za2];rw[sP c new l];by_cases h:c=b;subst h;simp;rw[za h,za (λe=>h e.symm)];simp
end
end Go.X
end
section
namespace Go.X
section
variable {n b0 b1 b2 b3:Nat} {gl:Fr}
theorem vO{α:Type}{B:α->Prop}{c:Bool}{a b:α}(h:B (bif c then a else b)):∀K:α->Prop,(∀v,B v->K v)->(c=Ta->K a)/\(c=Tc->K b):= λK f=>⟨λe=>f _ (by subst e;exact h),λe=>f _ (by subst e;exact h)⟩
theorem TW(s:Bt)(i:Nat):XS .i64 (ze s i)=ze s i:=by have:=yv s i;exact wrap64 (by omega) (by omega)
theorem pW{n:Int}(h1:-2147483648<=n)(f:n<=2147483647):XS .i32 n=n:=by
 unfold XS;have e:(2:Int) ^ zah .i32=4294967296:=by decide
 have b:(2:Int) ^ (zah .i32-1)=2147483648:=by decide
 simp only[e,b];have c:zdi .i32=Ta:=rfl;simp only[c,zal,zv];split <;> omega
theorem Om(s:Bt)(a:Nat):dec ((lb s).drop a)=Lib.decodeN (s.size-a) (ze s a).toNat (ze s (a+1)).toNat (ze s (a+2)).toNat (ze s (a+3)).toNat:=by simp only[dec,tD,YN,zaa,zai,Yv,zco,XW]
def u6(c:Int):Int:=if c<128 then 1 else if 194<=c/\c<=223 then 2 else if 224<=c/\c<=239 then 3 else if 240<=c/\c<=244 then 4 else 0
theorem RF{c:Int}{R:Int->Prop}(h:R (u6 c)):PC Tp gl 309 [Arg.mk (.int .i64) c] [.int .i64] R:=by apply TC;unfold u6 at h;grind
theorem rF(h:b0<128):Lib.decodeN n b0 b1 b2 b3=(b0,1):=by unfold Lib.decodeN;rw[zb h]
theorem CZ(h:194<=b0/\b0<224)(h1:b1<256):Lib.decodeN n b0 b1 b2 b3=if 2<=n/\128<=b1/\b1<=191 then((b0-192)*64+(b1-128),2)else(65533,1):=by
 unfold Lib.decodeN;rw[za (by omega)];by_cases b:2<=n/\128<=b1/\b1<=191;have e:b0 % 32*64+b1 % 64=(b0-192)*64+(b1-128):=by omega
 rw[zb (by omega),zb (by omega),zb b,e];rw[za (by omega),za (by omega),za (by omega),za b]
theorem uR(h:224<=b0/\b0<240)(h1:b1<256)(c:b2<256):Lib.decodeN n b0 b1 b2 b3=
  if 3<=n/\(128<=b1/\b1<=191)/\(128<=b2/\b2<=191)/\2048<=((b0-224)*64+(b1-128))*64+(b2-128)/\(((b0-224)*64+(b1-128))*64+(b2-128)<55296\/57344<=((b0-224)*64+(b1-128))*64+(b2-128))
  then(((b0-224)*64+(b1-128))*64+(b2-128),3)else(65533,1):=by
 unfold Lib.decodeN;rw[za (by omega),za (by omega)];by_cases b:3<=n/\(128<=b1/\b1<=191)/\(128<=b2/\b2<=191);rw[zb (by omega)];have e:b0 % 16*4096+b1 % 64*64+b2 % 64=((b0-224)*64+(b1-128))*64+(b2-128):=by omega
 rw[e];split <;> rename_i f;rw[zb (by omega)];rw[za (by omega)];rw[za (by omega),za (by omega),za (by omega)]
theorem F7(h:240<=b0/\b0<245)(h1:b1<256)(f:b2<256)(b:b3<256):Lib.decodeN n b0 b1 b2 b3=
  if 4<=n/\(128<=b1/\b1<=191)/\(128<=b2/\b2<=191)/\(128<=b3/\b3<=191)/\65536<=(((b0-240)*64+(b1-128))*64+(b2-128))*64+(b3-128)/\(((b0-240)*64+(b1-128))*64+(b2-128))*64+(b3-128)<=1114111
  then((((b0-240)*64+(b1-128))*64+(b2-128))*64+(b3-128),4)else(65533,1):=by
 unfold Lib.decodeN;rw[za (by omega),za (by omega),za (by omega)];by_cases c:4<=n/\(128<=b1/\b1<=191)/\(128<=b2/\b2<=191)/\(128<=b3/\b3<=191);rw[zb (by omega)];have e:b0 % 8*262144+b1 % 64*4096+b2 % 64*64+b3 % 64=(((b0-240)*64+(b1-128))*64+(b2-128))*64+(b3-128):=by omega
 rw[e];split <;> rename_i i;rw[zb (by omega)];rw[za (by omega)];rw[za (by omega),za (by omega)]
def rS(s:Bt)(b:Int):Int×Int:=if b<0\/b>=s.size then(0,0)else(((dec ((lb s).drop b.toNat)).1:Int),((dec ((lb s).drop b.toNat)).2:Int))
set_option maxHeartbeats 1000000 in
theorem Cm{s:Bt}{j:Int}{R:Int×Int->Prop}(hs:(s.size:Int)<=4611686018427387904)(h:R (rS s j)):PC Tp gl 259 [Arg.mk .str s,Arg.mk (.int .i64) j] [.int .i32,.int .i64] R:=by
 apply Uu;unfold rS at h;refine⟨λT=>?_,λT=>?_⟩;rw[zb (by grind)]at h;exact h
 ·have O:0<=j/\j<(s.size:Int):=by grind
  rw[za (by omega),Om]at h;refine⟨O,RF ?_⟩;obtain⟨a,rfl⟩:∃a:Nat,j=(a:Int):=⟨j.toNat,by omega⟩;simp only[XW,TW]at h ⊢;have r0:=yv s a;have r1:=yv s (a+1);have r2:=yv s (a+2);have r3:=yv s (a+3);have ix:∀i:Int,1<=i->i<=4->(XS .i64 ((a:Int)+i))=(a:Int)+i:=λi h1 h2=>wrap64 (by omega) (by omega);have e1:((a:Int)+1).toNat=a+1:=by omega
  have e2:((a:Int)+2).toNat=a+2:=by omega
  have e3:((a:Int)+3).toNat=a+3:=by omega
  have G:XS .i64 ((s.size:Int)-(a:Int))=(s.size:Int)-(a:Int):=wrap64 (by omega) (by omega);rw[G];generalize r:u6 (ze s a)=n;unfold u6 at r;generalize ae:ze s a=b0 at *;refine⟨λx=>?_,λx=>⟨O,?_⟩⟩
  ·have:Lib.decodeN (s.size-a) b0.toNat (ze s (a+1)).toNat (ze s (a+2)).toNat (ze s (a+3)).toNat=(65533,1):=by
    have L:n=0\/n>(s.size:Int)-a:=by grind
    unfold Lib.decodeN;repeat' split
    all_goals first|rfl|(exfalso;split at r <;> first|omega|(split at r <;> first|omega|(split at r <;> first|omega|(split at r <;> omega))))
   rw[this]at h;exact h
  ·have L:n≠0/\n<=(s.size:Int)-a:=by grind
   apply vO;apply vO;apply vO;have u:(bif n==4 then XS .i64 ((bif n==3 then XS .i64 ((bif n==2 then XS .i64 (b0-192)else b0)-224)else bif n==2 then XS .i64 (b0-192)else b0)-240)else bif n==3 then XS .i64 ((bif n==2 then XS .i64 (b0-192)else b0)-224)else bif n==2 then XS .i64 (b0-192)else b0)
     = (if n=4 then b0-240 else if n=3 then b0-224 else if n=2 then b0-192 else b0):=by
    have w1:XS .i64 (b0-192)=b0-192:=wrap64 (by omega) (by omega);have w2:XS .i64 (b0-224)=b0-224:=wrap64 (by omega) (by omega);have U:XS .i64 (b0-240)=b0-240:=wrap64 (by omega) (by omega);grind
   rw[u];generalize ab:(if n=4 then b0-240 else if n=3 then b0-224 else if n=2 then b0-192 else b0)=v1;have S:0<=v1/\v1<128:=by grind
   have Q:n=4->v1<=4:=by grind
   generalize z:ze s (a+1)=b1 at *;generalize y:ze s (a+2)=b2 at *;generalize A:ze s (a+3)=b3 at *;have q1:=yv s (a+1);have q2:=yv s (a+2);have Z:=yv s (a+3);rw[z]at q1;rw[y]at q2;rw[A]at Z;obtain⟨N,hN⟩:∃N:Nat,s.size-a=N:=⟨_,rfl⟩;have ac:(N:Int)=s.size-a:=by omega
   rw[hN]at h;have t:n=1\/n=2\/n=3\/n=4:=by grind
   have w:∀v:Int,(n=1->v=v1)->(n=2->(128<=b1/\b1<=191)/\v=64*v1+b1-128)->(n=3->(128<=b1/\b1<=191)/\(128<=b2/\b2<=191)/\v=64*(64*v1+b1-128)+b2-128) -> (n=4->(128<=b1/\b1<=191)/\(128<=b2/\b2<=191)/\(128<=b3/\b3<=191)/\v=64*(64*(64*v1+b1-128)+b2-128)+b3-128) ->
     (((n=3/\v<2048)\/(n=4/\v<65536)\/v>1114111\/(v>=55296/\v<57344))->R (65533,1))/\(¬((n=3/\v<2048)\/(n=4/\v<65536)\/v>1114111\/(v>=55296/\v<57344))->R (XS .i32 v,n)):=by
    intro v k1 k2 Y k4;rcases t with rfl|rfl|rfl|rfl;have c:b0<128:=by grind
    have:=k1 rfl;have l:v1=b0:=by grind
    rw[rF (by omega)]at h;refine⟨λm=>by omega,λ_=>?_⟩;rw[pW (by omega) (by omega)];have e:((b0.toNat:Nat):Int)=v:=by omega
    simp only[e]at h;exact h;have c:194<=b0/\b0<224:=by grind
    obtain⟨c1,u⟩:=k2 rfl;have l:v1=b0-192:=by grind
    rw[CZ (by omega) (by omega),zb (by omega)]at h;refine⟨λm=>by omega,λ_=>?_⟩;rw[pW (by omega) (by omega)];have e:(((b0.toNat-192)*64+(b1.toNat-128):Nat):Int)=v:=by omega
    simp only[e]at h;exact h;have c:224<=b0/\b0<240:=by grind
    obtain⟨c1,c2,u⟩:=Y rfl;have l:v1=b0-224:=by grind
    have e:((((b0.toNat-224)*64+(b1.toNat-128))*64+(b2.toNat-128):Nat):Int)=v:=by omega
    rw[uR (by omega) (by omega) (by omega)]at h;refine⟨λm=>?_,λm=>?_⟩;rw[za (by omega)]at h;exact h;rw[zb (by omega)]at h;rw[pW (by omega) (by omega)];simp only[e]at h;exact h;have c:240<=b0/\b0<245:=by grind
    obtain⟨c1,c2,c3,u⟩:=k4 rfl;have l:v1=b0-240:=by grind
    have e:(((((b0.toNat-240)*64+(b1.toNat-128))*64+(b2.toNat-128))*64+(b3.toNat-128):Nat):Int)=v:=by omega
    rw[F7 (by omega) (by omega) (by omega) (by omega)]at h;refine⟨λm=>?_,λm=>?_⟩;rw[za (by omega)]at h;exact h;rw[zb (by omega)]at h;rw[pW (by omega) (by omega)];simp only[e]at h;exact h
   have F:∀i:Int,1<=i->i<n->((i=1/\¬(128<=b1/\b1<=191))\/(i=2/\¬(128<=b2/\b2<=191))\/(i=3/\¬(128<=b3/\b3<=191)))->R (65533,1):=by
    intro i D M m;rcases t with rfl|rfl|rfl|rfl;omega;have c:194<=b0/\b0<224:=by grind
    rw[CZ (by omega) (by omega),za (by omega)]at h;exact h;have c:224<=b0/\b0<240:=by grind
    rw[uR (by omega) (by omega) (by omega),za (by omega)]at h;exact h;have c:240<=b0/\b0<245:=by grind
    rw[F7 (by omega) (by omega) (by omega) (by omega),za (by omega)]at h;exact h
   clear h r u T x;refine⟨λv i=>1<=i/\i<=n/\(0<=v/\v<2097152)/\(i=1->v=v1)/\(i=2->(128<=b1/\b1<=191)/\v=64*v1+b1-128)/\(i=3->(128<=b1/\b1<=191)/\(128<=b2/\b2<=191)/\v=64*(64*v1+b1-128)+b2-128) /\ (i=4->(128<=b1/\b1<=191)/\(128<=b2/\b2<=191)/\(128<=b3/\b3<=191)/\v=64*(64*(64*v1+b1-128)+b2-128)+b3-128),λv i=>(n-i).toNat,by omega,λv i hi=>⟨λH=>?_,λH=>?_⟩⟩;have p:i<n:=by simpa using H
   obtain⟨D,M,j0,B,E,C,P⟩:=hi;rw[ix i D (by omega)];obtain⟨b,k⟩:∃b,ze s ((a:Int)+i).toNat=b:=⟨_,rfl⟩;have f:(i=1->b=b1)/\(i=2->b=b2)/\(i=3->b=b3):=by refine⟨λe=>?_,λe=>?_,λe=>?_⟩ <;> subst e;rw[<-k,e1,z];rw[<-k,e2,y];rw[<-k,e3,A]
   rw[k];have I:=yv s ((a:Int)+i).toNat;rw[k]at I;refine⟨by omega,λhq=>F i D p ?_,λhq=>?_⟩;have:b<128\/b>191:=by grind
   omega;have aa:¬(b<128\/b>191):=by grind
   have w1:XS .i64 (64*v)=64*v:=wrap64 (by omega) (by omega);have w2:XS .i64 (64*v+b)=64*v+b:=wrap64 (by omega) (by omega);have U:XS .i64 (64*v+b-128)=64*v+b-128:=wrap64 (by omega) (by omega);have V:XS .i64 (i+1)=i+1:=wrap64 (by omega) (by omega);rw[w1,w2,U,V];have J:i=1\/i=2\/i=3:=by omega
   dsimp only;refine⟨⟨by omega,by omega,?_,by omega,?_,?_,?_⟩,by omega⟩;rcases J with rfl|rfl|rfl;have:=B rfl;have:=f.1 rfl;omega;have:=E rfl;have:=f.2.1 rfl;omega;have:=C rfl;have:=f.2.2 rfl;omega;intro e;have o:i=1:=by omega
   have:=B o;have:=f.1 o;omega;intro e;have o:i=2:=by omega
   have:=E o;have:=f.2.1 o;omega;intro e;have o:i=3:=by omega
   have:=C o;have:=f.2.2 o;omega;have p:i=n:=by(have:¬i<n:=by simpa using H);omega
   subst p;obtain⟨D,M,j0,B,E,C,P⟩:=hi;obtain⟨g1,g2⟩:=w v B E C P;refine⟨λm=>g1 ?_,λm=>g2 ?_⟩;grind;grind
def vl(s:Bt)(a:Nat):Bool:=!i9 (dec ((lb s).drop a))
theorem Kr{s:Bt}{a:Nat}{R:Bool->Prop}(l:a<s.size)(j:(s.size:Int)<=4611686018427387904)(h:R (vl s a)):PC Tp gl 258 [Arg.mk .str s,Arg.mk (.int .i64) a] [.bool] R:=by
 apply QE;refine Cm j ?_;have b:=Z6 ((lb s).drop a);unfold vl i9 at h;have e:rS s (a:Int)=(((dec ((lb s).drop a)).1:Int),((dec ((lb s).drop a)).2:Int)):=by unfold rS;rw[za (by omega)];rfl
 rw[e];obtain⟨d,c⟩:∃d,dec ((lb s).drop a)=d:=⟨_,rfl⟩;rw[c]at h b ⊢;have f:decide (((d.2:Nat):Int)>0)=Ta:=by simp;omega
 have k:((((d.1:Nat):Int))==65533)=(d.1==65533):=by rw[YW];simp;omega
 have i:((((d.2:Nat):Int))==1)=(d.2==1):=by rw[YW];simp;omega
 show R (bif decide (((d.2:Nat):Int)>0)then !bif (((d.1:Nat):Int))==65533 then(((d.2:Nat):Int))==1 else Tc else Tc);rw[f,k,i];simpa only[zI,zak]using h
theorem UD{s:Bt}{R:Int×Bool->Prop}(l:(s.size:Int)<=4611686018427387904)(h:∀k,R (k,Zv (lb s))):PC Tp gl 203 [Arg.mk .str s] [.int .i64,.bool] R:=by
 apply WR;refine⟨λa=>0<=a/\a<=(s.size:Int)/\Zv (lb s)=Zv ((lb s).drop a.toNat),λa=>((s.size:Int)-a).toNat,⟨by omega,by omega,by simp⟩,λa ⟨h0,h1,b⟩=>⟨λj=>?_,λj=>?_⟩⟩;have i:a<(s.size:Int):=by simpa using j
 obtain⟨k,rfl⟩:∃k:Nat,a=(k:Int):=⟨a.toNat,by omega⟩;simp only[XW]at b;have c:(lb s).drop k≠[]:=by intro e;have:=congrArg ZM e;simp only[zai,Yv,zag]at this;omega
 rw[Jo c]at b;refine Kr (by omega) l ⟨λf=>?_,λf=>?_⟩;have:i9 (dec ((lb s).drop k))=Ta:=by simpa[vl]using f
 rw[this]at b;have:=h k;rw[b]at this;exact this;have n:i9 (dec ((lb s).drop k))=Tc:=by simpa[vl]using f
 rw[n]at b;simp only[zad,if_false,zcv]at b;refine Cm l ?_;unfold rS;rw[za (by omega)];simp only[XW];have o:=Z6 ((lb s).drop k);have m:=uU c;simp only[zai,Yv]at m;have w:XS .i64 ((k:Int)+((dec ((lb s).drop k)).2:Int))=((k+(dec ((lb s).drop k)).2:Nat):Int):=by rw[wrap64 (by omega) (by omega)];omega
 rw[w];refine⟨⟨by omega,by omega,?_⟩,by omega⟩;rw[XW];exact b;have i:¬a<(s.size:Int):=by simpa using j
 have:(lb s).drop a.toNat=[]:=zaw (by rw[Yv];omega);rw[this,w0]at b;rw[<-b];exact h _
end
end Go.X
end
section
namespace Go.X
open Go Go.Proofs Go.Shelf Go.RowKit
section
def RO:Go.Shelf.Ren:=⟨fun|161=>218|231=>270|227=>271|233=>272|235=>273|228=>321|197=>247|151=>322|260=>298|152=>369|137=>319|119=>394|224=>358|225=>357|217=>356|266=>385|n=>n,fun|9=>9|4=>4|3=>3|5=>5|117=>281|116=>280|0=>0|124=>284|105=>256|21=>21|119=>305|46=>123|139=>308|138=>307|n=>n,fun|3=>0|4=>1|n=>n⟩
theorem Vo:Go.Proofs.Lays.n161 Tp RO:=by constructor <;> intros <;> kernel_rfl
theorem Xf(s:Bt)(c:UInt8)(b:c.toNat<128)(w:World): Calls Tp 218 #[.string s,.string ⟨#[c]⟩] w λe w'=>e=.returned (.string ⟨(Lib.trimLeftB s.data.toList c).toArray⟩)/\w'=w:=Any.strings_TrimLeft_one Vo s c b w
def RU:Go.Shelf.Ren:=⟨fun|162=>219|232=>274|227=>271|234=>275|236=>276|228=>321|271=>323|151=>322|120=>370|197=>247|152=>369|260=>298|137=>319|119=>394|224=>358|225=>357|217=>356|266=>385|n=>n,fun|9=>9|4=>4|3=>3|5=>5|117=>281|116=>280|0=>0|124=>284|21=>21|105=>256|46=>123|119=>305|139=>308|138=>307|n=>n,fun|3=>0|4=>1|n=>n⟩
theorem Me:Go.Proofs.Lays.n162 Tp RU:=by constructor <;> intros <;> kernel_rfl
theorem Wm(s:Bt)(c:UInt8)(b:c.toNat<128)(w:World)(f:s.size<=9223372036854775807): Calls Tp 219 #[.string s,.string ⟨#[c]⟩] w λe w'=>e=.returned (.string ⟨(Lib.trimRightB s.data.toList c).toArray⟩)/\w'=w:=Any.strings_TrimRight_one Me s c b w f
def Oh:Go.Shelf.Ren:=⟨fun|137=>319|217=>356|266=>385|n=>n,fun|9=>9|5=>5|3=>3|n=>n,fun|n=>n⟩
theorem T0:Go.Proofs.Lays.n137 Tp Oh:=by constructor <;> intros <;> kernel_rfl
theorem ND(s:Bt)(c:Int)(w:World): Calls Tp 319 #[.string s,.int .u8 c] w λe w'=>e=.returned (.int .i64 (Lib.indexByte s.data.toList c.toNat.toUInt8))/\w'=w:=Any.strings_IndexByte T0 s c w
def KL:Go.Shelf.Ren:=⟨fun|103=>267|210=>318|206=>306|n=>n,fun|9=>9|4=>4|24=>274|3=>3|n=>n,fun|n=>n⟩
theorem SC:Go.Proofs.Lays.n103 Tp KL:=by constructor <;> intros <;> kernel_rfl
theorem MV(s p:Bt)(w:World): Calls Tp 267 #[.string s,.string p] w λe w'=>e=.returned (.tuple #[.string ⟨(Lib.trimPrefix s.data.toList p.data.toList).toArray⟩,.bool (Lib.hasPrefix s.data.toList p.data.toList)])/\w'=w:=Any.strings_CutPrefix SC s p w
def UR:Go.Shelf.Ren:=⟨fun|242=>248|278=>299|n=>n,fun|37=>87|21=>21|51=>176|4=>4|5=>5|46=>123|n=>n,fun|n=>n⟩
theorem RY:Go.Proofs.Lays.n242 Tp UR:=by constructor <;> intros <;> kernel_rfl
theorem Wn(B:Nat)(v:Value)(n:Nat)(xs:List Value)(r:Int)(f:-2147483648<=r)(i:r<=2147483647)(w:World)(b:w.ownsRow B 5 1 v n xs)(c:n+4<=140737488355328)(h:B<=w.heap.size): Calls Tp 248 #[v,.int .i32 r] w λe w'=>∃j,e=.returned j/\w'.ownsRow B 5 1 j (n+(Lib.runeCells r).length) (xs++Lib.runeCells r)/\∃o,(w.alloc o).grownBy w' v.ownBlock:=Any.utf8_AppendRune_plain RY (by kernel_rfl) B v n xs r f i w b c h
def Ut:Go.Shelf.Ren:=⟨fun|171=>159|243=>216|246=>249|283=>300|284=>301|285=>302|286=>303|129=>178|317=>352|318=>353|319=>354|320=>355|337=>383|338=>384|n=>n,fun|3=>3|9=>9|2=>2|4=>4|171=>309|0=>0|53=>178|37=>87|5=>5|173=>311|212=>349|51=>176|20=>20|213=>350|46=>123|232=>384|233=>385|n=>n,fun|17=>2|18=>6|19=>7|n=>n⟩
theorem NB:Go.Proofs.LaysM.n171 Tp Ut:=by repeat' first|(intros;kernel_rfl)|constructor
open Go.RowKit Go.Sort Go.Lib in
theorem Rm(n : Int)(h0 : -9223372036854775808 ≤ n)(h1 : n ≤ 9223372036854775807)(w : World)(htab : Lib.TabIs Tp w "internal/strconv.uint64pow10" .u64 Lib.pow10Tab): Calls Tp 159 #[.int .i64 n] w λe w'=>e=.returned (.string ⟨(Lib.itoa n).toArray⟩)/\∃k os,w'=grow (w.drewN k) os:=Any.strconv_Itoa NB n h0 h1 w htab
def TH:Go.Shelf.Ren:=⟨fun|174=>262|247=>313|245=>314|287=>360|279=>361|280=>362|281=>363|282=>364|321=>387|322=>388|316=>389|171=>159|205=>390|243=>216|246=>249|283=>300|284=>301|285=>302|286=>303|129=>178|317=>352|318=>353|319=>354|320=>355|337=>383|338=>384|n=>n,fun|9=>9|3=>3|2=>2|75=>91|85=>269|4=>4|167=>351|5=>5|53=>178|175=>352|46=>123|168=>354|37=>87|0=>0|210=>376|21=>21|127=>133|145=>388|143=>386|171=>309|173=>311|212=>349|51=>176|20=>20|213=>350|232=>384|233=>385|80=>95|n=>n,fun|15=>4|16=>5|17=>2|18=>6|19=>7|n=>n⟩
theorem Bo:Go.Proofs.LaysC.n174 Tp TH:=by repeat' first|(intros;kernel_rfl)|constructor
theorem Qe(s:Bt)(b:s.size<=9223372036854775806)(v:Int)(h:Lib.parseIntB 64 s.data.toList=.ok v)(w:World): Calls Tp 262 #[.string s,.int .i64 10,.int .i64 64] w λe w'=>e=.returned (.tuple #[.int .i64 v,.nilIface])/\(w'=w\/∃t,w'=Lib.bytesWorld w 5 t):=Any.strconv_ParseInt_10_at64_ok Bo s b v h w
theorem Za(s:Bt)(c:s.size<=281474976710656)(h:Lib.parseIntB 64 s.data.toList=Lib.parseIntB 64 [])(b:Value)(w:World)(j:w.cell? ⟨4,0,Te⟩=Td b)(f:b=.nilIface\/∃i k,b=.iface i k): Calls Tp 262 #[.string s,.int .i64 10,.int .i64 64] w λe w'=>∃N,e=.returned (.tuple #[.int .i64 (0),.iface 354 (.pointer (Td ⟨N,0,Te⟩))])/\w.heap.size<=N/\w'.heap[N]?=Td (.cells #[.string ⟨#[80,97,114,115,101,73,110,116]⟩,.string s,b] 376 (0,0))/\Below w.heap.size w w':=Any.strconv_ParseInt_10_at64_syntax Bo s c h b w j f
theorem Zj(s:Bt)(c:s.size<=281474976710656)(h:Lib.parseIntB 64 s.data.toList=.range)(b:Value)(w:World)(j:w.cell? ⟨5,0,Te⟩=Td b)(f:b=.nilIface\/∃i k,b=.iface i k): Calls Tp 262 #[.string s,.int .i64 10,.int .i64 64] w λe w'=>∃N,e=.returned (.tuple #[.int .i64 (Lib.intSat 64 s.data.toList),.iface 354 (.pointer (Td ⟨N,0,Te⟩))])/\w.heap.size<=N/\w'.heap[N]?=Td (.cells #[.string ⟨#[80,97,114,115,101,73,110,116]⟩,.string s,b] 376 (0,0))/\Below w.heap.size w w':=Any.strconv_ParseInt_10_at64_range Bo s c h b w j f
def LU:Go.Shelf.Ren:=⟨fun|101=>269|208=>320|206=>306|n=>n,fun|9=>9|4=>4|3=>3|n=>n,fun|n=>n⟩
theorem NQ:Go.Proofs.Lays.n101 Tp LU:=by constructor <;> intros <;> kernel_rfl
open Go.RowKit Go.Lib in
theorem Nv(s p:Bt)(w:World): Calls Tp 269 #[.string s,.string p] w λe w'=>e=.returned (.string ⟨(Lib.trimPrefix s.data.toList p.data.toList).toArray⟩)/\w'=w:=Any.strings_TrimPrefix NQ s p w
def Fq:Go.Shelf.Ren:=⟨fun|155=>134|154=>205|138=>260|165=>202|143=>261|166=>68|197=>247|169=>70|195=>310|218=>311|240=>123|241=>257|219=>312|260=>298|276=>195|277=>308|217=>356|225=>357|224=>358|267=>359|266=>385|314=>386|n=>n,fun|9=>9|3=>3|4=>4|72=>89|0=>0|76=>92|105=>256|21=>21|5=>5|70=>86|20=>20|37=>87|75=>91|127=>133|164=>199|46=>123|119=>305|139=>308|138=>307|146=>313|51=>176|80=>95|n=>n,fun|1=>3|3=>0|4=>1|n=>n⟩
theorem OO:Go.Proofs.Lays.n155 Tp Fq:=by constructor <;> intros <;> kernel_rfl
theorem Uw:Builder.Extra Tp Fq:={
 sizeBuilder:=by kernel_rfl
 liesBuilder:=by kernel_rfl
 t5:=zdb
 a5:=Tryz.isAgg5
 z5:=Tryz.sizeOf5
 v5:=Tryz.zeroValue5
 infoByte:=by kernel_rfl
 cellsByte:=by kernel_rfl
 sizeByte:=by kernel_rfl
 neB5:=by decide }
open Go.RowKit Go.Lib in
theorem Vj(s old new:Bt)(m:Int)(w:World)(f:s.size<4294967281)(c:w.cell? ⟨3,0,Te⟩=Td (.int .i64 m))(h1:1<=old.size)(b:s.size+Lib.countB s old*new.size<=140737488355328):
  Calls Tp 134 #[.string s,.string old,.string new] w λe w'=>
   e=.returned (.string ⟨(Lib.replaceAll s.data.toList old.data.toList new.data.toList).toArray⟩)/\Below w.heap.size w w':=Any.strings_ReplaceAll OO Uw s old new m w f c h1 b
def LR:Go.Shelf.Ren:=⟨fun|197=>247|260=>298|n=>n,fun|9=>9|21=>21|3=>3|4=>4|5=>5|105=>256|119=>305|0=>0|46=>123|139=>308|138=>307|n=>n,fun|3=>0|4=>1|n=>n⟩
theorem QQ:Go.Proofs.Lays.n197 Tp LR:=by constructor <;> intros <;> kernel_rfl
def FM:Go.Shelf.Ren:=⟨fun|105=>200|212=>250|99=>251|165=>202|166=>68|170=>252|169=>70|263=>304|264=>305|206=>306|240=>123|241=>257|276=>195|277=>308|n=>n,fun|9=>9|3=>3|4=>4|20=>20|0=>0|46=>123|109=>259|5=>5|72=>89|76=>92|51=>176|146=>313|53=>178|148=>315|70=>86|37=>87|75=>91|127=>133|164=>199|80=>95|n=>n,fun|n=>n⟩
theorem WW:Go.Proofs.Lays.n105 Tp FM:=by constructor <;> intros <;> kernel_rfl
theorem L4:Builder.Extra Tp FM:={
 sizeBuilder:=by kernel_rfl
 liesBuilder:=by kernel_rfl
 t5:=zdb
 a5:=Tryz.isAgg5
 z5:=Tryz.sizeOf5
 v5:=Tryz.zeroValue5
 infoByte:=by kernel_rfl
 cellsByte:=by kernel_rfl
 sizeByte:=by kernel_rfl
 neB5:=by decide }
open Go.RowKit Go.Lib in
theorem MD(s:Bt)(c:Nat)(w:World)(f:c<=9223372036854775807)(b:s.size*c<=140737488355328): Calls Tp 200 #[.string s,.int .i64 c] w λe w'=>e=.returned (.string ⟨(Lib.repeatL s.data.toList c).toArray⟩)/\Below w.heap.size w w':=Any.strings_Repeat WW L4 s c w f b
open Go.RowKit Go.Lib in
theorem Y3(s:Bt)(w:World)(b:Lib.Utf8Tabs 0 1 w): Calls Tp 247 #[.string s] w λe w'=>e=.returned (.tuple #[.int .i32 (Lib.decodeGo s).1,.int .i64 (Lib.decodeGo s).2])/\Below w.heap.size w w':=Any.utf8_DecodeRuneInString QQ s w b
end
end Go.X
end
section
namespace Go.X
open Go Go.X Go.Proofs Go.RowKit
section
variable {gl M:Fr}
theorem NZ{s:Bt}{c:Int}{R:Int->Prop}(h:R (Lib.indexByte (lb s) c.toNat.toUInt8)):PC Tp gl 319 [Arg.mk .str s,Arg.mk (.int .u8) c] [.int .i64] R:= PC.of_same rfl (λ_=>Uf _ _) h λw _=>ND s c w
theorem SH{s p:Bt}{R:Bt×Bool->Prop}(h:R (bl (Lib.trimPrefix (lb s) (lb p)),Lib.hasPrefix (lb s) (lb p))):PC Tp gl 267 [Arg.mk .str s,Arg.mk .str p] [.str,.bool] R:= PC.of_same rfl (λM=>⟨[_,_],⟨_,_,rfl,rfl,_,rfl,rfl⟩,rfl⟩) h λw _=>MV s p w
theorem NI{s p:Bt}{R:Bt->Prop}(h:R (bl (Lib.trimPrefix (lb s) (lb p)))):PC Tp gl 269 [Arg.mk .str s,Arg.mk .str p] [.str] R:= PC.of_same rfl (λ_=>oN _) h λw _=>Nv s p w
theorem OP{s:Bt}{c:UInt8}(b:c.toNat<128){R:Bt->Prop}(h:R (bl (Lib.trimLeftB (lb s) c))):PC Tp gl 218 [Arg.mk .str s,Arg.mk .str ⟨#[c]⟩] [.str] R:= PC.of_same rfl (λ_=>oN _) h λw _=>Xf s c b w
theorem Sj{s:Bt}{c:UInt8}(e:c.toNat<128)(b:s.size<=9223372036854775807){R:Bt->Prop}(h:R (bl (Lib.trimRightB (lb s) c))):PC Tp gl 219 [Arg.mk .str s,Arg.mk .str ⟨#[c]⟩] [.str] R:= PC.of_same rfl (λ_=>oN _) h λw _=>Wm s c e w b
def yV(gl:Fr):Prop:=∃(cs:Array Value) (m:Int),gl 3=Td cs/\cs[0]?=Td (.int .i64 m)
theorem WS(j:yV gl){s old new:Bt}(i:s.size<4294967281)(c:1<=old.size)(b:s.size+Lib.countB s old*new.size<=140737488355328){R:Bt->Prop}(h:R (bl (Lib.replaceAll (lb s) (lb old) (lb new)))):
  PC Tp gl 134 [Arg.mk .str s,Arg.mk .str old,Arg.mk .str new] [.str] R:=by
 obtain⟨cs,m,h1,f⟩:=j;exact PC.of_scal rfl (λ_=>oN _) h λw e=>Vj s old new m w i (e.glob h1 f) c b
theorem wW{s:Bt}{c:Nat}(e:c<=9223372036854775807)(b:s.size*c<=140737488355328){R:Bt->Prop}(h:R (bl (Lib.repeatL (lb s) c))):PC Tp gl 200 [Arg.mk .str s,Arg.mk (.int .i64) (c:Int)] [.str] R:= PC.of_scal rfl (λ_=>oN _) h λw f=>MD s c w e b
def Tabs(gl:Fr):Prop:=(∃cs:Array Value,gl 0=Td cs/\∀c,c<256->cs[c]?=Td (.int .u8 (Lib.firstT c)))/\∃cs:Array Value,gl 1=Td cs/\∀i,i<16->cs[2*i]?=Td (.int .u8 (Lib.accLo i))/\cs[2*i+1]?=Td (.int .u8 (Lib.accHi i))
theorem Tabs.at(h:Tabs gl){w:World}(b:AgM gl w.heap):Lib.Utf8Tabs 0 1 w:=by obtain⟨⟨c1,a1,b1⟩,c2,a2,b2⟩:=h;exact⟨λc e=>b.glob a1 (b1 c e),λi hi=>⟨b.glob a2 (b2 i hi).1,b.glob a2 (b2 i hi).2⟩⟩
theorem QL(c:Tabs gl){s:Bt}{R:Int×Int->Prop}(h:R ((Lib.decodeGo s).1,(Lib.decodeGo s).2)):PC Tp gl 247 [Arg.mk .str s] [.int .i32,.int .i64] R:= PC.of_scal rfl (λM=>⟨[_,_],⟨_,_,rfl,rfl,_,rfl,rfl⟩,rfl⟩) h λw b=>Y3 s w (c.at b)
theorem V3(w:World)(k:Nat)(os:Array Obj):Below w.heap.size w (Go.Sort.grow (w.drewN k) os):=⟨rfl,rfl,rfl,by simp[Go.Sort.grow,World.drewN],λi hi=>by show((w.drewN k).heap++os)[i]?=_;exact zb0 hi⟩
def rH(gl : Fr): Prop := ∃ b cs, Tryz.prog.globalNamed "internal/strconv.uint64pow10" = some b ∧ gl b = some cs ∧ cs = (Lib.pow10Tab.map λz => Value.int .u64 z).toArray
theorem vY(i:rH gl){n:Int}(h0:-9223372036854775808<=n)(h1:n<=9223372036854775807){R:Bt->Prop}(h:R (bl (Lib.itoa n))):PC Tp gl 159 [Arg.mk (.int .i64) n] [.str] R:=by obtain⟨b,cs,j,r,l⟩:=i;refine PC.of_scal rfl (λ_=>oN _) h λw f=>(Rm n h0 h1 w ?_).mono λe w' ⟨o,k,os,c⟩=>⟨o,c ▸ V3 w k os⟩;obtain⟨T,m,p⟩:=f b cs r;unfold Lib.TabIs World.var?;rw[j];simp only[zbj,p,l]
def F0(gl:Fr):Prop:=(∃(cs:Array Value) (e:Value),gl 4=Td cs/\cs[0]?=Td e/\(e=.nilIface\/∃b c,e=.iface b c))/\∃(cs:Array Value) (e:Value),gl 5=Td cs/\cs[0]?=Td e/\(e=.nilIface\/∃b c,e=.iface b c)
theorem FA(k:IntKind)(i:Int)(t:TypeId)(u:Value):ig M [.int k,.err] (i,Tc) (.tuple #[.int k i,.iface t u]):=⟨[_,_],⟨_,_,rfl,rfl,.iface t u,rfl,⟨_,rfl,.inr ⟨rfl,_,_,rfl⟩⟩⟩,rfl⟩
theorem Mu(k:IntKind)(i:Int):ig M [.int k,.err] (i,Ta) (.tuple #[.int k i,.nilIface]):=⟨[_,_],⟨_,_,rfl,rfl,.nilIface,rfl,⟨_,rfl,.inl ⟨rfl,rfl⟩⟩⟩,rfl⟩
def wc(l:List UInt8):Int×Bool:=match Lib.parseIntB 64 l with
 |.ok v=>(v,Ta)
 |.range=>(Lib.intSat 64 l,Tc)
 |_=>(0,Tc)
theorem V5(o:F0 gl){s:Bt}(n:s.size<=281474976710656){R:Int×Bool->Prop}(h:R (wc (lb s))):PC Tp gl 262 [Arg.mk .str s,Arg.mk (.int .i64) 10,Arg.mk (.int .i64) 64] [.int .i64,.err] R:=by
 unfold wc at h;cases hx:Lib.parseIntB 64 (lb s)with
 |ok v=>rw[hx]at h;refine PC.of_ex rfl λw f=>(Qe s (by omega) v hx w).mono λe w' ⟨c,i⟩=>⟨_,(v,Ta),c,λM=>Mu _ _,h,?_⟩;rcases i with rfl|⟨t,rfl⟩;exact Below.refl _ _;exact Lib.bytesWorld_below _ _ _
 |range=>rw[hx]at h;obtain⟨_,⟨cs,j,k,m,l⟩⟩:=o;exact PC.of_ex rfl λw f=>(Zj s n hx j w (f.glob k m) l).mono λe w' ⟨N,c,_,_,b⟩=>⟨_,(Lib.intSat 64 (lb s),Tc),c,λM=>FA _ _ _ _,h,b⟩
 |_=>rw[hx]at h;obtain⟨⟨cs,j,k,m,l⟩,_⟩:=o;exact PC.of_ex rfl λw f=>(Za s n hx j w (f.glob k m) l).mono λe w' ⟨N,c,_,_,b⟩=>⟨_,(0,Tc),c,λM=>FA _ _ _ _,h,b⟩
end
end Go.X
end
section
namespace Go.X
open Go Go.Lib
section
theorem zk(l:Bs):(bl l).size=l.length:=by rw[<-Yv,ww]
theorem yu(l:Bs)(a b:Nat):(bl l).extract a b=bl ((l.drop a).take (b-a)):=by rw[<-nK,Pq,ww,ww]
theorem zr(a b:Bs):bl a++bl b=bl (a++b):=by rw[<-nK,XQ,ww,ww,ww]
theorem qt(l:Bs)(i:Nat):ze (bl l) i=((l[i]?.getD 0).toNat:Int):=by rw[tD,ww]
theorem Z7(s:Bt):s.toList=lb s:=by
 cases s with
 |mk d=>exact Go.Lib.toList_data ⟨d⟩
theorem kd(a b:Bs):((bl a).toList==(bl b).toList)=decide (a=b):=by rw[Z7,Z7,ww,ww];rw[YW];simp
theorem xO(l:Bs)(p:Nat):iS (bl l) p=decide (p<l.length):=by rw[YW];simp[iS,zk]
theorem ui(l:Bs)(p:Nat):ki (bl l) p=((dec (l.drop p)).1:Int):=by rw[ki,zQ,ww]
theorem re(l:Bs)(p:Nat)(h:p<l.length):iN (bl l) p=p+(dec (l.drop p)).2:=by
 rw[iN,zQ,ww];have:Nat.blt p (bl l).size=Ta:=by simp[zk,h]
 rw[this];rfl
theorem mJ{l:Bs}{i:Nat}(h:i<l.length):l[i]?.getD 0=l[i]:=by rw[YA h];rfl
def ji(c:UInt8):Bool:=decide (48<=c.toNat)&&decide (c.toNat<=57)
def Zy(l:Bs):Bool:=l.all ji && !l.isEmpty
abbrev Nm:=Bool×Bs×Int
abbrev jX(n:Nm):Bool×Bt×Int:=(n.1,(bl n.2.1,n.2.2))
def Xc(n:Nm):Bool:=!n.1&&(n.2.1.isEmpty&&n.2.2==0)
def ya(n:Nm):Bool:=Xc n||(Zy n.2.1&&decide (n.2.1.length<=1000)&&n.2.1.head? != Td 48&&n.2.1.getLast? != Td 48&&decide (-1000000<=n.2.2)&&decide (n.2.2<=1000000))
def Zn(n:Nm):Bs:=if ya n then(if n.2.1=[]then [48]else(if n.1 then [45]else [])++n.2.1++(if n.2.2=0 then []else 101::Go.Lib.itoa n.2.2))else []
theorem DJ{n:Nm}(h:ya n=Ta)(e:n.2.1=[]):Xc n=Ta:=by unfold ya at h;rcases zbt _ _ ▸ h with h|h;exact h;simp[Zy,e]at h
theorem Wo{n:Nm}(h:ya n=Ta):n.2.1.length<=1000/\-1000000<=n.2.2/\n.2.2<=1000000:=by unfold ya Xc at h;obtain⟨a,d,e⟩:=n;simp at h;rcases h with⟨_,h,h'⟩|h;subst h;subst h';simp;simp only;omega
def cutAt(p:UInt8->Bool):Bs->Bs×Bs×Bool
 |[]=>([],[],Tc)
 |c::l=>if p c then([],l,Ta)else(c::(cutAt p l).1,(cutAt p l).2)
theorem uN{p:UInt8->Bool}:∀{l},(∀c∈l,p c=Tc)->cutAt p l=(l,[],Tc)
 |[],_=>rfl
 |c::l,h=>by unfold cutAt;rw[za (by simp[h c (by simp)]),uN λc b=>h c (by simp[b])]
theorem uK{p:UInt8->Bool}:∀{l:Bs} {k:Nat} (b:k<l.length),(∀i (hi:i<k),p (l[i]'(by omega))=Tc)->p l[k]=Ta->cutAt p l=(l.take k,l.drop (k+1),Ta)
 |c::l,0,_,_,h=>by unfold cutAt;rw[zb (by simpa using h)];simp
 |c::l,k+1,b,h0,h=>by unfold cutAt;have h1:p c=Tc:=h0 0 (by omega);rw[za (by simp[h1]),uK (k:=k) (by simpa using b) (λi hi=>by simpa using h0 (i+1) (by omega)) (by simpa using h)];simp
structure Lit where
 neg:Bool
 whole:Bs
 rest:Bs
 low:Bool
 exp:Bs
def jP(s:Bs):Bs:=if s.head?==Td 45 then s.tail else s
def mC(c:UInt8):Bool:=c==101||c==69
def mN(c:UInt8):Bool:=c==46
def xw(s:Bs):Bs×Bs×Bool:=cutAt mC (jP s)
def Yd(s:Bs):Bool:=(xw s).2.2&&(xw s).2.1.head?==Td 45
def iI(s:Bs):Bs:=if Yd s then(xw s).2.1.tail else if(xw s).2.1.head?==Td 43 then(xw s).2.1.tail else(xw s).2.1
def jv(s:Bs):Bs×Bs×Bool:=cutAt mN (xw s).1
def jS(s:Bs):Bool:=(!(xw s).2.2||Zy (iI s))&&Zy (jv s).1&&(!(jv s).2.2||Zy (jv s).2.1)&&((jv s).1==[48]||(jv s).1.head? != Td 48)
def Y4(s:Bs):Lit:=⟨s.head?==Td 45,(jv s).1,(jv s).2.1,Yd s,if(xw s).2.2 then iI s else []⟩
def Jp(s:Bs):Option Lit:=if jS s then Td (Y4 s)else Te
theorem Di{s:Bs}{x:Lit}(h:Jp s=Td x):jS s=Ta/\x=Y4 s:=by unfold Jp at h;split at h;rename_i e;exact⟨e,(ZA h).symm⟩;exact absurd h (by simp)
theorem tH{p:UInt8->Bool}:∀{l:Bs},(cutAt p l).2.2=Tc->(cutAt p l).1=l/\(cutAt p l).2.1=[]
 |[],_=>⟨rfl,rfl⟩
 |c::l,h=>by unfold cutAt at h ⊢;split;rename_i e;rw[zb e]at h;exact absurd h (by simp);rename_i e;rw[za e]at h;have:=tH h;exact⟨by simp[this.1],this.2⟩
def y5(l:Bs):Bs:=((l.dropWhile (· == 48)).reverse.dropWhile (· == 48)).reverse
def zi(l:Bs):Nat:=l.foldl (λn c=>10*n+(c.toNat-48)) 0
def qg(s:Bs):Nm×Int:=match Jp s with
 |none=>((Tc,[],0),2)
 |some x=>
  if x.whole.length+x.rest.length>1000 then((Tc,[],0),3)
  else if(x.exp.dropWhile (· == 48)).length>9 then((Tc,[],0),4)
  else
   let e:Int:=if x.low then-(zi (x.exp.dropWhile (· == 48)):Int)else zi (x.exp.dropWhile (· == 48))
   let d:=(x.whole++x.rest).dropWhile (· == 48)
   let b:=y5 (x.whole++x.rest)
   if d=[]then((Tc,[],0),0)
   else if -1000000<=e-x.rest.length+d.length-b.length/\e-x.rest.length+d.length-b.length<=1000000 then((x.neg,b,e-x.rest.length+d.length-b.length),0)
   else((Tc,[],0),4)
def pr(n:Nm):Int×Bool:=
 if ya n&&decide (0<=n.2.2)&&decide ((n.2.1.length:Int)+n.2.2<=19)then
  let v:Int:=if n.1 then-((zi n.2.1*10 ^ n.2.2.toNat:Nat):Int)else(zi n.2.1*10 ^ n.2.2.toNat:Nat)
  if -9223372036854775808<=v/\v<=9223372036854775807 then(v,Ta)else(0,Tc)
 else(0,Tc)
end
end Go.X
end
section
namespace Go.X
section
variable {n:Nat} {gl:Fr} {l:Bs} {R:Bool -> Prop}
theorem qz{k n:Nat}(h:k<n)(b:n<=4611686018427387904):XS .i64 ((k:Int)+1)=((k+1:Nat):Int):=zu (by omega)
theorem Yw(m:l.length<=4611686018427387904)(h:R (Zy l)):PC Tp gl 333 [Arg.mk .str (bl l)] [.bool] R:=by
 apply LF;simp only[zk,qt];refine⟨λi=>∃k:Nat,i=k/\k<=l.length/\Zy l=(Zy l&&(l.drop k).all ji)/\(l.drop k).all ji=l.all ji,λi=>l.length-i.toNat,⟨0,rfl,by omega,by simp[Zy];exact λh _=>h,by simp⟩,?_⟩;rintro i ⟨k,rfl,n,-,c⟩;refine⟨λj=>?_,λj=>?_⟩;have b:k<l.length:=by simpa using j
 simp only[XW,mJ b];rw[zaf b,zcr]at c;refine⟨by omega,λ_=>by omega,λe=>?_,λe=>?_⟩;have f:ji l[k]=Tc:=by unfold ji;rw[zbd]at e;have:=l[k].toNat_lt;rcases zbt _ _ ▸ e with e|e <;> simp at e ⊢ <;> omega
 rw[f]at c;simp only[zdk]at c;have:Zy l=Tc:=by simp[Zy,<-c]
 rw[this]at h;exact h;have f:ji l[k]=Ta:=by unfold ji;rw[zbd]at e;have:=Bool.or_eq_false_iff.1 e;simp at this ⊢;omega
 rw[f]at c;simp only[zal]at c;rw[qz b m];refine⟨⟨k+1,rfl,by omega,?_,c⟩,by simp;omega⟩;rw[c,Zy];cases l.all ji <;> simp;have b:k=l.length:=by(have:¬(k<l.length):=by simpa using j);omega
 subst b;rw[List.drop_length]at c;have:Zy l=decide ((l.length:Int)>0):=by rw[Zy,<-c];cases l <;> simp
 rw[this]at h;exact h
theorem NO(h:l≠[]):(48<=(dec l).1/\(dec l).1<=57)->(dec l).2=1/\∃c t,l=c::t/\ji c=Ta/\(dec l).1=c.toNat:=by obtain⟨c,t,rfl⟩:=zb1 h;intro b;by_cases e:c.toNat<128;rw[tP e]at b ⊢;exact⟨rfl,c,t,rfl,by simp[ji];simpa using b,rfl⟩;exfalso;unfold dec at b;have b0:((c::t).getD 0 0).toNat=c.toNat:=rfl;rw[b0]at b;have:=c.toNat_lt;have b1:=((c::t).getD 1 0).toNat_lt;have b2:=((c::t).getD 2 0).toNat_lt;have b3:=((c::t).getD 3 0).toNat_lt;generalize ((c::t).getD 1 0).toNat=x1 at *;generalize ((c::t).getD 2 0).toNat=x2 at *;generalize ((c::t).getD 3 0).toNat=x3 at *;generalize c.toNat=x0 at *;unfold Lib.decodeN at b;rw[za e]at b;split at b;split at b <;> simp only at b <;> omega;split at b;split at b <;> simp only at b <;> omega;split at b;split at b <;> simp only at b <;> omega;simp only at b;omega
theorem tq(h:R (Zy l)):PC Tp gl 215 [Arg.mk .str (bl l)] [.bool] R:=by
 apply VG;refine⟨λp=>p.1=bl l/\p.2<=l.length/\(l.drop p.2).all ji=l.all ji,λp=>l.length-p.2,⟨rfl,by omega,by simp⟩,?_⟩;rintro⟨_,p⟩ ⟨rfl,o,j⟩;simp only at o j ⊢;rw[xO,ui];refine⟨λm=>⟨m,λf=>?_,λf=>?_⟩,λm=>?_⟩;all_goals first
  |have k:p<l.length:=by simpa using m
  |have k:¬p<l.length:=by simpa using m
 have i:l.drop p≠[]:=λe=>by have:=congrArg ZM e;simp at this;omega
 have n:¬(48<=(dec (l.drop p)).1/\(dec (l.drop p)).1<=57):=by rw[zbd]at f;rcases zbt _ _ ▸ f with f|f <;> simp at f <;> omega
 have r:l.all ji=Tc:=by
  rw[<-j];obtain⟨c,t,e⟩:=zb1 i;rw[e];cases b:ji c with
  |false=>simp[b]
  |true=>
   exfalso;apply n;have:c.toNat<128:=by simp[ji]at b;omega
   rw[e,tP this];simpa[ji]using b
 have:Zy l=Tc:=by simp[Zy,r]
 rw[this]at h;exact h;have i:l.drop p≠[]:=λe=>by have:=congrArg ZM e;simp at this;omega
 have n:48<=(dec (l.drop p)).1/\(dec (l.drop p)).1<=57:=by rw[zbd]at f;have:=Bool.or_eq_false_iff.1 f;simp at this;omega
 obtain⟨h1,c,t,e,b,_⟩:=NO i n;rw[re l p k,h1];refine⟨⟨trivial,by omega,?_⟩,by omega⟩;have u:l.drop (p+1)=t:=by rw[<-zcv,e];rfl
 rw[u,<-j,e];simp[b];have:l.drop p=[]:=zaw (by omega);rw[this]at j;have e:Zy l=!(decide (l=[])):=by rw[Zy,<-j];cases l <;> simp
 have:=kd l [];rw[show(⟨#[]⟩:Bt)=bl []from rfl,this,<-e];exact h
abbrev tN:Ty:=.pair .bool (.pair .str (.int .i64))
theorem De{n:Nm}(h:R (Xc n)):PC Tp gl 292 [Arg.mk tN (jX n)] [.bool] R:=by
 apply T7;simp only[show(⟨#[]⟩:Bt)=bl []from rfl,kd];have e:Xc n=((n.1==Tc)&&(decide (n.2.1=[])&&((n.2.2==0)&&Ta))):=by unfold Xc;rcases n with⟨_|_,_|⟨_,_⟩,e⟩ <;> simp
 rw[e]at h;exact h
theorem vA(h:0<l.length):(((l[0]?.getD 0).toNat:Int) != 48)=(l.head? != Td 48):=by
 cases l with
 |nil=>simp at h
 |cons c t=>rw[YW];simp;constructor;intro h1 b;exact h1 (by rw[b];rfl);intro h1 b;exact h1 (zbi.1 (by(have:c.toNat=48:=by omega);rw[this];rfl))
theorem Dr(h:0<l.length):(((l[l.length-1]?.getD 0).toNat:Int) != 48)=(l.getLast? != Td 48):=by rw[List.getLast?_eq_getElem?];rw[YA (by omega)];rw[YW];simp;constructor;intro h1 b;exact h1 (by rw[b];rfl);intro h1 b;exact h1 (zbi.1 (by(have:l[l.length-1].toNat=48:=by omega);rw[this];rfl))
theorem Wp(h:Zy l=Ta):0<l.length:=by
 cases l with
 |nil=>simp[Zy]at h
 |cons=>simp
theorem pa(h:0<n)(b:n<=4611686018427387904):XS .i64 ((n:Int)-1)=((n-1:Nat):Int):=by rw[wrap64 (by omega) (by omega)];omega
theorem HP{n:Nm}(i:n.2.1.length<=4611686018427387904)(h:R (ya n)):PC Tp gl 279 [Arg.mk tN (jX n)] [.bool] R:=by
 apply K8;refine De (n:=n) ⟨λh1=>?_,λh1=>?_⟩;have:ya n=Ta:=by simp[ya,h1]
 rw[this]at h;exact h;refine Yw i ⟨λb=>?_,λb=>?_,?_⟩;have f:Zy n.2.1=Ta:=by simp at b;exact b.1
 have:=Wp f;simp only[zk];omega;have f:Zy n.2.1=Ta:=by simp at b;exact b.1.1
 have:=Wp f;simp only[zk];rw[pa this i];omega;have e:ya n=(bif (bif (bif (bif (bif Zy n.2.1 then(decide (((bl n.2.1).size:Int)<=1000))else Tc)then((ze (bl n.2.1) (0:Int).toNat:Int) != 48)else Tc)then((ze (bl n.2.1) (XS .i64 (((bl n.2.1).size:Int)-1):Int).toNat:Int) != 48)else Tc)then(decide (n.2.2>=(-1000000)))else Tc)then(decide (n.2.2<=1000000))else Tc):=by
  unfold ya;rw[h1,Bool.false_or];simp only[zk,qt];cases hd:Zy n.2.1 with
  |false=>simp
  |true=>have c:=Wp hd;rw[pa c i];simp only[XW,Int.toNat_zero,Dr c,vA c,zak,zal,zI];congr 3;rw[YW];simp;omega
 rw[e]at h;exact h
theorem Az{n:Nm}(l:n.2.1.length<=4611686018427387904)(h:R (ya n)):PC Tp gl 158 [Arg.mk tN (jX n)] [.bool] R:=by
 apply JX;simp only[show(⟨#[]⟩:Bt)=bl []from rfl,kd,zk,qt];have e:((n.1==Tc)&&(decide (n.2.1=[])&&((n.2.2==0)&&Ta)))=Xc n:=by unfold Xc;rcases n with⟨_|_,_|⟨_,_⟩,e⟩ <;> simp
 rw[e];refine⟨λh1=>?_,λh1=>?_⟩;have:ya n=Ta:=by simp[ya,h1]
 rw[this]at h;exact h
 ·unfold ya at h;rw[h1,Bool.false_or]at h;refine tq ⟨λj=>⟨λ_=>?_,λf=>?_⟩,λj=>⟨λf=>⟨λ_=>?_,λc=>?_⟩,λf=>⟨?_,λc=>⟨λ_=>?_,λb=>?_⟩,λc=>⟨?_,λb=>?_,λb=>?_⟩⟩⟩⟩;have:Zy n.2.1=Tc:=by simpa using j
  rw[this]at h;simpa using h;rw[j]at f;cases f;have:decide (n.2.1.length<=1000)=Tc:=by simp at f ⊢;omega
  rw[this]at h;simpa using h;rw[f]at c;cases c;all_goals
   have m:Zy n.2.1=Ta:=by simpa using j
   have i:=Wp m;have k:decide (n.2.1.length<=1000)=Ta:=by simp at f ⊢;omega
   have o:=vA i;have el:=Dr i
  omega;have:(n.2.1.head? != Td 48)=Tc:=by rw[<-o];simp at c ⊢;exact c
  rw[this]at h;simpa using h;rw[c]at b;cases b;rw[pa i l];omega;have:(n.2.1.getLast? != Td 48)=Tc:=by rw[<-el];rw[pa i l]at b;simp at b ⊢;exact b
  rw[this]at h;simpa using h;have p:(n.2.1.head? != Td 48)=Ta:=by rw[<-o];simp at c ⊢;exact c
  have r:(n.2.1.getLast? != Td 48)=Ta:=by rw[<-el];rw[pa i l]at b;simp at b ⊢;exact b
  rw[m,k,p,r]at h;simp only[zal]at h;rw[zak];exact h
end
end Go.X
end
section
namespace Go.X
open Go Go.Lib
section
variable {l:Bs} {k:Nat}
theorem JH(c:UInt8):∀l:Bs,-1<=indexByte l c/\(0<=indexByte l c↔c∈l)
 |[]=>by simp[indexByte]
 |b::l=>by have i:=JH c l;unfold indexByte;by_cases h:b=c;simp[h];have h':¬c=b:=λe=>h e.symm;simp only[beq_iff_eq,h,if_false,YB,h',false_or];obtain⟨j,f⟩:=i;split;rename_i e;rw[e]at f;exact⟨by omega,by rw[<-f]⟩;rename_i e;refine⟨by omega,?_⟩;rw[<-f];omega
theorem Wq(u:Nat):(decDigits u).length<=u+1:=by rw[decDigits];split;simp;rename_i h;have:=Wq (u / 10);simp;omega
theorem itoa_len(n:Int):(itoa n).length<=n.natAbs+2:=by unfold itoa;split;have:=Wq n.natAbs;simp;omega;have:=Wq n.toNat;omega
theorem dig_ext:∀k:Nat,k<10->(([48,49,50,51,52,53,54,55,56,57]:Bs).drop k).take (k+1-k)=[zat (48+k)]:=by decide
theorem Dj(l:Bs)(c:UInt8):hasPrefix l [c]=(l.head?==Td c):=by
 cases l with
 |nil=>rfl
 |cons b t=>simp[hasPrefix,List.isPrefixOf];rw[YW];simp;exact eq_comm
theorem Fx(l:Bs)(c:UInt8):trimPrefix l [c]=if l.head?==Td c then l.tail else l:=by unfold trimPrefix;rw[Dj];split <;> simp
theorem QB(l:Bs)(c:UInt8):zi (l++[c])=10*zi l+(c.toNat-48):=by simp[zi,List.foldl_append]
theorem xg(b:k<l.length):zi (l.take (k+1))=10*zi (l.take k)+(l[k].toNat-48):=by rw[YD b,QB]
theorem BN{p:UInt8->Bool}(h:l.all p=Ta)(k:Nat):(l.take k).all p=Ta:=by rw[ZH]at h ⊢;exact λx b=>h x (zbz b)
theorem Kq{p:UInt8->Bool}(h:l.all p=Ta)(k:Nat):(l.drop k).all p=Ta:=by rw[ZH]at h ⊢;exact λx b=>h x (List.mem_of_mem_drop b)
theorem ue(h:l.all ji=Ta)(b:k<l.length):48<=l[k].toNat/\l[k].toNat<=57:=by have:=ZH.1 h _ (YI b);simpa[ji]using this
theorem F5:∀(n:Nat) (l:Bs),l.length=n->l.all ji=Ta->zi l<10 ^ n
 |0,l,h,_=>by have:l=[]:=YU h;subst this;simp[zi]
 |n+1,l,h,hd=>by
  have b:l=l.take (n+1):=by rw[<-h,YR]
  rw[b,xg (by omega)];have h1:=F5 n (l.take n) (by simp;omega) (BN hd n);have c:=ue hd (k:=n) (by omega);rw[Nat.pow_succ];omega
theorem X6{n:Nat}(b:l.length<=n)(h:l.all ji=Ta):zi l<10 ^ n:= zbu (F5 _ l rfl h) (Nat.pow_le_pow_right (by omega) b)
theorem sc(h:Zy l=Ta):l.all ji=Ta:=by unfold Zy at h;exact(Bool.and_eq_true_iff.1 h).1
theorem Wr{p q:UInt8->Bool}(h:l.all p=Ta):(l.dropWhile q).all p=Ta:=by rw[ZH]at h ⊢;exact λx b=>h x ((List.dropWhile_sublist q).mem b)
theorem wj(l:Bs)(q:UInt8->Bool):(l.dropWhile q).length<=l.length:=(List.dropWhile_sublist q).length_le
theorem FH{q:UInt8->Bool}:∀c,(l.dropWhile q).head?=Td c->q c=Tc:=by
 induction l with
 |nil=>simp
 |cons b t e=>intro c h;rw[zcu]at h;split at h;exact e c h;rename_i f;simp at h;subst h;exact Bool.eq_false_iff.2 f
theorem Qk(h:l.all ji=Ta)(i:l.dropWhile (· == 48)≠[]):Zy (y5 l)=Ta/\(y5 l).length<=(l.dropWhile (· == 48)).length/\((y5 l).head? != Td 48)=Ta/\((y5 l).getLast? != Td 48)=Ta:=by
 unfold y5;obtain⟨c,t,f⟩:=zb1 i;have j:(c==48)=Tc:=by have:=FH (l:=l) (q:=(· == 48)) c (by rw[f];rfl);simpa using this
 have key:∀(t:Bs),∃u,((c::t).reverse.dropWhile (· == 48)).reverse=c::u:=by
  intro t;rw[List.reverse_cons];have k:∀(r:Bs),∃u,(r++[c]).dropWhile (· == 48)=u++[c]:=by
   intro r;induction r with
   |nil=>exact⟨[],by simp[j]⟩
   |cons b r m=>rw[ZU,zcu];split;exact m;exact⟨b::r,rfl⟩
  obtain⟨u,e⟩:=k t.reverse;exact⟨u.reverse,by rw[e];simp⟩
 rw[f];obtain⟨u,e⟩:=key t;refine⟨?_,?_,?_,?_⟩;rw[Zy,Bool.and_eq_true_iff];refine⟨?_,by rw[e];rfl⟩;rw[List.all_reverse];apply Wr;rw[List.all_reverse,<-f];exact Wr h;rw[List.length_reverse];refine zay (wj _ _) ?_;simp;rw[e];simp;simpa using j;rw[List.getLast?_reverse];cases hh:((c::t).reverse.dropWhile (· == 48)).head? with
 |none=>rfl
 |some x=>have:=FH (l:=(c::t).reverse) (q:=(· == 48)) x hh;simpa using this
theorem WV(h:l.all ji=Ta)(b:l.dropWhile (· == 48)≠[])(k:l.length<=1000)(neg:Bool)(e:Int):ya (neg,y5 l,e)=(decide (-1000000<=e)&&decide (e<=1000000)):=by
 obtain⟨h1,j,i,f⟩:=Qk h b;have m:=wj l (· == 48);have c:(y5 l).isEmpty=Tc:=by rw[Zy]at h1;have:=(Bool.and_eq_true_iff.1 h1).2;simpa using this
 unfold ya Xc;simp only[h1,i,f,c,zdl,zdk,Bool.false_or,zal];have:decide ((y5 l).length<=1000)=Ta:=by simp;omega
 rw[this];simp
theorem HW{s:Bs}{x:Lit}(h:Jp s=Td x):Zy x.whole=Ta/\x.rest.all ji=Ta/\x.exp.all ji=Ta:=by
 obtain⟨b,rfl⟩:=Di h;unfold jS at b;simp only[YH]at b;obtain⟨⟨⟨h1,e⟩,c⟩,f⟩:=b;refine⟨e,?_,?_⟩;show(jv s).2.1.all ji=Ta;cases hp:(jv s).2.2 with
 |true=>rw[hp]at c;exact sc (by simpa using c)
 |false=>rw[show(jv s).2.1=[]from(tH hp).2];rfl
 show(if(xw s).2.2 then iI s else []).all ji=Ta;cases hm:(xw s).2.2 with
 |true=>rw[hm]at h1;simpa using sc (by simpa using h1)
 |false=>rfl
theorem AJ(p:UInt8->Bool)(l:Bs):(cutAt p l).1.length+(cutAt p l).2.1.length<=l.length:=by
 induction l with
 |nil=>simp[cutAt]
 |cons c t b=>unfold cutAt;split <;> simp <;> omega
theorem vP{s:Bs}{x:Lit}(h:Jp s=Td x):x.whole.length+x.rest.length+x.exp.length<=s.length:=by
 obtain⟨b,rfl⟩:=Di h;have h1:(jP s).length<=s.length:=by unfold jP;split <;> simp
 have e:=AJ mC (jP s);have i:=AJ mN (xw s).1;have c:(iI s).length<=(xw s).2.1.length:=by unfold iI;split;simp;split <;> simp
 have f:(if(xw s).2.2 then iI s else []).length<=(xw s).2.1.length:=by split;exact c;simp
 show(jv s).1.length+(jv s).2.1.length+(if(xw s).2.2 then iI s else []).length<=s.length;unfold jv;unfold xw at *;omega
end
end Go.X
end
section
namespace Go.X
section
variable {gl:Fr} {l:Bs}
theorem Ru(c:UInt8):(((c.toNat:Int)).toNat).toUInt8=c:=by simp
theorem C6{l sep:Bs}{p:UInt8->Bool}(u:∀c,p c=Ta↔c∈sep)(x:l.length<=4611686018427387904){R:Bt×Bt×Bool->Prop}(h:R (bl (cutAt p l).1,bl (cutAt p l).2.1,(cutAt p l).2.2)):
  PC Tp gl 268 [Arg.mk .str (bl l),Arg.mk .str (bl sep)] [.str,.str,.bool] R:=by
 apply Kg;simp only[zk,qt,yu];refine⟨λi=>∃k:Nat,i=k/\k<=l.length/\∀j (f:j<l.length),j<k->p l[j]=Tc,λi=>l.length-i.toNat,⟨0,rfl,by omega,λj _ h=>by omega⟩,?_⟩;rintro i ⟨k,rfl,z,m⟩;refine⟨λt=>?_,λt=>?_⟩;have b:k<l.length:=by simpa using t
 simp only[XW,mJ b];refine⟨by omega,NZ ?_⟩;rw[Ru,ww];have w:=(JH l[k] sep).2;rw[qz b x];refine⟨λr=>⟨by omega,by omega,?_⟩,λr=>⟨⟨k+1,rfl,by omega,λj f y=>?_⟩,by simp;omega⟩⟩;have n:p l[k]=Ta:=(u _).2 (w.1 (by simpa using r));rw[uK b (λj f=>m j (by omega) f) n]at h;simp only[XW,Int.toNat_zero,za2,Nat.sub_zero];rw[ZS (l:=l.drop (k+1)) (by simp)];exact h;by_cases e:j=k;subst e;cases hpj:p l[j]with
 |false=>rfl
 |true=>exact absurd (w.2 ((u _).1 hpj)) (by simpa using r)
 exact m j f (by omega);have b:¬k<l.length:=by simpa using t
 rw[uN (λc o=>by obtain⟨j,f,rfl⟩:=zca o;exact m j f (by omega))]at h;exact h
theorem Ic{c:UInt8}{R:Bt×Bool->Prop}(h:R (bl (if l.head?==Td c then l.tail else l),l.head?==Td c)):PC Tp gl 267 [Arg.mk .str (bl l),Arg.mk .str (bl [c])] [.str,.bool] R:=by refine SH ?_;rw[ww,ww,Fx,Dj];exact h
theorem Kl{c:UInt8}{R:Bt->Prop}(h:R (bl (if l.head?==Td c then l.tail else l))):PC Tp gl 269 [Arg.mk .str (bl l),Arg.mk .str (bl [c])] [.str] R:=by refine NI ?_;rw[ww,ww,Fx];exact h
theorem AC{R:Bt->Prop}(h:R (bl (l.dropWhile (· == 48)))):PC Tp gl 218 [Arg.mk .str (bl l),Arg.mk .str (bl [48])] [.str] R:=by refine OP (c:=48) (by decide) ?_;rw[ww];exact h
theorem NF(b:l.length<=4611686018427387904){R:Bt->Prop}(h:R (bl (l.reverse.dropWhile (· == 48)).reverse)):PC Tp gl 219 [Arg.mk .str (bl l),Arg.mk .str (bl [48])] [.str] R:=by refine Sj (c:=48) (by decide) (by rw[zk];omega) ?_;rw[ww];exact h
theorem TS{s:Bs}(S:s.length<=4611686018427387904){R:(Bool×Bool×Bt×Bt×Bt)×Bool->Prop} (h1:jS s=Ta->R (((Y4 s).neg,(Y4 s).low,bl (Y4 s).whole,bl (Y4 s).rest,bl (Y4 s).exp),Ta)) (D:jS s=Tc->∀a b c d e,R ((a,b,bl c,bl d,bl e),Tc)):
  PC Tp gl 217 [Arg.mk .str (bl s)] [.pair .bool (.pair .bool (.pair .str (.pair .str .str))),.bool] R:=by
 apply LI;refine Ic (c:=45) ?_;dsimp only;have T:(jP s).length<=s.length:=by unfold jP;split <;> simp
 have I:=AJ mC (jP s);refine C6 (l:=jP s) (sep:=[101,69]) (p:=mC) (λc=>by simp[mC]) (by omega) ?_;dsimp only;have M:(xw s).1.length+(xw s).2.1.length<=(jP s).length:=I;have t:∀(e:Bs) (low:Bool),((xw s).2.2=Ta->Zy (iI s)=Ta/\low=Yd s/\e=iI s)->((xw s).2.2=Tc->low=Tc/\e=[]) ->
   PC Tp gl 268 [Arg.mk .str (bl (xw s).1),Arg.mk .str (bl [46])] [.str,.str,.bool] (λf:Bt×Bt×Bool=>PC Tp gl 215 [Arg.mk .str f.1] [.bool] (λm:Bool=>∃w:Bool->Prop,(((!(!m))&&f.2.2)=Ta->PC Tp gl 215 [Arg.mk .str f.2.1] [.bool] w) /\ ∀o:Bool,(((!(!m))&&f.2.2)=Ta->w o)->((bif (!m)then Ta else(bif f.2.2 then(!o)else Tc))=Ta->R ((s.head?==Td 45,(low,(f.1,(f.2.1,bl e)))),Tc)) /\ ((bif (!m)then Ta else(bif f.2.2 then(!o)else Tc))=Tc->((!((f.1:Bt).toList==((⟨#[48]⟩:Bt):Bt).toList))=Ta->(0<=(0:Int)/\(0:Int)<((f.1).size:Int))) /\ R ((s.head?==Td 45,(low,(f.1,(f.2.1,bl e)))),bif ((f.1:Bt).toList==((⟨#[48]⟩:Bt):Bt).toList)then Ta else((ze f.1 (0:Int).toNat:Int) != 48))))):=by
  intro e low P k2;have z:(!(xw s).2.2||Zy (iI s))=Ta/\Yd s=low/\(if(xw s).2.2 then iI s else [])=e:=by
   cases B:(xw s).2.2 with
   |true=>obtain⟨a,b,c⟩:=P B;exact⟨by simp[a],b.symm,by simp[c]⟩
   |false=>obtain⟨a,b⟩:=k2 B;exact⟨rfl,by unfold Yd;rw[B,a];rfl,by simp[b]⟩
  refine C6 (l:=(xw s).1) (sep:=[46]) (p:=mN) (λc=>by simp[mN]) (by omega) ?_;refine tq ⟨λx=>Zy (jv s).2.1=x,λ_=>tq rfl,λy H=>?_⟩;dsimp only;simp only[show(⟨#[48]⟩:Bt)=bl [48]from rfl,kd,zk,qt];change (_->Zy (jv s).2.1=y)at H;show((bif (!Zy (jv s).1)then Ta else(bif (jv s).2.2 then(!y)else Tc))=Ta->R ((s.head?==Td 45,(low,(bl (jv s).1,(bl (jv s).2.1,bl e)))),Tc)) /\ ((bif (!Zy (jv s).1)then Ta else(bif (jv s).2.2 then(!y)else Tc))=Tc->((!decide ((jv s).1=[48]))=Ta->(0<=(0:Int)/\(0:Int)<((jv s).1.length:Int))) /\ R ((s.head?==Td 45,(low,(bl (jv s).1,(bl (jv s).2.1,bl e)))),bif decide ((jv s).1=[48])then Ta else(((((jv s).1[(0:Int).toNat]?).getD 0).toNat:Int) != 48)));have C:Zy (jv s).1=Ta->(jv s).2.2=Ta->Zy (jv s).2.1=y:=λa b=>H (by show((!(!Zy (jv s).1))&&(jv s).2.2)=Ta;rw[a,b];rfl);refine⟨λi=>D ?_ _ _ _ _ _,λi=>⟨λ_=>?_,?_⟩⟩;unfold jS;cases r:Zy (jv s).1 with
  |false=>simp
  |true=>
   rw[r]at i;cases hw:(jv s).2.2 with
   |false=>rw[hw]at i;simp at i
   |true=>rw[hw]at i;have:=C r hw;rw[this];simp at i;simp[i]
  all_goals
   have r:Zy (jv s).1=Ta:=by
    cases r:Zy (jv s).1 with
    |true=>rfl
    |false=>rw[r]at i;simp at i
   have Q:=Wp r
  omega;have N:(!(jv s).2.2||Zy (jv s).2.1)=Ta:=by
   cases hw:(jv s).2.2 with
   |false=>rfl
   |true=>rw[r,hw]at i;have:=C r hw;rw[this];simpa using i
  have L:(bif decide ((jv s).1=[48])then Ta else(((((jv s).1[(0:Int).toNat]?).getD 0).toNat:Int) != 48))=((jv s).1==[48]||(jv s).1.head? != Td 48):=by rw[show(0:Int).toNat=0 from rfl,vA Q,zbd,YW];simp
  have u:jS s=((jv s).1==[48]||(jv s).1.head? != Td 48):=by unfold jS;rw[z.1,r,N];simp
  rw[L];cases ho:((jv s).1==[48]||(jv s).1.head? != Td 48)with
  |true=>have:=h1 (u.trans ho);unfold Y4 at this;rw[z.2.1,z.2.2]at this;exact this
  |false=>exact D (u.trans ho) _ _ _ _ _
 intro K G;refine⟨λB=>?_,λB=>?_⟩;have n:(xw s).2.2=Ta:=B;refine Ic (c:=45) (l:=(xw s).2.1) ?_;dsimp only;intro J F;have step:∀low e,low=Yd s->e=iI s->J (bl e) (s.head?==Td 45) low (bl []) (bl []) (bl []):=by
  intro low e E A;refine F _ _ _ _ _ _ (tq ⟨λi=>?_,λi=>?_⟩);refine D ?_ _ _ [] [] [];unfold jS;rw[n,<-A];have:Zy e=Tc:=by simpa using i
  rw[this];rfl;refine G _ _ _ _ _ _ (t e low (λ_=>⟨by rw[<-A];simpa using i,E,A⟩) λh=>by rw[n]at h;cases h)
 have k:Yd s=((xw s).2.1.head?==Td 45):=by unfold Yd;rw[n];rfl
 refine⟨λi=>?_,λi=>?_⟩;have j:((xw s).2.1.head?==Td 45)=Tc:=by simpa using i
 rw[j];refine Kl (c:=43) ?_;simp only[zad,if_false];refine step Tc _ (by rw[k,j]) ?_;unfold iI;rw[k,j];simp;have j:((xw s).2.1.head?==Td 45)=Ta:=by simpa using i
 rw[j];simp only[if_true];refine step Ta _ (by rw[k,j]) ?_;unfold iI;rw[k,j];simp;have n:(xw s).2.2=Tc:=B;have O:(xw s).2.1=[]:=(tH n).2;have:=t [] Tc (λh=>by rw[n]at h;cases h) λ_=>⟨rfl,rfl⟩;show K (bl (xw s).2.1) _ _ _ _ _;rw[O];exact G _ _ _ _ _ _ this
theorem TK{α β γ δ:Type}{B:α->β->γ->δ->Prop}{c:Bool}{a b:α}{x:β}{y:γ}{z:δ}(h:∀e,e=(bif c then a else b)->B e x y z):∀K:α->β->γ->δ->Prop,(∀e x y z,B e x y z->K e x y z)->(c=Ta->K a x y z)/\(c=Tc->K b x y z):= λK i=>⟨λf=>i _ _ _ _ (h _ (by subst f;rfl)),λf=>i _ _ _ _ (h _ (by subst f;rfl))⟩
theorem eK{n:Int}(h:-4611686018427387904<=n/\n<=4611686018427387904):XS .i64 n=n:=wrap64 (by omega) (by omega)
set_option maxHeartbeats 1000000 in
theorem DT{s:Bs}(U:s.length<=1152921504606846976){R:(Bool×Bt×Int)×Int->Prop}(h:R (jX (qg s).1,(qg s).2)):PC Tp gl 160 [Arg.mk .str (bl s)] [tN,.int .i64] R:=by
 apply NU;refine TS (by omega) (λr=>?_) (λr a b c d e=>?_);rotate_left;refine AC ⟨λ_=>?_,λk=>by cases k⟩;have:Jp s=Te:=by unfold Jp;simp[r]
 unfold qg at h;rw[this]at h;exact h;have f:Jp s=Td (Y4 s):=by unfold Jp;simp[r]
 have J:=vP f;obtain⟨d1,d2,d3⟩:=HW f;unfold qg at h;rw[f]at h;simp only at h;generalize Y4 s=x at *;refine AC ⟨λk=>(by cases k),λ_=>?_⟩;simp only[zk];rw[eK (by omega)];refine⟨λk=>?_,λk=>?_⟩;rw[zb (by simp at k;omega)]at h;exact h;rw[za (by simp at k;omega)]at h;refine⟨λj=>?_,λj=>?_⟩;rw[zb (by simp at j;omega)]at h;exact h;rw[za (by simp at j;omega)]at h;have A:x.whole.length+x.rest.length<=1000:=by simp at k;omega
 have P:x.exp.all ji=Ta:=d3;generalize N:x.exp.dropWhile (· == 48)=E at *;have u:E.all ji=Ta:=by rw[<-N];exact Wr d3
 have D:E.length<=9:=by simp at j;omega
 have O:zi E<10 ^ 9:=X6 D u;refine⟨λe _ _ _ p=>p.1=bl E/\p.2<=E.length/\e=(zi (E.take p.2):Int),λ_ _ _ _ p=>E.length-p.2,⟨rfl,by omega,by simp[zi]⟩,?_⟩;rintro e b1 b2 b3 ⟨_,p⟩ ⟨rfl,M,rfl⟩;simp only at M ⊢;rw[xO,ui];refine⟨λz=>⟨z,?_⟩,λz=>?_⟩;have i:p<E.length:=by simpa using z
 have T:=ue u i;have H:E.drop p=E[p]::E.drop (p+1):=zaf i;rw[re E p i,H,tP (by omega)];have Q:=X6 (n:=9) (l:=E.take p) (by simp;omega) (BN u p);rw[pW (by omega) (by omega),eK (n:=10*_) (by omega),eK (n:=(_:Int)-48) (by omega),eK (by omega)];simp only;refine⟨⟨trivial,by omega,?_⟩,by omega⟩;rw[xg i];omega;have i:¬p<E.length:=by simpa using z
 have B:p=E.length:=by omega
 subst B;rw[YR];apply TK;intro w C;refine⟨by unfold zw;omega,?_⟩;rw[zr];refine AC ?_;rw[show(⟨#[]⟩:Bt)=bl []from rfl];simp only[kd];have I:(x.whole++x.rest).all ji=Ta:=by rw[zb9,sc d1,d2];rfl
 refine⟨λt=>?_,λt=>?_⟩;rw[zb (by simpa using t)]at h;exact h;have m:(x.whole++x.rest).dropWhile (· == 48)≠[]:=by simpa using t
 rw[za m]at h;have G:=wj (x.whole++x.rest) (· == 48);rw[XX]at G;refine NF (by omega) ?_;have L:=(Qk I m).2.1;have F:=WV I m (by rw[XX];exact A);simp only[zk,show((List.dropWhile (λx=>x==48) (x.whole++x.rest)).reverse.dropWhile (λx=>x==48)).reverse=y5 (x.whole++x.rest)from rfl];have y:w=if x.low then-(zi E:Int)else(zi E:Int):=by rw[C];cases x.low <;> simp;exact eK (by omega)
 have S:-1000000000<=w/\w<=1000000000:=by rw[y];split <;> omega
 rw[eK (n:=w-_) (by omega),eK (n:=w-_+_) (by omega),eK (by omega)];refine Az (n:=(x.neg,y5 (x.whole++x.rest),w-(x.rest.length:Int)+(((x.whole++x.rest).dropWhile (· == 48)).length:Int)-((y5 (x.whole++x.rest)).length:Int))) (by simp only;omega) ?_;rw[F];change R (jX (if -1000000<=(if x.low=Ta then-(zi E:Int)else(zi E:Int))-(x.rest.length:Int)+(((x.whole++x.rest).dropWhile (· == 48)).length:Int)-((y5 (x.whole++x.rest)).length:Int)/\(if x.low=Ta then-(zi E:Int)else(zi E:Int))-(x.rest.length:Int)+(((x.whole++x.rest).dropWhile (· == 48)).length:Int)-((y5 (x.whole++x.rest)).length:Int)<=1000000 then((x.neg,y5 (x.whole++x.rest),(if x.low=Ta then-(zi E:Int)else(zi E:Int))-(x.rest.length:Int)+(((x.whole++x.rest).dropWhile (· == 48)).length:Int)-((y5 (x.whole++x.rest)).length:Int)),0)else((Tc,[],0),4)).1,_)at h;rw[<-y]at h;refine⟨λo=>?_,λo=>?_⟩;rw[za (by simp at o;omega)]at h;exact h;rw[zb (by simp at o;omega)]at h;exact h
end
section
variable {gl:Fr} {n:Int}
theorem Qf{a b:Bs}(h:a.length+b.length<=4611686018427387904):zw ((bl a).size+(bl b).size):=by unfold zw;rw[zk,zk];omega
theorem Hq(m:rH gl){n:Nm}(r:n.2.1.length<=4611686018427387904){R:Bt->Prop}(h:R (bl (Zn n))):PC Tp gl 92 [Arg.mk tN (jX n)] [.str] R:=by
 apply U4;refine Az r ⟨λf=>?_,λf=>?_⟩;have:ya n=Tc:=by simpa using f
 have e:Zn n=[]:=by unfold Zn;simp[this]
 rw[e]at h;exact h;have i:ya n=Ta:=by simpa using f
 obtain⟨w,o,k⟩:=Wo i;unfold Zn at h;rw[zb i]at h;simp only[show(⟨#[]⟩:Bt)=bl []from rfl,kd];refine⟨λc=>?_,λc=>?_⟩;rw[zb (by simpa using c)]at h;exact h;rw[za (by simpa using c)]at h;intro K u;have key:∀t:Bs,t=(if n.1 then [45]else [])++n.2.1->K (bl t):=by
  intro t j;have p:t.length<=1001:=by rw[j];split <;> simp <;> omega
  rw[<-j]at h;refine u _ ⟨λb=>?_,λb=>?_⟩;rw[za (by simpa using b)]at h;have l:=Go.X.itoa_len n.2.2;refine vY m (by omega) (by omega) ?_;refine⟨Qf (a:=[101]) (by simp;omega),?_⟩;rw[show(⟨#[101]⟩:Bt)=bl [101]from rfl,zr,zr];exact⟨Qf (by simp;omega),h⟩;rw[zb (by simpa using b),ZO]at h;exact h
 refine⟨λb=>⟨Qf (a:=[45]) (by simp;omega),?_⟩,λb=>?_⟩;rw[show(⟨#[45]⟩:Bt)=bl [45]from rfl,zr];exact key _ (by rw[zb (by simpa using b)]);exact key _ (by rw[za (by simpa using b)];rfl)
theorem uz{k:Nat}(h:k<10):(bl [48,49,50,51,52,53,54,55,56,57]).extract k (k+1)=bl [zat (48+k)]:=by rw[yu,Go.X.dig_ext k h]
theorem Lv(h:10<=n):Lib.itoa n=Lib.itoa (n / 10)++[zat (48+(n % 10).toNat)]:=by unfold Lib.itoa;rw[za (by omega),za (by omega),Lib.decDigits,dif_neg (by omega)];congr 3;omega;omega
theorem itoa_neg(h:n<=-10):Lib.itoa n=Lib.itoa (n.tdiv 10)++[zat (48+(-(n.tmod 10)).toNat)]:=by
 obtain⟨m,rfl⟩:∃m:Nat,n=-(m:Int):=⟨n.natAbs,by omega⟩;have b:(-(m:Int)).tdiv 10=-((m / 10:Nat):Int):=by rw[Int.neg_tdiv];rfl
 have c:(-(m:Int)).tmod 10=-((m % 10:Nat):Int):=by rw[Int.neg_tmod];rfl
 rw[b,c];unfold Lib.itoa;rw[zb (by omega),zb (by omega)];have a1:(-(m:Int)).natAbs=m:=by omega
 have a2:(-((m / 10:Nat):Int)).natAbs=m / 10:=by omega
 rw[a1,a2];conv=>lhs;rw[Lib.decDigits,dif_neg (by omega)]
 rw[ZU];congr 4;omega
theorem vX{gl:Fr}{n:Int}(h1:-9223372036854775808<=n)(r:n<=9223372036854775807){R:Bt->Prop}(h:R (bl (Lib.itoa n))):PC Tp gl 193 [Arg.mk (.int .i64) n] [.str] R:=by
 apply X1;have m:(⟨#[48,49,50,51,52,53,54,55,56,57]⟩:Bt)=bl [48,49,50,51,52,53,54,55,56,57]:=rfl;simp only[m];have c:(bl [48,49,50,51,52,53,54,55,56,57]).size=10:=by rw[zk];rfl
 refine⟨λj=>?_,λj=>⟨λb=>?_,λb=>⟨λf=>?_,λf=>?_⟩⟩⟩;have i:0<=n/\n<10:=by simpa[zak]using j
 rw[eK (by omega),c];refine⟨by omega,?_⟩;have e:(n+1).toNat=n.toNat+1:=by omega
 rw[e,uz (by omega)];have:Lib.itoa n=[zat (48+n.toNat)]:=by unfold Lib.itoa;rw[za (by omega),Lib.decDigits,dif_pos (by omega)]
 rw[<-this];exact h;have i:10<=n:=by
  have:¬(0<=n/\n<10):=by simpa[zak]using j
  have:n>0:=by simpa using b
  omega
 have k:n.tdiv 10=n / 10:=Int.tdiv_eq_ediv_of_nonneg (by omega);have l:n.tmod 10=n % 10:=Int.tmod_eq_emod_of_nonneg (by omega);rw[k,l,eK (n:=n % 10+1) (by omega),eK (n:=n / 10) (by omega),c];refine⟨trivial,by omega,trivial,by omega,trivial,by omega,by omega,vX (n:=n / 10) (by omega) (by omega) ?_⟩;have e:(n % 10+1).toNat=(n % 10).toNat+1:=by omega
 rw[e,uz (by omega)];refine⟨Qf ?_,?_⟩;have:=Go.X.itoa_len (n / 10);simp;omega;rw[zr,<-Lv i];exact h;have i:-10<n/\n<0:=by
  have:¬(0<=n/\n<10):=by simpa[zak]using j
  have:¬n>0:=by simpa using b
  have:n > -10:=by simpa using f
  omega
 have hz:(0:Int)-n=-n:=by omega
 rw[hz,eK (n:=-n) (by omega),eK (n:=-n+1) (by omega),c];have e:(-n+1).toNat=(-n).toNat+1:=by omega
 rw[e,uz (by omega)];refine⟨by omega,Qf (a:=[45]) (by simp),?_⟩;rw[show(⟨#[45]⟩:Bt)=bl [45]from rfl,zr];have:Lib.itoa n=[45]++[zat (48+(-n).toNat)]:=by
  unfold Lib.itoa;rw[zb (by omega),Lib.decDigits,dif_pos (by omega)];have:n.natAbs=(-n).toNat:=by omega
  rw[this];rfl
 rw[<-this];exact h;have i:n<=-10:=by
  have:¬(0<=n/\n<10):=by simpa[zak]using j
  have:¬n>0:=by simpa using b
  have:¬n > -10:=by simpa using f
  omega
 have o:n.tdiv 10=-((-n) / 10):=by have:=Int.neg_tdiv (-n) 10;rw[Int.neg_neg]at this;rw[this,Int.tdiv_eq_ediv_of_nonneg (by omega)]
 have p:n.tmod 10=-((-n) % 10):=by have:=Int.neg_tmod (-n) 10;rw[Int.neg_neg]at this;rw[this,Int.tmod_eq_emod_of_nonneg (by omega)]
 have hz:(0:Int)-n.tmod 10=-(n.tmod 10):=by omega
 rw[hz,eK (n:=-(n.tmod 10)) (by omega),eK (n:=-(n.tmod 10)+1) (by omega),eK (n:=n.tdiv 10) (by omega),c];have e:(-(n.tmod 10)+1).toNat=(-(n.tmod 10)).toNat+1:=by omega
 rw[e,uz (by omega)];refine⟨trivial,by omega,trivial,by omega,trivial,by omega,by omega,vX (n:=n.tdiv 10) (by omega) (by omega) ?_⟩;refine⟨Qf ?_,?_⟩;have:=Go.X.itoa_len (n.tdiv 10);simp;omega;rw[zr,<-itoa_neg i];exact h
termination_by n.natAbs
decreasing_by all_goals omega
theorem WO{n:Nm}(r:n.2.1.length<=4611686018427387904){R:Bt->Prop}(h:R (bl (Zn n))):PC Tp gl 233 [Arg.mk tN (jX n)] [.str] R:=by
 apply NN;refine HP r ⟨λj=>?_,λj=>?_⟩;have:ya n=Tc:=by simpa using j
 have e:Zn n=[]:=by unfold Zn;simp[this]
 rw[e]at h;exact h;have i:ya n=Ta:=by simpa using j
 obtain⟨w,o,l⟩:=Wo i;unfold Zn at h;rw[zb i]at h;refine De (n:=n) ⟨λf=>?_,λf=>?_⟩;have:n.2.1=[]:=by unfold Xc at f;simp at f;exact f.2.1
 rw[zb this]at h;exact h;have:¬n.2.1=[]:=λe=>by have:=DJ i e;rw[this]at f;cases f
 rw[za this]at h;intro K u;have key:∀t:Bs,t=(if n.1 then [45]else [])++n.2.1->K (bl t):=by
  intro t k;have p:t.length<=1001:=by rw[k];split <;> simp <;> omega
  rw[<-k]at h;refine u _ ⟨λc=>?_,λc=>?_⟩;rw[za (by simpa using c)]at h;have m:=Go.X.itoa_len n.2.2;refine⟨Qf (b:=[101]) (by simp;omega),vX (n:=n.2.2) (by omega) (by omega) ?_⟩;rw[show(⟨#[101]⟩:Bt)=bl [101]from rfl,zr,zr];exact⟨Qf (by simp;omega),by rw[YS];exact h⟩;rw[zb (by simpa using c),ZO]at h;exact h
 refine⟨λc=>⟨Qf (a:=[45]) (by simp;omega),?_⟩,λc=>?_⟩;rw[show(⟨#[45]⟩:Bt)=bl [45]from rfl,zr];exact key _ (by rw[zb (by simpa using c)]);exact key _ (by rw[za (by simpa using c)];rfl)
theorem U5(i:rH gl)(h1:-9223372036854775808<=n)(f:n<=9223372036854775807){R:Bool×Bt×Int->Prop}(h:R (jX (qg (Lib.itoa n)).1)):PC Tp gl 93 [Arg.mk (.int .i64) n] [tN] R:=by
 apply Sg;refine vY i h1 f (DT ?_ h);have:=Go.X.itoa_len n;have b:∀u:Nat,u<10 ^ 20->(Lib.decDigits u).length<=20:=by
  have:∀(k u:Nat),u<10 ^ (k+1)->(Lib.decDigits u).length<=k+1:=by
   intro k;induction k with
   |zero=>intro u c;rw[Lib.decDigits,dif_pos (by simpa using c)];simp
   |succ k e=>intro u c;rw[Lib.decDigits];split;simp;have:=e (u / 10) (by rw[Nat.pow_succ]at c;omega);simp;omega
  exact this 19
 have:(Lib.itoa n).length<=21:=by unfold Lib.itoa;split;have:=b n.natAbs (by omega);simp;omega;have:=b n.toNat (by omega);omega
 omega
end
section
variable {l:Bs} {n:Int}
theorem sB{c:UInt8}(e:n=(c.toNat:Int)):(bif decide ((l.length:Int)>0)then(((l[0]?.getD 0).toNat:Int)==n)else Tc)=(l.head?==Td c):=by
 subst e;cases l with
 |nil=>rfl
 |cons b t=>
  have:decide (((b::t).length:Int)>0)=Ta:=by simp
  rw[this,zI];show((b.toNat:Int)==(c.toNat:Int))=(Td b==Td c);rw[YW];simp only[beq_iff_eq,Int.natCast_inj,XU];exact⟨λh=>zbi.1 h,λh=>by rw[h]⟩
theorem uY:bl ((l.drop (1:Int).toNat).take (((l.length:Int)).toNat-(1:Int).toNat))=bl l.tail:=by rw[XW,show(1:Int).toNat=1 from rfl,List.drop_one,ZS (by simp)]
theorem As{c:UInt8}(d:UInt8)(b:n=(d.toNat:Int)):((c.toNat:Int) != n)=!(c==d):=by subst b;rw[YW];simp only[bne_iff_ne,ne_eq,Int.natCast_inj,zb8,beq_eq_false_iff_ne];exact⟨λh e=>h (by rw[e]),λh e=>h (zbi.1 e)⟩
set_option maxHeartbeats 1000000 in
theorem Tf{gl:Fr}{s:Bs}(hs:s.length<=1152921504606846976){R:Bool×Bt×Bt×Bool×Bt×Bool->Prop}
  (h1:jS s=Ta->R ((Y4 s).neg,bl (Y4 s).whole,bl (Y4 s).rest,(Y4 s).low,bl (if(xw s).2.2 then(Y4 s).exp else [48]),Ta)) (h2:jS s=Tc->∀a b c d e,R (a,bl b,bl c,d,bl e,Tc)):
  PC Tp gl 291 [Arg.mk .str (bl s)] [.bool,.str,.str,.bool,.str,.bool] R:=by
 apply Vi
 simp only[zk,qt,show(0:Int).toNat=0 from rfl,sB (l:=s) (c:=45) (n:=45) rfl]
 refine⟨λp=>by simp at p;omega,?_⟩
 have hS:(jP s).length<=s.length:=by unfold jP;split <;> simp
 have first:∀K:Bt->Prop,K (bl (jP s))->(((s.head?==Td 45)=Ta->(0<=(1:Int)/\(1:Int)<=(s.length:Int)/\((s.length:Int))<=(s.length:Int))/\K ((bl s).extract (1:Int).toNat ((s.length:Int)).toNat))/\((s.head?==Td 45)=Tc->K (bl s))):=by
  intro K P
  unfold jP at P
  refine⟨λp=>⟨?_,?_⟩,λp=>?_⟩
  ·cases s with
   |nil=>simp at p
   |cons=>simp;omega
  ·rw[p,zb rfl]at P
   rw[yu,uY];exact P
  ·rw[p,za (by simp)]at P;exact P
 intro K P
 refine first K (P _ ?_)
 clear P first K
 generalize an:jP s=s1 at *
 simp only[zk,qt]
 have hM:cutAt mC s1=xw s:=by rw[xw,an]
 refine⟨λi=>∃k:Nat,i=k/\k<=s1.length/\∀j (D:j<s1.length),j<k->mC s1[j]=Tc,λi=>s1.length-i.toNat,⟨0,rfl,by omega,λj _ h=>by omega⟩,?_⟩
 rintro i ⟨k,rfl,hk,Z⟩
 have O:∀hk:k<s1.length,(bif (bif decide ((k:Int)<(s1.length:Int))then((((s1[((k:Int)).toNat]?).getD 0).toNat:Int) != 101)else Tc)then((((s1[((k:Int)).toNat]?).getD 0).toNat:Int) != 69)else Tc)=!mC s1[k]:=by
  intro hk
  rw[XW,mJ hk]
  have:decide ((k:Int)<(s1.length:Int))=Ta:=by simpa using hk
  rw[this,zI,As (n:=101) 101 rfl,As (n:=69) 69 rfl,mC]
  cases s1[k]==101 <;> simp
 refine⟨λw=>?_,λw=>?_,λw=>?_,λw=>?_⟩
 ·have:k<s1.length:=by simpa using w
  omega
 ·have:k<s1.length:=by simp at w;omega
  omega
 ·have o:k<s1.length:=by simp at w;omega
  rw[O o]at w
  rw[qz o (by omega)]
  refine⟨⟨k+1,rfl,by omega,λj D al=>?_⟩,by simp only[XW];omega⟩
  by_cases e:j=k
  ·subst e;simpa using w
  ·exact Z j D (by omega)
 ·-- the whole and the point
  have Y:xw s=if hk:k<s1.length then(s1.take k,s1.drop (k+1),Ta)else(s1,[],Tc):=by
   rw[<-hM]
   split
   ·rename_i o
    rw[O o]at w
    exact uK o (λj D=>Z j (by omega) D) (by simpa using w)
   ·exact uN λc Q=>by
     obtain⟨j,D,rfl⟩:=zca Q
     exact Z j D (by omega)
  have C:s1.take k=(xw s).1:=by
   rw[Y];split
   ·rfl
   ·rw[ZS (by omega)]
  have rest:∀(e:Bs) (low:Bool),low=Yd s->e=(if(xw s).2.2 then iI s else [48]) ->
    ∀G:Bt->Bool->Prop,(∀u:Bt,∀m:Bool,u=bl e->m=low->G u m)->G (bl e) low:=λe low _ _ G h=>h _ _ rfl rfl
  intro G ae
  have fin:∀(e:Bs) (low:Bool),low=Yd s->e=(if(xw s).2.2 then iI s else [48])->G (bl e) low:=by
   intro e low ak U
   refine ae _ _ ⟨by omega,?_⟩
   have ay:(bl s1).extract 0 ((k:Int)).toNat=bl (xw s).1:=by rw[XW,yu,za2,Nat.sub_zero,C]
   rw[ay]
   generalize au:(xw s).1=m1 at *
   have aA:m1.length<=s1.length:=by rw[<-C];simp;omega
   have hw:cutAt mN m1=jv s:=by rw[jv,au]
   simp only[zk,qt]
   refine⟨λi=>∃k:Nat,i=k/\k<=m1.length/\∀j (D:j<m1.length),j<k->mN m1[j]=Tc,λi=>m1.length-i.toNat,⟨0,rfl,by omega,λj _ h=>by omega⟩,?_⟩
   rintro i ⟨q,rfl,hq,T⟩
   have H:∀hq:q<m1.length,(bif decide ((q:Int)<(m1.length:Int))then((((m1[((q:Int)).toNat]?).getD 0).toNat:Int) != 46)else Tc)=!mN m1[q]:=by
    intro hq
    rw[XW,mJ hq]
    have:decide ((q:Int)<(m1.length:Int))=Ta:=by simpa using hq
    rw[this,zI,As (n:=46) 46 rfl,mN]
   refine⟨λw=>?_,λw=>?_,λw=>⟨?_,?_⟩⟩
   ·have:q<m1.length:=by simpa using w
    omega
   ·have t:q<m1.length:=by simp at w;omega
    rw[H t]at w
    rw[qz t (by omega)]
    refine⟨⟨q+1,rfl,by omega,λj D al=>?_⟩,by simp only[XW];omega⟩
    by_cases e:j=q
    ·subst e;simpa using w
    ·exact T j D (by omega)
   ·omega
   ·have E:jv s=if hq:q<m1.length then(m1.take q,m1.drop (q+1),Ta)else(m1,[],Tc):=by
     rw[<-hw]
     split
     ·rename_i t
      rw[H t]at w
      exact uK t (λj D=>T j (by omega) D) (by simpa using w)
     ·exact uN λc Q=>by
       obtain⟨j,D,rfl⟩:=zca Q
       exact T j D (by omega)
    have ah:(bl m1).extract 0 ((q:Int)).toNat=bl (jv s).1:=by
     rw[XW,yu,za2,Nat.sub_zero,E]
     split
     ·rfl
     ·rw[ZS (by omega)]
    rw[ah]
    have aE:(jv s).1.length<=s.length:=by rw[E];split <;> simp <;> omega
    have aB:(jv s).2.1.length<=s.length:=by rw[E];split <;> simp <;> omega
    have aC:e.length<=s.length+1:=by
     rw[U]
     split
     ·rename_i aD
      have:(iI s).length<=(xw s).2.1.length:=by
       unfold iI;split
       ·simp
       ·split <;> simp
      have:(xw s).2.1.length<=s1.length:=by rw[Y];split <;> simp
      omega
     ·simp
    have N:∀(F:Bt->Prop),(∀r:Bt,r=bl (if(jv s).2.2 then(jv s).2.1 else [48])->F r)->((decide ((q:Int)<(m1.length:Int)))=Ta->(0<=(XS .i64 ((q:Int)+1))/\(XS .i64 ((q:Int)+1))<=(m1.length:Int)/\((m1.length:Int))<=(m1.length:Int))/\F ((bl m1).extract (XS .i64 ((q:Int)+1)).toNat ((m1.length:Int)).toNat))/\((decide ((q:Int)<(m1.length:Int)))=Tc->F (bl [48])):=by
     intro F B
     refine⟨λp=>?_,λp=>?_⟩
     ·have t:q<m1.length:=by simpa using p
      rw[qz t (by omega)]
      refine⟨by omega,B _ ?_⟩
      rw[E,dif_pos t,XW,XW,yu,ZS (by simp)];rfl
     ·have t:¬q<m1.length:=by simpa using p
      refine B _ ?_
      rw[E,dif_neg t];rfl
    intro F B
    refine N F λr hr=>B r ?_
    subst hr
    clear B N
    have M:((q:Int)==(m1.length:Int))=!(jv s).2.2:=by
     rw[E,YW]
     split
     ·simp;omega
     ·simp;omega
    refine Yw (l:=(jv s).1) (by omega) ⟨λx=>Zy (if(jv s).2.2 then(jv s).2.1 else [48])=x,λ_=>Yw (by split <;> first|omega|simp) rfl,λy A=>?_⟩
    refine⟨λx=>Zy e=x,λ_=>Yw (by omega) rfl,λz hz=>?_⟩
    rw[show(⟨#[48]⟩:Bt)=bl [48]from rfl]
    simp only[kd,zk,qt]
    generalize S:Zy (jv s).1=d1 at *
    have af:Zy (if(jv s).2.2 then(jv s).2.1 else [48])=(!(jv s).2.2||Zy (jv s).2.1):=by
     cases(jv s).2.2 <;> simp;decide
    have ac:Zy e=(!(xw s).2.2||Zy (iI s)):=by
     rw[U];cases(xw s).2.2 <;> simp;decide
    have f:jS s=((bif (bif d1 then y else Tc)then z else Tc)&&((jv s).1==[48]||(jv s).1.head? != Td 48)):=by
     unfold jS
     rw[S,<-af,<-ac]
     cases J:d1 with
     |false=>simp
     |true=>
      have ax:=A J
      rw[ax]
      cases hyv:y with
      |false=>simp
      |true=>
       have am:=hz (by rw[J,hyv];rfl)
       rw[am];cases z <;> simp
    refine⟨λp=>?_,?_⟩
    ·have:d1=Ta:=by simp at p;exact p.1.1.1
     have:=Wp (S.trans this)
     omega
    ·intro aj aa
     have I:aj (bl (jv s).2.1):=by
      refine aa _ ?_
      have h4:∀J:d1=Ta,(bif decide ((jv s).1=[48])then Ta else(((((jv s).1[0]?).getD 0).toNat:Int) != 48))=((jv s).1==[48]||(jv s).1.head? != Td 48):=by
       intro J
       rw[vA (Wp (S.trans J)),zbd,YW];simp
      cases ho:jS s with
      |true=>
       rw[ho]at f
       have J:d1=Ta:=by cases d1 <;> simp at f;rfl
       rw[h4 J]
       have az:(bif (bif d1 then y else Tc)then z else Tc)=Ta:=by
        cases Z:(bif (bif d1 then y else Tc)then z else Tc)with
        |true=>rfl
        |false=>rw[Z]at f;simp at f
       rw[az]at f ⊢
       rw[zI]
       rw[zal]at f
       rw[<-f]
       have:=h1 ho
       unfold Y4 at this
       simp only at this
       rw[ak,U]
       have e5:(if(xw s).2.2 then(if(xw s).2.2 then iI s else [])else [48])=(if(xw s).2.2 then iI s else [48]):=by cases(xw s).2.2 <;> rfl
       rw[e5]at this
       exact this
      |false=>
       rw[ho]at f
       have hv:(bif (bif (bif d1 then y else Tc)then z else Tc)then(bif decide ((jv s).1=[48])then Ta else(((((jv s).1[0]?).getD 0).toNat:Int) != 48))else Tc)=Tc:=by
        cases J:d1 with
        |false=>rfl
        |true=>
         rw[h4 J]
         rw[J]at f
         rw[zak];exact f.symm
       rw[hv]
       exact h2 ho _ _ _ _ _
     refine⟨λp=>?_,λp=>?_⟩
     ·rw[M]at p
      have ar:(jv s).2.2=Tc:=by simpa using p
      have:(jv s).2.1=[]:=(tH ar).2
      rw[this]at I;exact I
     ·rw[M]at p
      have ai:(jv s).2.2=Ta:=by simpa using p
      rw[ai] ;exact I
  refine⟨λp=>?_,λp=>?_⟩
  ·have o:k<s1.length:=by simpa using p
   rw[qz o (by omega)]
   have hE:(xw s).2.1=s1.drop (k+1):=by rw[Y,dif_pos o]
   have V:(xw s).2.2=Ta:=by rw[Y,dif_pos o]
   have ab:(bl s1).extract ((k+1:Nat):Int).toNat ((s1.length:Int)).toNat=bl (xw s).2.1:=by
    rw[XW,XW,yu,ZS (by simp),hE]
   rw[ab]
   simp only[zk,qt]
   rw[sB (l:=(xw s).2.1) (c:=45) (n:=45) rfl,sB (l:=(xw s).2.1) (c:=43) (n:=43) rfl]
   have L:((xw s).2.1.head?==Td 45)=Yd s:=by unfold Yd;rw[V];rfl
   rw[L]
   refine⟨by omega,λA=>by simp at A;omega,λA=>by simp at A;omega,λA=>⟨?_,?_⟩,λA=>?_⟩
   ·have:0<(xw s).2.1.length:=by
     cases hl:(xw s).2.1 with
     |nil=>rw[<-L,hl]at A;simp at A
     |cons=>simp
    omega
   ·rw[yu,uY]
    refine fin _ _ rfl ?_
    rw[V,zb rfl,iI]
    cases hl:Yd s with
    |true=>simp
    |false=>rw[hl]at A;simp at A;simp[A]
   ·refine fin _ _ rfl ?_
    rw[V,zb rfl,iI]
    cases hl:Yd s with
    |true=>rw[hl]at A;simp at A
    |false=>rw[hl]at A;simp at A;simp[A]
  ·have o:¬k<s1.length:=by simpa using p
   refine fin [48] Tc ?_ ?_
   ·unfold Yd;rw[Y,dif_neg o];rfl
   ·rw[Y,dif_neg o];rfl
end
section
variable {l:Bs}
theorem H7(h:(l.head?==Td 48)=Tc):l.dropWhile (· == 48)=l:=by
 cases l with
 |nil=>rfl
 |cons b t=>rw[zcu,za];simpa using h
theorem IF(h:(l.head?==Td 48)=Ta):l.tail.dropWhile (· == 48)=l.dropWhile (· == 48):=by
 cases l with
 |nil=>rfl
 |cons b t=>
  have:b=48:=by simpa using h
  subst this;rfl
theorem VZ(l:Bs):zi (48::l)=zi l:=rfl
theorem Nw(l:Bs):zi (l.dropWhile (· == 48))=zi l:=by
 induction l with
 |nil=>rfl
 |cons b t c=>
  rw[zcu];split;rename_i h;have:b=48:=by simpa using h
  subst this;rw[c,VZ];rfl
theorem I7{n:Int}(h1:0<=n)(c:n<256):XS .u8 n=n:=by
 unfold XS;have e:(2:Int) ^ zah .u8=256:=by decide
 simp only[e];have b:zdi .u8=Tc:=rfl;simp only[b,zdk,zad,if_false];omega
theorem Pm{m:Int}(b:0<=m):(bif decide ((l.length:Int)>m)then(((l[0]?.getD 0).toNat:Int)==48)else Tc)=(decide ((l.length:Int)>m)&&l.head?==Td 48):=by
 cases hd:decide ((l.length:Int)>m)with
 |false=>rfl
 |true=>
  have e:0<l.length:=by simp at hd;omega
  rw[zI,zal];have:=sB (l:=l) (c:=48) (n:=48) rfl;rw[show decide ((l.length:Int)>0)=Ta by simp;omega,zI]at this;exact this
def stripR(l:Bs):Bs:=(l.reverse.dropWhile (· == 48)).reverse
theorem Rl{c:UInt8}(h:c=48):stripR (l++[c])=stripR l:=by subst h;unfold stripR;rw[List.reverse_append];rfl
theorem MA{c:UInt8}(h:¬c=48):stripR (l++[c])=l++[c]:=by unfold stripR;rw[List.reverse_append,List.reverse_singleton,List.singleton_append,zcu,za (by simpa using h)];simp
theorem Kf{α β γ δ:Type}{B:α->β->γ->δ->Prop}{c:Bool}{a b:α}{x:β}{y:γ}{z:δ}(h:∀e,e=(bif c then a else b)->B e x y z):∀K:α->β->γ->δ->Prop,(∀e x y z,B e x y z->K e x y z)->(c=Ta->K a x y z)/\(c=Tc->K b x y z):= λK i=>⟨λf=>i _ _ _ _ (h _ (by subst f;rfl)),λf=>i _ _ _ _ (h _ (by subst f;rfl))⟩
set_option maxHeartbeats 1000000 in
theorem KF{gl : Fr}{s : Bs}(hs : s.length <= 1152921504606846976){R : (Bool × Bt × Int) × Int -> Prop}(h : R (jX (qg s).1, (qg s).2)): PC Tp gl 232 [Arg.mk .str (bl s)] [tN, .int .i64] R := by
  apply S1;refine Tf hs (λhok => ?_) (λhok a b c d e => ?_);rotate_left;refine ⟨λ_ => ?_, λhx => by cases hx⟩;have : Jp s = Te := by unfold Jp; simp [hok]
  unfold qg at h;rw [this] at h; exact h;have hlit : Jp s = Td (Y4 s) := by unfold Jp; simp [hok]
  have hlen := vP hlit;obtain ⟨d1, d2, d3⟩ := HW hlit;unfold qg at h;rw [hlit] at h;simp only at h;obtain ⟨E1, hE1, hE1d, hE1v⟩ : ∃ E1, (if (xw s).2.2 then (Y4 s).exp else [48]) = E1 /\ E1.all ji = Ta /\ E1.dropWhile (· == 48) = (Y4 s).exp.dropWhile (· == 48) := by
    refine ⟨_, rfl, ?_, ?_⟩;split;exact d3;rfl;cases hm : (xw s).2.2 with
    | true => rfl
    | false => simp [Y4, hm]
  have hE1l : E1.length <= s.length + 1 := by rw [<- hE1]; split;omega;simp only [ZF]; omega
  rw [hE1];generalize Y4 s = x at *;refine ⟨λhx => (by cases hx), λ_ => ?_⟩;simp only [zk];rw [eK (by omega)];refine ⟨λhx => ?_, λhx => ?_⟩;rw [zb (by simp at hx; omega)] at h; exact h;rw [za (by simp at hx; omega)] at h;have hx' : x.whole.length + x.rest.length <= 1000 := by simp at hx; omega
  refine ⟨λe8 _ _ _ => ∃ E : Bs, e8 = bl E /\ E.all ji = Ta /\ E.dropWhile (· == 48) = x.exp.dropWhile (· == 48), λe8 _ _ _ => e8.size, ⟨E1, rfl, hE1d, hE1v⟩, ?_⟩;rintro e8 b1 b2 b3 ⟨E, rfl, hEd, hEv⟩;simp only [zk, qt, show (0 : Int).toNat = 0 from rfl, Pm (l := E) (m := 1) (by omega)];refine ⟨λhy => by simp at hy; omega, λhy => ?_, λhy => ?_⟩;have hy1 : 1 < E.length /\ (E.head? == Td 48) = Ta := by
    have : (1 : Int) < (E.length : Int) /\ E.head? = Td 48 := by simpa using hy
    exact ⟨by omega, by simp [this.2]⟩
  rw [yu, uY];refine ⟨by omega, ⟨E.tail, rfl, ?_, ?_⟩, by rw [zk, List.length_tail]; omega⟩;rw [<- List.drop_one]; exact Kq hEd 1;rw [IF hy1.2, hEv];have hEx : (E.length <= 1 \/ E.dropWhile (· == 48) = E) := by
    cases hh : (E.head? == Td 48) with
    | false => exact .inr (H7 hh)
    | true => rw [hh] at hy; simp at hy; exact .inl (by omega)
  have hdl := wj E (· == 48);have hlen9 : E.length > 9 ↔ (x.exp.dropWhile (· == 48)).length > 9 := by rw [<- hEv];rcases hEx with hx | hx;omega;rw [hx]
  refine ⟨λhz => ?_, λhz => ?_⟩;rw [zb (hlen9.1 (by simp at hz; omega))] at h; exact h;have hE9 : E.length <= 9 := by simp at hz; omega
  rw [za (λhh => by have := hlen9.2 hh; omega)] at h;have hval : zi (x.exp.dropWhile (· == 48)) = zi E := by rw [<- hEv, Nw]
  rw [hval] at h;have hvb : zi E < 10 ^ 9 := X6 hE9 hEd;refine ⟨λe i _ _ _ => ∃ k : Nat, i = k /\ k <= E.length /\ e = (zi (E.take k) : Int), λ_ i _ _ _ => E.length - i.toNat, ⟨0, rfl, by omega, by simp [zi]⟩, ?_⟩;rintro e i b1 b2 b3 ⟨k, rfl, hk, rfl⟩;refine ⟨λhc => ?_, λhc => ?_⟩;have hc' : k < E.length := by simpa using hc
  have hd := ue hEd hc';simp only [XW, mJ hc'];have hle := X6 (n := 9) (l := E.take k) (by simp; omega) (BN hEd k);rw [I7 (by omega) (by omega), qz hc' (by omega), eK (n := 10 * _) (by omega), eK (n := (_ : Int) - 48) (by omega), eK (n := _ + _) (by omega)];refine ⟨by omega, ⟨k + 1, rfl, by omega, ?_⟩, by simp only [XW]; omega⟩;rw [xg hc']; omega;have hc' : ¬ k < E.length := by simpa using hc
  rw [ZS (by omega)];apply Kf;intro e7 he7;refine ⟨by unfold zw; omega, ?_⟩;rw [zr];have hD : (x.whole ++ x.rest).all ji = Ta := by rw [zb9, sc d1, d2]; rfl
  have hev : e7 = if x.low then - (zi E : Int) else (zi E : Int) := by rw [he7]; cases x.low <;> simp; exact eK (by omega)
  rw [<- hev] at h;have hb : -1000000000 <= e7 /\ e7 <= 1000000000 := by rw [hev]; split <;> omega
  refine ⟨λd _ _ _ => ∃ D : Bs, d = bl D /\ D.dropWhile (· == 48) = (x.whole ++ x.rest).dropWhile (· == 48) /\ D.length <= 1000, λd _ _ _ => d.size, ⟨_, rfl, rfl, by rw [XX]; exact hx'⟩, ?_⟩;rintro d b1 b2 b3 ⟨D, rfl, hDv, hDl⟩;simp only [zk, qt, sB (l := D) (c := 48) (n := 48) rfl];refine ⟨λhy => by simp at hy; omega, λhy => ?_, λhy => ?_⟩;have hp : 0 < D.length := by
    cases D with
    | nil => simp at hy
    | cons => simp
  rw [yu, uY];exact ⟨by omega, ⟨D.tail, rfl, by rw [IF hy, hDv], by rw [List.length_tail]; omega⟩, by rw [zk, List.length_tail]; omega⟩;have hDe := H7 hy;rw [hDv] at hDe;rw [show (⟨#[]⟩ : Bt) = bl [] from rfl];simp only [kd];rw [hDe] at h;refine ⟨λhz => ?_, λhz => ?_⟩;rw [zb (by simpa using hz)] at h; exact h;have hne : D ≠ [] := by simpa using hz
  rw [za hne] at h;have hsh : y5 (x.whole ++ x.rest) = stripR D := by unfold y5 stripR; rw [hDe]
  have hsl : (stripR D).length <= D.length := by have := (Qk hD (by rw [hDe]; exact hne)).2.1;rw [hsh, hDe] at this; exact this
  have hsne : stripR D ≠ [] := by have := (Qk hD (by rw [hDe]; exact hne)).1;rw [hsh] at this;intro e; rw [e] at this; cases this
  rw [hsh] at h;rw [eK (n := e7 - _) (by omega)];refine ⟨λe d _ _ _ => ∃ D' : Bs, d = bl D' /\ D'.length <= 1000 /\ stripR D' = stripR D /\ e + D'.length = e7 - (x.rest.length : Int) + D.length, λ_ d _ _ _ => d.size, ⟨D, rfl, hDl, rfl, rfl⟩, ?_⟩;rintro e d b1 b2 b3 ⟨D', rfl, hl', hs', he'⟩;have hne' : D' ≠ [] := by rintro rfl;rw [<- hs'] at hsne; exact hsne rfl
  have hp : 0 < D'.length := zav.2 hne';simp only [zk, qt];rw [pa hp (by omega)];have hlast : D' = D'.take (D'.length - 1) ++ [D'[D'.length - 1]] := by rw [<- YD (by omega), show D'.length - 1 + 1 = D'.length by omega, YR]
  simp only [XW, mJ (show D'.length - 1 < D'.length by omega)];refine ⟨by omega, λhq => ?_, λhq => ?_⟩;have hc48 : D'[D'.length - 1] = 48 := zbi.1 (by (have : (D'[D'.length - 1].toNat : Int) = 48 := by simpa using hq); (have : D'[D'.length - 1].toNat = 48 := by omega); rw [this]; rfl);rw [eK (n := e + 1) (by omega), yu];refine ⟨by omega, ⟨D'.take (D'.length - 1), by simp, by simp; omega, ?_, by simp; omega⟩, by rw [zk]; simp; omega⟩;rw [<- hs'];conv => rhs; rw [hlast]
  rw [Rl hc48];have hc48 : ¬ D'[D'.length - 1] = 48 := λe => by rw [e] at hq; simp at hq
  have hfin : D' = stripR D := by
    rw [<- hs'];conv => rhs; rw [hlast]
    rw [MA hc48, <- hlast]
  have hee : e = e7 - (x.rest.length : Int) + (D.length : Int) - ((stripR D).length : Int) := by rw [<- hfin]; omega
  rw [hee, hfin];refine ⟨λhw => ?_, λhw => ?_⟩;rw [za (by rw [zbd] at hw; simp at hw; omega)] at h; exact h;rw [zb (by rw [zbd] at hw; simp at hw; omega)] at h; exact h
end
end Go.X
end
section
namespace Go.X
open Go Go.Proofs Go.Shelf Go.RowKit
section
def S2:Go.Shelf.Ren:=⟨fun|196=>246|259=>297|n=>n,fun|9=>9|4=>4|3=>3|5=>5|12=>12|119=>305|0=>0|46=>123|139=>308|138=>307|53=>178|n=>n,fun|3=>0|4=>1|n=>n⟩
theorem Kd:Go.Proofs.Lays.n196 Tp S2:=by constructor <;> intros <;> kernel_rfl
open Go.RowKit Go.Lib in
theorem UA(s:Bt)(w:World)(b:s.size<=9223372036854775807)(c:Lib.Utf8Tabs 0 1 w): Calls Tp 246 #[.string s] w λe w'=>e=.returned (.bool (Lib.validD s.data.toList))/\Below w.heap.size w w':=Any.utf8_ValidString Kd s w b c
end
end Go.X
end
section
namespace Go.X
section
variable {l:Bs}
theorem Pt{n:Int}{k:Nat}(b:n=(k:Int)):(bl l).extract n.toNat ((l.length:Int)).toNat=bl (l.drop k):=by subst b;rw[XW,XW,yu,ZS (by simp)]
theorem Ix(l:Bs):Lib.validD l=Zv l:=by
 by_cases h:l=[];subst h;rw[w0];rfl;rw[Lib.validD_step l h,Jo h,Lib.decodeL_N,Ix (l.drop _)];have e:i9 (dec l)=decide ((dec l).1=65533/\(dec l).2=1):=by unfold i9;rw[Bool.decide_and];rfl
 rw[e];by_cases c:(dec l).1=65533/\(dec l).2=1;rw[zH c];exact zb c;rw[decide_eq_false c];exact za c
termination_by l.length
decreasing_by
 have h1:=Z6 l;have h2:0<l.length:=zav.2 h;unfold dec at h1;simp only[zai];omega
theorem NW{gl:Fr}(c:Tabs gl)(e:l.length<=4611686018427387904){R:Bool->Prop}(h:R (Zv l)):PC Tp gl 246 [Arg.mk .str (bl l)] [.bool] R:= PC.of_scal rfl (λ_=>Od _) (by rw[<-Ix]at h;exact h) λw b=>UA (bl l) w (by rw[zk];omega) (c.at b)
end
end Go.X
end
section
namespace Go.X
open Go Go.Lib
section
theorem KQ(l:Bs)(a:Nat):l.foldl (λn c=>10*n+(c.toNat-48)) a=a*10 ^ l.length+zi l:=by
 induction l generalizing a with
 |nil=>simp[zi]
 |cons c t b=>
  simp only[List.foldl_cons,YL,zi];rw[b,b (10*0+(c.toNat-48)),Nat.pow_succ];have:(10*a+(c.toNat-48))*10 ^ t.length=a*(10 ^ t.length*10)+(c.toNat-48)*10 ^ t.length:=by rw[za4,zcm 10 a,Nat.mul_assoc,zcm 10 (10 ^ t.length)]
  rw[this];simp;omega
theorem Ws(a b:Bs):zi (a++b)=zi a*10 ^ b.length+zi b:=by rw[zi,List.foldl_append,KQ];rfl
theorem Vb(n:Nat):zi (za9 n 48)=0:=by
 induction n with
 |zero=>rfl
 |succ n b=>rw[List.replicate_succ];exact b
theorem GJ:∀(l:Bs) (b:Nat),l.all ji=Ta->b*10 ^ l.length+zi l<10 ^ 19->parseUintM (2 ^ 64-1) b l=.ok (b*10 ^ l.length+zi l)
 |[],b,_,_=>by simp[parseUintM,zi]
 |c::t,b,hd,hl=>by
  rw[zcr,YH]at hd
  have i:48<=c.toNat/\c.toNat<=57:=by simpa[ji]using hd.1
  have e:zi (c::t)=(c.toNat-48)*10 ^ t.length+zi t:=by
   have:=Ws [c] t
   rw[List.singleton_append]at this
   rw[this];simp[zi]
  have f:(b*10+(c.toNat-48))*10 ^ t.length+zi t=b*10 ^ (c::t).length+zi (c::t):=by
   rw[e,YL,Nat.pow_succ,za4,Nat.mul_assoc,zcm 10 (10 ^ t.length)];omega
  have h:1<=10 ^ t.length:=Nat.one_le_pow _ _ (by decide)
  have j:b*10+(c.toNat-48)<=b*10 ^ (c::t).length+zi (c::t):=by
   rw[<-f]
   calc b*10+(c.toNat-48)=(b*10+(c.toNat-48))*1:=by omega
    _<=(b*10+(c.toNat-48))*10 ^ t.length:=Nat.mul_le_mul_left _ h
    _<=_:=by omega
  rw[parseUintM,zb i,za (by omega),za (by omega),GJ t _ hd.2 (by rw[f];exact hl),f]
def wm(n:Nm):Bs:=n.2.1++za9 n.2.2.toNat 48
theorem GA(n:Nm):zi (wm n)=zi n.2.1*10 ^ n.2.2.toNat:=by rw[wm,Ws,Vb,zbq,zco]
theorem Mz{n:Nm}(h:ya n=Ta):n.2.1.all ji=Ta:=by unfold ya Xc at h;rcases zbt _ _ ▸ h with h|h;simp at h;rw[h.2.1];rfl;simp only[YH]at h;exact sc h.1.1.1.1.1
theorem Ga{n:Nm}(h:ya n=Ta):(wm n).all ji=Ta:=by rw[wm,zb9,Mz h,zal,ZH];intro x b;rw[List.mem_replicate]at b;rw[b.2];rfl
theorem Of{l:Bs}(neg:Bool)(e:l.all ji=Ta)(j:l.length<=19)(b:l≠[]):
  parseIntB 64 ((if neg then [45]else [])++l)=if neg then(if zi l<=9223372036854775808 then .ok (-(zi l:Int))else .range)else(if zi l<=9223372036854775807 then .ok (zi l:Int)else .range):=by
 have k:zi l<10 ^ 19:=X6 j e;have f:=GJ l 0 e (by rw[zda];omega);rw[zda,YP]at f;cases neg with
 |true=>simp only[if_true,List.singleton_append];unfold parseIntB;simp only[show(45:UInt8).toNat=45 from rfl,or_true,if_true];unfold parseUintB;rw[za b,f];simp only[not_true_eq_false,false_and,if_false,true_and];split;rename_i h;rw[za (by omega)];rename_i h;rw[zb (by omega)]
 |false=>
  simp only[zad,if_false,za6];obtain⟨c,t,rfl⟩:=zb1 b;have m:48<=c.toNat/\c.toNat<=57:=by rw[zcr,YH]at e;simpa[ji]using e.1
  unfold parseIntB;simp only;rw[za (by omega)];unfold parseUintB;rw[za (by simp),f];have i:¬c.toNat=45:=by omega
  simp only[i,not_false_eq_true,true_and,false_and,if_false];split;rename_i h;rw[za (by omega)];rename_i h;rw[zb (by omega)]
theorem LO{a b:Nat}(j:a<18446744073709551616)(k:b<18446744073709551616):XS .u64 (((zaz (zah .u64) (a:Int)) &&& (zaz (zah .u64) (b:Int))).toNat:Int)=((a &&& b:Nat):Int):=by
 have c:zah .u64=64:=rfl;have e:((zaz (zah .u64) (a:Int)) &&& (zaz (zah .u64) (b:Int))).toNat=a &&& b:=by rw[BitVec.toNat_and,BitVec.ofInt_natCast,BitVec.ofInt_natCast,BitVec.toNat_ofNat,BitVec.toNat_ofNat,c,Nat.mod_eq_of_lt (by omega),Nat.mod_eq_of_lt (by omega)]
 rw[e];have f:a &&& b<2 ^ 64:=Nat.and_lt_two_pow _ (by omega);unfold XS;have h:(2:Int) ^ zah .u64=18446744073709551616:=by decide
 simp only[h];have i:zdi .u64=Tc:=rfl;simp only[i,zdk,zad,if_false];omega
theorem KD{n:Int}(h1:0<=n)(e:n<18446744073709551616):XS .u64 n=n:=by
 unfold XS;have b:(2:Int) ^ zah .u64=18446744073709551616:=by decide
 simp only[b];have c:zdi .u64=Tc:=rfl;simp only[c,zdk,zad,if_false];omega
end
section
variable {v x:Tr} {l:List Tr} {k:Nat}
mutual
def bR:Tr->Nat | .mk _ _ _ xs=>1+Zz xs
def Zz:List Tr->Nat | []=>0|x::l=>bR x+Zz l
end
mutual
def iq:Tr->Nat | .mk _ _ _ xs=>X7 xs+1
def X7:List Tr->Nat | []=>0|x::l=>max (iq x) (X7 l)
end
mutual
def Zk(p:Tr->Bool):Tr->Bool | .mk k s ks xs=>p (.mk k s ks xs)&&mf p xs
def mf(p:Tr->Bool):List Tr->Bool | []=>Ta|x::l=>Zk p x&&mf p l
end
mutual
def ka(m:Nat):Tr->Prop | .mk _ s ks xs=>(s.size<=m/\ks.length<=m/\∀k∈ks,k.size<=m)/\mH m xs
def mH(m:Nat):List Tr->Prop | []=>True|x::l=>ka m x/\mH m l
end
theorem wy(v:Tr):bR v=1+Zz v.items:=by cases v;rw[bR]
theorem X8(v:Tr):iq v=X7 v.items+1:=by cases v;rw[iq]
theorem Zb(p:Tr->Bool)(v:Tr):Zk p v=(p v&&mf p v.items):=by cases v;rw[Zk]
theorem n3(m:Nat)(v:Tr):ka m v↔(v.text.size<=m/\v.keys.length<=m/\∀k∈v.keys,k.size<=m)/\mH m v.items:=by cases v;rw[ka]
theorem uA{m:Nat}:∀{l:List Tr},mH m l↔∀x∈l,ka m x
 |[]=>by simp[mH]
 |x::l=>by rw[mH,uA];simp
theorem TJ{m:Nat}(h:ka m v)(b:x∈v.items):ka m x:=uA.1 ((n3 m v).1 h).2 x b
theorem jw(p:Tr->Bool):∀l:List Tr,mf p l=l.all (Zk p)
 |[]=>rfl
 |x::l=>by rw[mf,jw p l];rfl
theorem Wt:∀a b:List Tr,Zz (a++b)=Zz a+Zz b
 |[],b=>by simp[Zz]
 |x::l,b=>by rw[ZU,Zz,Zz,Wt l b];omega
theorem Fs:∀a b:List Tr,X7 (a++b)=max (X7 a) (X7 b)
 |[],b=>by simp[X7]
 |x::l,b=>by rw[ZU,X7,X7,Fs l b];omega
theorem DU{x:Tr}:∀{l:List Tr},x∈l->bR x<=Zz l
 |y::l,h=>by rw[Zz];rcases YB.1 h with rfl|h;omega;have:=DU h;omega
theorem qp(h:x∈v.items):bR x<bR v:=by have:=DU h;rw[wy v];omega
theorem Zc:∀l:List Tr,l.length<=Zz l
 |[]=>by simp[Zz]
 |x::l=>by have:=Zc l;rw[Zz,YL,wy];omega
theorem Ye(v:Tr):0<bR v:=by rw[wy];omega
theorem Ex(b:k<l.length):Zz (l.take (k+1))=Zz (l.take k)+bR l[k]:=by rw[YD b,Wt];simp[Zz]
theorem JG(b:k<l.length):X7 (l.take (k+1))=max (X7 (l.take k)) (iq l[k]):=by rw[YD b,Fs];simp[X7]
mutual
theorem RJ:∀v:Tr,iq v<=bR v
 |.mk _ _ _ xs=>by rw[iq,bR];have:=vD xs;omega
theorem vD:∀l:List Tr,X7 l<=Zz l
 |[]=>by simp[X7]
 |x::l=>by rw[X7,Zz];have:=RJ x;have:=vD l;omega
end
def ye(ks:List Bt):Bool:=ks.all (λk=>Zv (lb k))&&decide ks.Nodup
def iX(s:Bs):Nm×Bool:=((qg s).1,(qg s).2==0&&decide (Zn (qg s).1=s))
def vy(s:Bs):Bool:=(iX s).2&&(pr (iX s).1).2&&decide (0<=(pr (iX s).1).1)
def zl(v:Tr):Bool:=
 if v.kind=1 then lb v.text==[]&&v.keys.isEmpty&&v.items.isEmpty
 else if v.kind=2 then(lb v.text==[116,114,117,101]||lb v.text==[102,97,108,115,101])&&v.keys.isEmpty&&v.items.isEmpty
 else if v.kind=3 then(iX (lb v.text)).2&&v.keys.isEmpty&&v.items.isEmpty
 else if v.kind=4 then Zv (lb v.text)&&v.keys.isEmpty&&v.items.isEmpty
 else if v.kind=5 then lb v.text==[]&&v.keys.isEmpty
 else if v.kind=6 then ye v.keys&&decide (v.keys.length=v.items.length)&&lb v.text==[]
 else if v.kind=7 then vy (lb v.text)&&v.keys.isEmpty&&v.items.isEmpty
 else Tc
def Zd(v:Tr):Bool:=decide (bR v<=4096)&&decide (iq v<=32)
def xx(v:Tr):Bool:=Zd v&&Zk zl v
def zn(v:Tr):Bool:=Zd v&&Zk (λx=>decide (x.kind≠7)&&zl x) v
structure Sm (v:Tr):Prop where
 sz:bR v<=1000000000000
 tx:ka 1048576 v
theorem Sm.item(h:Sm v)(b:x∈v.items):Sm x:=⟨by have:=qp b;have:=h.sz;omega,TJ h.tx b⟩
theorem Sm.text(h:Sm v):(lb v.text).length<=1048576:=by rw[Yv];exact((n3 _ v).1 h.tx).1.1
theorem Sm.key(h:Sm v){k:Bt}(b:k∈v.keys):(lb k).length<=1048576:=by rw[Yv];exact((n3 _ v).1 h.tx).1.2.2 k b
theorem Sm.keys(h:Sm v):v.keys.length<=1048576:=((n3 _ v).1 h.tx).1.2.1
theorem Sm.items(h:Sm v):v.items.length<=1000000000000:=by have:=Zc v.items;have:=h.sz;rw[wy]at this;omega
end
end Go.X
end
section
namespace Go.X
section
variable {gl:Fr} {l:Bs} {R:Bool -> Prop}
theorem Aj(u:Tabs gl)(z:l.length<=4611686018427387904){R:Int×Bool->Prop}(h:∀k,R (k,Zv l)):PC Tp gl 196 [Arg.mk .str (bl l)] [.int .i64,.bool] R:=by
 apply KA;refine NW u z ⟨λn=>?_,λn=>?_⟩;have:=h ((bl l).size:Int);rw[n]at this;exact this;refine⟨λp=>p.1=bl l/\p.2<=l.length/\Zv (l.drop p.2)=Tc,λp=>l.length-p.2,⟨rfl,by omega,by simpa using n⟩,?_⟩;rintro⟨_,p⟩ ⟨rfl,x,c⟩;simp only at x c ⊢;rw[xO,ui];refine⟨λm=>⟨m,m,λr=>?_,λr=>⟨?_,?_⟩⟩,λm=>?_⟩;have f:p<l.length:=by simpa using m
 have b:l.drop p≠[]:=λe=>by have:=congrArg ZM e;simp at this;omega
 have o:i9 (dec (l.drop p))=Tc:=by
  unfold i9;have:¬(dec (l.drop p)).1=65533:=λe=>by rw[e]at r;simp at r
  simp[this]
 rw[Jo b,o]at c;simp only[zad,if_false,zcv]at c;rw[re l p f];have y:=Z6 (l.drop p);have j:=uU b;simp only[zai]at j;exact⟨⟨trivial,by omega,c⟩,by omega⟩;have f:p<l.length:=by simpa using m
 rw[zk];omega;have f:p<l.length:=by simpa using m
 have b:l.drop p≠[]:=λe=>by have:=congrArg ZM e;simp at this;omega
 rw[zk,Pt (k:=p) rfl];refine QL u ?_;have t:(bl (l.drop p)).size≠0:=by rw[zk];simp;omega
 have w:Lib.decodeGo (bl (l.drop p))=dec (l.drop p):=by unfold Lib.decodeGo;rw[za t,zQ,ww,za2]
 rw[w];refine⟨λi=>?_,λi=>?_⟩;have:=h (p:Int);have A:Zv l=Tc:=n;rw[A]at this;exact this;have o:i9 (dec (l.drop p))=Tc:=by
  unfold i9;have:¬(dec (l.drop p)).2=1:=λe=>by rw[e]at i;simp at i
  simp[this]
 rw[Jo b,o]at c;simp only[zad,if_false,zcv]at c;rw[re l p f];have y:=Z6 (l.drop p);have j:=uU b;simp only[zai]at j;exact⟨⟨trivial,by omega,c⟩,by omega⟩;have:l.drop p=[]:=zaw (by(have:¬p<l.length:=by simpa using m);omega);rw[this,w0]at c;cases c
theorem Se(b:Tabs gl)(c:l.length<=4611686018427387904)(h:R (Zv l)):PC Tp gl 137 [Arg.mk .str (bl l)] [.bool] R:=by apply MF;exact Aj b c λk=>h
theorem Im(b:Tabs gl)(c:l.length<=4611686018427387904)(h:R (Zv l)):PC Tp gl 149 [Arg.mk .str (bl l)] [.bool] R:=by apply Kj;exact Aj b c λk=>h
theorem A6(b:l.length<=4611686018427387904){R:Int×Bool->Prop}(h:∀k,R (k,Zv l)):PC Tp gl 203 [Arg.mk .str (bl l)] [.int .i64,.bool] R:= UD (by rw[zk];omega) λk=>by rw[ww];exact h k
theorem Gf(b:l.length<=4611686018427387904)(h:R (Zv l)):PC Tp gl 224 [Arg.mk .str (bl l)] [.bool] R:=by apply NM;exact A6 b λk=>h
structure GL (gl:Fr):Prop where
 tabs:Tabs gl
 pow:rH gl
 max:yV gl
 err:F0 gl
theorem Z8(s:Bs)(h:s.length<=1152921504606846976):(qg s).1.2.1.length<=4611686018427387904:=by
 unfold qg;split;simp;rename_i x f;have h1:=vP f;split;simp;split;simp;simp only;generalize (if x.low=Ta then-(zi (x.exp.dropWhile (· == 48)):Int)else zi (x.exp.dropWhile (· == 48)))=e;split;simp;rename_i b;have c:(y5 (x.whole++x.rest)).length<=(x.whole++x.rest).length:=by unfold y5;rw[List.length_reverse];refine zay (wj _ _) ?_;rw[List.length_reverse];exact wj _ _
 rw[XX]at c;split;show(y5 (x.whole++x.rest)).length<=_;omega;simp
theorem Bc(f:GL gl){s:Bs}(b:s.length<=1152921504606846976){R:(Bool×Bt×Int)×Bool->Prop}(h:R (jX (iX s).1,(iX s).2)):PC Tp gl 148 [Arg.mk .str (bl s)] [tN,.bool] R:=by
 apply KY;refine DT b ?_;refine⟨λt=>t=bl (Zn (qg s).1),λ_=>Hq f.pow (Z8 s b) rfl,λr c=>?_⟩;have e:(bif ((qg s).2==0)then(r.toList==(bl s).toList)else Tc)=(iX s).2:=by
  unfold iX;cases hc:((qg s).2==0)with
  |false=>rfl
  |true=>rw[c hc,zI,kd];rfl
 simp only at e ⊢;rw[e];exact h
theorem Lu{s:Bs}(b:s.length<=1152921504606846976){R:(Bool×Bt×Int)×Bool->Prop}(h:R (jX (iX s).1,(iX s).2)):PC Tp gl 223 [Arg.mk .str (bl s)] [tN,.bool] R:=by
 apply X0;refine KF b ?_;refine⟨λt=>t=bl (Zn (qg s).1),λ_=>WO (Z8 s b) rfl,λr c=>?_⟩;have e:(bif ((qg s).2==0)then(r.toList==(bl s).toList)else Tc)=(iX s).2:=by
  unfold iX;cases hc:((qg s).2==0)with
  |false=>rfl
  |true=>rw[c hc,zI,kd];rfl
 simp only at e ⊢;rw[e];exact h
theorem VB(n:Nat):Lib.repeatL [48] n=za9 n 48:=by
 induction n with
 |zero=>rfl
 |succ n b=>rw[Lib.repeatL,b];rfl
theorem Sc(A:GL gl){n:Nm}(E:n.2.1.length<=4611686018427387904){R:Int×Bool->Prop}(h:R (pr n)):PC Tp gl 209 [Arg.mk tN (jX n)] [.int .i64,.bool] R:=by
 apply PM;refine Az E ?_;unfold pr at h;cases hr:ya n with
 |false=>rw[hr]at h;exact⟨λ_=>by simpa using h,λl=>by simp at l⟩
 |true=>
  obtain⟨F,D,C⟩:=Wo hr;rw[hr]at h;simp only[zal]at h;simp only[zk];rw[eK (by omega)];refine⟨λl=>?_,λl=>?_⟩;rw[za]at h;exact h;simp at l ⊢;omega;have z:0<=n.2.2/\(n.2.1.length:Int)+n.2.2<=19:=by simp at l;omega
  rw[zb (by simp;omega)]at h;rw[<-GA]at h;obtain⟨e,x⟩:∃e:Nat,n.2.2=(e:Int):=⟨n.2.2.toNat,by omega⟩;show PC Tp gl 200 [Arg.mk .str (bl [48]),Arg.mk (.int .i64) n.2.2] [.str] _;rw[x];refine wW (by omega) (by rw[zk];simp;omega) ?_;rw[ww,VB,zr];have o:n.2.1++za9 e 48=wm n:=by rw[wm,x,XW]
  have p:(wm n).length<=19:=by rw[<-o];simp;omega
  have w:=Ga hr;rw[o];refine⟨Qf (a:=n.2.1) (by rw[zbq];omega),?_⟩;rw[show(⟨#[]⟩:Bt)=bl []from rfl,show(⟨#[45]⟩:Bt)=bl [45]from rfl];simp only[zr];intro K B;have key:∀t:Bs,t=(if n.1 then [45]else [])++wm n->K (bl t):=by
   intro t c;refine B _ ⟨λhz=>?_,λhz=>?_⟩;have u:t=[]:=by have:=kd t [];rw[this]at hz;simpa using hz
   rw[u]at c;have k:n.1=Tc:=by cases hb:n.1 <;> simp[hb]at c;rfl
   have i:wm n=[]:=by simp[k]at c;exact c
   rw[k,i]at h;exact h;have j:t≠[]:=by intro e;rw[e,kd]at hz;simp at hz
   refine V5 A.err (by rw[zk,c];split <;> simp <;> omega) ?_;rw[ww,c];have i:wm n≠[]:=by
    intro r;cases hb:n.1 with
    |false=>rw[c,hb,r]at j;exact j rfl
    |true=>
     have y:n.2.1=[]:=by rw[wm]at r;exact(zcd.1 r).1
     have:=DJ hr y;unfold Xc at this;rw[hb]at this;simp at this
   unfold wc;rw[Of n.1 w p i];cases hb:n.1 with
   |true=>rw[hb]at h;simp only[if_true]at h ⊢;by_cases m:zi (wm n)<=9223372036854775808;rw[zb (by omega)]at h;rw[zb m];exact⟨λf=>(by cases f),λ_=>h⟩;rw[za (by omega)]at h;rw[za m];exact⟨λ_=>h,λf=>(by cases f)⟩
   |false=>rw[hb]at h;simp only[zad,if_false]at h ⊢;by_cases m:zi (wm n)<=9223372036854775807;rw[zb (by omega)]at h;rw[zb m];exact⟨λf=>(by cases f),λ_=>h⟩;rw[za (by omega)]at h;rw[za m];exact⟨λ_=>h,λf=>(by cases f)⟩
  refine⟨λb=>⟨Qf (a:=[45]) (by simp;omega),?_⟩,λb=>?_⟩;exact key _ (by rw[zb (by simpa using b)]);exact key _ (by rw[za (by simpa using b)];rfl)
end
end Go.X
end
section
namespace Go.Proofs.YtplilfikcimcbaaGreatDoor
open Go Go.X Go.ChangeShapes Go.WideShapes Go.ChangeAt Go.RowKit Go.Lib
open Go.ChangeMaps (open_string shut_string)
set_option linter.unusedVariables false
section
variable {H:Type} {g:Nat} {t:TypeId} {held:Bool}
theorem Tryz.own:ownKnob ZB.godebug=none:=by kernel_rfl
theorem Tryz.laidOut:laidOutB ZB=true:=by kernel_rfl
theorem HL{enc:TypeId×Value->H}{a:Assume}{C:Checked}{os:Os}{f:FuncId}{fn:Func}{s:ChangeSpec}{n:List PathCond}{apart fresh h l:Bool}{X:World->Array Value->Prop} (L:∀(w w':World) (args:Array Value),w.heap=w'.heap->X w args->X w' args) (own:ownKnob C.prog.godebug=none) (m:os.Started) (p:C.prog.inits.idxOf? f=none) (G:C.prog.funcs[f]?=some fn) (o:∃(w:World) (b:Tape) (i:Input),w.os=os/\(w.forCall b i).Shaped C.prog/\i.vars=[]/\Input.okWide C.prog (w.forCall b i) .any w.heap.size f i /\ ((s.pre enc C.prog fn n apart (w.forCall b i).memory i.args/\X (w.forCall b i).memory i.args)/\sizedMet enc C.prog fn (OpenSpec.ofChange s) apart (w.forCall b i).memory i.args)/\a.holds C.prog (lone (Frame.enter C.prog f i.args .normal) [] (w.forCall b i))) (k:∀(W:World) (base:Nat) (args:Array Value) (z y:List (DataW H)) (c:List MemPlace),(∀(j:Nat) t v,fn.params[j]?=some t->args[j]?=some v->Value.okWide C.prog W .any base t v) -> DataW.Whole enc C.prog fn.params.toList s.vars apart W args.toList z y c -> (DataW.weightsEach C.prog (fn.params.toList++s.plain.varTypes C.prog) (z++y)).all (·<=reachBytes)=true -> X W args->W.ShapedOpen C.prog -> Calls C.prog f args W λe I=>∃v,e=.returned v/\s.post enc C.prog fn apart fresh h l W args v I):
  ReturnsInHanded a C os f .any (λw args=>(s.pre enc C.prog fn n apart w args/\X w args)/\sizedMet enc C.prog fn (OpenSpec.ofChange s) apart w args) (s.post enc C.prog fn apart fresh h l):=by
 refine returnsInHanded_of_calls own m p o ?_;intro w b i _ E _ D x A;obtain⟨_,_,_,F,u,_,_,_,_,r⟩:=D;have e:F=fn:=ZA (u.symm.trans G);subst e;obtain⟨⟨⟨z,y,c,J,P⟩,N⟩,hz⟩:=x;have B:=DataW.Whole.of_heap (w':=w.forCall b i) (by rfl) J;refine(k (w.forCall b i) w.heap.size i.args z y c r B (hz.weights J) (L _ _ _ (by rfl) N) E).mono λe I ⟨v,O,M⟩=>?_;subst O;exact ChangeSpec.post_blind M
theorem A2{P:Program}{W:World}{n:String}{k:IntKind}{l:List Int}{t e:TypeId}{m:Nat}(o:P.globalNamed n=some g)(u:(P.globals[g]?).map (·.type)=some t)(w:P.underlying t=some (.array m e))(x:P.underlying e=some (.int k))
  (c:P.cellsOf e=1) (j:P.cellsOf t=m) (h:VarReads P W n (tabData k l)):∃cs:Array Value,Fz W g=some cs/\cs.toList=l.map λz=>zax k z:=by
 obtain⟨g',t',cs,fuel,p,i,f,b,r⟩:=h;obtain rfl:=ZA (o.symm.trans i);obtain rfl:=ZA (u.symm.trans f);exact⟨cs,Fz.var o b,cells_of_tab w x c j r⟩
theorem VQ{W : World}(h : VarReads Tryz.prog W "unicode/utf8.first" Pinned.utf8First): ∃ cs : Array Value, Fz W 0 = some cs ∧ ∀ c, c < 256 → cs[c]? = some (.int .u8 (Lib.firstT c)) := by rw[Pinned.utf8First_eq]at h;obtain⟨cs,h1,h2⟩:=A2 (g:=0) (t:=305) (e:=5) (m:=256) (by kernel_rfl) (by kernel_rfl) (by kernel_rfl) (by kernel_rfl) (by kernel_rfl) (by kernel_rfl) h;refine⟨cs,h1,λc hc=>?_⟩;rw[<-Array.getElem?_toList,h2];simp[firstTab,hc]
theorem PI{W : World}(h : VarReads Tryz.prog W "unicode/utf8.acceptRanges" acceptData): ∃ cs : Array Value, Fz W 1 = some cs ∧ ∀ i, i < 16 → cs[2 * i]? = some (.int .u8 (Lib.accLo i)) ∧ cs[2 * i + 1]? = some (.int .u8 (Lib.accHi i)) := by
 obtain⟨g,t,cs,fuel,p,hg,hty,hvar,hd⟩:=h;obtain rfl := Option.some.inj ((show Tryz.prog.globalNamed "unicode/utf8.acceptRanges" = some 1 by kernel_rfl).symm.trans hg);obtain rfl:=Option.some.inj ((show(Tryz.prog.globals[1]?).map (·.type)=some 308 by kernel_rfl).symm.trans hty);refine⟨cs,Fz.var hg hvar,λi hi=>?_⟩;obtain⟨fuel',d,q,hdi,he⟩:=array_elem (show Tryz.prog.underlying 308=some (.array 16 307)by kernel_rfl) hd i hi;simp only[List.getElem?_map,List.getElem?_range hi,Option.map_some,Option.some.injEq]at hdi;subst hdi;have hc:Tryz.prog.cellsOf 307=2:=by kernel_rfl
 have c5:ZB.cellsOf 5=1:=by kernel_rfl
 have u5:ZB.underlying 5=some (.int .u8):=by kernel_rfl
 rw[hc]at he;have hcs:=ints_of_struct Tryz.underlying307 (λj f hj=>by
  match j,hj with
  |0,hj=>simp at hj;subst hj;exact⟨u5,rfl,c5⟩
  |1,hj=>simp at hj;subst hj;exact⟨u5,rfl,c5⟩
  |j+2,hj=>simp at hj) (by rw[hc];rfl) he
 have e0:=congrArg (·[0]?) hcs;have e1:=congrArg (·[1]?) hcs;simp only[ZJ,zaa]at e0 e1;constructor;rw[<-ZZ];simpa[zcm]using e0;rw[<-ZZ];simpa[zcm]using e1
theorem Vn{W : World}{d : DataW Unit}(hd : d = tabData .u64 Lib.pow10Tab)(h : VarReads Tryz.prog W "internal/strconv.uint64pow10" d): rH (Fz W) := by subst hd;obtain⟨cs,h1,h2⟩:=A2 (g:=2) (t:=349) (e:=178) (m:=20) (by kernel_rfl) (by kernel_rfl) (by kernel_rfl) (by kernel_rfl) (by kernel_rfl) (by kernel_rfl) h;exact⟨_,cs,by kernel_rfl,h1,by rw[<-h2]⟩
theorem EW{W:World}{n:String}{ms:Array (String×TypeId)}{m:String}{d:DataW Unit}(j:ZB.globalNamed n=some g)(r:(ZB.globals[g]?).map (·.type)=some t)(o:ZB.underlying t=some (.interface ms))(h:VarReads ZB W n (.iface m d)):
  ∃(cs:Array Value) (e:Value),Fz W g=some cs/\cs[0]?=some e/\(e=.nilIface\/∃l w,e=.iface l w):=by
 obtain⟨g',t',cs,fuel,p,i,c,b,k⟩:=h;obtain rfl:=ZA (j.symm.trans i);obtain rfl:=ZA (r.symm.trans c);obtain⟨x,u,v,f,_,_⟩:=iface_of_trod o k;exact⟨cs,.iface u v,Fz.var j b,by rw[<-ZZ,f];rfl,.inr ⟨u,v,rfl⟩⟩
theorem Vf{W:World}(h:W.ShapedOpen ZB):yV (Fz W):=by obtain⟨m,f⟩:=cell_of_shapedOpen_int (P:=ZB) (g:=3) (t:=3) (zero:=#[.int .i64 0]) (k:=.i64) h (by decide +kernel) (by kernel_rfl) rfl (by kernel_rfl) (by kernel_rfl) (by kernel_rfl);obtain⟨b,o,c,e,h1,i⟩:=Fz.cell f;cases e;exact⟨c,m,h1,i⟩
def jZ:List (String×DataW Unit):=Rows.diffReportsRow.laid
theorem Dl{W:World}(h:laidMetH ZB jZ W)(f:W.ShapedOpen ZB):GL (Fz W):=by
 have c:laidMet ZB jZ W:=by rw[MakeChecks.laidMetH_plain _ _ _ (by kernel_rfl)]at h;exact h
 have b:∀(i:Nat) (n:String) (d:DataW Unit),jZ[i]?=some (n,d)->VarReads ZB W n d:=λi n d e=>Go.Lib.laidMet.reads c (zbb e);exact {
  tabs:=⟨VQ (b 6 _ _ rfl),PI (by
   have e:(Rows.laid_unicode_utf8_acceptRanges:DataW Unit)=acceptData:=by kernel_rfl
   rw[<-e];exact b 3 _ _ rfl)⟩
  pow:=Vn (by kernel_rfl) (b 2 _ _ rfl)
  max:=Vf f
  err:=⟨EW (g:=4) (t:=91) (by kernel_rfl) (by kernel_rfl) Tryz.underlying91 (b 5 _ _ rfl),EW (g:=5) (t:=91) (by kernel_rfl) (by kernel_rfl) Tryz.underlying91 (b 4 _ _ rfl)⟩ }
noncomputable def t8(os:Os):World:=World.laidAll ZB os jZ
theorem Gu(os:Os)(args:Array Value):((t8 os).forCall (λ_ _=>0) ⟨#[],args,[]⟩).Shaped ZB:=World.shaped_of_ZipB (by kernel_rfl) (by kernel_rfl)
theorem Cu(os:Os)(args:Array Value):laidMetH ZB jZ ((t8 os).forCall (λ_ _=>0) ⟨#[],args,[]⟩).memory:=by rw[MakeChecks.laidMetH_plain _ _ _ (by kernel_rfl)];exact laidMet_laidAll _ (by kernel_rfl) (by kernel_rfl)
theorem xN{enc:TypeId×Value->H}{W:World}{sp:Nat->Bool}(fuel:Nat)(cs:List Value)(x:DataW H×List MemPlace)(h:DataW.trod enc ZB W 0 sp held fuel 25 cs=some x)(b:kQ ZB 25 x.1):∃t:Tr,Rd (Fz W) .tree t cs:= QR (tk:=3) (ts:=9) (tss:=22) (tvs:=23) Tryz.underlying25 (by kernel_rfl) ⟨rfl,rfl,rfl,rfl,rfl,rfl,rfl,rfl⟩ (by kernel_rfl) (by kernel_rfl) (by kernel_rfl) (by kernel_rfl) (by kernel_rfl) (by kernel_rfl) (by kernel_rfl) (by kernel_rfl) (by decide +kernel) (by decide +kernel) fuel cs x h b
theorem Ej{enc:TypeId×Value->H}{W:World}{sp:Nat->Bool}{fuel:Nat}{cs:List Value}{x:DataW H×List MemPlace}(h:DataW.trod enc ZB W 0 sp held fuel 22 cs=some x)(b:kQ ZB 22 x.1):∃xs:List ByteArray,Rd (Fz W) (.row .str) xs cs:= Cf Tryz.underlying22 Tryz.underlying9 (by kernel_rfl) (by decide +kernel) h b
theorem Am{ts:List TypeId}{b:List (DataW H)}(h:(DataW.weightsEach ZB ts b).all (·<=reachBytes)=true){j:Nat}{d:DataW H}(e:ts[j]?=some t)(c:b[j]?=some d):kQ ZB t d:=λn f=>by have:=ZH.1 h n (DataW.weights_mem_each e c n f);simpa using this
end
end Go.Proofs.YtplilfikcimcbaaGreatDoor
end
section
namespace Go.X
section
theorem XF{vs:List Value}{f:FuncId}{fn:Func}{h:zc}{R:Value->zc->Prop}{F:Prop}(pl:Plan)(rs:List ResultVar)(n:Nat)(b:ZB.funcs[f]?=Td fn)(H:F)(i:Q3 fn=Ta:=by kernel_rfl)(c:fn.results.toList=rs:=by kernel_rfl)(j:fn.ntmps=n:=by kernel_rfl)(hz:Nat.ble vs.length n=Ta:=by kernel_rfl)(e:F=W Tp n pl (codeOf fn) (uo Tp rs R) (lD 0 vs) h:=by kernel_rfl):XC Tp f vs.toArray h R:=Sv Tryz.mixed pl vs b i c j hz (Eq.mp e H)
theorem Vd(f:Int)(e:Int)(h:zc)(R:Value->zc->Prop) (H:XC Tp 249 #[iV f,iV e] h (λa b=>∃c,a=.string c/\R (.string c) b)):
  XC Tp 199 #[.int .i64 f,.int .i64 e] h R:=
 XF ⟨[],[],[]⟩ [.tmp 4] 8 Tryz.func199 H
theorem Zl(b:Int)(h:zc)(R:Value->zc->Prop) (H:R (.bool ((XS .i64 (((zaz (zah .i64) b) &&& (zaz (zah .i64) (XS .i64 (b-1)))).toNat:Int):Int)==0)) h):
  XC Tp 354 #[.int .i64 b] h R:=
 XF ⟨[],[],[]⟩ [.tmp 2] 8 Tryz.func354 H
theorem Ym(i:Int)(h:zc)(R:Value->zc->Prop) (H:(Tc=Ta->XC Tp 383 #[.int .u32 (XS .u32 i)] h (λa b=>∃c,a=iV c/\R (iV c) b))/\(Tc=Tc->XC Tp 384 #[.int .u64 i] h (λd e=>∃f,d=iV f/\R (iV f) e))):
  XC Tp 355 #[.int .u64 i] h R:=
 XF ⟨[],[],[]⟩ [.tmp 2] 8 Tryz.func355 H
theorem Ql(c:Int)(h:zc)(R:Value->zc->Prop) (H:((c==0)=Ta->R (iV 64) h)/\((c==0)=Tc->∃a:Addr,(Td ⟨7,0,Te⟩=Td a/\0<=((XS .u64 ((XS .u64 (((zaz (zah .u64) c) &&& (zaz (zah .u64) (XS .u64 (0-c)))).toNat:Int))*285870213051353865):Int).fdiv (2 ^ 58):Int)/\((XS .u64 ((XS .u64 (((zaz (zah .u64) c) &&& (zaz (zah .u64) (XS .u64 (0-c)))).toNat:Int))*285870213051353865):Int).fdiv (2 ^ 58):Int)<((64:Nat):Int))/\∃b,zd h (a.add (((XS .u64 ((XS .u64 (((zaz (zah .u64) c) &&& (zaz (zah .u64) (XS .u64 (0-c)))).toNat:Int))*285870213051353865):Int).fdiv (2 ^ 58):Int).toNat*1))=Td (.int .u8 b)/\R (iV (XS .i64 b)) h)):
  XC Tp 384 #[.int .u64 c] h R:=
 XF ⟨[],[],[]⟩ [.tmp 2] 14 Tryz.func384 H
theorem Nx(e:Int)(h:zc)(R:Value->zc->Prop) (H:∀a:Bool->zc->Prop,(∀b:Bool,∀c:zc,((b=Ta->R (.int .u8 (XS .u8 e)) c)/\(b=Tc->((e==8)=Ta->R (.int .u8 98) c)/\((e==8)=Tc->((e==12)=Ta->R (.int .u8 102) c)/\((e==12)=Tc->((e==10)=Ta->R (.int .u8 110) c)/\((e==10)=Tc->((e==13)=Ta->R (.int .u8 114) c)/\((e==13)=Tc->((e==9)=Ta->R (.int .u8 116) c)/\((e==9)=Tc->R (.int .u8 0) c)))))))->a b c)->((e==34)=Ta->a (e==34) h)/\((e==34)=Tc->a (e==92) h)):
  XC Tp 197 #[.int .i32 e] h R:=
 XF ⟨[],[],[(4,[(4,.one (.bool))])]⟩ [.tmp 2] 19 Tryz.func197 H
end
section
theorem MU(s0:Bt)(h:zc)(R:Value->zc->Prop) (H:XC Tp 196 #[.string s0] h (λa b=>∃c d,a=.tuple #[iV c,.bool d]/\((!d)=Ta->R (.tuple #[.string (⟨#[]⟩:Bt),iV 2]) b)/\((!d)=Tc->let e:=b.push (.cells #[.pointer Te,.slice Te 0 0] 89);XC Tp 133 #[.pointer (Td ⟨b.size,0,Te⟩),.int .u8 34] e (λf g=>∃i:Value,f=i/\let j:=g.push (.stringIter s0 0);∃(k:zc->Prop) (l:zc->Nat),k j/\∀m:zc,k m->(yp Tp (zcg (.pointer (Td ⟨g.size,0,Te⟩)) Ta 0) m (λn o=>(n=.tuple #[.bool Tc]/\(Tc=Ta->False)/\(Tc=Tc->XC Tp 133 #[.pointer (Td ⟨b.size,0,Te⟩),.int .u8 34] o (λp q=>∃r:Value,p=r/\XC Tp 70 #[.pointer (Td ⟨b.size,0,Te⟩)] q (λs t=>∃u,s=.string u/\R (.tuple #[.string u,iV 0]) t))))\/∃v w:Int,n=.tuple #[.bool Ta,iV v,.int .i32 w]/\(Ta=Ta->XC Tp 197 #[.int .i32 w] o (λx y=>∃z,x=.int .u8 z/\((z != 0)=Ta->XC Tp 133 #[.pointer (Td ⟨b.size,0,Te⟩),.int .u8 92] y (λA B=>∃C:Value,A=C/\XC Tp 133 #[.pointer (Td ⟨b.size,0,Te⟩),.int .u8 z] B (λD E=>∃F:Value,D=F/\(k E/\l E<l m))))/\((z != 0)=Tc->(decide (w>=32)=Ta->XC Tp 198 #[.pointer (Td ⟨b.size,0,Te⟩),.int .i32 w] y (λG I=>∃J,∃L:Value,G=.tuple #[iV J,L]/\(k I/\l I<l m)))/\(decide (w>=32)=Tc->XC Tp 199 #[iV (XS .i64 w),iV 16] y (λM N=>∃O,M=.string O/\XC Tp 200 #[.string (⟨#[48]⟩:Bt),iV (XS .i64 (4-(O.size:Int)))] N (λP Q=>∃S,P=.string S/\zw (((⟨#[92,117]⟩:Bt)).size+S.size)/\zw (((⟨#[92,117]⟩:Bt)++S).size+O.size)/\XC Tp 68 #[.pointer (Td ⟨b.size,0,Te⟩),.string (((⟨#[92,117]⟩:Bt)++S)++O)] Q (λT U=>∃V,∃W:Value,T=.tuple #[iV V,W]/\(k U/\l U<l m))))))))/\(Ta=Tc->XC Tp 133 #[.pointer (Td ⟨b.size,0,Te⟩),.int .u8 34] o (λX Y=>∃Z:Value,X=Z/\XC Tp 70 #[.pointer (Td ⟨b.size,0,Te⟩)] Y (λaa ab=>∃ac,aa=.string ac/\R (.tuple #[.string ac,iV 0]) ab))))))))):
  XC Tp 125 #[.string s0] h R:=
 XF ⟨[],[(7,[])],[]⟩ [.tmp 2,.tmp 3] 48 Tryz.func125 H
theorem Qm(b0:Option Addr)(p:Int)(h:zc)(R:Value->zc->Prop) (H:XC Tp 123 #[.pointer b0] h (λb c=>b=.tuple #[]/\∃d,b0=Td d/\∃e,zd c (XT d 1)=Td (aK e)/\∃f,b0=Td f/\∃g,zd c (XT f 1)=Td (aK g)/\XC Tp 248 #[aK g,.int .i32 p] c (λi j=>∃k,i=aK k/\∃l,b0=Td l/\XRunU Tp (YG 87 (.pointer (Td (XT l 1))) (aK k)) j (λm=>∃n,b0=Td n/\∃o,zd m (XT n 1)=Td (aK o)/\R (.tuple #[iV (XS .i64 ((o.len:Int)-(e.len:Int))),.nilIface]) m)))):
  XC Tp 198 #[.pointer b0,.int .i32 p] h R:=
 XF ⟨[],[],[]⟩ [.tmp 4,.tmp 5] 30 Tryz.func198 H
theorem Z9(aa:Sl)(u1:Int)(Y:Int)(Z:Bool)(b:Bool)(h:zc)(R:Value->zc->Prop) (H:∀c:zc->Prop,(∀d:zc,(let e:=d.push (.cells #[.int .u8 0,.int .u8 0,.int .u8 0,.int .u8 0,.int .u8 0,.int .u8 0,.int .u8 0,.int .u8 0,.int .u8 0,.int .u8 0,.int .u8 0,.int .u8 0,.int .u8 0,.int .u8 0,.int .u8 0,.int .u8 0,.int .u8 0,.int .u8 0,.int .u8 0,.int .u8 0,.int .u8 0,.int .u8 0,.int .u8 0,.int .u8 0,.int .u8 0,.int .u8 0,.int .u8 0,.int .u8 0,.int .u8 0,.int .u8 0,.int .u8 0,.int .u8 0,.int .u8 0,.int .u8 0,.int .u8 0,.int .u8 0,.int .u8 0,.int .u8 0,.int .u8 0,.int .u8 0,.int .u8 0,.int .u8 0,.int .u8 0,.int .u8 0,.int .u8 0,.int .u8 0,.int .u8 0,.int .u8 0,.int .u8 0,.int .u8 0,.int .u8 0,.int .u8 0,.int .u8 0,.int .u8 0,.int .u8 0,.int .u8 0,.int .u8 0,.int .u8 0,.int .u8 0,.int .u8 0,.int .u8 0,.int .u8 0,.int .u8 0,.int .u8 0,.int .u8 0] 350);∀f:Int->zc->Prop,(∀g:Int,∀i:zc,(∀j:Int->zc->Prop,(∀k:Int,∀l:zc,(∀m:Int->zc->Prop,(∀n:Int,∀o:zc,((b=Ta->(0<=n/\n<=(65:Int)/\(65:Int)<=(65:Int))/\yp Tp (YO #[87,87] 87 #[aK aa,.slice (iG (Td ⟨d.size,0,Te⟩) 1 n.toNat 65) ((65:Int).toNat-n.toNat) (65-n.toNat)]) o (λp q=>∃r,p=aK r/\R (.tuple #[aK r,.string (⟨#[]⟩:Bt)]) q))/\(b=Tc->(0<=n/\n<=(65:Int)/\(65:Int)<=(65:Int))/\yp Tp (convert 87 9 (.slice (iG (Td ⟨d.size,0,Te⟩) 1 n.toNat 65) ((65:Int).toNat-n.toNat) (65-n.toNat))) o (λs t=>∃u,s=.string u/\R (.tuple #[.slice Te 0 0,.string u]) t)))->m n o)->(Z=Ta->∃v:Addr,(Td ⟨d.size,0,Te⟩=Td v/\0<=(XS .i64 (k-1))/\(XS .i64 (k-1))<((65:Nat):Int))/\XRunU Tp (YG 5 (.pointer (Td (v.add ((XS .i64 (k-1)).toNat*1)))) (.int .u8 45)) l (λw=>m (XS .i64 (k-1)) w))/\(Z=Tc->m k l))->j k l)->XC Tp 354 #[iV Y] i (λx y=>∃z,x=.bool z/\(z=Ta->XC Tp 355 #[.int .u64 (XS .u64 Y)] y (λA B=>∃C,A=iV C/\∃(D:Int->Int->zc->Prop) (E:Int->Int->zc->Nat),D g 65 B/\∀F G:Int,∀I:zc,D F G I->((decide (F>=(XS .u64 Y))=Ta->(0<=(XS .u64 (((zaz (zah .u64) F) &&& (zaz (zah .u64) (XS .u64 ((XS .u64 Y)-1)))).toNat:Int):Int)/\(XS .u64 (((zaz (zah .u64) F) &&& (zaz (zah .u64) (XS .u64 ((XS .u64 Y)-1)))).toNat:Int):Int)<(((⟨#[48,49,50,51,52,53,54,55,56,57,97,98,99,100,101,102,103,104,105,106,107,108,109,110,111,112,113,114,115,116,117,118,119,120,121,122]⟩:Bt)).size:Int))/\∃J:Addr,(Td ⟨d.size,0,Te⟩=Td J/\0<=(XS .i64 (G-1))/\(XS .i64 (G-1))<((65:Nat):Int))/\XRunU Tp (YG 5 (.pointer (Td (J.add ((XS .i64 (G-1)).toNat*1)))) (.int .u8 (ze (⟨#[48,49,50,51,52,53,54,55,56,57,97,98,99,100,101,102,103,104,105,106,107,108,109,110,111,112,113,114,115,116,117,118,119,120,121,122]⟩:Bt) (XS .u64 (((zaz (zah .u64) F) &&& (zaz (zah .u64) (XS .u64 ((XS .u64 Y)-1)))).toNat:Int):Int).toNat))) I (λL=>0<=(XS .u64 C)/\(D (F.fdiv (2 ^ (min (XS .u64 C).toNat 64))) (XS .i64 (G-1)) L/\E (F.fdiv (2 ^ (min (XS .u64 C).toNat 64))) (XS .i64 (G-1)) L<E F G I)))/\(decide (F>=(XS .u64 Y))=Tc->(0<=F/\F<(((⟨#[48,49,50,51,52,53,54,55,56,57,97,98,99,100,101,102,103,104,105,106,107,108,109,110,111,112,113,114,115,116,117,118,119,120,121,122]⟩:Bt)).size:Int))/\∃M:Addr,(Td ⟨d.size,0,Te⟩=Td M/\0<=(XS .i64 (G-1))/\(XS .i64 (G-1))<((65:Nat):Int))/\XRunU Tp (YG 5 (.pointer (Td (M.add ((XS .i64 (G-1)).toNat*1)))) (.int .u8 (ze (⟨#[48,49,50,51,52,53,54,55,56,57,97,98,99,100,101,102,103,104,105,106,107,108,109,110,111,112,113,114,115,116,117,118,119,120,121,122]⟩:Bt) F.toNat))) I (λN=>j (XS .i64 (G-1)) N)))))/\(z=Tc->∃(O:Int->Int->zc->Prop) (P:Int->Int->zc->Nat),O g 65 y/\∀Q S:Int,∀T:zc,O Q S T->((decide (Q>=(XS .u64 Y))=Ta->IntKind.u64=IntKind.u64/\(XS .u64 Y)≠0/\(0<=(XS .u64 (Q-(XS .u64 ((XS .u64 (Q.tdiv (XS .u64 Y)))*(XS .u64 Y)))):Int)/\(XS .u64 (Q-(XS .u64 ((XS .u64 (Q.tdiv (XS .u64 Y)))*(XS .u64 Y)))):Int)<(((⟨#[48,49,50,51,52,53,54,55,56,57,97,98,99,100,101,102,103,104,105,106,107,108,109,110,111,112,113,114,115,116,117,118,119,120,121,122]⟩:Bt)).size:Int))/\∃U:Addr,(Td ⟨d.size,0,Te⟩=Td U/\0<=(XS .i64 (S-1))/\(XS .i64 (S-1))<((65:Nat):Int))/\XRunU Tp (YG 5 (.pointer (Td (U.add ((XS .i64 (S-1)).toNat*1)))) (.int .u8 (ze (⟨#[48,49,50,51,52,53,54,55,56,57,97,98,99,100,101,102,103,104,105,106,107,108,109,110,111,112,113,114,115,116,117,118,119,120,121,122]⟩:Bt) (XS .u64 (Q-(XS .u64 ((XS .u64 (Q.tdiv (XS .u64 Y)))*(XS .u64 Y)))):Int).toNat))) T (λV=>(O (XS .u64 (Q.tdiv (XS .u64 Y))) (XS .i64 (S-1)) V/\P (XS .u64 (Q.tdiv (XS .u64 Y))) (XS .i64 (S-1)) V<P Q S T)))/\(decide (Q>=(XS .u64 Y))=Tc->(0<=Q/\Q<(((⟨#[48,49,50,51,52,53,54,55,56,57,97,98,99,100,101,102,103,104,105,106,107,108,109,110,111,112,113,114,115,116,117,118,119,120,121,122]⟩:Bt)).size:Int))/\∃W:Addr,(Td ⟨d.size,0,Te⟩=Td W/\0<=(XS .i64 (S-1))/\(XS .i64 (S-1))<((65:Nat):Int))/\XRunU Tp (YG 5 (.pointer (Td (W.add ((XS .i64 (S-1)).toNat*1)))) (.int .u8 (ze (⟨#[48,49,50,51,52,53,54,55,56,57,97,98,99,100,101,102,103,104,105,106,107,108,109,110,111,112,113,114,115,116,117,118,119,120,121,122]⟩:Bt) Q.toNat))) T (λX=>j (XS .i64 (S-1)) X))))))->f g i)->(Z=Ta->f (XS .u64 (0-u1)) e)/\(Z=Tc->f u1 e))->c d)->((bif (bif (decide (Y<2))then Ta else(Y==10))then Ta else(decide (Y>36)))=Ta->False)/\((bif (bif (decide (Y<2))then Ta else(Y==10))then Ta else(decide (Y>36)))=Tc->c h)):
  XC Tp 303 #[.slice aa.a aa.len aa.cap,.int .u64 u1,.int .i64 Y,.bool Z,.bool b] h R:=
 XF ⟨[],[(11,[(1,.one (.int .u64)),(13,.one (.int .i64))]),(18,[(1,.one (.int .u64)),(13,.one (.int .i64))])],[(3,[]),(7,[(1,.one (.int .u64))]),(25,[(13,.one (.int .i64))]),(28,[(13,.one (.int .i64))])]⟩ [.tmp 10,.tmp 11] 102 Tryz.func303 H
theorem Qg(B:Int)(A:Int)(h:zc)(R:Value->zc->Prop) (H:((A==10)=Ta->((bif (decide ((0:Int)<=B))then(decide (B<100))else Tc)=Ta->XC Tp 300 #[iV B] h (λb c=>∃d,b=.string d/\R (.string d) c))/\((bif (decide ((0:Int)<=B))then(decide (B<100))else Tc)=Tc->let e:=h.push (.cells #[.int .u8 0,.int .u8 0,.int .u8 0,.int .u8 0,.int .u8 0,.int .u8 0,.int .u8 0,.int .u8 0,.int .u8 0,.int .u8 0,.int .u8 0,.int .u8 0,.int .u8 0,.int .u8 0,.int .u8 0,.int .u8 0,.int .u8 0,.int .u8 0,.int .u8 0,.int .u8 0,.int .u8 0,.int .u8 0,.int .u8 0,.int .u8 0] 309);∀f:Int->zc->Prop,(∀g:Int,∀i:zc,(XC Tp 301 #[.int .u64 g] i (λj k=>∃l,j=iV l/\(0<=(1:Int)/\(1:Int)<=(XS .i64 (1+l))/\(XS .i64 (1+l))<=(24:Int))/\XC Tp 302 #[.slice (iG (Td ⟨h.size,0,Te⟩) 1 ((1:Int).toNat) 24) ((XS .i64 (1+l)).toNat-(1:Int).toNat) (24-(1:Int).toNat),.int .u64 g] k (λm n=>m=.tuple #[]/\(decide (B<0)=Ta->∃o:Addr,(Td ⟨h.size,0,Te⟩=Td o/\0<=(0:Int)/\(0:Int)<((24:Nat):Int))/\XRunU Tp (YG 5 (.pointer (Td (o.add ((0:Int).toNat*1)))) (.int .u8 45)) n (λp=>(0<=(0:Int)/\(0:Int)<=(XS .i64 (1+l))/\(XS .i64 (1+l))<=(24:Int))/\yp Tp (convert 87 9 (.slice (iG (Td ⟨h.size,0,Te⟩) 1 ((0:Int).toNat) 24) ((XS .i64 (1+l)).toNat-(0:Int).toNat) (24-(0:Int).toNat))) p (λq r=>∃s,q=.string s/\R (.string s) r)))/\(decide (B<0)=Tc->(0<=(1:Int)/\(1:Int)<=(XS .i64 (1+l))/\(XS .i64 (1+l))<=(24:Int))/\yp Tp (convert 87 9 (.slice (iG (Td ⟨h.size,0,Te⟩) 1 ((1:Int).toNat) 24) ((XS .i64 (1+l)).toNat-(1:Int).toNat) (24-(1:Int).toNat))) n (λt u=>∃v,t=.string v/\R (.string v) u)))))->f g i)->(decide (B<0)=Ta->f (XS .u64 (0-(XS .u64 B))) e)/\(decide (B<0)=Tc->f (XS .u64 B) e)))/\((A==10)=Tc->XC Tp 303 #[.slice Te 0 0,.int .u64 (XS .u64 B),iV A,.bool (decide (B<0)),.bool Tc] h (λw x=>∃y z,w=.tuple #[aK y,.string z]/\R (.string z) x))):
  XC Tp 249 #[.int .i64 B,.int .i64 A] h R:=
 XF ⟨[],[],[(8,[(6,.one (.int .u64))])]⟩ [.tmp 4] 54 Tryz.func249 H
end
section
variable {gl:Fr} {R:Bool -> Prop}
theorem Ub{D:Bs}(k:Nat):zi (D.take k)<=zi D:=by
 conv=>rhs;rw[<-zan k D,Ws]
 have:1<=10 ^ (D.drop k).length:=Nat.one_le_pow _ _ (by decide)
 calc zi (D.take k)=zi (D.take k)*1:=by omega
  _<=zi (D.take k)*10 ^ (D.drop k).length:=Nat.mul_le_mul_left _ this
  _<=_:=by omega
set_option maxHeartbeats 1000000 in
theorem TX{n:Nm}(I:n.2.1.length<=4611686018427387904){R:Int×Bool->Prop}(h:R (pr n)):PC Tp gl 225 [Arg.mk tN (jX n)] [.int .i64,.bool] R:=by
 apply OC;refine HP I ?_;unfold pr at h;cases hr:ya n with
 |false=>rw[hr]at h;exact⟨λ_=>by simpa using h,λt=>by simp at t⟩
 |true=>
  obtain⟨P,H,G⟩:=Wo hr;rw[hr]at h;simp only[zal]at h;simp only[zk,qt];rw[eK (by omega)];refine⟨λt=>?_,λt=>?_⟩;rw[za]at h;exact h;simp at t ⊢;omega
  ·have E:0<=n.2.2/\(n.2.1.length:Int)+n.2.2<=19:=by simp at t;omega
   rw[zb (by simp;omega)]at h;rw[<-GA]at h;have A:=Ga hr;have z:((wm n).length:Int)=(n.2.1.length:Int)+n.2.2:=by rw[wm,XX,zbq];omega
   rw[<-z];have x:∀k (u:k<(wm n).length),k<n.2.1.length->n.2.1[k]?.getD 0=(wm n)[k]:=by intro k u j;rw[mJ j];simp only[wm];rw[za8 j]
   have o:∀k (u:k<(wm n).length),¬k<n.2.1.length->(wm n)[k]=48:=by intro k u j;simp only[wm];rw[zbm (by omega),List.getElem_replicate]
   generalize wm n=D at *;refine⟨λv i=>∃k:Nat,i=k/\k<=D.length/\v=-(zi (D.take k):Int)/\zi (D.take k)<=9223372036854775808,λ_ i=>D.length-i.toNat,⟨0,rfl,by omega,by simp[zi],by simp[zi]⟩,?_⟩;rintro v i ⟨k,rfl,u,rfl,M⟩;refine⟨λy=>?_,λy=>?_⟩
   ·have b:k<D.length:=by simp at y;omega
    have O:=ue A b;have step:∀d:Int,d=(D[k].toNat:Int)-48->(True/\(10:Int)≠0 /\ ((decide ((-(zi (D.take k):Int))<(XS .i64 ((XS .i64 ((-9223372036854775808)+d)).tdiv 10))))=Ta->R (0,Tc)) /\
      ((decide ((-(zi (D.take k):Int))<(XS .i64 ((XS .i64 ((-9223372036854775808)+d)).tdiv 10))))=Tc -> ((∃w:Nat,(XS .i64 ((k:Int)+1))=w/\w<=D.length/\(XS .i64 ((XS .i64 (10*(-(zi (D.take k):Int))))-d))=-(zi (D.take w):Int)/\zi (D.take w)<=9223372036854775808) /\ D.length-(XS .i64 ((k:Int)+1)).toNat<D.length-((k:Int)).toNat))):=by
     intro d F;have N:0<=d/\d<=9:=by omega
     obtain⟨m,J⟩:∃m:Nat,(-9223372036854775808+d:Int)=-(m:Int):=⟨(9223372036854775808-d).toNat,by omega⟩;have L:(-(m:Int)).tdiv 10=-((m / 10:Nat):Int):=by rw[Int.neg_tdiv];rfl
     rw[wrap64 (n:=-9223372036854775808+d) (by omega) (by omega),J,L,wrap64 (n:=-((m / 10:Nat):Int)) (by omega) (by omega)];refine⟨trivial,by omega,λc=>?_,λc=>?_⟩;have e:-(zi (D.take k):Int) < -((m / 10:Nat):Int):=by simpa using c
     have C:9223372036854775808<zi (D.take (k+1)):=by rw[xg b];omega
     have:=Ub (D:=D) (k+1);cases l:n.1 with
     |true=>rw[l]at h;simp only[if_true]at h;rw[za (by omega)]at h;exact h
     |false=>rw[l]at h;simp only[zad,if_false]at h;rw[za (by omega)]at h;exact h
     have e:¬-(zi (D.take k):Int) < -((m / 10:Nat):Int):=by simpa using c
     have r:zi (D.take (k+1))<=9223372036854775808:=by rw[xg b];omega
     have p:=r;rw[xg b]at p;rw[qz b (by omega),wrap64 (n:=10*_) (by omega) (by omega),wrap64 (n:=10*_-d) (by omega) (by omega)];refine⟨⟨k+1,rfl,by omega,?_,r⟩,by simp only[XW];omega⟩;rw[xg b];omega
    intro K B;simp only[XW];refine⟨λc=>⟨by simp at c;omega,B _ (step _ ?_)⟩,λc=>B _ (step _ ?_)⟩;have e:k<n.2.1.length:=by simp at c;omega
    rw[x k b e,I7 (by omega) (by omega),eK (by omega)];have e:¬k<n.2.1.length:=by simp at c;omega
    rw[o k b e];rfl
   have b:k=D.length:=by simp at y;omega
   subst b;rw[YR]at M ⊢;refine⟨λl=>?_,λl=>⟨λc=>?_,λc=>?_⟩⟩;have f:n.1=Ta:=l;rw[f]at h;simp only[if_true]at h;rw[zb (by omega)]at h;exact h;have f:n.1=Tc:=l;rw[f]at h;simp only[zad,if_false]at h;rw[za (by simp at c;omega)]at h;exact h;have f:n.1=Tc:=l;rw[f]at h;simp only[zad,if_false]at h;rw[zb (by simp at c;omega)]at h;rw[wrap64 (n:=0 - -(zi D:Int)) (by omega) (by simp at c;omega)];have:(0:Int) - -(zi D:Int)=zi D:=by omega
   rw[this];exact h
theorem Mw(c:GL gl){s:Bs}(b:s.length<=1152921504606846976)(h:R (vy s)):PC Tp gl 150 [Arg.mk .str (bl s)] [.bool] R:=by apply Vr;refine Bc c b (Sc c (n:=(iX s).1) (Z8 s b) ?_);simp only[zak];exact h
theorem j7(v:Tr):Tr.mk v.kind v.text v.keys v.items=v:=by cases v;rfl
theorem X9{l:List Tr}{k:Nat}(h:k<l.length):l[((k:Int)).toNat]?=Td l[k]:=by rw[XW,YA h]
theorem wV{gl:Fr}(v:Tr)(r:bR v<=1000000000000){R:Int->Prop}(h:R (bR v:Int)):PC Tp gl 43 [Arg.mk .tree v] [.int .i64] R:=by
 apply QV;have f:=Zc v.items;have e:=wy v;refine⟨λn i=>∃k:Nat,i=k/\k<=v.items.length/\n=((1+Zz (v.items.take k):Nat):Int),λ_ i=>v.items.length-i.toNat,⟨0,rfl,by omega,by simp[Zz]⟩,?_⟩;rintro n i ⟨k,rfl,p,rfl⟩;refine⟨λc=>?_,λc=>?_⟩;have b:k<v.items.length:=by simp at c;omega
 refine⟨v.items[k],⟨by omega,X9 b⟩,?_⟩;rw[j7];have l:v.items[k]∈v.items:=YI b;have j:=qp l;have m:Zz (v.items.take (k+1))<=Zz v.items:=by have:=Wt (v.items.take (k+1)) (v.items.drop (k+1));rw[zan]at this;omega
 have o:=Ex b;refine wV (v.items[k]) (by omega) ?_;rw[qz b (by omega),eK (by omega)];exact⟨⟨k+1,rfl,by omega,by omega⟩,by simp only[XW];omega⟩;have b:k=v.items.length:=by simp at c;omega
 subst b;rw[YR,<-e];exact h
termination_by bR v
theorem GZ{gl:Fr}(v:Tr)(r:bR v<=1000000000000){R:Int->Prop}(h:R (bR v:Int)):PC Tp gl 102 [Arg.mk .tree v] [.int .i64] R:=by
 apply UQ;have f:=Zc v.items;have e:=wy v;refine⟨λn i=>∃k:Nat,i=k/\k<=v.items.length/\n=((1+Zz (v.items.take k):Nat):Int),λ_ i=>v.items.length-i.toNat,⟨0,rfl,by omega,by simp[Zz]⟩,?_⟩;rintro n i ⟨k,rfl,p,rfl⟩;refine⟨λc=>?_,λc=>?_⟩;have b:k<v.items.length:=by simp at c;omega
 refine⟨v.items[k],⟨by omega,X9 b⟩,?_⟩;rw[j7];have l:v.items[k]∈v.items:=YI b;have j:=qp l;have m:Zz (v.items.take (k+1))<=Zz v.items:=by have:=Wt (v.items.take (k+1)) (v.items.drop (k+1));rw[zan]at this;omega
 have o:=Ex b;refine GZ (v.items[k]) (by omega) ?_;rw[qz b (by omega),eK (by omega)];exact⟨⟨k+1,rfl,by omega,by omega⟩,by simp only[XW];omega⟩;have b:k=v.items.length:=by simp at c;omega
 subst b;rw[YR,<-e];exact h
termination_by bR v
theorem FL{gl:Fr}(v:Tr)(t:bR v<=1000000000000){R:Int->Prop}(h:R (iq v:Int)):PC Tp gl 144 [Arg.mk .tree v] [.int .i64] R:=by
 apply RG;have e:=Zc v.items;have p:=wy v;have f:=vD v.items;have o:=X8 v;refine⟨λn i=>∃k:Nat,i=k/\k<=v.items.length/\n=((X7 (v.items.take k):Nat):Int),λ_ i=>v.items.length-i.toNat,⟨0,rfl,by omega,by simp[X7]⟩,?_⟩;rintro n i ⟨k,rfl,r,rfl⟩;refine⟨λc=>?_,λc=>?_⟩;have b:k<v.items.length:=by simp at c;omega
 refine⟨v.items[k],⟨by omega,X9 b⟩,?_⟩;rw[j7];have m:v.items[k]∈v.items:=YI b;have j:=qp m;have l:=JG b;refine FL (v.items[k]) (by omega) ?_;rw[qz b (by omega)];refine⟨⟨k+1,rfl,by omega,?_⟩,by simp only[XW];omega⟩;rw[l];split <;> omega;have b:k=v.items.length:=by simp at c;omega
 subst b;rw[YR,eK (by omega)];have:((X7 v.items:Nat):Int)+1=(iq v:Int):=by omega
 rw[this];exact h
termination_by bR v
theorem CY{gl:Fr}(v:Tr)(t:bR v<=1000000000000){R:Int->Prop}(h:R (iq v:Int)):PC Tp gl 103 [Arg.mk .tree v] [.int .i64] R:=by
 apply JN;have e:=Zc v.items;have p:=wy v;have f:=vD v.items;have o:=X8 v;refine⟨λn i=>∃k:Nat,i=k/\k<=v.items.length/\n=((X7 (v.items.take k):Nat):Int),λ_ i=>v.items.length-i.toNat,⟨0,rfl,by omega,by simp[X7]⟩,?_⟩;rintro n i ⟨k,rfl,r,rfl⟩;refine⟨λc=>?_,λc=>?_⟩;have b:k<v.items.length:=by simp at c;omega
 refine⟨v.items[k],⟨by omega,X9 b⟩,?_⟩;rw[j7];have m:v.items[k]∈v.items:=YI b;have j:=qp m;have l:=JG b;refine CY (v.items[k]) (by omega) ?_;rw[qz b (by omega)];refine⟨⟨k+1,rfl,by omega,?_⟩,by simp only[XW];omega⟩;rw[l];split <;> omega;have b:k=v.items.length:=by simp at c;omega
 subst b;rw[YR,eK (by omega)];have:((X7 v.items:Nat):Int)+1=(iq v:Int):=by omega
 rw[this];exact h
termination_by bR v
theorem CJ{v:Tr}(b:Sm v)(h:R (Zd v)):PC Tp gl 86 [Arg.mk .tree v] [.bool] R:=by
 apply UE;rw[j7];refine wV v b.sz ⟨λr=>r=(iq v:Int),λ_=>FL v b.sz rfl,λr c=>?_⟩;have e:(bif decide ((bR v:Int)<=4096)then decide (r<=32)else Tc)=Zd v:=by
  unfold Zd;cases hc:decide ((bR v:Int)<=4096)with
  |false=>(have:decide (bR v<=4096)=Tc:=by simp at hc ⊢;omega);rw[this];rfl
  |true=>
   have:decide (bR v<=4096)=Ta:=by simp at hc ⊢;omega
   rw[this,c hc,zI,zal,YW];simp;omega
 rw[e];exact h
end
section
theorem Vq(w:Sl)(x:Int)(h:zc)(R:Value->zc->Prop) (H:let b:=h.push (.map #[] 0);∃(c:Int->zc->Prop) (d:Int->zc->Nat),c 0 b/\∀e:Int,∀f:zc,c e f->((decide (e<w.len)=Ta->∃g,(w.a=Td g/\0<=e/\e<w.len)/\∃i,zd f (g.add (e.toNat*1))=Td (.string i)/\∃j,QExec Tp (zbe 213 (.map (Td h.size)) (.string i) Tc) f (.bool j)/\∃k:Value->zc->Prop,((!j)=Ta->XC Tp 149 #[.string i] f (λl m=>∃n,l=.bool n/\k (.bool n) m))/\((!j)=Tc->∃o,k (.bool o) f)/\((!j)=Ta->∀p q,k p q->∃r,p=.bool r)/\∀s:Bool,∀t,k (.bool s) t->((bif j then Ta else(!s))=Ta->R (.bool Tc) t)/\((bif j then Ta else(!s))=Tc->XRunU Tp (zbc 213 (.map (Td h.size)) (.string i) (.bool Ta)) t (λu=>(c (XS .i64 (e+1)) u/\d (XS .i64 (e+1)) u<d e f))))/\(decide (e<w.len)=Tc->R (.bool ((w.len:Int)==x)) f))):
  XC Tp 147 #[.slice w.a w.len w.cap,.int .i64 x] h R:=
 XF ⟨[],[(3,[(13,.one (.int .i64))])],[]⟩ [.tmp 4] 32 Tryz.func147 H
theorem jy(j:Sl)(f:FuncId)(e:Array Value)(i:Array Value)(h:zc)(R:Value->zc->Prop) (H:XC Tp 208 #[aK j,.func (.func f) e i] h (λb c=>∃d,b=iV d/\R (.bool (decide (d>=0))) c)):
  XC Tp 145 #[.slice j.a j.len j.cap,.func (.func f) e i] h R:=
 XF ⟨[],[],[]⟩ [.tmp 4] 9 Tryz.func145 H
theorem wb(p:Sl)(o:FuncId)(r:Array Value)(t:Array Value)(h:zc)(R:Value->zc->Prop) (H:∃(b:Int->zc->Prop) (c:Int->zc->Nat),b 0 h/\∀d:Int,∀e:zc,b d e->((decide (d<p.len)=Ta->∃f,(p.a=Td f/\0<=d/\d<p.len)/\∃g i j k,zf e (f.add (d.toNat*4)) 0 (tL g i j k)/\zm Tp o=Ta/\XC Tp o (r++#[tA g i j k]++t) e (λl m=>∃n,l=.bool n/\(n=Ta->R (iV d) m)/\(n=Tc->(b (XS .i64 (d+1)) m/\c (XS .i64 (d+1)) m<c d e))))/\(decide (d<p.len)=Tc->R (iV (-1)) e))):
  XC Tp 208 #[.slice p.a p.len p.cap,.func (.func o) r t] h R:=
 XF ⟨[],[(2,[(8,.one (.int .i64))])],[]⟩ [.tmp 4] 19 Tryz.func208 H
theorem Lm(b:Int)(c:Bt)(d:Sl)(e:Sl)(c1:Addr)(h:zc)(R:Value->zc->Prop) (H:let f:=h.push (.cells #[iV b,.string c,aK d,aK e] 25);∃g i j k,zf f ⟨h.size,0,Te⟩ 0 (tL g i j k)/\∃l:Value,zd f c1=Td l/\XC Tp 87 #[tA g i j k,l] f (λm n=>∃o,m=.bool o/\R (.bool (!o)) n)):
  XC Tp 146 #[.agg #[.int .i64 b,.string c,.slice d.a d.len d.cap,.slice e.a e.len e.cap],.pointer (Td c1)] h R:=
 XF ⟨[],[],[]⟩ [.tmp 3] 8 Tryz.func146 H
theorem Rb(b:Int)(c:Bt)(d:Sl)(e:Sl)(E:FuncId)(D:Array Value)(F:Array Value)(h:zc)(R:Value->zc->Prop) (H:let f:=h.push (.cells #[iV b,.string c,aK d,aK e] 25);let g:=f.push (.cells #[.func (.func E) D F] 37);∃i:Value,zd g ⟨f.size,0,Te⟩=Td i/\∃j k l m,zf g ⟨h.size,0,Te⟩ 0 (tL j k l m)/\l5 Tp i #[tA j k l m] (λn o=>XC Tp n o g (λp q=>∃r,p=.bool r/\∃s,(r=Ta->zd q (XT ⟨h.size,0,Te⟩ 3)=Td (aK s))/\∃t:Value->zc->Prop,(r=Ta->XC Tp 145 #[aK s,.func (.func 146) #[] #[.pointer (Td ⟨f.size,0,Te⟩)]] q (λu v=>∃w,u=.bool w/\t (.bool w) v))/\(r=Tc->∃x,t (.bool x) q)/\(r=Ta->∀y z,t y z->∃A,y=.bool A)/\∀B:Bool,∀C,t (.bool B) C->R (.bool (bif r then(!B)else Tc)) C))):
  XC Tp 87 #[.agg #[.int .i64 b,.string c,.slice d.a d.len d.cap,.slice e.a e.len e.cap],.func (.func E) D F] h R:=
 XF ⟨[],[],[]⟩ [.tmp 4] 15 Tryz.func87 H
theorem MK(b:Int)(c:Bt)(d:Sl)(e:Sl)(h:zc)(R:Value->zc->Prop) (H:let f:=h.push (.cells #[iV b,.string c,aK d,aK e] 25);∃g i j k,zf f ⟨h.size,0,Te⟩ 0 (tL g i j k)/\XC Tp 86 #[tA g i j k] f (λl m=>∃n,l=.bool n/\∃o p q r,(n=Ta->zf m ⟨h.size,0,Te⟩ 0 (tL o p q r))/\∃s:Value->zc->Prop,(n=Ta->XC Tp 87 #[tA o p q r,.func (.func 89) #[] #[]] m (λt u=>∃v,t=.bool v/\s (.bool v) u))/\(n=Tc->∃w,s (.bool w) m)/\(n=Ta->∀x y,s x y->∃z,x=.bool z)/\∀A:Bool,∀B,s (.bool A) B->R (.bool (bif n then A else Tc)) B)):
  XC Tp 83 #[.agg #[.int .i64 b,.string c,.slice d.a d.len d.cap,.slice e.a e.len e.cap]] h R:=
 XF ⟨[],[],[]⟩ [.tmp 2] 9 Tryz.func83 H
theorem wz(j:Sl)(f:FuncId)(e:Array Value)(i:Array Value)(h:zc)(R:Value->zc->Prop) (H:XC Tp 206 #[aK j,.func (.func f) e i] h (λb c=>∃d,b=iV d/\R (.bool (decide (d>=0))) c)):
  XC Tp 135 #[.slice j.a j.len j.cap,.func (.func f) e i] h R:=
 XF ⟨[],[],[]⟩ [.tmp 4] 9 Tryz.func135 H
theorem Ze(m:Sl)(l:FuncId)(n:Array Value)(o:Array Value)(h:zc)(R:Value->zc->Prop) (H:∃(b:Int->zc->Prop) (c:Int->zc->Nat),b 0 h/\∀d:Int,∀e:zc,b d e->((decide (d<m.len)=Ta->∃f,(m.a=Td f/\0<=d/\d<m.len)/\∃g,zd e (f.add (d.toNat*1))=Td (.string g)/\zm Tp l=Ta/\XC Tp l (n++#[.string g]++o) e (λi j=>∃k,i=.bool k/\(k=Ta->R (iV d) j)/\(k=Tc->(b (XS .i64 (d+1)) j/\c (XS .i64 (d+1)) j<c d e))))/\(decide (d<m.len)=Tc->R (iV (-1)) e))):
  XC Tp 206 #[.slice m.a m.len m.cap,.func (.func l) n o] h R:=
 XF ⟨[],[(2,[(8,.one (.int .i64))])],[]⟩ [.tmp 4] 19 Tryz.func206 H
theorem Sb(e:Bt)(h:zc)(R:Value->zc->Prop) (H:XC Tp 137 #[.string e] h (λa b=>∃c,a=.bool c/\R (.bool (!c)) b)):
  XC Tp 136 #[.string e] h R:=
 XF ⟨[],[],[]⟩ [.tmp 2] 6 Tryz.func136 H
theorem NV(m:Sl)(h:zc)(R:Value->zc->Prop) (H:∃b:Value->zc->Prop,(decide ((m.len:Int)<=64)=Ta->XC Tp 135 #[aK m,.func (.func 136) #[] #[]] h (λc d=>∃e,c=.bool e/\b (.bool e) d))/\(decide ((m.len:Int)<=64)=Tc->∃f,b (.bool f) h)/\(decide ((m.len:Int)<=64)=Ta->∀g i,b g i->∃j,g=.bool j)/\∀k:Bool,∀l,b (.bool k) l->R (.bool (bif (decide ((m.len:Int)<=64))then(!k)else Tc)) l):
  XC Tp 78 #[.slice m.a m.len m.cap] h R:=
 XF ⟨[],[],[]⟩ [.tmp 2] 11 Tryz.func78 H
theorem NK(b:Int)(c:Bt)(d:Sl)(e:Sl)(h:zc)(R:Value->zc->Prop) (H:let f:=h.push (.cells #[iV b,.string c,aK d,aK e] 25);let g:=f.push (.cells tC 25);∃i,zd g (XT ⟨h.size,0,Te⟩ 2)=Td (aK i)/\∃j,zd g (XT ⟨h.size,0,Te⟩ 3)=Td (aK j)/\XC Tp 210 #[aK i] g (λk l=>∃m,k=aK m/\(l)[((XT ⟨h.size,0,Te⟩ 3):Addr).block]?=(g)[((XT ⟨h.size,0,Te⟩ 3):Addr).block]?/\XC Tp 211 #[aK j] l (λn o=>∃p,n=aK p/\XRunU Tp (YG 22 (.pointer (Td (XT ⟨h.size,0,Te⟩ 2))) (aK m)) o (λq=>XRunU Tp (YG 23 (.pointer (Td (XT ⟨h.size,0,Te⟩ 3))) (aK p)) q (λr=>∃s,zd r (XT ⟨h.size,0,Te⟩ 3)=Td (aK s)/\∃(t:Int->zc->Prop) (u:Int->zc->Nat),t 0 r/\∀v:Int,∀w:zc,t v w->((decide (v<s.len)=Ta->∃x,(s.a=Td x/\0<=v/\v<s.len)/\∃y z A B,zf w (x.add (v.toNat*4)) 0 (tL y z A B)/\let C:=w.push (.cells tC 25);XRunU Tp (YG 25 (.pointer (Td ⟨w.size,0,Te⟩)) (tA y z A B)) C (λD=>∃E,zd D (XT ⟨h.size,0,Te⟩ 3)=Td (aK E)/\∃F G I J,zf D ⟨w.size,0,Te⟩ 0 (tL F G I J)/\XC Tp 151 #[tA F G I J] D (λL M=>∃N O P Q,L=tA N O P Q/\∃S,(E.a=Td S/\0<=v/\v<E.len)/\(M)[((XT ⟨h.size,0,Te⟩ 3):Addr).block]?=(D)[((XT ⟨h.size,0,Te⟩ 3):Addr).block]?/\XRunU Tp (YG 25 (.pointer (Td (S.add (v.toNat*4)))) (tA N O P Q)) M (λT=>(t (XS .i64 (v+1)) T/\u (XS .i64 (v+1)) T<u v w)))))/\(decide (v<s.len)=Tc->∃U V W X,zf w ⟨h.size,0,Te⟩ 0 (tL U V W X)/\XRunU Tp (YG 25 (.pointer (Td ⟨f.size,0,Te⟩)) (tA U V W X)) w (λY=>∃Z aa ab ac,zf Y ⟨f.size,0,Te⟩ 0 (tL Z aa ab ac)/\R (tA Z aa ab ac) Y)))))))):
  XC Tp 151 #[.agg #[.int .i64 b,.string c,.slice d.a d.len d.cap,.slice e.a e.len e.cap]] h R:=
 XF ⟨[(1,8000),(5,8000)],[(3,[(16,.one (.int .i64))])],[]⟩ [.cell 2 25] 29 Tryz.func151 H
theorem Qh(f:Sl)(h:zc)(R:Value->zc->Prop) (H:(f.a.isNone=Ta->R (.slice Te 0 0) h)/\(f.a.isNone=Tc->let b:=h.push (.cells #[] 9);yp Tp (YO #[22,22] 22 #[.slice (Td ⟨h.size,0,Te⟩) 0 0,aK f]) b (λc d=>∃e,c=aK e/\R (aK e) d))):
  XC Tp 210 #[.slice f.a f.len f.cap] h R:=
 XF ⟨[],[],[]⟩ [.tmp 2] 8 Tryz.func210 H
theorem xh(f:Sl)(h:zc)(R:Value->zc->Prop) (H:(f.a.isNone=Ta->R (.slice Te 0 0) h)/\(f.a.isNone=Tc->let b:=h.push (.cells #[] 25);yp Tp (YO #[23,23] 23 #[.slice (Td ⟨h.size,0,Te⟩) 0 0,aK f]) b (λc d=>∃e,c=aK e/\R (aK e) d))):
  XC Tp 211 #[.slice f.a f.len f.cap] h R:=
 XF ⟨[],[],[]⟩ [.tmp 2] 8 Tryz.func211 H
theorem TZ(b:Int)(c:Bt)(d:Sl)(e:Sl)(h:zc)(R:Value->zc->Prop) (H:let f:=h.push (.cells #[iV b,.string c,aK d,aK e] 25);let g:=f.push (.cells tC 25);∃i j k l,zf g ⟨h.size,0,Te⟩ 0 (tL i j k l)/\XC Tp 83 #[tA i j k l] g (λm n=>∃o,m=.bool o/\((!o)=Ta->XRunU Tp (YG 25 (.pointer (Td ⟨f.size,0,Te⟩)) (tZ)) n (λp=>∃q r s t,zf p ⟨f.size,0,Te⟩ 0 (tL q r s t)/\R (tA q r s t) p))/\((!o)=Tc->∃u v w x,zf n ⟨h.size,0,Te⟩ 0 (tL u v w x)/\XC Tp 151 #[tA u v w x] n (λy z=>∃A B C D,y=tA A B C D/\XRunU Tp (YG 25 (.pointer (Td ⟨f.size,0,Te⟩)) (tA A B C D)) z (λE=>∃F G I J,zf E ⟨f.size,0,Te⟩ 0 (tL F G I J)/\R (tA F G I J) E))))):
  XC Tp 90 #[.agg #[.int .i64 b,.string c,.slice d.a d.len d.cap,.slice e.a e.len e.cap]] h R:=
 XF ⟨[],[],[]⟩ [.cell 2 25] 9 Tryz.func90 H
theorem j8(b0:Option Addr)(c1:Int)(h:zc)(R:Value->zc->Prop) (H:XC Tp 123 #[.pointer b0] h (λb c=>b=.tuple #[]/\∃d,b0=Td d/\∃e,zd c (XT d 1)=Td (aK e)/\let f:=c.push (.cells #[.int .u8 c1] 5);yp Tp (YO #[87,87] 87 #[aK e,.slice (Td ⟨c.size,0,Te⟩) 1 1]) f (λg i=>∃j,g=aK j/\∃k,b0=Td k/\XRunU Tp (YG 87 (.pointer (Td (XT k 1))) (aK j)) i (λl=>R (.nilIface) l)))):
  XC Tp 133 #[.pointer b0,.int .u8 c1] h R:=
 XF ⟨[],[],[]⟩ [.tmp 4] 17 Tryz.func133 H
theorem jk(b0:Option Addr)(s1:Bt)(h:zc)(R:Value->zc->Prop) (H:XC Tp 123 #[.pointer b0] h (λb c=>b=.tuple #[]/\∃d,b0=Td d/\∃e,zd c (XT d 1)=Td (aK e)/\yp Tp (YO #[87,9] 87 #[aK e,.string s1]) c (λf g=>∃i,f=aK i/\∃j,b0=Td j/\XRunU Tp (YG 87 (.pointer (Td (XT j 1))) (aK i)) g (λk=>R (.tuple #[iV (s1.size:Int),.nilIface]) k)))):
  XC Tp 68 #[.pointer b0,.string s1] h R:=
 XF ⟨[],[],[]⟩ [.tmp 4,.tmp 5] 19 Tryz.func68 H
theorem RS(C:Sl)(h:zc)(R:Value->zc->Prop) (H:XC Tp 78 #[aK C] h (λb c=>∃d,b=.bool d/\((!d)=Ta->R (.tuple #[.string (⟨#[]⟩:Bt),iV 1]) c)/\((!d)=Tc->let e:=c.push (.cells #[.pointer Te,.slice Te 0 0] 89);∃(f:Int->zc->Prop) (g:Int->zc->Nat),f 0 e/\∀i:Int,∀j:zc,f i j->((decide (i<C.len)=Ta->∃k,(C.a=Td k/\0<=i/\i<C.len)/\∃l,zd j (k.add (i.toNat*1))=Td (.string l)/\XC Tp 133 #[.pointer (Td ⟨c.size,0,Te⟩),.int .u8 47] j (λm n=>∃o:Value,m=o/\XC Tp 134 #[.string l,.string (⟨#[126]⟩:Bt),.string (⟨#[126,48]⟩:Bt)] n (λp q=>∃r,p=.string r/\XC Tp 134 #[.string r,.string (⟨#[47]⟩:Bt),.string (⟨#[126,49]⟩:Bt)] q (λs t=>∃u,s=.string u/\XC Tp 68 #[.pointer (Td ⟨c.size,0,Te⟩),.string u] t (λv w=>∃x,∃y:Value,v=.tuple #[iV x,y]/\(f (XS .i64 (i+1)) w/\g (XS .i64 (i+1)) w<g i j))))))/\(decide (i<C.len)=Tc->XC Tp 70 #[.pointer (Td ⟨c.size,0,Te⟩)] j (λz A=>∃B,z=.string B/\R (.tuple #[.string B,iV 0]) A)))))):
  XC Tp 75 #[.slice C.a C.len C.cap] h R:=
 XF ⟨[],[(5,[(12,.one (.int .i64))])],[]⟩ [.tmp 2,.tmp 3] 23 Tryz.func75 H
end
section
variable {gl M:Fr} {F:FuncId} {A C:Array Value} {h:zc}
theorem Er:MapT Tp 213 9 4 (.bool Tc):=⟨by kernel_rfl,by kernel_rfl,⟨Tryz.t4,by kernel_rfl,by kernel_rfl⟩⟩
set_option maxHeartbeats 1000000 in
theorem QP(hg:GL gl){ks:List Bt}{n:Int}(hk:∀k∈ks,(lb k).length<=1048576){R:Bool->Prop}(h:R (ye ks&&decide ((ks.length:Int)=n))):PC Tp gl 147 [Arg.mk (.row .str) ks,Arg.mk (.int .i64) n] [.bool] R:=by
 intro o M vs hM ag ha
 match vs,ha with
 |[u,w],⟨h1,h2,_⟩=>
  obtain⟨s,rfl,Z⟩:=jW h1;have hw:=rG h2;subst hw;have Z:Rd M (.row .str) ks [aK s]:=Z;obtain⟨J,al,ak⟩:=rowLen Z;apply PX.of;apply Vq s n;intro g0;have kg:Keep o.size o g0:=Keep.push _ _ (XV _);have sg:g0.size=o.size+1:=XY _;have mg:MapAt g0 o.size []:=MapAt.new o;clear_value g0;refine⟨λi Y=>∃k:Nat,i=k/\k<=ks.length/\o.size<Y.size/\(∃Q,Later o M Y Q/\Q o.size=Te)/\(∃l,MapAt Y o.size l/\∀x,jD l x (.bool Tc)=.bool (decide (x∈ks.take k)))/\ye (ks.take k)=Ta,λi _=>ks.length-i.toNat,⟨0,rfl,by omega,by omega,⟨M,Later.same ag kg,ag.none (XV _)⟩,⟨[],mg,λx=>rfl⟩,by simp[ye]⟩,?_⟩;rintro i Y ⟨k,rfl,aj,C,⟨Q,B,P⟩,⟨l,E,S⟩,D⟩;refine⟨λhc=>?_,λhc=>?_⟩;have p:k<ks.length:=by simp at hc;omega
  have af:=Rd.mono B.le Z;refine l8 B.ag af p rfl rfl ?_;have N:=Q4 Er E ks[k] Tc;rw[S]at N;refine⟨decide (ks[k]∈ks.take k),N,?_⟩;have f:=Im hg.tabs (l:=lb ks[k]) (R:=λb=>b=Zv (lb ks[k])) (by have:=hk _ (YI p);omega) rfl;rw[Qj]at f;generalize hd:decide (ks[k]∈ks.take k)=d;refine⟨λv H=>∃b,v=.bool b/\(d=Tc->b=Zv (lb ks[k]))/\o.size<H.size/\(∃F,Later o M H F/\F o.size=Te)/\MapAt H o.size l,λhn=>?_,λhn=>⟨Ta,Ta,rfl,λe=>(by rw[e]at hn;cases hn),C,⟨Q,B,P⟩,E⟩,λ_ v H ⟨b,e,_⟩=>⟨b,e⟩,?_⟩;refine f.go (vs:=[.string ks[k]]) (hM.trans B.le) B.ag (qk (rdStr _) ym) λv H F r y O ae=>⟨r,ib O,r,rfl,λ_=>ae,by have:=y.keep.size;omega,⟨F,B.trans y,by rw[y.old _ C,P]⟩,E.keep (y.keep.get _ C)⟩;rintro b H ⟨b',e,I,ai,⟨F,y,L⟩,ah⟩;cases e;have U:ks.take (k+1)=ks.take k++[ks[k]]:=YD p;have V:ye (ks.take (k+1))=(!d&&Zv (lb ks[k])):=by
   have j:=D;unfold ye at j ⊢;rw[YH,zv]at j;rw[U,zb9,j.1,<-hd];have:decide (zdy k ks++[ks[k]]).Nodup=!decide (ks[k]∈ks.take k):=by rw[YW];simp only[zv,zb8,decide_eq_false_iff_not,za7];constructor;rintro⟨_,_,h3⟩ t;exact h3 _ t _ (by simp) rfl;intro t;exact⟨j.2,by simp,λa ha b I e=>t (by simp at I;rw[<-I,<-e];exact ha)⟩
   rw[this];simp[zdp]
  refine⟨λz=>?_,λz=>?_⟩;refine⟨F,_,y,Y2.2 (rdBool _),?_⟩;have hf:ye (ks.take (k+1))=Tc:=by
   rw[V];cases d with
   |true=>rfl
   |false=>rw[I rfl]at z;simpa using z
  have ac:ye ks=Tc:=by
   cases hks:ye ks with
   |false=>rfl
   |true=>
    unfold ye at hks hf;rw[YH,zv]at hks;have h1:((ks.take (k+1)).all λk=>Zv (lb k))=Ta:=by rw[ZH]at hks ⊢;exact λx z=>hks.1 x (zbz z)
    have h2:(ks.take (k+1)).Nodup:=hks.2.sublist (List.take_sublist _ _);rw[h1,zH h2]at hf;cases hf
  rw[ac]at h;exact h;have G:d=Tc:=by cases d with
   |true=>simp at z
   |false=>rfl
  have ab:Zv (lb ks[k])=Ta:=by rw[<-I G];rw[G]at z;simpa using z
  refine VC Er ah ks[k] (.bool Ta) λh6 m6 s6 o6=>?_;rw[qz p (by omega)];refine⟨⟨k+1,rfl,by omega,by omega,⟨F,⟨⟨by have:=y.keep.size;omega,λi hi=>by rw[o6 i (by omega)];exact y.keep.get i hi⟩,y.le,y.old,?_⟩,L⟩,⟨_,m6,λx=>?_⟩,by rw[V,G,ab];rfl⟩,by simp only[XW];omega⟩;intro b c e;have aa:b≠o.size:=λe2=>by rw[e2,L]at e;cases e
  obtain⟨T,m,e'⟩:=y.ag b c e;exact⟨T,m,by rw[o6 b aa];exact e'⟩;unfold jD;rw[RP,U];by_cases A:ks[k]=x;subst A;rw[zb rfl];simp only[YK,YY,or_true,decide_true,Option.getD_some];rw[za A];have:=S x;unfold jD at this;rw[this];congr 1;rw[YW,zv,zv,YK,YY];exact⟨.inl,λe=>e.elim id λe=>absurd e.symm A⟩;have p:k=ks.length:=by simp at hc;omega
  subst p;rw[YR]at D;refine⟨Q,_,B,Y2.2 (rdBool _),?_⟩;rw[D,zal]at h;have:(((s.len:Nat):Int)==n)=decide ((ks.length:Int)=n):=by rw[J,YW];simp
  rw[this];exact h
def Dx(gl:Fr)(F:FuncId)(A C:Array Value)(h:zc)(M:Fr)(t:Ty)(x:El t)(b:Bool):Prop:=
 zm Tp F=Ta/\∀h' M' u,Later h M h' M'->RdV M' t x u->PX Tp F (A++#[u]++C) h' M' [.bool] (λr=>r=b)
theorem OB(ag:AgM M h){xs:List Tr}{s:Sl}(z:Rd M (.row .tree) xs [aK s]){p:Tr->Bool}(t:∀x∈xs,Dx gl F A C h M .tree x (p x)):
  PX Tp 145 #[aK s,.func (.func F) A C] h M [.bool] (λr=>r=xs.any p):=by
 apply PX.of;apply jy s F A C;apply wb s F A C;obtain⟨y,I,D⟩:=rowLen z;refine⟨λi m=>∃k:Nat,i=k/\k<=xs.length/\(∃l,Later h M m l)/\(xs.take k).any p=Tc,λi _=>xs.length-i.toNat,⟨0,rfl,by omega,⟨M,Later.refl ag⟩,by simp⟩,?_⟩;rintro i m ⟨k,rfl,J,⟨l,e⟩,c⟩;refine⟨λo=>?_,λo=>?_⟩;have b:k<xs.length:=by simp at o;omega
 obtain⟨a,sk,si,E,B,G,H⟩:=Jn e.ag (Rd.mono e.le z) b;refine⟨a,⟨E,by omega,by omega⟩,xs[k].kind,xs[k].text,sk,si,by rw[XW];exact B,(t _ (YI b)).1,?_⟩;refine((t _ (YI b)).2 m l _ e (qe G H)).go λv L u r w f j=>⟨r,ib f,λn=>?_,λn=>?_⟩;refine⟨(k:Int),rfl,u,_,e.trans w,Y2.2 (rdBool _),?_⟩;have:xs.any p=Ta:=zc8.2 ⟨xs[k],YI b,by rw[<-j];exact n⟩;rw[this];simp;rw[qz b (by omega)];refine⟨⟨k+1,rfl,by omega,⟨u,e.trans w⟩,?_⟩,by simp only[XW];omega⟩;rw[YD b,List.any_append,c];simp only[List.any_cons,List.any_nil,<-j,n];rfl;have b:k=xs.length:=by simp at o;omega
 subst b;rw[YR]at c;refine⟨-1,rfl,l,_,e,Y2.2 (rdBool _),?_⟩;rw[c];rfl
theorem Ux(ag:AgM M h){xs:List Bt}{s:Sl}(z:Rd M (.row .str) xs [aK s]){p:Bt->Bool}(t:∀x∈xs,Dx gl F A C h M .str x (p x)):
  PX Tp 135 #[aK s,.func (.func F) A C] h M [.bool] (λr=>r=xs.any p):=by
 apply PX.of;apply wz s F A C;apply Ze s F A C;obtain⟨y,D,B⟩:=rowLen z;refine⟨λi m=>∃k:Nat,i=k/\k<=xs.length/\(∃l,Later h M m l)/\(xs.take k).any p=Tc,λi _=>xs.length-i.toNat,⟨0,rfl,by omega,⟨M,Later.refl ag⟩,by simp⟩,?_⟩;rintro i m ⟨k,rfl,E,⟨l,e⟩,c⟩;refine⟨λo=>?_,λo=>?_⟩;have b:k<xs.length:=by simp at o;omega
 refine l8 e.ag (Rd.mono e.le z) b rfl rfl ⟨(t _ (YI b)).1,?_⟩;refine((t _ (YI b)).2 m l _ e (rdStr _)).go λv G u r w f j=>⟨r,ib f,λn=>?_,λn=>?_⟩;refine⟨(k:Int),rfl,u,_,e.trans w,Y2.2 (rdBool _),?_⟩;have:xs.any p=Ta:=zc8.2 ⟨xs[k],YI b,by rw[<-j];exact n⟩;rw[this];simp;rw[qz b (by omega)];refine⟨⟨k+1,rfl,by omega,⟨u,e.trans w⟩,?_⟩,by simp only[XW];omega⟩;rw[YD b,List.any_append,c];simp only[List.any_cons,List.any_nil,<-j,n];rfl;have b:k=xs.length:=by simp at o;omega
 subst b;rw[YR]at c;refine⟨-1,rfl,l,_,e,Y2.2 (rdBool _),?_⟩;rw[c];rfl
end
section
variable {l ks:List Bt} {k:Nat} {gl:Fr} {v:Tr} {R:Bool -> Prop} {F:FuncId}
theorem Ca:decide (((l.length:Nat):Int)>0)=!l.isEmpty:=by cases l <;> simp
theorem HO{l:List Tr}:decide (((l.length:Nat):Int)>0)=!l.isEmpty:=by cases l <;> simp
theorem x5(s:Bt)(l:Bs):(s.toList==(bl l).toList)=(lb s==l):=by have:=kd (lb s) l;rw[Qj]at this;rw[this,YW];simp
theorem rU{k n:Int}:(k==n)=decide (k=n):=by rw[YW];simp
set_option maxHeartbeats 1000000 in
theorem HV(j:GL gl)(H:Sm v)(h:R (zl v)):PC Tp gl 89 [Arg.mk .tree v] [.bool] R:=by
 apply Ll;have y:(lb v.text).length<=1152921504606846976:=by have:=H.text;omega
 have key:∀b,b=zl v->R b:=λb I=>by rw[I];exact h
 have J:=Bc j (s:=lb v.text) (R:=λr=>R r.2\/v.kind≠3) y;have i:=Im j.tabs (l:=lb v.text) (R:=λr=>r=Zv (lb v.text)) (by omega) rfl;have n:=Mw j (s:=lb v.text) (R:=λr=>r=vy (lb v.text)) y rfl;have o:=Bc j (s:=lb v.text) (R:=λr=>r.2=(iX (lb v.text)).2) y rfl;rw[Qj]at i n o;simp only[rU,Ca,HO,show(⟨#[116,114,117,101]⟩:Bt)=bl [116,114,117,101]from rfl,show(⟨#[102,97,108,115,101]⟩:Bt)=bl [102,97,108,115,101]from rfl,x5];unfold zl at key;refine⟨λt=>key _ ?_,λt=>⟨λu=>?_,λu=>⟨λG=>key _ ?_,λG=>?_⟩⟩⟩;have:v.kind=5:=by simpa using t
 simp[this,zdp];have c:v.kind=6:=by simpa using u
 refine QP j (λk m=>H.key m) (key _ ?_);simp only[c];rw[zak];have:decide ((v.keys.length:Int)=(v.items.length:Int))=decide (v.keys.length=v.items.length):=by rw[YW,zv,zv];omega
 rw[this];rfl;have f:v.kind≠5:=by simpa using t
 have c:v.kind≠6:=by simpa using u
 have e:(v.keys.isEmpty&&v.items.isEmpty)=Tc:=by cases m:v.keys.isEmpty <;> cases hi:v.items.isEmpty <;> simp[m,hi]at G ⊢
 simp only[f,c,if_false,Bool.and_assoc,e,zdl];simp;have f:v.kind≠5:=by simpa using t
 have c:v.kind≠6:=by simpa using u
 have e:v.keys.isEmpty=Ta/\v.items.isEmpty=Ta:=by cases m:v.keys.isEmpty <;> cases hi:v.items.isEmpty <;> simp[m,hi]at G ⊢
 simp only[f,c,if_false,e.1,e.2,zcq]at key;refine⟨λh1=>key _ ?_,λh1=>⟨λx=>key _ ?_,λx=>⟨λD=>?_,λD=>⟨λA=>?_,λA=>⟨λB=>?_,λB=>key _ ?_⟩⟩⟩⟩⟩;have:v.kind=1:=by simpa using h1
 simp[this];have:v.kind=2:=by simpa using x
 simp[this];have:v.kind=3:=by simpa using D
 exact o.mono λr p=>key _ (by rw[p];simp[this]);have:v.kind=4:=by simpa using A
 exact i.mono λr p=>key _ (by rw[p];simp[this]);have:v.kind=7:=by simpa using B
 exact n.mono λr p=>key _ (by rw[p];simp[this]);have E:v.kind≠1:=by simpa using h1
 have C:v.kind≠2:=by simpa using x
 have F:v.kind≠3:=by simpa using D
 have w:v.kind≠4:=by simpa using A
 have z:v.kind≠7:=by simpa using B
 simp[E,C,F,w,z]
theorem kX(h:k<l.length):l[((k:Int)).toNat]?=Td l[k]:=by rw[XW,YA h]
theorem AH(h:k<ks.length):ye (ks.take (k+1))=(ye (ks.take k)&&(Zv (lb ks[k]) && !decide (ks[k]∈ks.take k))):=by
 unfold ye;rw[YD h,zb9];have:decide (zdy k ks++[ks[k]]).Nodup=(decide (zdy k ks).Nodup && !decide (ks[k]∈ks.take k)):=by rw[YW];simp only[zv,YH,zb8,decide_eq_false_iff_not,za7];constructor;rintro⟨h1,_,j⟩;exact⟨h1,λc=>j _ c _ (by simp) rfl⟩;rintro⟨h1,c⟩;exact⟨h1,by simp,λa i b f e=>c (by simp at f;rw[<-f,<-e];exact i)⟩
 rw[this];simp only[zcr,List.all_nil,zcq];cases(List.all (zdy k ks) λk=>Zv (lb k)) <;> cases Zv (lb ks[k]) <;> simp
theorem Gr(k:Nat)(h:ye (ks.take k)=Tc):ye ks=Tc:=by
 cases hks:ye ks with
 |false=>rfl
 |true=>
  unfold ye at hks h;rw[YH,zv]at hks;have h1:((ks.take k).all λk=>Zv (lb k))=Ta:=by rw[ZH]at hks ⊢;exact λx c=>hks.1 x (zbz c)
  have b:(ks.take k).Nodup:=hks.2.sublist (List.take_sublist _ _);rw[h1,zH b]at h;cases h
set_option maxHeartbeats 1000000 in
theorem JW(hg:GL gl)(hv:Sm v)(h:R (zl v)):PC Tp gl 163 [Arg.mk .tree v] [.bool] R:=by
 refine PC.bd λT=>?_;have ac:v.keys.length<=140737488355328:=(T ⟨.tree,v⟩ (by simp)).1;apply O3;have ht:(lb v.text).length<=1152921504606846976:=by have:=hv.text;omega
 have key:∀b,b=zl v->R b:=λb C=>by rw[C];exact h
 have B:=Gf (gl:=gl) (l:=lb v.text) (R:=λr=>r=Zv (lb v.text)) (by omega) rfl;have x:=Lu (gl:=gl) (s:=lb v.text) (R:=λr=>r=(jX (iX (lb v.text)).1,(iX (lb v.text)).2)) ht rfl;rw[Qj]at B x;simp only[rU,Ca,HO,show(⟨#[116,114,117,101]⟩:Bt)=bl [116,114,117,101]from rfl,show(⟨#[102,97,108,115,101]⟩:Bt)=bl [102,97,108,115,101]from rfl,x5];have H:∀n:Int,(v.kind != n)=!decide (v.kind=n):=λn=>by rw[bne,rU]
 simp only[H];refine⟨λQ=>key _ ?_,λQ=>?_⟩
 ·unfold zl;rcases zcs v.keys.isEmpty with A|A <;> rcases zcs v.items.isEmpty with hi|hi <;> simp[A,hi]at Q ⊢;all_goals grind
 intro K hK;have f:(v.kind≠6->v.keys.isEmpty=Ta)/\(v.kind≠6->v.kind≠5->v.items.isEmpty=Ta):=by rcases zcs v.keys.isEmpty with A|A <;> rcases zcs v.items.isEmpty with hi|hi <;> simp[A,hi]at Q ⊢ <;> grind
 unfold zl at key;have t:∀b,(b=Ta↔v.kind=1\/v.kind=5)->K b:=by
  intro b C;refine hK b ⟨λM=>key _ ?_,λp=>?_⟩;rcases C.1 M with h1|h5;have a:=f.1 (by omega);have c:=f.2 (by omega) (by omega);simp[h1,a,c];have a:=f.1 (by omega);simp[h5,a];have D:v.kind≠1/\v.kind≠5:=by constructor;intro e;rw[C.2 (.inl e)]at p;cases p;intro e;rw[C.2 (.inr e)]at p;cases p
  refine⟨λI=>key _ ?_,λI=>⟨λO=>?_,λO=>⟨λL=>?_,λL=>⟨λh7=>?_,λh7=>⟨λh6=>?_,λh6=>key _ ?_⟩⟩⟩⟩⟩;have:v.kind=2:=by simpa using I
  have a:=f.1 (by omega);have c:=f.2 (by omega) (by omega);simp[this,a,c];have:v.kind=3:=by simpa using O
  have a:=f.1 (by omega);have c:=f.2 (by omega) (by omega);exact x.mono λr w=>key _ (by rw[w];simp[this,a,c]);have:v.kind=4:=by simpa using L
  have a:=f.1 (by omega);have c:=f.2 (by omega) (by omega);exact B.mono λr w=>key _ (by rw[w];simp[this,a,c]);have:v.kind=7:=by simpa using h7
  have a:=f.1 (by omega);have c:=f.2 (by omega) (by omega);refine x.mono λr w=>?_;rw[w];refine TX (n:=(iX (lb v.text)).1) (Z8 _ ht) (key _ ?_);simp only[zak];rw[za (by omega),za (by omega),za (by omega),za (by omega),za (by omega),za (by omega),zb this,a,c,zcq,zcq];unfold vy;rfl;have z:v.kind=6:=by simpa using h6
  simp only[z]at key;have o:∀b,b=(ye v.keys&&decide (v.keys.length=v.items.length)&&lb v.text==[])->R b:=key;refine⟨λi=>∃k:Nat,i=k/\k<=v.keys.length/\ye (v.keys.take k)=Ta,λi=>v.keys.length-i.toNat,⟨0,rfl,by omega,by simp[ye]⟩,?_⟩;rintro i ⟨k,rfl,A,y⟩;refine⟨λU=>?_,λU=>?_⟩;have m:k<v.keys.length:=by simp at U;omega
  refine⟨v.keys[k],⟨by omega,kX m⟩,?_⟩;have hu:=Gf (gl:=gl) (l:=lb v.keys[k]) (R:=λr=>r=Zv (lb v.keys[k])) (by have:=hv.key (YI m);omega) rfl;rw[Qj]at hu;refine hu.mono λr w=>⟨λG=>o _ ?_,λG=>?_⟩;have:ye v.keys=Tc:=Gr (k+1) (by rw[AH m,<-w];simp at G;simp[G]);simp[this];have aa:Zv (lb v.keys[k])=Ta:=by rw[<-w];simpa using G
  refine⟨λi=>∃j:Nat,i=j/\j<=k/\v.keys[k]∉v.keys.take j,λi=>k-i.toNat,⟨0,rfl,by omega,by simp⟩,?_⟩;rintro i ⟨j,rfl,hj,u⟩;refine⟨λV=>?_,λV=>?_⟩;have S:j<k:=by simp at V;omega
  refine⟨v.keys[j],⟨by omega,kX (by omega)⟩,v.keys[k],⟨by omega,kX m⟩,λE=>o _ ?_,λE=>?_⟩;have J:v.keys[j]=v.keys[k]:=by have:=x5 v.keys[j] (lb v.keys[k]);rw[Qj]at this;rw[this]at E;exact nK.1 (by simpa using E)
  have:ye v.keys=Tc:=Gr (k+1) (by
   rw[AH m];have hm:v.keys[k]∈v.keys.take k:=by rw[<-J,List.mem_take_iff_getElem];exact⟨j,by omega,rfl⟩
   simp[hm])
  simp[this];have F:v.keys[j]≠v.keys[k]:=by intro e;rw[e]at E;simp at E
  rw[qz S (by omega)];refine⟨⟨j+1,rfl,by omega,?_⟩,by simp only[XW];omega⟩;rw[YD (by omega),YK,YY];exact λe=>e.elim u λe=>F e.symm;have Z:j=k:=by simp at V;omega
  subst Z;rw[qz m (by omega)];refine⟨⟨j+1,rfl,by omega,?_⟩,by simp only[XW];omega⟩;rw[AH m,y,aa,decide_eq_false u];rfl;have m:k=v.keys.length:=by simp at U;omega
  subst m;rw[YR]at y;refine o _ ?_;rw[y,zak,zal,zdp];congr 1;rw[YW,zv,zv];omega;have N:v.kind≠2:=by simpa using I
  have P:v.kind≠3:=by simpa using O
  have Y:v.kind≠4:=by simpa using L
  have ab:v.kind≠7:=by simpa using h7
  have z:v.kind≠6:=by simpa using h6
  simp[D.1,D.2,N,P,Y,ab,z]
 refine⟨λh1=>t _ (by simp at h1;simp[h1]),λh1=>t _ (by simp at h1;simp[h1])⟩
theorem FF{gl:Fr}(o:GL gl)(b:Bool)(v:Tr)(m:Sm v){R:Bool->Prop}(h:R (Zk (λx=>zl x&&(b||decide (x.kind≠7))) v)):PC Tp gl 104 [Arg.mk .tree v,Arg.mk .bool b] [.bool] R:=by
 apply S8;rw[j7];have t:=m.items;rw[Zb,jw]at h;refine JW o m ⟨λe=>?_,λe=>?_⟩;have:(zl v&&(b||decide (v.kind≠7)))=Tc:=by rw[rU]at e;cases hn:zl v <;> cases b <;> simp[hn]at e ⊢;exact e
 rw[this]at h;exact h;have r:(zl v&&(b||decide (v.kind≠7)))=Ta:=by rw[rU]at e;cases hn:zl v <;> cases b <;> simp[hn]at e ⊢;exact e
 rw[r,zal]at h;refine⟨λi=>∃k:Nat,i=k/\k<=v.items.length/\(v.items.take k).all (Zk (λx=>zl x&&(b||decide (x.kind≠7))))=Ta,λi=>v.items.length-i.toNat,⟨0,rfl,by omega,by simp⟩,?_⟩;rintro i ⟨k,rfl,u,f⟩;refine⟨λn=>?_,λn=>?_⟩;have c:k<v.items.length:=by simp at n;omega
 refine⟨v.items[k],⟨by omega,X9 c⟩,?_⟩;rw[j7];have j:v.items[k]∈v.items:=YI c;have p:=qp j;refine FF o b v.items[k] (m.item j) ⟨λl=>?_,λl=>?_⟩;have:v.items.all (Zk (λx=>zl x&&(b||decide (x.kind≠7))))=Tc:=by rw[zc1];exact⟨_,j,by simpa using l⟩
 rw[this]at h;exact h;rw[qz c (by omega)];refine⟨⟨k+1,rfl,by omega,?_⟩,by simp only[XW];omega⟩;rw[YD c,zb9,f,zal,zcr,List.all_nil,zcq];simpa using l;have c:k=v.items.length:=by simp at n;omega
 subst c;rw[YR]at f;rw[f]at h;exact h
termination_by bR v
theorem PZ{p q:Tr->Bool}(h:∀x,p x=q x)(v:Tr):Zk p v=Zk q v:=by have:p=q:=funext h;rw[this]
theorem Ul(hF:zm Tp F=Ta){p:Tr->Bool}(hp:∀x,Sm x->PC Tp gl F [Arg.mk .tree x] [.bool] (λr=>r=p x))(n:Nat):∀(v:Tr),bR v<=n->Sm v->∀{h:zc} {M:Fr} {u:Value},Fr.le gl M->AgM M h->RdV M .tree v u ->
  PX Tp 87 #[u,.func (.func F) #[] #[]] h M [.bool] (λr=>r=Zk p v):=by
 induction n with
 |zero=>intro v hn;have:=Ye v;omega
 |succ n ih=>
 intro v hn hv h M u hM ag hu;have U:=hu;obtain⟨sk,si,rfl,rk,ri⟩:=qn hu;apply PX.of;apply Rb v.kind v.text sk si F #[] #[];intro h1 l;have L1:Later h M h1 M:=Later.push ag _;have f:Later h1 M l (Mx M h1.size #[.func (.func F) #[] #[]]):=Later.frz L1.ag _ _;have s1:h1.size=h.size+1:=XY _;have s2:l.size=h1.size+1:=XY _;have y:zf l ⟨h.size,0,Te⟩ 0 [.int .i64 v.kind,.string v.text,aK sk,aK si]:=pY (h':=l) (by have:=f.keep;rw[s1]at this;exact this);have Z:∀h':zc,Keep l.size l h'->zd h' (XT ⟨h.size,0,Te⟩ 3)=Td (aK si):=λh' k=>by refine JK (h:=h) (T:=25) (cs:=[.int .i64 v.kind,.string v.text,aK sk,aK si]) ?_ rfl;have:=f.keep.trans k (by omega);rw[s1]at this;exact this
 have o:zd l ⟨h1.size,0,Te⟩=Td (.func (.func F) #[] #[]):=f.ag.cell (Is _ _ _) rfl;have S:(Mx M h1.size #[.func (.func F) #[] #[]]) h1.size=Td #[.func (.func F) #[] #[]]:=Is _ _ _;have E:=L1.trans f;clear_value h1 l;generalize (Mx M h1.size #[.func (.func F) #[] #[]])=M2 at *;refine⟨_,o,v.kind,v.text,sk,si,y,hF,?_⟩;refine(hp v hv).go (vs:=[.agg #[.int .i64 v.kind,.string v.text,aK sk,aK si]]) (hM.trans E.le) E.ag (qk (RdV.mono E.le U) ym) λw h3 N r C A hr=>?_;refine⟨r,ib A,si,λ_=>Z h3 C.keep,?_⟩;have i:=E.trans C;refine⟨λw D=>∃b,w=.bool b/\(r=Ta->b=!(mf p v.items))/\∃B,Later h M D B,λab=>?_,λz=>⟨Ta,Ta,rfl,λe=>(by rw[e]at z;cases z),N,i⟩,λ_ w D ⟨b,e,_⟩=>⟨b,e⟩,?_⟩;have V:Rd N (.row .tree) v.items [aK si]:=Rd.mono i.le ri;have O:N h1.size=Td #[.func (.func F) #[] #[]]:=C.le _ _ S;refine(OB (gl:=gl) C.ag V (p:=λx=>!(Zk p x)) λx hx=>⟨by kernel_rfl,λh' M' u' L' P=>?_⟩).go λw D B b G m Y=>⟨b,ib m,b,rfl,λ_=>?_,B,i.trans G⟩;have ac:=qp hx;obtain⟨c,j,rfl,I,H⟩:=qn P;apply PX.of;show XC Tp 146 #[.agg #[.int .i64 x.kind,.string x.text,aK c,aK j],.pointer (Td ⟨h1.size,0,Te⟩)] h' _;apply Lm x.kind x.text c j;intro g1;have L:Later h' M' g1 M':=Later.push L'.ag _;have J:zf g1 ⟨h'.size,0,Te⟩ 0 [.int .i64 x.kind,.string x.text,aK c,aK j]:=pY (Keep.refl _ _);have aa:zd g1 ⟨h1.size,0,Te⟩=Td (.func (.func F) #[] #[]):=L.ag.cell (L'.le _ _ O) rfl;clear_value g1;refine⟨x.kind,x.text,c,j,J,_,aa,?_⟩;refine(ih x (by omega) (hv.item hx) (h:=g1) (M:=M') ((hM.trans i.le).trans L'.le) L.ag (qe I H)).go λw h5 M5 b L5 t Q=>⟨b,ib t,M5,_,L.trans L5,Y2.2 (rdBool _),by rw[Q]⟩;rw[Y,jw,YW];simp;rintro b D ⟨b',e,hb,B,G⟩;cases e;refine⟨B,_,G,Y2.2 (rdBool _),?_⟩;rw[Zb,<-hr];cases r with
 |false=>rfl
 |true=>rw[hb rfl];simp
theorem Fj(i:zm Tp F=Ta){p:Tr->Bool}(b:∀x,Sm x->PC Tp gl F [Arg.mk .tree x] [.bool] (λr=>r=p x))(v:Tr)(c:Sm v){h:zc}{M:Fr}{u:Value}(e:Fr.le gl M)(ag:AgM M h)(f:RdV M .tree v u): PX Tp 87 #[u,.func (.func F) #[] #[]] h M [.bool] (λr=>r=Zk p v):=Ul i b (bR v) v (XV _) c e ag f
theorem vM(I:GL gl)(E:Sm v)(o:R (xx v)):PC Tp gl 83 [Arg.mk .tree v] [.bool] R:=by
 intro h M vs D ag T
 match vs,T with
 |[u],⟨n,_⟩=>
  have n:RdV M .tree v u:=n;have m:=n;obtain⟨sk,si,rfl,U,Y⟩:=qn n;apply PX.of;apply MK v.kind v.text sk si;intro h1;have t:Later h M h1 M:=Later.push ag _;have s1:h1.size=h.size+1:=XY _;have f:∀h':zc,Keep h1.size h1 h'->zf h' ⟨h.size,0,Te⟩ 0 [.int .i64 v.kind,.string v.text,aK sk,aK si]:=λh' k=>pY (h':=h') (by rw[s1]at k;exact k);clear_value h1;refine⟨v.kind,v.text,sk,si,f h1 (Keep.refl _ _),?_⟩;have z:PC Tp gl 86 [Arg.mk .tree v] [.bool] (λr=>r=Zd v):=CJ E rfl;refine z.go (vs:=[.agg #[.int .i64 v.kind,.string v.text,aK sk,aK si]]) (D.trans t.le) t.ag (qk (RdV.mono t.le m) ym) λw G P r A j O=>?_;refine⟨r,ib j,v.kind,v.text,sk,si,λ_=>f G A.keep,?_⟩;have c:=t.trans A;refine⟨λw y=>∃b,w=.bool b/\(r=Ta->b=Zk zl v)/\∃C,Later h M y C,λS=>?_,λl=>⟨Ta,Ta,rfl,λe=>(by rw[e]at l;cases l),P,c⟩,λ_ w y ⟨b,e,_⟩=>⟨b,e⟩,?_⟩;refine(Fj (F:=89) (by kernel_rfl) (p:=zl) (λx Q=>HV I Q rfl) v E (D.trans c.le) A.ag (RdV.mono c.le m)).go λw V L b J i B=>⟨b,ib i,b,rfl,λ_=>B,L,c.trans J⟩;rintro b y ⟨b',e,H,C,N⟩;cases e;refine⟨C,_,N,Y2.2 (rdBool _),?_⟩;unfold xx at o;rw[<-O]at o;cases r with
  |false=>exact o
  |true=>rw[zI,H rfl];exact o
end
end Go.X
end
section
namespace Go.X
open Go Go.RowKit
section
variable {h h':zc} {bs:List Nat} {v:Tr} {M:Fr} {b o n:Nat} {cs:Array Value} {vs:List Value}
def OKeys(h:zc)(ks:List Bt)(bs:List Nat)(s:Sl):Prop:=
 s.len=ks.length/\ks.length<=140737488355328/\ks.length<=s.cap/\((ks=[]/\bs=[]/\s.cap=0)\/∃b cs,bs=[b]/\s.a=Td ⟨b,0,Te⟩/\Blk h b cs/\s.cap<=cs.size/\cut cs 0 ks.length=ks.map ZC)
inductive OT (h:zc):Tr->List Nat->List Value->Prop where
 |mk {k:Int} {s:Bt} {ks:List Bt} {xs:List Tr} {sk si:Sl} {bk bb:List Nat} {b:Nat} {cs:Array Value} {bf:Nat->List Nat}
  (hk:OKeys h ks bk sk) (hn:si.len=xs.length/\xs.length<=140737488355328/\xs.length<=si.cap)
  (hz:(xs=[]/\bb=[]/\si.cap=0)\/(bb=[b]/\si.a=Td ⟨b,0,Te⟩/\Blk h b cs/\si.cap*4<=cs.size))
  (hi:∀i (hx:i<xs.length),OT h xs[i] (bf i) (cut cs (i*4) 4))
  (hd:(bk++(bb++(ZN xs.length).flatMap bf)).Nodup):
  OT h (.mk k s ks xs) (bk++(bb++(ZN xs.length).flatMap bf)) [.int .i64 k,.string s,aK sk,aK si]
theorem OKeys.frame{ks:List Bt}{s:Sl}(H:OKeys h ks bs s)(c:∀b∈bs,h'[b]?=h[b]?):OKeys h' ks bs s:=by obtain⟨h1,i,k,j⟩:=H;refine⟨h1,i,k,j.imp id ?_⟩;rintro⟨b,cs,rfl,e,l,f⟩;exact⟨b,cs,rfl,e,l.keep (c b (by simp)),f⟩
theorem OT.frame{cells:List Value}(H:OT h v bs cells):(∀b∈bs,h'[b]?=h[b]?)->OT h' v bs cells:=by
 induction H with
 | @mk k s ks xs sk si bk bb b cs bf hk hn hz hi hd ih=>intro f;refine OT.mk (b:=b) (cs:=cs) (hk.frame λx c=>f x (by simp[c])) hn (hz.imp id ?_) (λi c=>ih i c λx e=>f x ?_) hd;rintro⟨rfl,j,m,l⟩;exact⟨rfl,j,m.keep (f b (by simp)),l⟩;simp only[YK,zcf,ZR];exact .inr (.inr ⟨i,c,e⟩)
theorem OT.nodup{cells:List Value}(H:OT h v bs cells):bs.Nodup:=by cases H with|mk _ _ _ _ b=>exact b
theorem OT.lt{cells:List Value}(H:OT h v bs cells):∀b∈bs,b<h.size:=by
 induction H with
 | @mk k s ks xs sk si bk bb b cs bf hk hn hz hi hd ih=>intro x c;simp only[YK,zcf,ZR]at c;rcases c with c|c|⟨i,h1,f⟩;obtain⟨_,_,_,j⟩:=hk;rcases j with⟨_,rfl,_⟩|⟨b',cs',rfl,_,e,_⟩;cases c;simp at c;subst c;exact e.lt;rcases hz with⟨_,rfl,_⟩|⟨rfl,_,e,_⟩;cases c;simp at c;subst c;exact e.lt;exact ih i h1 x f
theorem OT.rd{cells:List Value}(H:OT h v bs cells)(m:∀b∈bs,∀cs,Blk h b cs->M b=Td cs):TrRd M v cells:=by
 induction H with
 | @mk k s ks xs sk si bk bb b cs bf hk hn hz hi hd ih=>
  obtain⟨t,k2,u,y⟩:=hk;have n:RowAt M (λs cs=>cs=[.string s]) 1 ks (aK sk):=by
   refine⟨sk.a,sk.cap,by rw[aK,t],⟨k2,u⟩,?_⟩;rcases y with⟨h0,_⟩|⟨b',cs',rfl,p,r,_,w⟩;exact .inl h0;refine .inr ⟨b',0,cs',p,m b' (by simp) cs' r,λi f=>?_⟩;have:(cut cs' 0 ks.length)[i]?=Td (ZC ks[i]):=by rw[w,zap,YA f];rfl
   unfold cut at this ⊢;rw[ZJ,zb f,za2]at this;have c:=(ZV.1 this).1;rw[YP,zac,zaf c,zct,zdm];rw[YA c]at this;rw[ZA this]
  have l:aK si=.slice si.a xs.length si.cap:=by rw[aK,hn.1]
  rw[l];refine TrRd.mk (b:=b) (o:=0) (cs:=cs) n hn.2 (hz.imp (·.1) ?_) λi f=>?_;rintro⟨rfl,p,r,_⟩;exact⟨p,m b (by simp) cs r⟩;rw[YP];exact ih i f λx j cs' e=>m x (by simp only[YK,zcf,ZR];exact .inr (.inr ⟨i,f,j⟩)) cs' e
def MxL(M:Fr)(h:zc)(bs:List Nat):Fr:=λi=>if i∈bs then(match h[i]? with
 |some (.cells cs _ _)=>Td cs
 |_=>Te)else M i
theorem MxL.ag{M:Fr}{h:zc}(ag:AgM M h)(bs:List Nat):AgM (MxL M h bs) h:=by intro b c e;unfold MxL at e;split at e;split at e;rename_i cs T m f;cases e;exact⟨T,m,f⟩;cases e;exact ag b c e
theorem MxL.later{h0 h:zc}(ag:AgM M h0)(k:Keep h0.size h0 h)(hb:∀b∈bs,h0.size<=b):Later h0 M h (MxL M h bs) where
 keep:=k
 le:=λb c e=>by have:=ag.lt e;unfold MxL;rw[za (λhm=>by have:=hb b hm;omega)];exact e
 old:=λb hlt=>by unfold MxL;rw[za (λhm=>by have:=hb b hm;omega)]
 ag:=MxL.ag (ag.keep k) bs
theorem MxL.at(c:b∈bs)(e:Blk h b cs):MxL M h bs b=Td cs:=by obtain⟨T,e⟩:=e;unfold MxL;rw[zb c,e]
def jc(cs:Array Value)(o:Nat)(vs:List Value):Array Value:=(cs.toList.take o++vs++cs.toList.drop (o+vs.length)).toArray
theorem Ii(h:o+vs.length<=cs.size):(jc cs o vs).size=cs.size:=by unfold jc;simp;omega
theorem zN(h:o+vs.length<=cs.size)(q:Nat):(jc cs o vs).toList[q]?=if q<o then cs.toList[q]? else if q<o+vs.length then vs[q-o]? else cs.toList[q]?:=by unfold jc;exact Qs (by simpa using h) q
theorem qj{o n i:Nat}:(cut cs o n)[i]?=if i<n then cs.toList[o+i]? else Te:=by unfold cut;rw[ZJ];split;rw[zaa];rfl
theorem UO(h:o+vs.length<=cs.size):cut (jc cs o vs) o vs.length=vs:=by apply zab;intro i;rw[qj];split;rw[zN h,za (by omega),zb (by omega)];congr 1;omega;rw[ZQ (by omega)]
theorem IG{o p n:Nat}(h:o+vs.length<=cs.size)(b:p+n<=o\/o+vs.length<=p):cut (jc cs o vs) p n=cut cs p n:=by apply zab;intro i;rw[qj,qj];split;rw[zN h];split;rfl;rw[za (by omega)];rfl
theorem mV{P:Program}{t:TypeId}(hi:yc P t=Ta)(H:Blk h b cs){v:Value}(c:v.cells.toList=vs)(m:yf P t=vs.length)(k:o+vs.length<=cs.size)(h1:∀u∈vs,u.oneCell'=Ta){K:zc->Prop}
  (r:∀h':zc,Blk h' b (jc cs o vs)->h'.size=h.size->(∀j,j≠b->h'[j]?=h[j]?)->K h'):XRunU P (YG t (.pointer (Td ⟨b,o,Te⟩)) v) h K:=by
 intro B d;obtain⟨T,e⟩:=H;have f:v.cells.size=vs.length:=by rw[<-c];simp
 obtain⟨h',l,n,i,p⟩:=Q9 (P:=P) hi m e f k (by rw[c];exact h1) B d;refine⟨d,h',l,r h' ⟨T,?_⟩ i p⟩;rw[n];unfold jc;rw[c]
theorem Blk.ofKeep(H:Blk h b cs)(k:Keep h.size h h'):Blk h' b cs:=H.keepN k H.lt
theorem qD(ag:AgM M h)(bs:List Nat):Fr.le M (MxL M h bs):=by intro b c e;unfold MxL;split;obtain⟨T,m,f⟩:=ag b c e;rw[f];exact e
end
end Go.X
end
