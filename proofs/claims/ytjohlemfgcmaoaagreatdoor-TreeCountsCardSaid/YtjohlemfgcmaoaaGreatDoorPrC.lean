/- A part of the proof: nothing is stated here for its own sake. -/
import Derived.Test.YtjohlemfgcmaoaaGreatDoorPrB
import Derived.ProofKit
import Derived.OpenShut
import Derived.ShutString
import Derived.Lib.Replace
import Derived.Shelf.Strings.Trim
import Derived.Shelf.Small.Bits
import Derived.Shelf.Small.Wraps
import Derived.Shelf.Strings.BuilderRune
import Derived.Shelf.Utf8.AppendRune
import Derived.Shelf.Utf8.AppendRunePlain
import Derived.Shelf.Strconv.Itoa3
import Derived.Shelf.Strconv.AtoiErr
import Derived.Shelf.Strconv.ErrVarAll
import Derived.Shelf.Strconv.ErrVarParseInt
import Derived.Shelf.Pu.ParseUintPublic10
import Derived.Shelf.Sort.Plain
import Derived.Shelf.Unicode.Decode
import Derived.Shelf.Strings.IndexAnyAll
import Derived.Shelf.Strings.Repeat
import Derived.Shelf.Unicode.DecodeLast
import Derived.Shelf.Strings.BuilderCap
import Derived.Shelf.Slices.Turned
import Derived.Shelf.Slices.Clone
import Derived.Shelf.Slices.SearchI
import Derived.Shelf.Slices.In.SortNone
import Derived.Shelf.SlicesE.Clone
import Derived.Shelf.Unicode.ValidAny
import Derived.Test.YtjohlemfgcmaoaaGreatDoorTie
import Derived.Test.YtjohlemfgcmaoaaGreatDoorCards
import Derived.PinnedBridge
import Derived.Lay
import Derived.HandedShaped
open _root_.Go.Addr renaming add->Ad
open _root_.Array renaming getElem?_append_left->CU,getElem?_eq_getElem->Bo,getElem?_eq_some_iff->An,getElem?_setIfInBounds_ne->AB,getElem?_setIfInBounds_self_of_lt->CB,getElem?_toList->Cj,replicate->BN,size_push->Aj
open _root_.BitVec renaming ofInt->BX
open _root_.Bool renaming and_eq_false_iff->CJ,and_eq_true->Ap,and_true->Dt,eq_iff_iff->AM,false_and->Eg,false_eq_true->Bc,false_or->D7,not_eq_true'->DL,or_eq_false_iff->DV,or_eq_true->BO,true_and->Cs
open _root_.Go.Builtin renaming append_->Au
open _root_.Go.Extern.AbiNoEscape renaming same->Ev
open _root_.Go.Instr renaming lookup->Dw,mapUpdate->Cv,next->Di,storeAt->Af
open _root_.Int renaming toNat_natCast->Ai
open _root_.Go.IntKind renaming bits->Bj,signed->DT,wrap->Aa
open _root_.List renaming all_append->DG,all_cons->DJ,all_eq_true->Av,append_nil->AQ,cons_append->AD,drop_drop->BU,drop_eq_getElem_cons->Bw,drop_eq_nil_of_le->Br,drop_zero->BZ,eq_nil_of_length_eq_zero->AN,exists_cons_of_ne_nil->Bq,ext_getElem?->Bu,getD_eq_getElem?_getD->A7,getElem?_drop->A9,getElem?_eq_getElem->Al,getElem?_eq_none->BL,getElem?_eq_some_iff->AY,getElem?_map->Bn,getElem?_take->AJ,getElem_mem->AE,length->Ct,length_append->Ag,length_cons->Aq,length_drop->AH,length_eq_zero_iff->Bi,length_map->Ao,length_pos_iff->Bv,length_replicate->CI,length_take->AK,map_append->Bf,mem_append->Ay,mem_append_left->As,mem_append_right->AC,mem_cons->Ah,mem_flatMap->Cw,mem_map->AL,mem_of_getElem?->BD,mem_range->A1,mem_singleton->A4,nil_append->A5,nodup_append->CV,range->Bl,replicate->BE,take_append_drop->Cb,take_length->A3,take_of_length_le->BG,take_succ_cons->Dd,take_succ_eq_append_getElem->Aw,take_zero->Dl
open _root_.List.cons renaming injEq->BV
open _root_.Nat renaming add_mul->Cg,add_zero->C7,le_mul_of_pos_right->Du,le_of_lt->DZ,le_refl->Ab,le_trans->Ck,lt_of_lt_of_le->Dh,lt_or_ge->A6,min_eq_left->CE,mul_comm->Dq,mul_le_mul_right->AP,mul_one->Ci,pow_succ->Ef,strongRecOn->DF,zero_add->AI,zero_mul->Eb
open _root_.Option renaming bind_some->C2,map_eq_some_iff->CF
open _root_.Option.some renaming inj->Az,injEq->Ac
open _root_.Prod.mk renaming injEq->Bh
open _root_.Go.Proofs.Tryz renaming func212->Ee,isAgg0->CZ,isAgg21->DY,isAgg3->Cx,isAgg4->CC,isAgg5->Cy,isAgg9->Cz,prog->A0,sizeOf0->CN,sizeOf21->DI,sizeOf3->Cm,sizeOf4->Cu,sizeOf5->Cn,sizeOf9->Co,underlying0->Cf,underlying181->DC,underlying21->Da,underlying232->Dz,underlying3->BH,underlying4->BI,underlying5->Bz,underlying9->BC,zeroValue0->Cq,zeroValue21->Df,zeroValue3->BP,zeroValue4->BW,zeroValue5->BQ,zeroValue9->BR
open _root_.UInt8 renaming ofNat->Bb
open _root_.Go.Utf8 renaming decode->Es
open _root_.Go.Value renaming int->Bm,string->AZ
open _root_.Go.Value.slice renaming injEq->AO
set_option linter.unusedVariables false
set_option maxRecDepth 100000
namespace Go.X
end Go.X
namespace Go.Proofs
end Go.Proofs
open Go Go.X Go.Proofs
open _root_.Bool renaming true->Ta,false->Tc
open _root_.Option renaming some->Td,none->Te
section
namespace Go.X
open Go Go.RowKit
section
variable {P:Program} {gl M:Fr} {f:FuncId} {h h':zb} {vs cs:List Value} {K:Value -> zb -> Prop} {t:Ty} {u v:Value} {i:Int} {s:Sl} {k:Nat}
def PX(P:Program)(f:FuncId)(vs:Array Value)(h:zb)(M:Fr)(rt:List Ty)(R:Els rt->Prop):Prop:=
 XC P f vs h λv h'=>Keep h.size h h'/\∃M' r,Fr.le M M'/\(∀b,b<h.size->M' b=M b)/\AgM M' h'/\Yv M' rt r v/\R r
theorem PC.px{args:List Arg}{rt:List Ty}{R:Els rt->Prop}(H:PC P gl f args rt R)(b:Fr.le gl M)(ag:AgM M h)(c:X5 M args vs):PX P f vs.toArray h M rt R:=H h M vs b ag c
structure Later (h:zb) (M:Fr) (h':zb) (M':Fr):Prop where
 keep:Keep h.size h h'
 le:Fr.le M M'
 old:∀b,b<h.size->M' b=M b
 ag:AgM M' h'
theorem Later.refl(ag:AgM M h):Later h M h M:=⟨Keep.refl _ _,Fr.le.refl _,λ_ _=>rfl,ag⟩
theorem Later.trans{h h' h'':zb}{M M' M'':Fr}(a:Later h M h' M')(b:Later h' M' h'' M''):Later h M h'' M'':= ⟨a.keep.trans b.keep a.keep.size,a.le.trans b.le,λx c=>(b.old x (by have:=a.keep.size;omega)).trans (a.old x c),b.ag⟩
theorem Later.same(ag:AgM M h)(k:Keep h.size h h'):Later h M h' M:=⟨k,Fr.le.refl _,λ_ _=>rfl,ag.keep k⟩
theorem Later.push(ag:AgM M h)(o:Obj):Later h M (h.push o) M:=Later.same ag (Keep.push _ _ (Ab _))
theorem PX.go{vs:Array Value}{rt:List Ty}{R:Els rt->Prop}(H:PX P f vs h M rt R)(c:∀v h' M' r,Later h M h' M'->Yv M' rt r v->R r->K v h'):XC P f vs h K:= XC.mono H λv h' ⟨k,M',r,e,b,i,l,m⟩=>c v h' M' r ⟨k,e,b,i⟩ l m
theorem PX.of{vs:Array Value}{rt:List Ty}{R:Els rt->Prop}(H:XC P f vs h λv h'=>∃M' r,Later h M h' M'/\Yv M' rt r v/\R r):PX P f vs h M rt R:= XC.mono H λv h' ⟨M',r,l,b,c⟩=>⟨l.keep,M',r,l.le,l.old,l.ag,b,c⟩
theorem PC.go{args:List Arg}{rt:List Ty}{R:Els rt->Prop}(H:PC P gl f args rt R)(b:Fr.le gl M)(ag:AgM M h)(c:X5 M args vs) (e:∀v h' M' r,Later h M h' M'->Yv M' rt r v->R r->K v h'):XC P f vs.toArray h K:=(H.px b ag c).go e
theorem zfw{x:El t}(b:zhn t=Tc):RdV M t x u↔Rd M t x [u]:=by unfold RdV;rw[b];simp
theorem Xe{x:El t}:Yv M [t] x v↔RdV M t x v:=by constructor;rintro⟨us,⟨u,rfl,h⟩,rfl⟩;exact h;intro h;exact⟨[v],⟨v,rfl,h⟩,rfl⟩
theorem zhq{b:Bool}(h:Yv M [.bool] b v):v=.bool b:=by have:=Xe.1 h;rw[zfw rfl]at this;simpa[Rd]using this
theorem qkx{k:IntKind}(h:Yv M [.int k] i v):v=.int k i:=by have:=Xe.1 h;rw[zfw rfl]at this;simpa[Rd]using this
theorem qhq{s:Bt}(h:Yv M [.str] s v):v=.string s:=by have:=Xe.1 h;rw[zfw rfl]at this;simpa[Rd]using this
theorem qt:X5 M [] []:=trivial
theorem qc{a:Arg}{l:List Arg}{us:List Value}(h:RdV M a.t a.x u)(b:X5 M l us):X5 M (a::l) (u::us):=⟨h,b⟩
theorem rdStr(s:Bt):RdV M .str s (.string s):=by rw[zfw rfl];rfl
theorem Jf(k:IntKind)(i:Int):RdV M (.int k) i (.int k i):=by rw[zfw rfl];rfl
theorem rdBool(b:Bool):RdV M .bool b (.bool b):=by rw[zfw rfl];rfl
theorem Wp{s:Bt}(h:RdV M .str s u):u=.string s:=by rw[zfw rfl]at h;simpa[Rd]using h
theorem j4{k:IntKind}(h:RdV M (.int k) i u):u=.int k i:=by rw[zfw rfl]at h;simpa[Rd]using h
theorem yz{v:Tr}(h:RdV M .tree v u):∃sk si:Sl,u=.agg #[.int .i64 v.kind,.string v.text,slV sk,slV si]/\Rd M (.row .str) v.keys [slV sk]/\Rd M (.row .tree) v.items [slV si]:=by unfold RdV at h;simp only[zhn,if_true]at h;obtain⟨cs,rfl,k⟩:=h;obtain⟨o,p,rfl,h1,f⟩:=TrRd.keys k;have c:=h1;have b:=f;obtain⟨w1,i,n,c1,l,_⟩:=c;obtain⟨q,e,a2,c2,m,_⟩:=b;simp only[BV,and_true]at i e;subst i;subst e;subst l;subst m;exact⟨⟨n,v.keys.length,c1⟩,⟨a2,v.items.length,c2⟩,rfl,h1,f⟩
theorem qf{v:Tr}{sk si:Sl}(h1:Rd M (.row .str) v.keys [slV sk])(b:Rd M (.row .tree) v.items [slV si]):RdV M .tree v (.agg #[.int .i64 v.kind,.string v.text,slV sk,slV si]):=by unfold RdV;simp only[zhn,if_true];exact⟨[.int .i64 v.kind,.string v.text,slV sk,slV si],rfl,by cases v;exact TrRd.of h1 b⟩
theorem z3l{xs:List (El t)}(h:RdV M (.row t) xs u):∃s:Sl,u=slV s/\Rd M (.row t) xs [slV s]:=by rw[zfw rfl]at h;have h':=h;obtain⟨w,e,a,c,q,_⟩:=h';simp only[BV,and_true]at e;subst e;subst q;exact⟨⟨a,xs.length,c⟩,rfl,h⟩
theorem rowLen{xs:List (El t)}(h:Rd M (.row t) xs [slV s]):s.len=xs.length/\xs.length<=140737488355328/\xs.length<=s.cap:=by obtain⟨w,e,a,c,q,b,_⟩:=h;simp only[BV,and_true]at e;subst e;simp only[slV,AO]at q;obtain⟨_,i,f⟩:=q;exact⟨i,b.1,by rw[f];exact b.2⟩
theorem rowAt{xs:List (El t)}(h:Rd M (.row t) xs [slV s])(f:k<xs.length):∃b o cs,s.a=Td ⟨b,o,Te⟩/\M b=Td cs/\Rd M t xs[k] (cut cs (o+k*sz t) (sz t)):=by obtain⟨w,e,a,c,q,r,l⟩:=h;simp only[BV,and_true]at e;subst e;simp only[slV,AO]at q;obtain⟨h1,u,p⟩:=q;rcases l with rfl|⟨b,o,cs,m,i,n⟩;simp at f;exact⟨b,o,cs,by rw[h1,m],i,n k f⟩
theorem z3m{M:Fr}{h:zb}(ag:AgM M h){b:Nat}{cs:Array Value}(k:M b=Td cs):∀{vs:List Value} {o i:Nat},cut cs (o+i) vs.length=vs->zd h ⟨b,o,Te⟩ i vs
 |[],_,_,_=>trivial
 |v::vs,o,i,e=>by
  unfold cut at e;have c:o+i<cs.toList.length:=by rcases A6 (o+i) cs.toList.length with f|f;exact f;rw[Br f]at e;simp at e
  rw[Bw c,Aq,Dd]at e;injection e with e1 e2;refine⟨?_,z3m ag k (i:=i+1) e2⟩;rw[zi];refine ag.cell k ?_;rw[Bo (by simpa using c),<-e1];simp
theorem zi2(ag:AgM M h){b:Nat}{cs:Array Value}(c:M b=Td cs){o:Nat}(e:cut cs o 1=[v]):zc h ⟨b,o,Te⟩=Td v:=by have:=z3m (vs:=[v]) (o:=o) (i:=0) ag c (by simpa using e);exact this.1
theorem qd(b o n:Nat):(⟨b,o,Te⟩:Addr).add n=⟨b,o+n,Te⟩:=zi b o n
theorem zzv(ag:AgM M h){xs:List Bt}(H:Rd M (.row .str) xs [slV s])(e:k<xs.length)(hi:i=(k:Int)){L:Nat}(p:L=s.len){Q:Bt->Prop}(m:Q xs[k]):
  ∃a:Addr,(s.a=Td a/\0<=i/\i<(L:Int))/\∃x:Bt,zc h (a.add (i.toNat*1))=Td (.string x)/\Q x:=by
 obtain⟨b,o,cs,f,c,l⟩:=rowAt H e;have n:=(rowLen H).1;refine⟨_,⟨f,by omega,by omega⟩,xs[k],?_,m⟩;rw[qd,hi,Ai];exact zi2 ag c l
theorem zd8(ag:AgM M h){xs:List Tr}(H:Rd M (.row .tree) xs [slV s])(f:k<xs.length):∃(a:Addr) (sk si:Sl),s.a=Td a/\zd h (a.add (k*4)) 0 [.int .i64 xs[k].kind,.string xs[k].text,slV sk,slV si]/\Rd M (.row .str) xs[k].keys [slV sk]/\Rd M (.row .tree) xs[k].items [slV si]:=by
 obtain⟨b,o,cs,m,c,n⟩:=rowAt H f;have e:RdV M .tree xs[k] (.agg (cut cs (o+k*sz .tree) (sz .tree)).toArray):=by unfold RdV;simp only[zhn,if_true];exact⟨_,rfl,n⟩
 obtain⟨sk,si,q,h1,l⟩:=yz e;refine⟨_,sk,si,m,?_,h1,l⟩;rw[qd];refine z3m ag c (i:=0) ?_;have:(cut cs (o+k*sz .tree) (sz .tree))=[.int .i64 xs[k].kind,.string xs[k].text,slV sk,slV si]:=by injection q with q;exact congrArg Array.toList q
 exact this
def Mx(M:Fr)(b:Nat)(cs:Array Value):Fr:=λi=>if i=b then Td cs else M i
theorem Later.frz(ag:AgM M h)(cs:Array Value)(T:TypeId):Later h M (h.push (.cells cs T)) (Mx M h.size cs) where
 keep:=Keep.push _ _ (Ab _)
 le:=λb c e=>by have:=ag.lt e;unfold Mx;rw[if_neg (by omega)];exact e
 old:=λb hb=>by unfold Mx;rw[if_neg (by omega)]
 ag:=λb c e=>by unfold Mx at e;split at e;rename_i hb;subst hb;cases e;exact⟨T,(0,0),yb _ _⟩;obtain⟨T',m,e'⟩:=ag b c e;exact⟨T',m,by rw[(Keep.push h _ (Ab _)).get b (ag.lt e)];exact e'⟩
theorem z3n(M:Fr)(b:Nat)(cs:Array Value):Mx M b cs b=Td cs:=by unfold Mx;rw[if_pos rfl]
theorem z3o{T:TypeId}(k:Keep (h.size+1) (h.push (.cells cs.toArray T)) h'):zd h' ⟨h.size,0,Te⟩ 0 cs:= ((Blk.new h cs.toArray T).keep (k.get _ (by omega))).ld
theorem qen{T:TypeId}(k:Keep (h.size+1) (h.push (.cells cs.toArray T)) h'){i:Nat}(b:cs[i]?=Td v):zc h' ((⟨h.size,0,Te⟩:Addr).add i)=Td v:=by have:=((Blk.new h cs.toArray T).keep (k.get _ (by omega)));exact this.cellAdd (o:=0) (by simpa using b)
end
end Go.X
end
section
namespace Go.X
open Go Go.ChangeShapes Go.WideShapes Go.RowKit
set_option linter.unusedVariables false
section
variable {a:Addr} {cs:List Value} {fuel:Nat} {t e:TypeId} {P:Program}
def Fz(W:World):Fr:=λb=>match W.heap[b]? with|some (.cells cs _ _)=>some cs|_=>none
theorem Fz.ag(W:World):AgM (Fz W) W.heap:=by intro b c e;unfold Fz at e;split at e;rename_i cs T m f;cases e;exact⟨T,m,f⟩;cases e
theorem Fz.cell{W:World}{v:Value}(h:W.cell? a=some v):∃b o c,a=⟨b,o,none⟩/\Fz W b=some c/\c[o]?=some v:=by
 obtain⟨b,o,sp⟩:=a;unfold World.cell? at h;split at h;rename_i c T m e;cases sp with
 |some x=>simp at h
 |none=>refine⟨b,o,c,rfl,?_,by simpa using h⟩;unfold Fz;change W.heap[b]?=_ at e;rw[e]
 cases h
theorem Fz.cells{W:World}{n:Nat}(h:W.cells? 0 a n=some cs)(s:0<n):∃b o c,a=⟨b,o,none⟩/\Fz W b=some c/\cut c o n=cs:=by
 obtain⟨_,w,m⟩:=World.cells?_some h;have h0:=m 0 s;rw[Al (by omega)]at h0;obtain⟨b,o,c,e,p,_⟩:=Fz.cell h0;obtain⟨q,r,sp⟩:=a;rw[show Ad ⟨q,r,sp⟩ 0=⟨q,r,sp⟩from rfl]at e;cases e;refine⟨b,o,c,rfl,p,?_⟩;have f:∀i,i<n->c[o+i]?=cs[i]?:=λi hi=>by have h1:=m i hi;rw[Al (by omega)]at h1 ⊢;obtain⟨b2,u,c2,l,k,t⟩:=Fz.cell h1;rw[zi]at l;cases l;rw[p]at k;cases k;exact t
 unfold cut;apply Bu;intro i;by_cases hi:i<n;rw[AJ,if_pos hi,A9,<-f i hi];simp;rw[AJ,if_neg hi,BL (by omega)]
theorem qeo{α:Type}{Q:Nat->α->Prop}(n:Nat)(h:∀i,i<n->∃z,Q i z):∃xs:List α,xs.length=n/\∀i (hi:i<xs.length),Q i xs[i]:=by refine⟨List.ofFn λi:Fin n=>Classical.choose (h i i.2),by simp,λi hi=>?_⟩;rw[List.getElem_ofFn];exact Classical.choose_spec (h i (by simpa using hi))
section
variable {H : Type} {enc : TypeId × Value -> H} {P : Program} {W : World} {sp : Nat -> Bool} {held : Bool}
def zuk(P:Program)(t:TypeId)(d:DataW H):Prop:=∀n∈d.weights P t,n<=reachBytes
theorem zi3{e:TypeId}{y:DataW H}:∀{l:List (DataW H)},y∈l->∀n∈y.weights P e,n∈DataW.weightsAll P e l
 |x::l,b,n,hn=>by unfold DataW.weightsAll;rcases Ah.1 b with rfl|b;exact As _ hn;exact AC _ (zi3 b n hn)
theorem qci{T : Ty}{x : DataW H × List MemPlace}(ht : P.underlying t = some (.slice e))(hz : P.cellsOf e = sz T)(hp : 0 < sz T)(hby : 0 < P.bytesOf e) (hel : ∀ n, n < fuel -> ∀ cs y, DataW.trod enc P W 0 sp held n e cs = some y -> zuk P e y.1 -> ∃ z : El T, Rd (Fz W) T z cs)
    (h : DataW.trod enc P W 0 sp held fuel t cs = some x) (hw : zuk P t x.1) : ∃ xs : List (El T), Rd (Fz W) (.row T) xs cs := by
  rcases DataW.trod_slice ht h with ⟨rfl, _⟩ | ⟨a, len, cap, elems, rest, n, rfl, rfl, hx, _, hlc, hcap, hlen, hi, _, _⟩;exact ⟨[], _, rfl, none, 0, rfl, ⟨by simp, by simp⟩, .inl rfl⟩
  · have hwt : ∀ m, m = (elems.length + rest.length) * P.bytesOf e \/ m ∈ DataW.weightsAll P e (elems.map (·.1)) -> m <= reachBytes := λm hm => hw m (by rw [hx];unfold DataW.weights;rw [ht];simp only [Ah, Ay, Ao];rcases hm with hm | hm;exact .inl hm;exact .inr (.inl hm));have hmax : len <= 140737488355328 := by
      have h1 := hwt _ (.inl rfl);have h2 : elems.length + rest.length <= (elems.length + rest.length) * P.bytesOf e := Du _ hby;have h3 : reachBytes <= 140737488355328 := by decide
      omega
    have key : ∀ i, i < len -> ∃ z : El T, ∃ b o c, a.add (i * sz T) = ⟨b, o, none⟩ /\ Fz W b = some c /\ Rd (Fz W) T z (cut c o (sz T)) := λi hil => by have h1 := hi i hil;rw [Al (by omega), Option.bind_eq_some_iff] at h1;obtain ⟨cc, h2, h3⟩ := h1;rw [hz] at h2;obtain ⟨b, o, c, e1, e2, e3⟩ := Fz.cells h2 hp;obtain ⟨z, hz⟩ := hel n (by omega) _ _ h3 λm hm => hwt m (.inr (zi3 (AL.2 ⟨elems[i], AE (by omega), rfl⟩) m hm));exact ⟨z, b, o, c, e1, e2, by rw [e3]; exact hz⟩
    obtain ⟨xs, hxl, hxs⟩ := qeo len key;subst hxl;refine ⟨xs, _, rfl, some a, cap, rfl, ⟨by omega, hlc⟩, ?_⟩;by_cases h0 : xs.length = 0;exact .inl (AN h0);obtain ⟨b, o, c, e1, e2, _⟩ := hxs 0 (by omega);obtain ⟨ab, ao, asp⟩ := a;rw [Eb, show Ad ⟨ab, ao, asp⟩ 0 = ⟨ab, ao, asp⟩ from rfl] at e1;cases e1;refine .inr ⟨b, o, c, rfl, e2, λi hil => ?_⟩;obtain ⟨b', o', c', e1', e2', e3'⟩ := hxs i hil;rw [zi] at e1';cases e1';rw [e2] at e2'; cases e2';simpa using e3'
theorem qcj{x:DataW H×List MemPlace}(b:P.underlying t=some .string)(h:DataW.trod enc P W 0 sp held fuel t cs=some x):∃s:El .str,Rd (Fz W) .str s cs:=by obtain⟨s,rfl,_,_⟩:=DataW.trod_string b h;exact⟨s,rfl⟩
theorem qhr{k:IntKind}{x:DataW H×List MemPlace}(b:P.underlying t=some (.int k))(h:DataW.trod enc P W 0 sp held fuel t cs=some x):∃s:El (.int k),Rd (Fz W) (.int k) s cs:=by obtain⟨s,rfl,_,_⟩:=DataW.trod_int b h;exact⟨s,rfl⟩
theorem qep{x:DataW H×List MemPlace}(i:P.underlying t=some (.slice e))(k:P.underlying e=some .string)(c:P.cellsOf e=1)(b:0<P.bytesOf e)
  (h:DataW.trod enc P W 0 sp held fuel t cs=some x) (l:zuk P t x.1):∃xs:List ByteArray,Rd (Fz W) (.row .str) xs cs:=
 qci (T:=.str) i c (by decide) b (λn _ cs y f _=>qcj k f) h l
theorem four{a b c d:Value}(h:cs.length=4)(h0:(cs.drop 0).take 1=[a])(h1:(cs.drop 1).take 1=[b])(f:(cs.drop 2).take 1=[c])(e:(cs.drop 3).take 1=[d]):cs=[a,b,c,d]:=by
 match cs,h with
 |[w,x,y,z],_=>simp at h0 h1 f e;subst h0;subst h1;subst f;subst e;rfl
theorem qeq{e ts tss tvs tk:TypeId}{l o c i:Field}(I:P.underlying e=some (.struct #[l,o,c,i]))(G:P.cellsOf e=4) (t0:l.type=tk/\l.offset=0/\o.type=ts/\o.offset=1/\c.type=tss/\c.offset=2/\i.type=tvs/\i.offset=3) (uk:P.underlying tk=some (.int .i64)) (us:P.underlying ts=some .string) (z:P.underlying tss=some (.slice ts)) (w:P.underlying tvs=some (.slice e)) (ck:P.cellsOf tk=1) (cs':P.cellsOf ts=1) (r:P.cellsOf tss=1) (A:P.cellsOf tvs=1) (bs:0<P.bytesOf ts) (bv:0<P.bytesOf e):
  ∀(fuel:Nat) (cs:List Value) (x:DataW H×List MemPlace),DataW.trod enc P W 0 sp held fuel e cs=some x->zuk P e x.1->∃t:Tr,Rd (Fz W) .tree t cs:=by
 intro fuel;induction fuel using DF with
 |_ fuel ih=>intro cs x h Q;obtain⟨xs,n,rfl,hx,hl,q,b⟩:=DataW.trod_struct I h;have p:∀(j:Nat) (f:Field) (D:j<xs.length),(#[l,o,c,i]:Array Field)[j]?=some f->zuk P f.type (xs[j]).1:=λj f D hf m C=>Q m (by rw[hx];unfold DataW.weights;rw[I];exact DataW.weights_mem_each (j:=j) (t:=f.type) (d:=(xs[j]).1) (by rw[Bn,Cj,hf];rfl) (by rw[Bn,Al D];rfl) m C);obtain⟨a0,Y,a1,o1,a2,o2,B,o3⟩:=t0;have F:=b 0 l rfl;have E:=b 1 o rfl;have L:=b 2 c rfl;have J:=b 3 i rfl;have M:xs.length=4:=q;rw[a0,Y,ck,Al (by omega)]at F;rw[a1,o1,cs',Al (by omega)]at E;rw[a2,o2,r,Al (by omega)]at L;rw[B,o3,A,Al (by omega)]at J;obtain⟨k,Z⟩:=qhr uk F;obtain⟨s,e1⟩:=qcj us E;obtain⟨ks,N⟩:=qep z us cs' bs L (by have:=p 2 c (by omega) rfl;rw[a2]at this;exact this);obtain⟨is,e3⟩:=qci (T:=.tree) w G (by decide) bv (λm C cs y O u=>ih m (by omega) cs y O u) J (by have:=p 3 i (by omega) rfl;rw[B]at this;exact this);obtain⟨vk,q2,S⟩:=N;obtain⟨V,U,h3⟩:=e3;have:=four (hl.trans G) Z e1 q2 U;subst this;exact⟨.mk k s ks is,TrRd.of ⟨vk,rfl,S⟩ ⟨V,rfl,h3⟩⟩
end
theorem zul{f:FuncId}{W:World}{args:List Arg}{vs:Array Value}(H:PC P (Fz W) f args [.bool] (λr=>r=true))(h:X5 (Fz W) args vs.toList):
  Calls P f vs W λe w'=>e=.returned (.bool true)/\Below W.heap.size W w':=by
 have c:=H W.heap (Fz W) vs.toList (Fr.le.refl _) (Fz.ag W) h;rw[Array.toArray_toList]at c;refine(c W W.drawn).mono ?_;rintro e w' ⟨v,l,h',rfl,rfl,k,M',r,_,_,_,i,b⟩;have b:r=true:=b;subst b;rw[zhq i];exact⟨rfl,rfl,rfl,rfl,k.size,k.get⟩
theorem qai{M:Fr}{t:Tr}{cs:Array Value}(h:Rd M .tree t cs.toList):RdV M .tree t (.agg cs):=by unfold RdV;simp only[zhn,if_true];exact⟨cs.toList,by simp,h⟩
theorem Fz.var{W:World}{n:String}{g:Nat}{cs:Array Value}(b:P.globalNamed n=some g)(h:W.var? P n=some cs):Fz W g=some cs:=by unfold World.var? at h;rw[b]at h;exact h
end
end Go.X
end
section
namespace Go.Proofs
section
theorem Tryz.mixed:A0.follows .mixedOrders=true:=by kernel_rfl
noncomputable abbrev Tp:= A0
end
end Go.Proofs
end
section
namespace Go.X
section
theorem PF{gl:Fr}{args:List Arg}{f:FuncId}{fn:Func}{rt:List Ty}{R:Els rt->Prop}{F:Prop}(pl:PlanA)(rs:List ResultVar)(n:Nat)(k:A0.funcs[f]?=Td fn)(H:F)(i:Qu fn=Ta:=by kernel_rfl)(b:fn.results.toList=rs:=by kernel_rfl)(c:fn.ntmps=n:=by kernel_rfl)(h:Nat.ble args.length n=Ta:=by kernel_rfl)(e:F=WA Tp gl 26 n pl (codeOf fn) [] (qkw Tp rs rt R) (zuj 0 args) []:=by kernel_rfl):PC Tp gl f args rt R:=zzt Tryz.mixed gl 26 pl args k i b c h H e
theorem zfx(gl:Fr)(f:Tr)(e:Int)(R:Bool->Prop) (H:PC Tp gl 91 [Arg.mk .tree (Tr.mk f.kind f.text f.keys f.items),Arg.mk (.int .i64) e,Arg.mk (.int .i64) 0] [.int .i64] (λa:Int=>∃b:Bool->Prop,(decide (a>=0)=Ta->PC Tp gl 92 [Arg.mk .tree (Tr.mk f.kind f.text f.keys f.items)] [.bool] b)/\∀c:Bool,(decide (a>=0)=Ta->b c)->R (bif (decide (a>=0))then c else Tc))):
  PC Tp gl 32 [Arg.mk .tree f,Arg.mk (.int .i64) e] [.bool] R:=
 PF ⟨[],[],[],[]⟩ [.tmp 4] 15 Tryz.func32 H
theorem zfy(gl:Fr)(b:List Bt)(c:List Tr)(R:Tr->Prop) (H:R (Tr.mk 6 (⟨#[]⟩:Bt) b c)):
  PC Tp gl 99 [Arg.mk (.row .str) b,Arg.mk (.row .tree) c] [.tree] R:=
 PF ⟨[],[],[],[]⟩ [.cell 4 26] 8 Tryz.func99 H
theorem zfz(gl:Fr)(b:List Tr)(R:Tr->Prop) (H:R (Tr.mk 5 (⟨#[]⟩:Bt) [] b)):
  PC Tp gl 29 [Arg.mk (.row .tree) b] [.tree] R:=
 PF ⟨[],[],[],[]⟩ [.cell 2 26] 5 Tryz.func29 H
theorem zq6(gl:Fr)(n0:Int)(R:Tr->Prop) (H:PC Tp gl 110 [Arg.mk (.int .i64) n0] [.pair .bool (.pair .str (.int .i64))] (λa:Bool×Bt×Int=>PC Tp gl 26 [Arg.mk (.pair .bool (.pair .str (.int .i64))) (a.1,(a.2.1,a.2.2))] [.str] (λb:Bt=>R (Tr.mk 3 b [] [])))):
  PC Tp gl 58 [Arg.mk (.int .i64) n0] [.tree] R:=
 PF ⟨[],[],[],[]⟩ [.cell 2 26] 7 Tryz.func58 H
theorem zf0(gl:Fr)(k:Tr)(i:Int)(h:Int)(R:Int->Prop) (H:(decide (h>60)=Ta->R (-1))/\(decide (h>60)=Tc->∃(a:Int->Int->Prop) (b:Int->Int->Nat),a (Aa .i64 ((Aa .i64 (i-1))-(k.keys.length:Int))) 0/\∀c d:Int,a c d->(((bif (decide (d<k.items.length))then(decide (c>=0))else Tc)=Ta->∃e,(0<=d/\k.items[d.toNat]?=Td e)/\PC Tp gl 91 [Arg.mk .tree (Tr.mk e.kind e.text e.keys e.items),Arg.mk (.int .i64) c,Arg.mk (.int .i64) (Aa .i64 (h+1))] [.int .i64] (λf:Int=>(a f (Aa .i64 (d+1))/\b f (Aa .i64 (d+1))<b c d)))/\((bif (decide (d<k.items.length))then(decide (c>=0))else Tc)=Tc->R c)))):
  PC Tp gl 91 [Arg.mk .tree k,Arg.mk (.int .i64) i,Arg.mk (.int .i64) h] [.int .i64] R:=
 PF ⟨[],[],[(5,⟨[(1,.one (.dat (.int .i64))),(7,.one (.dat (.int .i64)))],[],[3],[100064,100448]⟩)],[]⟩ [.tmp 6] 37 Tryz.func91 H
theorem zcf(gl:Fr)(h:Tr)(R:Bool->Prop) (H:(decide ((h.text.size:Int)>2048)=Ta->R Tc)/\(decide ((h.text.size:Int)>2048)=Tc->∃(a:Int->Prop) (b:Int->Nat),a 0/\∀c:Int,a c->((decide (c<h.keys.length)=Ta->∃d,(0<=c/\h.keys[c.toNat]?=Td d)/\(decide ((d.size:Int)>1024)=Ta->R Tc)/\(decide ((d.size:Int)>1024)=Tc->(a (Aa .i64 (c+1))/\b (Aa .i64 (c+1))<b c)))/\(decide (c<h.keys.length)=Tc->∃(e:Int->Prop) (f:Int->Nat),e 0/\∀g:Int,e g->((decide (g<h.items.length)=Ta->∃i,(0<=g/\h.items[g.toNat]?=Td i)/\PC Tp gl 92 [Arg.mk .tree (Tr.mk i.kind i.text i.keys i.items)] [.bool] (λj:Bool=>((!j)=Ta->R Tc)/\((!j)=Tc->(e (Aa .i64 (g+1))/\f (Aa .i64 (g+1))<f g))))/\(decide (g<h.items.length)=Tc->R Ta)))))):
  PC Tp gl 92 [Arg.mk .tree h] [.bool] R:=
 PF ⟨[],[],[(4,⟨[(3,.one (.dat (.int .i64)))],[],[1],[100192]⟩),(9,⟨[(4,.one (.dat (.int .i64)))],[],[1],[100256]⟩)],[]⟩ [.tmp 2] 39 Tryz.func92 H
theorem zkt(gl:Fr)(n0:Bool×Bt×Int)(R:Bt->Prop) (H:PC Tp gl 78 [Arg.mk (.pair .bool (.pair .str (.int .i64))) (n0.1,(n0.2.1,n0.2.2))] [.bool] (λa:Bool=>((!a)=Ta->R (⟨#[]⟩:Bt))/\((!a)=Tc->((n0.2.1.toList==(⟨#[]⟩:Bt).toList)=Ta->R (⟨#[48]⟩:Bt))/\((n0.2.1.toList==(⟨#[]⟩:Bt).toList)=Tc->∀b:Bt->Prop,(∀c:Bt,(((n0.2.2 != 0)=Ta->PC Tp gl 79 [Arg.mk (.int .i64) n0.2.2] [.str] (λd:Bt=>wl (((⟨#[101]⟩:Bt)).size+d.size)/\wl (c.size+((⟨#[101]⟩:Bt)++d).size)/\R (c++((⟨#[101]⟩:Bt)++d))))/\((n0.2.2 != 0)=Tc->R c))->b c)->(n0.1=Ta->wl (((⟨#[45]⟩:Bt)).size+n0.2.1.size)/\b ((⟨#[45]⟩:Bt)++n0.2.1))/\(n0.1=Tc->b n0.2.1))))):
  PC Tp gl 26 [Arg.mk (.pair .bool (.pair .str (.int .i64))) n0] [.str] R:=
 PF ⟨[],[],[],[(8,⟨[(3,.one (.dat .str))],[],[1],[100192]⟩)]⟩ [.tmp 2] 26 Tryz.func26 H
theorem zq7(gl:Fr)(n0:Int)(R:(Bool×Bt×Int)->Prop) (H:PC Tp gl 79 [Arg.mk (.int .i64) n0] [.str] (λa:Bt=>PC Tp gl 25 [Arg.mk .str a] [.pair .bool (.pair .str (.int .i64)),.int .i64] (λb:(Bool×Bt×Int)×Int=>R (b.1.1,(b.1.2.1,b.1.2.2))))):
  PC Tp gl 110 [Arg.mk (.int .i64) n0] [.pair .bool (.pair .str (.int .i64))] R:=
 PF ⟨[],[],[],[]⟩ [.cell 2 46] 12 Tryz.func110 H
theorem zku(gl:Fr)(f:Bt)(R:(Int×Bool)->Prop) (H:PC Tp gl 150 [Arg.mk .str f] [.bool] (λa:Bool=>(a=Ta->R ((f.size:Int),Ta))/\(a=Tc->∃(b:(Bt×Nat)->Prop) (c:(Bt×Nat)->Nat),b (f,0)/\∀e:Bt×Nat,b e->(((nxB e.1 e.2)=Ta->(nxB e.1 e.2)=Ta/\(nxB e.1 e.2)=Ta/\(((nxR e.1 e.2:Int) != 65533)=Ta->(b (e.1,nxP e.1 e.2)/\c (e.1,nxP e.1 e.2)<c e))/\(((nxR e.1 e.2:Int) != 65533)=Tc->(0<=(e.2:Int)/\(e.2:Int)<=(f.size:Int)/\(f.size:Int)<=(f.size:Int))/\PC Tp gl 151 [Arg.mk .str (f.extract (e.2:Int).toNat (f.size:Int).toNat)] [.int .i32,.int .i64] (λd:Int×Int=>((d.2==1)=Ta->R ((e.2:Int),Tc))/\((d.2==1)=Tc->(b (e.1,nxP e.1 e.2)/\c (e.1,nxP e.1 e.2)<c e)))))/\((nxB e.1 e.2)=Tc->R ((f.size:Int),Ta)))))):
  PC Tp gl 80 [Arg.mk .str f] [.int .i64,.bool] R:=
 PF ⟨[],[],[(4,⟨[],[(13,[.dat .iter])],[],[1000832]⟩)],[]⟩ [.tmp 2,.tmp 3] 32 Tryz.func80 H
theorem zkv(gl:Fr)(e:Tr)(R:Bool->Prop) (H:PC Tp gl 56 [Arg.mk .tree (Tr.mk e.kind e.text e.keys e.items)] [.int .i64] (λa:Int=>∃b:Int->Prop,(decide (a<=4096)=Ta->PC Tp gl 161 [Arg.mk .tree (Tr.mk e.kind e.text e.keys e.items)] [.int .i64] b)/\∀c:Int,(decide (a<=4096)=Ta->b c)->R (bif (decide (a<=4096))then(decide (c<=32))else Tc))):
  PC Tp gl 93 [Arg.mk .tree e] [.bool] R:=
 PF ⟨[],[],[],[]⟩ [.tmp 2] 11 Tryz.func93 H
theorem zno(gl:Fr)(e:Tr)(R:Bool->Prop) (H:((e.kind==5)=Ta->R (bif (!(decide ((e.keys.length:Int)>0)))then(e.text.toList==(⟨#[]⟩:Bt).toList)else Tc))/\((e.kind==5)=Tc->((e.kind==6)=Ta->PC Tp gl 164 [Arg.mk (.row .str) e.keys,Arg.mk (.int .i64) (e.items.length:Int)] [.bool] (λa:Bool=>R (bif a then(e.text.toList==(⟨#[]⟩:Bt).toList)else Tc)))/\((e.kind==6)=Tc->((bif (decide ((e.keys.length:Int)>0))then Ta else(decide ((e.items.length:Int)>0)))=Ta->R Tc)/\((bif (decide ((e.keys.length:Int)>0))then Ta else(decide ((e.items.length:Int)>0)))=Tc->((e.kind==1)=Ta->R (e.text.toList==(⟨#[]⟩:Bt).toList))/\((e.kind==1)=Tc->((e.kind==2)=Ta->R (bif (e.text.toList==(⟨#[116,114,117,101]⟩:Bt).toList)then Ta else(e.text.toList==(⟨#[102,97,108,115,101]⟩:Bt).toList)))/\((e.kind==2)=Tc->((e.kind==3)=Ta->PC Tp gl 165 [Arg.mk .str e.text] [.pair .bool (.pair .str (.int .i64)),.bool] (λb:(Bool×Bt×Int)×Bool=>R b.2))/\((e.kind==3)=Tc->((e.kind==4)=Ta->PC Tp gl 166 [Arg.mk .str e.text] [.bool] (λc:Bool=>R c))/\((e.kind==4)=Tc->((e.kind==7)=Ta->PC Tp gl 167 [Arg.mk .str e.text] [.bool] (λd:Bool=>R d))/\((e.kind==7)=Tc->R Tc))))))))):
  PC Tp gl 96 [Arg.mk .tree e] [.bool] R:=
 PF ⟨[],[],[],[]⟩ [.tmp 2] 79 Tryz.func96 H
theorem zi4(gl:Fr)(n0:Bool×Bt×Int)(R:Bool->Prop) (H:(((n0.1==Tc)&&((n0.2.1.toList==(⟨#[]⟩:Bt).toList)&&((n0.2.2==0)&&Ta)))=Ta->R Ta)/\(((n0.1==Tc)&&((n0.2.1.toList==(⟨#[]⟩:Bt).toList)&&((n0.2.2==0)&&Ta)))=Tc->PC Tp gl 141 [Arg.mk .str n0.2.1] [.bool] (λa:Bool=>((!a)=Ta->((!a)=Ta->R Tc)/\((!a)=Tc->R (bif (decide (n0.2.2>=(-1000000)))then(decide (n0.2.2<=1000000))else Tc)))/\((!a)=Tc->(decide ((n0.2.1.size:Int)>1000)=Ta->(decide ((n0.2.1.size:Int)>1000)=Ta->R Tc)/\(decide ((n0.2.1.size:Int)>1000)=Tc->R (bif (decide (n0.2.2>=(-1000000)))then(decide (n0.2.2<=1000000))else Tc)))/\(decide ((n0.2.1.size:Int)>1000)=Tc->(0<=(0:Int)/\(0:Int)<(n0.2.1.size:Int))/\(((zr n0.2.1 (0:Int).toNat:Int)==48)=Ta->(((zr n0.2.1 (0:Int).toNat:Int)==48)=Ta->R Tc)/\(((zr n0.2.1 (0:Int).toNat:Int)==48)=Tc->R (bif (decide (n0.2.2>=(-1000000)))then(decide (n0.2.2<=1000000))else Tc)))/\(((zr n0.2.1 (0:Int).toNat:Int)==48)=Tc->(0<=(Aa .i64 ((n0.2.1.size:Int)-1))/\(Aa .i64 ((n0.2.1.size:Int)-1))<(n0.2.1.size:Int))/\(((zr n0.2.1 (Aa .i64 ((n0.2.1.size:Int)-1)).toNat:Int)==48)=Ta->R Tc)/\(((zr n0.2.1 (Aa .i64 ((n0.2.1.size:Int)-1)).toNat:Int)==48)=Tc->R (bif (decide (n0.2.2>=(-1000000)))then(decide (n0.2.2<=1000000))else Tc)))))))):
  PC Tp gl 78 [Arg.mk (.pair .bool (.pair .str (.int .i64))) n0] [.bool] R:=
 PF ⟨[],[],[],[]⟩ [.tmp 2] 34 Tryz.func78 H
theorem zi5(gl:Fr)(r:Bt)(R:((Bool×Bt×Int)×Int)->Prop) (H:PC Tp gl 75 [Arg.mk .str r] [.pair .bool (.pair .bool (.pair .str (.pair .str .str))),.bool] (λa:(Bool×Bool×Bt×Bt×Bt)×Bool=>PC Tp gl 76 [Arg.mk .str a.1.2.2.2.2,Arg.mk .str (⟨#[48]⟩:Bt)] [.str] (λb:Bt=>((!a.2)=Ta->R ((Tc,((⟨#[]⟩:Bt),0)),2))/\((!a.2)=Tc->((decide ((Aa .i64 ((a.1.2.2.1.size:Int)+(a.1.2.2.2.1.size:Int)))>1000))=Ta->R ((Tc,((⟨#[]⟩:Bt),0)),3))/\((decide ((Aa .i64 ((a.1.2.2.1.size:Int)+(a.1.2.2.2.1.size:Int)))>1000))=Tc->(decide ((b.size:Int)>9)=Ta->R ((Tc,((⟨#[]⟩:Bt),0)),4))/\(decide ((b.size:Int)>9)=Tc->∃(c:Int->Bool->Bt->Int->(Bt×Nat)->Prop) (d:Int->Bool->Bt->Int->(Bt×Nat)->Nat),c 0 Tc (⟨#[]⟩:Bt) 0 (b,0)/\∀e:Int,∀m:Bool,∀n:Bt,∀l:Int,∀h:Bt×Nat,c e m n l h->(((nxB h.1 h.2)=Ta->(nxB h.1 h.2)=Ta/\(c (Aa .i64 ((Aa .i64 (10*e))+(Aa .i64 (Aa .i32 ((nxR h.1 h.2)-48))))) m n l (h.1,nxP h.1 h.2)/\d (Aa .i64 ((Aa .i64 (10*e))+(Aa .i64 (Aa .i32 ((nxR h.1 h.2)-48))))) m n l (h.1,nxP h.1 h.2)<d e m n l h))/\((nxB h.1 h.2)=Tc->∀f:Int->Bool->Bt->Int->Prop,(∀g:Int,∀o:Bool,∀q:Bt,∀p:Int,(wl (a.1.2.2.1.size+a.1.2.2.2.1.size)/\PC Tp gl 76 [Arg.mk .str (a.1.2.2.1++a.1.2.2.2.1),Arg.mk .str (⟨#[48]⟩:Bt)] [.str] (λi:Bt=>((i.toList==(⟨#[]⟩:Bt).toList)=Ta->R ((Tc,((⟨#[]⟩:Bt),0)),0))/\((i.toList==(⟨#[]⟩:Bt).toList)=Tc->PC Tp gl 77 [Arg.mk .str i,Arg.mk .str (⟨#[48]⟩:Bt)] [.str] (λj:Bt=>PC Tp gl 78 [Arg.mk (.pair .bool (.pair .str (.int .i64))) (a.1.1,(j,Aa .i64 ((Aa .i64 ((Aa .i64 (g-(a.1.2.2.2.1.size:Int)))+(i.size:Int)))-(j.size:Int))))] [.bool] (λk:Bool=>((!k)=Ta->R ((Tc,((⟨#[]⟩:Bt),0)),4))/\((!k)=Tc->R ((a.1.1,(j,Aa .i64 ((Aa .i64 ((Aa .i64 (g-(a.1.2.2.2.1.size:Int)))+(i.size:Int)))-(j.size:Int)))),0)))))))->f g o q p)->(a.1.2.1=Ta->f (Aa .i64 (0-e)) m n l)/\(a.1.2.1=Tc->f e m n l))))))))):
  PC Tp gl 25 [Arg.mk .str r] [.pair .bool (.pair .str (.int .i64)),.int .i64] R:=
 PF ⟨[],[],[(11,⟨[(7,.one (.dat (.int .i64)))],[(2,[.dat .bool,.dat .str,.dat (.int .i64)]),(41,[.dat .iter])],[4],[100448,1000128,1000129,1000130,1002624]⟩)],[(16,⟨[(7,.one (.dat (.int .i64)))],[(2,[.dat .bool,.dat .str,.dat (.int .i64)])],[4],[100448,1000128,1000129,1000130]⟩)]⟩ [.cell 2 46,.tmp 3] 86 Tryz.func25 H
theorem znp(gl:Fr)(h:Tr)(R:Int->Prop) (H:∃(a:Int->Int->Prop) (b:Int->Int->Nat),a 1 0/\∀c d:Int,a c d->((decide (d<h.items.length)=Ta->∃e,(0<=d/\h.items[d.toNat]?=Td e)/\PC Tp gl 56 [Arg.mk .tree (Tr.mk e.kind e.text e.keys e.items)] [.int .i64] (λf:Int=>(a (Aa .i64 (c+f)) (Aa .i64 (d+1))/\b (Aa .i64 (c+f)) (Aa .i64 (d+1))<b c d)))/\(decide (d<h.items.length)=Tc->R c))):
  PC Tp gl 56 [Arg.mk .tree h] [.int .i64] R:=
 PF ⟨[],[],[(3,⟨[(3,.one (.dat (.int .i64))),(9,.one (.dat (.int .i64)))],[],[],[100192,100576]⟩)],[]⟩ [.tmp 2] 19 Tryz.func56 H
theorem zkw(gl:Fr)(h:Tr)(R:Int->Prop) (H:∃(a:Int->Int->Prop) (b:Int->Int->Nat),a 0 0/\∀c d:Int,a c d->((decide (d<h.items.length)=Ta->∃e,(0<=d/\h.items[d.toNat]?=Td e)/\PC Tp gl 161 [Arg.mk .tree (Tr.mk e.kind e.text e.keys e.items)] [.int .i64] (λf:Int=>(a (if c<f then f else c) (Aa .i64 (d+1))/\b (if c<f then f else c) (Aa .i64 (d+1))<b c d)))/\(decide (d<h.items.length)=Tc->R (Aa .i64 (c+1))))):
  PC Tp gl 161 [Arg.mk .tree h] [.int .i64] R:=
 PF ⟨[],[],[(3,⟨[(3,.one (.dat (.int .i64))),(9,.one (.dat (.int .i64)))],[],[],[100192,100576]⟩)],[]⟩ [.tmp 2] 20 Tryz.func161 H
theorem zg5(gl:Fr)(e:Bt)(R:((Bool×Bt×Int)×Bool)->Prop) (H:PC Tp gl 25 [Arg.mk .str e] [.pair .bool (.pair .str (.int .i64)),.int .i64] (λa:(Bool×Bt×Int)×Int=>∃b:Bt->Prop,((a.2==0)=Ta->PC Tp gl 26 [Arg.mk (.pair .bool (.pair .str (.int .i64))) (a.1.1,(a.1.2.1,a.1.2.2))] [.str] b)/\∀c:Bt,((a.2==0)=Ta->b c)->R ((a.1.1,(a.1.2.1,a.1.2.2)),bif (a.2==0)then(c.toList==e.toList)else Tc))):
  PC Tp gl 165 [Arg.mk .str e] [.pair .bool (.pair .str (.int .i64)),.bool] R:=
 PF ⟨[],[(2,9,[],[0,1,2,3,4,6,5,7,8],[6,7,8])],[],[]⟩ [.cell 2 46,.tmp 3] 20 Tryz.func165 H
theorem zkx(gl:Fr)(b:Bt)(R:Bool->Prop) (H:PC Tp gl 80 [Arg.mk .str b] [.int .i64,.bool] (λa:Int×Bool=>R a.2)):
  PC Tp gl 166 [Arg.mk .str b] [.bool] R:=
 PF ⟨[],[],[],[]⟩ [.tmp 2] 11 Tryz.func166 H
theorem znq(gl:Fr)(c:Bt)(R:Bool->Prop) (H:PC Tp gl 165 [Arg.mk .str c] [.pair .bool (.pair .str (.int .i64)),.bool] (λa:(Bool×Bt×Int)×Bool=>PC Tp gl 234 [Arg.mk (.pair .bool (.pair .str (.int .i64))) (a.1.1,(a.1.2.1,a.1.2.2))] [.int .i64,.bool] (λb:Int×Bool=>R (bif (bif a.2 then b.2 else Tc)then(decide (b.1>=0))else Tc)))):
  PC Tp gl 167 [Arg.mk .str c] [.bool] R:=
 PF ⟨[],[],[],[]⟩ [.tmp 2] 25 Tryz.func167 H
theorem zg6(gl:Fr)(e:Bt)(R:Bool->Prop) (H:∃(a:(Bt×Nat)->Prop) (b:(Bt×Nat)->Nat),a (e,0)/\∀c:Bt×Nat,a c->(((nxB c.1 c.2)=Ta->(nxB c.1 c.2)=Ta/\((bif (decide ((nxR c.1 c.2:Int)<48))then Ta else(decide ((nxR c.1 c.2:Int)>57)))=Ta->R Tc)/\((bif (decide ((nxR c.1 c.2:Int)<48))then Ta else(decide ((nxR c.1 c.2:Int)>57)))=Tc->(a (c.1,nxP c.1 c.2)/\b (c.1,nxP c.1 c.2)<b c)))/\((nxB c.1 c.2)=Tc->R (!(e.toList==(⟨#[]⟩:Bt).toList))))):
  PC Tp gl 141 [Arg.mk .str e] [.bool] R:=
 PF ⟨[],[],[(2,⟨[],[(6,[.dat .iter])],[],[1000384]⟩)],[]⟩ [.tmp 2] 18 Tryz.func141 H
theorem zky(gl:Fr)(y:Bt)(R:((Bool×Bool×Bt×Bt×Bt)×Bool)->Prop) (H:PC Tp gl 138 [Arg.mk .str y,Arg.mk .str (⟨#[45]⟩:Bt)] [.str,.bool] (λa:Bt×Bool=>PC Tp gl 139 [Arg.mk .str a.1,Arg.mk .str (⟨#[101,69]⟩:Bt)] [.str,.str,.bool] (λb:Bt×Bt×Bool=>∀c:Bt->Bool->Bool->Bt->Bt->Bt->Prop,(∀d:Bt,∀s t:Bool,∀w x u:Bt,(PC Tp gl 139 [Arg.mk .str b.1,Arg.mk .str (⟨#[46]⟩:Bt)] [.str,.str,.bool] (λe:Bt×Bt×Bool=>PC Tp gl 141 [Arg.mk .str e.1] [.bool] (λf:Bool=>∃g:Bool->Prop,(((!(!f))&&e.2.2)=Ta->PC Tp gl 141 [Arg.mk .str e.2.1] [.bool] g)/\∀i:Bool,(((!(!f))&&e.2.2)=Ta->g i)->((bif (!f)then Ta else(bif e.2.2 then(!i)else Tc))=Ta->R ((s,(t,(e.1,(e.2.1,d)))),Tc))/\((bif (!f)then Ta else(bif e.2.2 then(!i)else Tc))=Tc->((!(e.1.toList==(⟨#[48]⟩:Bt).toList))=Ta->(0<=(0:Int)/\(0:Int)<(e.1.size:Int)))/\R ((s,(t,(e.1,(e.2.1,d)))),bif (e.1.toList==(⟨#[48]⟩:Bt).toList)then Ta else((zr e.1 (0:Int).toNat:Int) != 48))))))->c d s t w x u)->(b.2.2=Ta->PC Tp gl 138 [Arg.mk .str b.2.1,Arg.mk .str (⟨#[45]⟩:Bt)] [.str,.bool] (λj:Bt×Bool=>∀k:Bt->Bool->Bool->Bt->Bt->Bt->Prop,(∀l:Bt,∀o q:Bool,∀r h p:Bt,(PC Tp gl 141 [Arg.mk .str l] [.bool] (λm:Bool=>((!m)=Ta->R ((o,(q,(r,(h,p)))),Tc))/\((!m)=Tc->c l o q r h p)))->k l o q r h p)->((!j.2)=Ta->PC Tp gl 140 [Arg.mk .str j.1,Arg.mk .str (⟨#[43]⟩:Bt)] [.str] (λn:Bt=>k n a.2 j.2 (⟨#[]⟩:Bt) (⟨#[]⟩:Bt) (⟨#[]⟩:Bt)))/\((!j.2)=Tc->k j.1 a.2 j.2 (⟨#[]⟩:Bt) (⟨#[]⟩:Bt) (⟨#[]⟩:Bt))))/\(b.2.2=Tc->c b.2.1 a.2 Tc (⟨#[]⟩:Bt) (⟨#[]⟩:Bt) (⟨#[]⟩:Bt))))):
  PC Tp gl 75 [Arg.mk .str y] [.pair .bool (.pair .bool (.pair .str (.pair .str .str))),.bool] R:=
 PF ⟨[],[(14,8,[],[0,1,2,3,4,5,6,7],[4,5,6,7])],[],[(9,⟨[(4,.one (.dat .str))],[(2,[.dat .bool,.dat .bool,.dat .str,.dat .str,.dat .str])],[],[100256,1000128,1000129,1000130,1000131,1000132]⟩),(7,⟨[(4,.one (.dat .str))],[(2,[.dat .bool,.dat .bool,.dat .str,.dat .str,.dat .str])],[],[100256,1000128,1000129,1000130,1000131,1000132]⟩)]⟩ [.cell 2 102,.tmp 3] 69 Tryz.func75 H
theorem znr(gl:Fr)(n0:Bool×Bt×Int)(R:(Int×Bool)->Prop) (H:PC Tp gl 78 [Arg.mk (.pair .bool (.pair .str (.int .i64))) (n0.1,(n0.2.1,n0.2.2))] [.bool] (λa:Bool=>((bif (bif (!a)then Ta else(decide (n0.2.2<0)))then Ta else(decide ((Aa .i64 ((n0.2.1.size:Int)+n0.2.2))>19)))=Ta->R (0,Tc))/\((bif (bif (!a)then Ta else(decide (n0.2.2<0)))then Ta else(decide ((Aa .i64 ((n0.2.1.size:Int)+n0.2.2))>19)))=Tc->PC Tp gl 86 [Arg.mk .str (⟨#[48]⟩:Bt),Arg.mk (.int .i64) n0.2.2] [.str] (λb:Bt=>wl (n0.2.1.size+b.size)/\∀c:Bt->Prop,(∀d:Bt,(((d.toList==(⟨#[]⟩:Bt).toList)=Ta->R (0,Ta))/\((d.toList==(⟨#[]⟩:Bt).toList)=Tc->PC Tp gl 277 [Arg.mk .str d,Arg.mk (.int .i64) 10,Arg.mk (.int .i64) 64] [.int .i64,.err] (λe:Int×Bool=>((!e.2)=Ta->R (0,Tc))/\((!e.2)=Tc->R (e.1,Ta)))))->c d)->(n0.1=Ta->wl (((⟨#[45]⟩:Bt)).size+(n0.2.1++b).size)/\c ((⟨#[45]⟩:Bt)++(n0.2.1++b)))/\(n0.1=Tc->c (n0.2.1++b)))))):
  PC Tp gl 234 [Arg.mk (.pair .bool (.pair .str (.int .i64))) n0] [.int .i64,.bool] R:=
 PF ⟨[],[(3,5,[],[0,1,2,3,4],[])],[],[(6,⟨[(4,.one (.dat .str))],[],[],[100256]⟩)]⟩ [.tmp 2,.tmp 3] 44 Tryz.func234 H
theorem zns(gl:Fr)(e:Bt)(f:Bt)(R:(Bt×Bt×Bool)->Prop) (H:∃(a:Int->Prop) (b:Int->Nat),a 0/\∀c:Int,a c->((decide (c<e.size)=Ta->(0<=c/\c<e.size)/\PC Tp gl 212 [Arg.mk .str f,Arg.mk (.int .u8) (zr e c.toNat)] [.int .i64] (λd:Int=>(decide (d>=0)=Ta->(0<=(0:Int)/\(0:Int)<=c/\c<=e.size)/\(0<=(Aa .i64 (c+1))/\(Aa .i64 (c+1))<=(e.size:Int)/\(e.size:Int)<=(e.size:Int))/\R (e.extract (0:Int).toNat c.toNat,e.extract (Aa .i64 (c+1)).toNat (e.size:Int).toNat,Ta))/\(decide (d>=0)=Tc->(a (Aa .i64 (c+1))/\b (Aa .i64 (c+1))<b c))))/\(decide (c<e.size)=Tc->R (e,(⟨#[]⟩:Bt),Tc)))):
  PC Tp gl 139 [Arg.mk .str e,Arg.mk .str f] [.str,.str,.bool] R:=
 PF ⟨[],[],[(2,⟨[(10,.one (.dat (.int .i64)))],[],[],[100640]⟩)],[]⟩ [.tmp 4,.tmp 5,.tmp 6] 28 Tryz.func139 H
end
section
abbrev bl(l:List UInt8):Bt:=⟨l.toArray⟩
abbrev lb(s:Bt):List UInt8:=s.data.toList
@[simp] theorem yg(l:List UInt8):lb (bl l)=l:=by simp[lb]
@[simp] theorem Yw(s:Bt):bl (lb s)=s:=by cases s;simp[lb,bl]
theorem zwy{s t:Bt}:lb s=lb t↔s=t:=⟨λh=>by rw[<-Yw s,h,Yw],λh=>by rw[h]⟩
theorem zi6(s:Bt):(lb s).length=s.size:=by cases s;simp[lb,ByteArray.size]
theorem z3p(s t:Bt):lb (s++t)=lb s++lb t:=by cases s;cases t;simp[lb]
theorem zzw(s:Bt)(a b:Nat):lb (s.extract a b)=((lb s).drop a).take (b-a):=by cases s;simp[lb,ByteArray.data_extract,List.extract_eq_take_drop]
theorem z3q(s:Bt)(i:Nat):zr s i=((((lb s)[i]?).getD 0).toNat:Int):=by cases s;simp[lb,zr]
theorem qer(s:Bt)(i:Nat):s.get! i=((lb s)[i]?).getD 0:=by
 cases s with
 |mk d=>simp[lb,ByteArray.get!,Array.getElem!_eq_getD];rfl
def dec(l:List UInt8):Nat×Nat:=Go.Lib.decodeN l.length (l.getD 0 0).toNat (l.getD 1 0).toNat (l.getD 2 0).toNat (l.getD 3 0).toNat
theorem zwz(s:Bt)(i:Nat):Es s i=dec ((lb s).drop i):=by rw[Go.Lib.decode_at,dec];simp only[qer,A7,A9,AH,zi6,C7]
theorem wo(l:List UInt8):1<=(dec l).2/\(dec l).2<=4:=by
 unfold dec Go.Lib.decodeN;repeat' split
 all_goals simp
theorem zw0{l:List UInt8}(h:l≠[]):(dec l).2<=l.length:=by
 have:0<l.length:=Bv.2 h;unfold dec Go.Lib.decodeN;repeat' split
 all_goals simp only
 all_goals omega
def zkl(d:Nat×Nat):Bool:=d.1==65533&&d.2==1
def Z4(l:List UInt8):Bool:=if h:l=[]then Ta else if zkl (dec l)then Tc else Z4 (l.drop (dec l).2)
termination_by l.length
decreasing_by
 have h1:=wo l;have h2:0<l.length:=Bv.2 h;simp only[AH];omega
theorem Yp:Z4 []=Ta:=by unfold Z4;simp
theorem Zw{l:List UInt8}(h:l≠[]):Z4 l=if zkl (dec l)then Tc else Z4 (l.drop (dec l).2):=by rw[Z4];simp[h]
theorem X9{c:UInt8}{l:List UInt8}(h:c.toNat<128):dec (c::l)=(c.toNat,1):=by simp[dec,Go.Lib.decodeN,h]
end
end Go.X
end
section
namespace Go.X
open Go Go.Lib
section
abbrev Bs:=List UInt8
end
end Go.X
end
section
namespace Go.X
section
theorem zaa{n:Int}(h1:-2147483648<=n)(c:n<=2147483647):Aa .i32 n=n:=by
 unfold Aa;have e:(2:Int) ^ Bj .i32=4294967296:=by decide
 have e':(2:Int) ^ (Bj .i32-1)=2147483648:=by decide
 simp only[e,e'];have b:DT .i32=Ta:=rfl;simp only[b,Cs,decide_eq_true_eq];split <;> omega
end
end Go.X
end
section
namespace Go.X
open Go Go.Proofs Go.Shelf Go.RowKit
section
theorem LF{α : Type}{x y : α}{o : Option α}(h : o = Td x)(e : x = y := by kernel_rfl): o = Td y := h.trans (congrArg Td e)
def znt:Go.Shelf.Ren:=⟨fun|161=>76|231=>142|227=>143|233=>144|235=>145|228=>214|197=>151|151=>215|260=>218|152=>269|137=>212|119=>300|224=>301|225=>302|217=>268|266=>299|n=>n,fun|9=>9|4=>4|3=>3|5=>5|117=>170|116=>169|0=>0|124=>173|105=>174|21=>21|119=>230|46=>177|139=>233|138=>232|n=>n,fun|3=>0|4=>1|n=>n⟩
theorem z3r:Go.Proofs.Lays.n161 Tp znt:={
 mixed:=by kernel_rfl
 f119:=LF Tryz.func300
 f137:=LF Ee
 f151:=LF Tryz.func215
 f152:=LF Tryz.func269
 f161:=LF Tryz.func76
 f197:=LF Tryz.func151
 f217:=LF Tryz.func268
 f224:=LF Tryz.func301
 f225:=LF Tryz.func302
 f227:=LF Tryz.func143
 f228:=LF Tryz.func214
 f231:=LF Tryz.func142
 f233:=LF Tryz.func144
 f235:=LF Tryz.func145
 f260:=LF Tryz.func218
 f266:=LF Tryz.func299
 t0:=Cf
 a0:=CZ
 z0:=CN
 v0:=Cq
 t3:=BH
 a3:=Cx
 z3:=Cm
 v3:=BP
 t4:=BI
 a4:=CC
 z4:=Cu
 v4:=BW
 t5:=Bz
 a5:=Cy
 z5:=Cn
 v5:=BQ
 t9:=BC
 a9:=Cz
 z9:=Co
 v9:=BR
 t21:=Da
 a21:=DY
 z21:=DI
 v21:=Df
 t46:=Tryz.underlying177
 a46:=Tryz.isAgg177
 z46:=Tryz.sizeOf177
 v46:=Tryz.zeroValue177
 t105:=Tryz.underlying174
 a105:=Tryz.isAgg174
 z105:=Tryz.sizeOf174
 v105:=Tryz.zeroValue174
 t116:=Tryz.underlying169
 a116:=Tryz.isAgg169
 z116:=Tryz.sizeOf169
 t117:=Tryz.underlying170
 a117:=Tryz.isAgg170
 z117:=Tryz.sizeOf170
 v117:=Tryz.zeroValue170
 t119:=Tryz.underlying230
 a119:=Tryz.isAgg230
 z119:=Tryz.sizeOf230
 t124:=Tryz.underlying173
 a124:=Tryz.isAgg173
 z124:=Tryz.sizeOf173
 v124:=Tryz.zeroValue173
 t138:=Dz
 a138:=Tryz.isAgg232
 z138:=Tryz.sizeOf232
 v138:=Tryz.zeroValue232
 t139:=Tryz.underlying233
 a139:=Tryz.isAgg233
 z139:=Tryz.sizeOf233
 v139:=Tryz.zeroValue233
 g3:=by kernel_rfl
 g4:=by kernel_rfl }
theorem Xi(s:Bt)(c:UInt8)(b:c.toNat<128)(w:World): Calls Tp 76 #[.string s,.string ⟨#[c]⟩] w λe w'=>e=.returned (.string ⟨(Lib.trimLeftB s.data.toList c).toArray⟩)/\w'=w:=Any.strings_TrimLeft_one z3r s c b w
def znu:Go.Shelf.Ren:=⟨fun|162=>77|232=>146|227=>143|234=>147|236=>148|228=>214|271=>216|151=>215|120=>270|197=>151|152=>269|260=>218|137=>212|119=>300|224=>301|225=>302|217=>268|266=>299|n=>n,fun|9=>9|4=>4|3=>3|5=>5|117=>170|116=>169|0=>0|124=>173|21=>21|105=>174|46=>177|119=>230|139=>233|138=>232|n=>n,fun|3=>0|4=>1|n=>n⟩
theorem z3s:Go.Proofs.Lays.n162 Tp znu:={
 mixed:=by kernel_rfl
 f119:=LF Tryz.func300
 f120:=LF Tryz.func270
 f137:=LF Ee
 f151:=LF Tryz.func215
 f152:=LF Tryz.func269
 f162:=LF Tryz.func77
 f197:=LF Tryz.func151
 f217:=LF Tryz.func268
 f224:=LF Tryz.func301
 f225:=LF Tryz.func302
 f227:=LF Tryz.func143
 f228:=LF Tryz.func214
 f232:=LF Tryz.func146
 f234:=LF Tryz.func147
 f236:=LF Tryz.func148
 f260:=LF Tryz.func218
 f266:=LF Tryz.func299
 f271:=LF Tryz.func216
 t0:=Cf
 a0:=CZ
 z0:=CN
 v0:=Cq
 t3:=BH
 a3:=Cx
 z3:=Cm
 v3:=BP
 t4:=BI
 a4:=CC
 z4:=Cu
 v4:=BW
 t5:=Bz
 a5:=Cy
 z5:=Cn
 v5:=BQ
 t9:=BC
 a9:=Cz
 z9:=Co
 v9:=BR
 t21:=Da
 a21:=DY
 z21:=DI
 v21:=Df
 t46:=Tryz.underlying177
 a46:=Tryz.isAgg177
 z46:=Tryz.sizeOf177
 v46:=Tryz.zeroValue177
 t105:=Tryz.underlying174
 a105:=Tryz.isAgg174
 z105:=Tryz.sizeOf174
 v105:=Tryz.zeroValue174
 t116:=Tryz.underlying169
 a116:=Tryz.isAgg169
 z116:=Tryz.sizeOf169
 t117:=Tryz.underlying170
 a117:=Tryz.isAgg170
 z117:=Tryz.sizeOf170
 v117:=Tryz.zeroValue170
 t119:=Tryz.underlying230
 a119:=Tryz.isAgg230
 z119:=Tryz.sizeOf230
 t124:=Tryz.underlying173
 a124:=Tryz.isAgg173
 z124:=Tryz.sizeOf173
 v124:=Tryz.zeroValue173
 t138:=Dz
 a138:=Tryz.isAgg232
 z138:=Tryz.sizeOf232
 v138:=Tryz.zeroValue232
 t139:=Tryz.underlying233
 a139:=Tryz.isAgg233
 z139:=Tryz.sizeOf233
 v139:=Tryz.zeroValue233
 g3:=by kernel_rfl
 g4:=by kernel_rfl }
theorem Wq(s:Bt)(c:UInt8)(b:c.toNat<128)(w:World)(f:s.size<=9223372036854775807): Calls Tp 77 #[.string s,.string ⟨#[c]⟩] w λe w'=>e=.returned (.string ⟨(Lib.trimRightB s.data.toList c).toArray⟩)/\w'=w:=Any.strings_TrimRight_one z3s s c b w f
def znv:Go.Shelf.Ren:=⟨fun|137=>212|217=>268|266=>299|n=>n,fun|9=>9|5=>5|3=>3|n=>n,fun|n=>n⟩
theorem z3t:Go.Proofs.Lays.n137 Tp znv:={
 mixed:=by kernel_rfl
 f137:=LF Ee
 f217:=LF Tryz.func268
 f266:=LF Tryz.func299
 t3:=BH
 a3:=Cx
 z3:=Cm
 v3:=BP
 t5:=Bz
 a5:=Cy
 z5:=Cn
 v5:=BQ
 t9:=BC
 a9:=Cz
 z9:=Co
 v9:=BR }
theorem jf(s:Bt)(c:Int)(w:World): Calls Tp 212 #[.string s,.int .u8 c] w λe w'=>e=.returned (.int .i64 (Lib.indexByte s.data.toList c.toNat.toUInt8))/\w'=w:=Any.strings_IndexByte z3t s c w
def znw:Go.Shelf.Ren:=⟨fun|103=>138|210=>211|206=>227|n=>n,fun|9=>9|4=>4|24=>163|3=>3|n=>n,fun|n=>n⟩
theorem z3u:Go.Proofs.Lays.n103 Tp znw:={
 mixed:=by kernel_rfl
 f103:=LF Tryz.func138
 f206:=LF Tryz.func227
 f210:=LF Tryz.func211
 t3:=BH
 a3:=Cx
 z3:=Cm
 v3:=BP
 t4:=BI
 a4:=CC
 z4:=Cu
 v4:=BW
 t9:=BC
 a9:=Cz
 z9:=Co
 v9:=BR
 t24:=Tryz.underlying163
 a24:=Tryz.isAgg163
 z24:=Tryz.sizeOf163
 v24:=Tryz.zeroValue163 }
theorem zcg(s p:Bt)(w:World): Calls Tp 138 #[.string s,.string p] w λe w'=>e=.returned (.tuple #[.string ⟨(Lib.trimPrefix s.data.toList p.data.toList).toArray⟩,.bool (Lib.hasPrefix s.data.toList p.data.toList)])/\w'=w:=Any.strings_CutPrefix z3u s p w
def znx:Go.Shelf.Ren:=⟨fun|242=>153|278=>220|n=>n,fun|37=>110|21=>21|51=>236|4=>4|5=>5|46=>177|n=>n,fun|n=>n⟩
theorem z3v:Go.Proofs.Lays.n242 Tp znx:={
 mixed:=by kernel_rfl
 f242:=LF Tryz.func153
 f278:=LF Tryz.func220
 t4:=BI
 a4:=CC
 z4:=Cu
 v4:=BW
 t5:=Bz
 a5:=Cy
 z5:=Cn
 v5:=BQ
 t21:=Da
 a21:=DY
 z21:=DI
 v21:=Df
 t37:=Tryz.underlying110
 a37:=Tryz.isAgg110
 z37:=Tryz.sizeOf110
 v37:=Tryz.zeroValue110
 t46:=Tryz.underlying177
 a46:=Tryz.isAgg177
 z46:=Tryz.sizeOf177
 v46:=Tryz.zeroValue177
 t51:=Tryz.underlying236
 a51:=Tryz.isAgg236
 z51:=Tryz.sizeOf236
 v51:=Tryz.zeroValue236 }
theorem Wr(B:Nat)(v:Value)(n:Nat)(xs:List Value)(r:Int)(h:-2147483648<=r)(f:r<=2147483647)(w:World)(b:w.ownsRow B 5 1 v n xs)(c:n+4<=140737488355328)(i:B<=w.heap.size): Calls Tp 153 #[v,.int .i32 r] w λe w'=>∃k,e=.returned k/\w'.ownsRow B 5 1 k (n+(Lib.runeCells r).length) (xs++Lib.runeCells r)/\∃o,(w.alloc o).grownBy w' v.ownBlock:=Any.utf8_AppendRune_plain z3v (by kernel_rfl) B v n xs r h f w b c i
def zkz:Go.Shelf.Ren:=⟨fun|171=>79|243=>149|246=>154|283=>221|284=>222|285=>223|286=>224|129=>252|317=>271|318=>272|319=>273|320=>274|337=>303|338=>304|n=>n,fun|3=>3|9=>9|2=>2|4=>4|171=>237|0=>0|53=>238|37=>110|5=>5|173=>241|212=>273|51=>236|20=>20|213=>274|46=>177|232=>306|233=>307|n=>n,fun|17=>2|18=>6|19=>7|n=>n⟩
theorem zzx:Go.Proofs.LaysM.n171 Tp zkz:={
 mixed:=by kernel_rfl
 f129:=LF Tryz.func252
 f171:=LF Tryz.func79
 f243:=LF Tryz.func149
 f246:=LF Tryz.func154
 f283:=LF Tryz.func221
 f284:=LF Tryz.func222
 f285:=LF Tryz.func223
 f286:=LF Tryz.func224
 f317:=LF Tryz.func271
 f318:=LF Tryz.func272
 f319:=LF Tryz.func273
 f320:=LF Tryz.func274
 f337:=LF Tryz.func303
 f338:=LF Tryz.func304
 t0:=Cf
 a0:=CZ
 z0:=CN
 v0:=Cq
 t2:=Tryz.underlying2
 a2:=Tryz.isAgg2
 z2:=Tryz.sizeOf2
 v2:=Tryz.zeroValue2
 t3:=BH
 a3:=Cx
 z3:=Cm
 v3:=BP
 t4:=BI
 a4:=CC
 z4:=Cu
 v4:=BW
 t5:=Bz
 a5:=Cy
 z5:=Cn
 v5:=BQ
 t9:=BC
 a9:=Cz
 z9:=Co
 v9:=BR
 t20:=Tryz.underlying20
 a20:=Tryz.isAgg20
 z20:=Tryz.sizeOf20
 v20:=Tryz.zeroValue20
 t37:=Tryz.underlying110
 a37:=Tryz.isAgg110
 z37:=Tryz.sizeOf110
 v37:=Tryz.zeroValue110
 t46:=Tryz.underlying177
 a46:=Tryz.isAgg177
 z46:=Tryz.sizeOf177
 v46:=Tryz.zeroValue177
 t51:=Tryz.underlying236
 a51:=Tryz.isAgg236
 z51:=Tryz.sizeOf236
 v51:=Tryz.zeroValue236
 t53:=Tryz.underlying238
 a53:=Tryz.isAgg238
 z53:=Tryz.sizeOf238
 v53:=Tryz.zeroValue238
 t171:=Tryz.underlying237
 a171:=Tryz.isAgg237
 z171:=Tryz.sizeOf237
 v171:=Tryz.zeroValue237
 t173:=Tryz.underlying241
 a173:=Tryz.isAgg241
 z173:=Tryz.sizeOf241
 v173:=Tryz.zeroValue241
 t212:=Tryz.underlying273
 a212:=Tryz.isAgg273
 z212:=Tryz.sizeOf273
 v212:=Tryz.zeroValue273
 t213:=Tryz.underlying274
 a213:=Tryz.isAgg274
 z213:=Tryz.sizeOf274
 t232:=Tryz.underlying306
 a232:=Tryz.isAgg306
 z232:=Tryz.sizeOf306
 v232:=Tryz.zeroValue306
 t233:=Tryz.underlying307
 a233:=Tryz.isAgg307
 z233:=Tryz.sizeOf307
 v233:=Tryz.zeroValue307
 g17:=by kernel_rfl
 g18:=by kernel_rfl
 g19:=by kernel_rfl
 i0:=by kernel_rfl
 i2:=by kernel_rfl
 i3:=by kernel_rfl
 i4:=by kernel_rfl
 i5:=by kernel_rfl
 i9:=by kernel_rfl
 i20:=by kernel_rfl
 i37:=by kernel_rfl
 i46:=by kernel_rfl
 i51:=by kernel_rfl
 i53:=by kernel_rfl
 i171:=by kernel_rfl
 i173:=by kernel_rfl
 i212:=by kernel_rfl
 i232:=by kernel_rfl
 i233:=by kernel_rfl
 m17:=by kernel_rfl
 m18:=by kernel_rfl
 m19:=by kernel_rfl }
open Go.RowKit Go.Sort Go.Lib in
theorem zk0(n : Int)(h0 : -9223372036854775808 ≤ n)(h1 : n ≤ 9223372036854775807)(w : World)(htab : Lib.TabIs Tp w "internal/strconv.uint64pow10" .u64 Lib.pow10Tab): Calls Tp 79 #[.int .i64 n] w λe w'=>e=.returned (.string ⟨(Lib.itoa n).toArray⟩)/\∃k os,w'=grow (w.drewN k) os:=Any.strconv_Itoa zzx n h0 h1 w htab
def zk1:Go.Shelf.Ren:=⟨fun|245=>267|279=>295|280=>296|281=>297|282=>298|316=>317|171=>79|205=>318|243=>149|246=>154|283=>221|284=>222|285=>223|286=>224|129=>252|317=>271|318=>272|319=>273|320=>274|337=>303|338=>304|n=>n,fun|9=>9|3=>3|75=>114|167=>287|4=>4|168=>288|210=>304|37=>110|0=>0|127=>181|145=>315|143=>313|2=>2|171=>237|53=>238|5=>5|173=>241|212=>273|51=>236|20=>20|213=>274|46=>177|232=>306|233=>307|80=>122|n=>n,fun|15=>4|16=>5|17=>2|18=>6|19=>7|n=>n⟩
theorem zzy:Go.Proofs.LaysC.n245 Tp zk1:={
 mixed:=by kernel_rfl
 f129:=LF Tryz.func252
 f171:=LF Tryz.func79
 f205:=LF Tryz.func318
 f243:=LF Tryz.func149
 f245:=LF Tryz.func267
 f246:=LF Tryz.func154
 f279:=LF Tryz.func295
 f280:=LF Tryz.func296
 f281:=LF Tryz.func297
 f282:=LF Tryz.func298
 f283:=LF Tryz.func221
 f284:=LF Tryz.func222
 f285:=LF Tryz.func223
 f286:=LF Tryz.func224
 f316:=LF Tryz.func317
 f317:=LF Tryz.func271
 f318:=LF Tryz.func272
 f319:=LF Tryz.func273
 f320:=LF Tryz.func274
 f337:=LF Tryz.func303
 f338:=LF Tryz.func304
 t0:=Cf
 a0:=CZ
 z0:=CN
 v0:=Cq
 t2:=Tryz.underlying2
 a2:=Tryz.isAgg2
 z2:=Tryz.sizeOf2
 v2:=Tryz.zeroValue2
 t3:=BH
 a3:=Cx
 z3:=Cm
 v3:=BP
 t4:=BI
 a4:=CC
 z4:=Cu
 v4:=BW
 t5:=Bz
 a5:=Cy
 z5:=Cn
 v5:=BQ
 t9:=BC
 a9:=Cz
 z9:=Co
 v9:=BR
 t20:=Tryz.underlying20
 a20:=Tryz.isAgg20
 z20:=Tryz.sizeOf20
 v20:=Tryz.zeroValue20
 t37:=Tryz.underlying110
 a37:=Tryz.isAgg110
 z37:=Tryz.sizeOf110
 v37:=Tryz.zeroValue110
 t46:=Tryz.underlying177
 a46:=Tryz.isAgg177
 z46:=Tryz.sizeOf177
 v46:=Tryz.zeroValue177
 t51:=Tryz.underlying236
 a51:=Tryz.isAgg236
 z51:=Tryz.sizeOf236
 v51:=Tryz.zeroValue236
 t53:=Tryz.underlying238
 a53:=Tryz.isAgg238
 z53:=Tryz.sizeOf238
 v53:=Tryz.zeroValue238
 t75:=Tryz.underlying114
 a75:=Tryz.isAgg114
 z75:=Tryz.sizeOf114
 v75:=Tryz.zeroValue114
 t127:=DC
 a127:=Tryz.isAgg181
 z127:=Tryz.sizeOf181
 v127:=Tryz.zeroValue181
 t143:=Tryz.underlying313
 a143:=Tryz.isAgg313
 z143:=Tryz.sizeOf313
 v143:=Tryz.zeroValue313
 t145:=Tryz.underlying315
 a145:=Tryz.isAgg315
 z145:=Tryz.sizeOf315
 v145:=Tryz.zeroValue315
 t167:=Tryz.underlying287
 a167:=Tryz.isAgg287
 z167:=Tryz.sizeOf287
 v167:=Tryz.zeroValue287
 t168:=Tryz.underlying288
 a168:=Tryz.isAgg288
 z168:=Tryz.sizeOf288
 v168:=Tryz.zeroValue288
 t171:=Tryz.underlying237
 a171:=Tryz.isAgg237
 z171:=Tryz.sizeOf237
 v171:=Tryz.zeroValue237
 t173:=Tryz.underlying241
 a173:=Tryz.isAgg241
 z173:=Tryz.sizeOf241
 v173:=Tryz.zeroValue241
 t210:=Tryz.underlying304
 a210:=Tryz.isAgg304
 z210:=Tryz.sizeOf304
 v210:=Tryz.zeroValue304
 t212:=Tryz.underlying273
 a212:=Tryz.isAgg273
 z212:=Tryz.sizeOf273
 v212:=Tryz.zeroValue273
 t213:=Tryz.underlying274
 a213:=Tryz.isAgg274
 z213:=Tryz.sizeOf274
 t232:=Tryz.underlying306
 a232:=Tryz.isAgg306
 z232:=Tryz.sizeOf306
 v232:=Tryz.zeroValue306
 t233:=Tryz.underlying307
 a233:=Tryz.isAgg307
 z233:=Tryz.sizeOf307
 v233:=Tryz.zeroValue307
 g15:=by kernel_rfl
 g16:=by kernel_rfl
 g17:=by kernel_rfl
 g18:=by kernel_rfl
 g19:=by kernel_rfl
 t80:=Tryz.underlying122
 a80:=Tryz.isAgg122
 z80:=Tryz.sizeOf122
 v80:=Tryz.zeroValue122
 i0:=by kernel_rfl
 i2:=by kernel_rfl
 i3:=by kernel_rfl
 i4:=by kernel_rfl
 i5:=by kernel_rfl
 i9:=by kernel_rfl
 i20:=by kernel_rfl
 i37:=by kernel_rfl
 i46:=by kernel_rfl
 i51:=by kernel_rfl
 i53:=by kernel_rfl
 i75:=by kernel_rfl
 i80:=by kernel_rfl
 i127:=by kernel_rfl
 i143:=by kernel_rfl
 i145:=by kernel_rfl
 i167:=by kernel_rfl
 i168:=by kernel_rfl
 i171:=by kernel_rfl
 i173:=by kernel_rfl
 i210:=by kernel_rfl
 i212:=by kernel_rfl
 i232:=by kernel_rfl
 i233:=by kernel_rfl
 m15:=by kernel_rfl
 m16:=by kernel_rfl
 m17:=by kernel_rfl
 m18:=by kernel_rfl
 m19:=by kernel_rfl
 c0:=by kernel_rfl
 c2:=by kernel_rfl
 c3:=by kernel_rfl
 c4:=by kernel_rfl
 c5:=by kernel_rfl
 c9:=by kernel_rfl
 c20:=by kernel_rfl
 c37:=by kernel_rfl
 c46:=by kernel_rfl
 c51:=by kernel_rfl
 c53:=by kernel_rfl
 c75:=by kernel_rfl
 c80:=by kernel_rfl
 c127:=by kernel_rfl
 c143:=by kernel_rfl
 c145:=by kernel_rfl
 c167:=by kernel_rfl
 c168:=by kernel_rfl
 c171:=by kernel_rfl
 c173:=by kernel_rfl
 c210:=by kernel_rfl
 c212:=by kernel_rfl
 c213:=by kernel_rfl
 c232:=by kernel_rfl
 c233:=by kernel_rfl }
theorem Jg(fn s:Bt)(base b:Int)(f:Value)(w:World)(c:s.size<=281474976710656)(i:w.cell? ⟨4,0,Te⟩=Td f)(h:f=.nilIface\/∃l k,f=.iface l k): Calls Tp 267 #[.string fn,.string s,.int .i64 base,.int .i64 b,.iface 287 (.int .i64 2)] w λe w'=>∃N,e=.returned (.iface 288 (.pointer (Td ⟨N,0,Te⟩)))/\w.heap.size<=N/\w'.heap[N]?=Td (.cells #[.string fn,.string s,f] 304 (0,0))/\Below w.heap.size w w':=Any.strconv_toError_syntax zzy fn s base b f w c i h
def zny:Go.Shelf.Ren:=⟨fun|321=>325|n=>n,fun|5=>5|n=>n,fun|n=>n⟩
theorem z3w:Go.Proofs.Lays.n321 Tp zny:={
 mixed:=by kernel_rfl
 f321:=LF Tryz.func325
 t5:=Bz
 a5:=Cy
 z5:=Cn
 v5:=BQ }
theorem Jh(c:Int)(w:World): Calls Tp 325 #[.int .u8 c] w λe w'=>e=.returned (.int .u8 (bits .or .u8 c 32))/\w'=w:=Any.internal_strconv_lower z3w c w
def zk2:Go.Shelf.Ren:=⟨fun|174=>277|247=>294|245=>267|287=>316|279=>295|280=>296|281=>297|282=>298|321=>325|322=>326|316=>317|171=>79|205=>318|243=>149|246=>154|283=>221|284=>222|285=>223|286=>224|129=>252|317=>271|318=>272|319=>273|320=>274|337=>303|338=>304|n=>n,fun|9=>9|3=>3|2=>2|75=>114|85=>277|4=>4|167=>287|5=>5|53=>238|175=>300|46=>177|168=>288|37=>110|0=>0|210=>304|21=>21|127=>181|145=>315|143=>313|171=>237|173=>241|212=>273|51=>236|20=>20|213=>274|232=>306|233=>307|80=>122|n=>n,fun|15=>4|16=>5|17=>2|18=>6|19=>7|n=>n⟩
theorem zf1:Go.Proofs.LaysC.n174 Tp zk2:={
 mixed:=by kernel_rfl
 f129:=LF Tryz.func252
 f171:=LF Tryz.func79
 f174:=LF Tryz.func277
 f205:=LF Tryz.func318
 f243:=LF Tryz.func149
 f245:=LF Tryz.func267
 f246:=LF Tryz.func154
 f247:=LF Tryz.func294
 f279:=LF Tryz.func295
 f280:=LF Tryz.func296
 f281:=LF Tryz.func297
 f282:=LF Tryz.func298
 f283:=LF Tryz.func221
 f284:=LF Tryz.func222
 f285:=LF Tryz.func223
 f286:=LF Tryz.func224
 f287:=LF Tryz.func316
 f316:=LF Tryz.func317
 f317:=LF Tryz.func271
 f318:=LF Tryz.func272
 f319:=LF Tryz.func273
 f320:=LF Tryz.func274
 f321:=LF Tryz.func325
 f322:=LF Tryz.func326
 f337:=LF Tryz.func303
 f338:=LF Tryz.func304
 t0:=Cf
 a0:=CZ
 z0:=CN
 v0:=Cq
 t2:=Tryz.underlying2
 a2:=Tryz.isAgg2
 z2:=Tryz.sizeOf2
 v2:=Tryz.zeroValue2
 t3:=BH
 a3:=Cx
 z3:=Cm
 v3:=BP
 t4:=BI
 a4:=CC
 z4:=Cu
 v4:=BW
 t5:=Bz
 a5:=Cy
 z5:=Cn
 v5:=BQ
 t9:=BC
 a9:=Cz
 z9:=Co
 v9:=BR
 t20:=Tryz.underlying20
 a20:=Tryz.isAgg20
 z20:=Tryz.sizeOf20
 v20:=Tryz.zeroValue20
 t21:=Da
 a21:=DY
 z21:=DI
 v21:=Df
 t37:=Tryz.underlying110
 a37:=Tryz.isAgg110
 z37:=Tryz.sizeOf110
 v37:=Tryz.zeroValue110
 t46:=Tryz.underlying177
 a46:=Tryz.isAgg177
 z46:=Tryz.sizeOf177
 v46:=Tryz.zeroValue177
 t51:=Tryz.underlying236
 a51:=Tryz.isAgg236
 z51:=Tryz.sizeOf236
 v51:=Tryz.zeroValue236
 t53:=Tryz.underlying238
 a53:=Tryz.isAgg238
 z53:=Tryz.sizeOf238
 v53:=Tryz.zeroValue238
 t75:=Tryz.underlying114
 a75:=Tryz.isAgg114
 z75:=Tryz.sizeOf114
 v75:=Tryz.zeroValue114
 t85:=Tryz.underlying277
 a85:=Tryz.isAgg277
 z85:=Tryz.sizeOf277
 v85:=Tryz.zeroValue277
 t127:=DC
 a127:=Tryz.isAgg181
 z127:=Tryz.sizeOf181
 v127:=Tryz.zeroValue181
 t143:=Tryz.underlying313
 a143:=Tryz.isAgg313
 z143:=Tryz.sizeOf313
 v143:=Tryz.zeroValue313
 t145:=Tryz.underlying315
 a145:=Tryz.isAgg315
 z145:=Tryz.sizeOf315
 v145:=Tryz.zeroValue315
 t167:=Tryz.underlying287
 a167:=Tryz.isAgg287
 z167:=Tryz.sizeOf287
 v167:=Tryz.zeroValue287
 t168:=Tryz.underlying288
 a168:=Tryz.isAgg288
 z168:=Tryz.sizeOf288
 v168:=Tryz.zeroValue288
 t171:=Tryz.underlying237
 a171:=Tryz.isAgg237
 z171:=Tryz.sizeOf237
 v171:=Tryz.zeroValue237
 t173:=Tryz.underlying241
 a173:=Tryz.isAgg241
 z173:=Tryz.sizeOf241
 v173:=Tryz.zeroValue241
 t175:=Tryz.underlying300
 a175:=Tryz.isAgg300
 z175:=Tryz.sizeOf300
 v175:=Tryz.zeroValue300
 t210:=Tryz.underlying304
 a210:=Tryz.isAgg304
 z210:=Tryz.sizeOf304
 v210:=Tryz.zeroValue304
 t212:=Tryz.underlying273
 a212:=Tryz.isAgg273
 z212:=Tryz.sizeOf273
 v212:=Tryz.zeroValue273
 t213:=Tryz.underlying274
 a213:=Tryz.isAgg274
 z213:=Tryz.sizeOf274
 t232:=Tryz.underlying306
 a232:=Tryz.isAgg306
 z232:=Tryz.sizeOf306
 v232:=Tryz.zeroValue306
 t233:=Tryz.underlying307
 a233:=Tryz.isAgg307
 z233:=Tryz.sizeOf307
 v233:=Tryz.zeroValue307
 g15:=by kernel_rfl
 g16:=by kernel_rfl
 g17:=by kernel_rfl
 g18:=by kernel_rfl
 g19:=by kernel_rfl
 t80:=Tryz.underlying122
 a80:=Tryz.isAgg122
 z80:=Tryz.sizeOf122
 v80:=Tryz.zeroValue122
 i0:=by kernel_rfl
 i2:=by kernel_rfl
 i3:=by kernel_rfl
 i4:=by kernel_rfl
 i5:=by kernel_rfl
 i9:=by kernel_rfl
 i20:=by kernel_rfl
 i21:=by kernel_rfl
 i37:=by kernel_rfl
 i46:=by kernel_rfl
 i51:=by kernel_rfl
 i53:=by kernel_rfl
 i75:=by kernel_rfl
 i80:=by kernel_rfl
 i85:=by kernel_rfl
 i127:=by kernel_rfl
 i143:=by kernel_rfl
 i145:=by kernel_rfl
 i167:=by kernel_rfl
 i168:=by kernel_rfl
 i171:=by kernel_rfl
 i173:=by kernel_rfl
 i175:=by kernel_rfl
 i210:=by kernel_rfl
 i212:=by kernel_rfl
 i232:=by kernel_rfl
 i233:=by kernel_rfl
 m15:=by kernel_rfl
 m16:=by kernel_rfl
 m17:=by kernel_rfl
 m18:=by kernel_rfl
 m19:=by kernel_rfl
 c0:=by kernel_rfl
 c2:=by kernel_rfl
 c3:=by kernel_rfl
 c4:=by kernel_rfl
 c5:=by kernel_rfl
 c9:=by kernel_rfl
 c20:=by kernel_rfl
 c21:=by kernel_rfl
 c37:=by kernel_rfl
 c46:=by kernel_rfl
 c51:=by kernel_rfl
 c53:=by kernel_rfl
 c75:=by kernel_rfl
 c80:=by kernel_rfl
 c85:=by kernel_rfl
 c127:=by kernel_rfl
 c143:=by kernel_rfl
 c145:=by kernel_rfl
 c167:=by kernel_rfl
 c168:=by kernel_rfl
 c171:=by kernel_rfl
 c173:=by kernel_rfl
 c175:=by kernel_rfl
 c210:=by kernel_rfl
 c212:=by kernel_rfl
 c213:=by kernel_rfl
 c232:=by kernel_rfl
 c233:=by kernel_rfl }
theorem Z5(s:Bt)(b:s.size<=9223372036854775806)(v:Int)(h:Lib.parseIntB 64 s.data.toList=.ok v)(w:World): Calls Tp 277 #[.string s,.int .i64 10,.int .i64 64] w λe w'=>e=.returned (.tuple #[.int .i64 v,.nilIface])/\(w'=w\/∃t,w'=Lib.bytesWorld w 5 t):=Any.strconv_ParseInt_10_at64_ok zf1 s b v h w
theorem xq(s:Bt)(b:s.size<=281474976710656)(h:Lib.parseIntB 64 s.data.toList=Lib.parseIntB 64 [])(c:Value)(w:World)(i:w.cell? ⟨4,0,Te⟩=Td c)(f:c=.nilIface\/∃l k,c=.iface l k): Calls Tp 277 #[.string s,.int .i64 10,.int .i64 64] w λe w'=>∃N,e=.returned (.tuple #[.int .i64 (0),.iface 288 (.pointer (Td ⟨N,0,Te⟩))])/\w.heap.size<=N/\w'.heap[N]?=Td (.cells #[.string ⟨#[80,97,114,115,101,73,110,116]⟩,.string s,c] 304 (0,0))/\Below w.heap.size w w':=Any.strconv_ParseInt_10_at64_syntax zf1 s b h c w i f
theorem Zb(s:Bt)(b:s.size<=281474976710656)(h:Lib.parseIntB 64 s.data.toList=.range)(c:Value)(w:World)(i:w.cell? ⟨5,0,Te⟩=Td c)(f:c=.nilIface\/∃l k,c=.iface l k): Calls Tp 277 #[.string s,.int .i64 10,.int .i64 64] w λe w'=>∃N,e=.returned (.tuple #[.int .i64 (Lib.intSat 64 s.data.toList),.iface 288 (.pointer (Td ⟨N,0,Te⟩))])/\w.heap.size<=N/\w'.heap[N]?=Td (.cells #[.string ⟨#[80,97,114,115,101,73,110,116]⟩,.string s,c] 304 (0,0))/\Below w.heap.size w w':=Any.strconv_ParseInt_10_at64_range zf1 s b h c w i f
def zq8:Go.Shelf.Ren:=⟨fun|99=>156|206=>227|n=>n,fun|9=>9|4=>4|3=>3|n=>n,fun|n=>n⟩
theorem qaj:Go.Proofs.Lays.n99 Tp zq8:={
 mixed:=by kernel_rfl
 f99:=LF Tryz.func156
 f206:=LF Tryz.func227
 t3:=BH
 a3:=Cx
 z3:=Cm
 v3:=BP
 t4:=BI
 a4:=CC
 z4:=Cu
 v4:=BW
 t9:=BC
 a9:=Cz
 z9:=Co
 v9:=BR }
open Go.RowKit Go.Lib in
theorem zch(s p:Bt)(w:World): Calls Tp 156 #[.string s,.string p] w λe w'=>e=.returned (.bool (Lib.hasPrefix s.data.toList p.data.toList))/\w'=w:=Any.strings_HasPrefix qaj s p w
def znz:Go.Shelf.Ren:=⟨fun|101=>140|208=>213|206=>227|n=>n,fun|9=>9|4=>4|3=>3|n=>n,fun|n=>n⟩
theorem z3x:Go.Proofs.Lays.n101 Tp znz:={
 mixed:=by kernel_rfl
 f101:=LF Tryz.func140
 f206:=LF Tryz.func227
 f208:=LF Tryz.func213
 t3:=BH
 a3:=Cx
 z3:=Cm
 v3:=BP
 t4:=BI
 a4:=CC
 z4:=Cu
 v4:=BW
 t9:=BC
 a9:=Cz
 z9:=Co
 v9:=BR }
open Go.RowKit Go.Lib in
theorem zbf(s p:Bt)(w:World): Calls Tp 140 #[.string s,.string p] w λe w'=>e=.returned (.string ⟨(Lib.trimPrefix s.data.toList p.data.toList).toArray⟩)/\w'=w:=Any.strings_TrimPrefix z3x s p w
def zn0:Go.Shelf.Ren:=⟨fun|197=>151|260=>218|n=>n,fun|9=>9|21=>21|3=>3|4=>4|5=>5|105=>174|119=>230|0=>0|46=>177|139=>233|138=>232|n=>n,fun|3=>0|4=>1|n=>n⟩
theorem z3y:Go.Proofs.Lays.n197 Tp zn0:={
 mixed:=by kernel_rfl
 f197:=LF Tryz.func151
 f260:=LF Tryz.func218
 t0:=Cf
 a0:=CZ
 z0:=CN
 v0:=Cq
 t3:=BH
 a3:=Cx
 z3:=Cm
 v3:=BP
 t4:=BI
 a4:=CC
 z4:=Cu
 v4:=BW
 t5:=Bz
 a5:=Cy
 z5:=Cn
 v5:=BQ
 t9:=BC
 a9:=Cz
 z9:=Co
 v9:=BR
 t21:=Da
 a21:=DY
 z21:=DI
 v21:=Df
 t46:=Tryz.underlying177
 a46:=Tryz.isAgg177
 z46:=Tryz.sizeOf177
 v46:=Tryz.zeroValue177
 t105:=Tryz.underlying174
 a105:=Tryz.isAgg174
 z105:=Tryz.sizeOf174
 v105:=Tryz.zeroValue174
 t119:=Tryz.underlying230
 a119:=Tryz.isAgg230
 z119:=Tryz.sizeOf230
 t138:=Dz
 a138:=Tryz.isAgg232
 z138:=Tryz.sizeOf232
 v138:=Tryz.zeroValue232
 t139:=Tryz.underlying233
 a139:=Tryz.isAgg233
 z139:=Tryz.sizeOf233
 v139:=Tryz.zeroValue233
 g3:=by kernel_rfl
 g4:=by kernel_rfl }
def zn1:Go.Shelf.Ren:=⟨fun|150=>209|153=>265|152=>269|226=>293|227=>143|228=>214|137=>212|119=>300|224=>301|225=>302|217=>268|266=>299|n=>n,fun|9=>9|4=>4|3=>3|5=>5|21=>21|117=>170|116=>169|0=>0|46=>177|124=>173|n=>n,fun|n=>n⟩
theorem z3z:Go.Proofs.Lays.n150 Tp zn1:={
 mixed:=by kernel_rfl
 f119:=LF Tryz.func300
 f137:=LF Ee
 f150:=LF Tryz.func209
 f152:=LF Tryz.func269
 f153:=LF Tryz.func265
 f217:=LF Tryz.func268
 f224:=LF Tryz.func301
 f225:=LF Tryz.func302
 f226:=LF Tryz.func293
 f227:=LF Tryz.func143
 f228:=LF Tryz.func214
 f266:=LF Tryz.func299
 t0:=Cf
 a0:=CZ
 z0:=CN
 v0:=Cq
 t3:=BH
 a3:=Cx
 z3:=Cm
 v3:=BP
 t4:=BI
 a4:=CC
 z4:=Cu
 v4:=BW
 t5:=Bz
 a5:=Cy
 z5:=Cn
 v5:=BQ
 t9:=BC
 a9:=Cz
 z9:=Co
 v9:=BR
 t21:=Da
 a21:=DY
 z21:=DI
 v21:=Df
 t46:=Tryz.underlying177
 a46:=Tryz.isAgg177
 z46:=Tryz.sizeOf177
 v46:=Tryz.zeroValue177
 t116:=Tryz.underlying169
 a116:=Tryz.isAgg169
 z116:=Tryz.sizeOf169
 t117:=Tryz.underlying170
 a117:=Tryz.isAgg170
 z117:=Tryz.sizeOf170
 v117:=Tryz.zeroValue170
 t124:=Tryz.underlying173
 a124:=Tryz.isAgg173
 z124:=Tryz.sizeOf173
 v124:=Tryz.zeroValue173 }
open Go.RowKit Go.Lib in
theorem Yd(s c:Bt)(w:World)(k:s.size<4294967281)(h:c.size<4294967281)(i:∀(j:Nat) b,s.data.toList[j]?=Td b->b.toNat<128)(f:∀(j:Nat) b,c.data.toList[j]?=Td b->b.toNat<128): Calls Tp 209 #[.string s,.string c] w λe w'=>e=.returned (.bool (Lib.containsAny s.data.toList c.data.toList))/\Below w.heap.size w w':=Any.strings_ContainsAny_laid z3z (by kernel_rfl) s c w k h i f
def zd9:Go.Shelf.Ren:=⟨fun|105=>86|212=>155|99=>156|165=>157|166=>85|170=>158|169=>87|263=>225|264=>226|206=>227|240=>152|241=>228|276=>219|277=>275|n=>n,fun|9=>9|3=>3|4=>4|20=>20|0=>0|46=>177|109=>178|5=>5|72=>112|76=>117|51=>236|146=>243|53=>238|148=>245|70=>109|37=>110|75=>114|127=>181|164=>234|80=>122|n=>n,fun|n=>n⟩
theorem z4a:Go.Proofs.Lays.n105 Tp zd9:={
 mixed:=by kernel_rfl
 f99:=LF Tryz.func156
 f105:=LF Tryz.func86
 f165:=LF Tryz.func157
 f166:=LF Tryz.func85
 f169:=LF Tryz.func87
 f170:=LF Tryz.func158
 f206:=LF Tryz.func227
 f212:=LF Tryz.func155
 f240:=LF Tryz.func152
 f241:=LF Tryz.func228
 f263:=LF Tryz.func225
 f264:=LF Tryz.func226
 f276:=LF Tryz.func219
 f277:=LF Tryz.func275
 t0:=Cf
 a0:=CZ
 z0:=CN
 v0:=Cq
 t3:=BH
 a3:=Cx
 z3:=Cm
 v3:=BP
 t4:=BI
 a4:=CC
 z4:=Cu
 v4:=BW
 t5:=Bz
 a5:=Cy
 z5:=Cn
 v5:=BQ
 t9:=BC
 a9:=Cz
 z9:=Co
 v9:=BR
 t20:=Tryz.underlying20
 a20:=Tryz.isAgg20
 z20:=Tryz.sizeOf20
 v20:=Tryz.zeroValue20
 t37:=Tryz.underlying110
 a37:=Tryz.isAgg110
 z37:=Tryz.sizeOf110
 v37:=Tryz.zeroValue110
 t46:=Tryz.underlying177
 a46:=Tryz.isAgg177
 z46:=Tryz.sizeOf177
 v46:=Tryz.zeroValue177
 t51:=Tryz.underlying236
 a51:=Tryz.isAgg236
 z51:=Tryz.sizeOf236
 v51:=Tryz.zeroValue236
 t53:=Tryz.underlying238
 a53:=Tryz.isAgg238
 z53:=Tryz.sizeOf238
 v53:=Tryz.zeroValue238
 t70:=Tryz.underlying109
 a70:=Tryz.isAgg109
 z70:=Tryz.sizeOf109
 v70:=Tryz.zeroValue109
 t72:=Tryz.underlying112
 a72:=Tryz.isAgg112
 z72:=Tryz.sizeOf112
 v72:=Tryz.zeroValue112
 t75:=Tryz.underlying114
 a75:=Tryz.isAgg114
 z75:=Tryz.sizeOf114
 v75:=Tryz.zeroValue114
 t76:=Tryz.underlying117
 a76:=Tryz.isAgg117
 z76:=Tryz.sizeOf117
 v76:=Tryz.zeroValue117
 t109:=Tryz.underlying178
 a109:=Tryz.isAgg178
 z109:=Tryz.sizeOf178
 v109:=Tryz.zeroValue178
 t127:=DC
 a127:=Tryz.isAgg181
 z127:=Tryz.sizeOf181
 v127:=Tryz.zeroValue181
 t146:=Tryz.underlying243
 a146:=Tryz.isAgg243
 z146:=Tryz.sizeOf243
 v146:=Tryz.zeroValue243
 t148:=Tryz.underlying245
 a148:=Tryz.isAgg245
 z148:=Tryz.sizeOf245
 v148:=Tryz.zeroValue245
 t164:=Tryz.underlying234
 a164:=Tryz.isAgg234
 z164:=Tryz.sizeOf234
 v164:=Tryz.zeroValue234 }
theorem zci:Builder.Extra Tp zd9:={
 sizeBuilder:=by kernel_rfl
 liesBuilder:=by kernel_rfl
 t5:=Bz
 a5:=Cy
 z5:=Cn
 v5:=BQ
 infoByte:=by kernel_rfl
 cellsByte:=by kernel_rfl
 sizeByte:=by kernel_rfl
 neB5:=by decide }
open Go.RowKit Go.Lib in
theorem zg7(s:Bt)(c:Nat)(w:World)(f:c<=9223372036854775807)(b:s.size*c<=140737488355328): Calls Tp 86 #[.string s,.int .i64 c] w λe w'=>e=.returned (.string ⟨(Lib.repeatL s.data.toList c).toArray⟩)/\Below w.heap.size w w':=Any.strings_Repeat z4a zci s c w f b
open Go.RowKit Go.Lib in
theorem Yx(s:Bt)(w:World)(b:Lib.Utf8Tabs 0 1 w): Calls Tp 151 #[.string s] w λe w'=>e=.returned (.tuple #[.int .i32 (Lib.decodeGo s).1,.int .i64 (Lib.decodeGo s).2])/\Below w.heap.size w w':=Any.utf8_DecodeRuneInString z3y s w b
end
end Go.X
end
section
namespace Go.X
open Go Go.X Go.Proofs Go.RowKit
section
variable {gl M:Fr} {s:Bt}
theorem zab{c:Int}{R:Int->Prop}(h:R (Lib.indexByte (lb s) c.toNat.toUInt8)):PC Tp gl 212 [Arg.mk .str s,Arg.mk (.int .u8) c] [.int .i64] R:= PC.of_same rfl (λ_=>z3k _ _) h λw _=>jf s c w
theorem zq9{s p:Bt}{R:Bt×Bool->Prop}(h:R (bl (Lib.trimPrefix (lb s) (lb p)),Lib.hasPrefix (lb s) (lb p))):PC Tp gl 138 [Arg.mk .str s,Arg.mk .str p] [.str,.bool] R:= PC.of_same rfl (λM=>⟨[_,_],⟨_,_,rfl,rfl,_,rfl,rfl⟩,rfl⟩) h λw _=>zcg s p w
theorem zn2{s p:Bt}{R:Bt->Prop}(h:R (bl (Lib.trimPrefix (lb s) (lb p)))):PC Tp gl 140 [Arg.mk .str s,Arg.mk .str p] [.str] R:= PC.of_same rfl (λ_=>zi1 _) h λw _=>zbf s p w
theorem zum{c:UInt8}(b:c.toNat<128){R:Bt->Prop}(h:R (bl (Lib.trimLeftB (lb s) c))):PC Tp gl 76 [Arg.mk .str s,Arg.mk .str ⟨#[c]⟩] [.str] R:= PC.of_same rfl (λ_=>zi1 _) h λw _=>Xi s c b w
theorem zra{c:UInt8}(b:c.toNat<128)(e:s.size<=9223372036854775807){R:Bt->Prop}(h:R (bl (Lib.trimRightB (lb s) c))):PC Tp gl 77 [Arg.mk .str s,Arg.mk .str ⟨#[c]⟩] [.str] R:= PC.of_same rfl (λ_=>zi1 _) h λw _=>Wq s c b w e
def qck(gl:Fr):Prop:=∃(cs:Array Value) (m:Int),gl 3=Td cs/\cs[0]?=Td (.int .i64 m)
theorem zi7(w:World)(n:Nat):Below w.heap.size w (w.drewN n):=⟨rfl,rfl,rfl,Ab _,λ_ _=>rfl⟩
theorem zi8{c:Nat}(e:c<=9223372036854775807)(b:s.size*c<=140737488355328){R:Bt->Prop}(h:R (bl (Lib.repeatL (lb s) c))):PC Tp gl 86 [Arg.mk .str s,Arg.mk (.int .i64) (c:Int)] [.str] R:= PC.of_scal rfl (λ_=>zi1 _) h λw f=>zg7 s c w e b
def Tabs(gl:Fr):Prop:=(∃cs:Array Value,gl 0=Td cs/\∀c,c<256->cs[c]?=Td (.int .u8 (Lib.firstT c)))/\∃cs:Array Value,gl 1=Td cs/\∀i,i<16->cs[2*i]?=Td (.int .u8 (Lib.accLo i))/\cs[2*i+1]?=Td (.int .u8 (Lib.accHi i))
theorem Tabs.at(h:Tabs gl){w:World}(b:AgM gl w.heap):Lib.Utf8Tabs 0 1 w:=by obtain⟨⟨c1,f,b1⟩,c2,a2,b2⟩:=h;exact⟨λc e=>b.glob f (b1 c e),λi hi=>⟨b.glob a2 (b2 i hi).1,b.glob a2 (b2 i hi).2⟩⟩
theorem zrb(b:Tabs gl){R:Int×Int->Prop}(h:R ((Lib.decodeGo s).1,(Lib.decodeGo s).2)):PC Tp gl 151 [Arg.mk .str s] [.int .i32,.int .i64] R:= PC.of_scal rfl (λM=>⟨[_,_],⟨_,_,rfl,rfl,_,rfl,rfl⟩,rfl⟩) h λw c=>Yx s w (b.at c)
theorem zzz(w:World)(k:Nat)(os:Array Obj):Below w.heap.size w (Go.Sort.grow (w.drewN k) os):=⟨rfl,rfl,rfl,by simp[Go.Sort.grow,World.drewN],λi hi=>by show((w.drewN k).heap++os)[i]?=_;exact CU hi⟩
def Pow(gl : Fr): Prop := ∃ b cs, Tryz.prog.globalNamed "internal/strconv.uint64pow10" = some b ∧ gl b = some cs ∧ cs = (Lib.pow10Tab.map λz => Value.int .u64 z).toArray
theorem z4b(o:Pow gl){n:Int}(h0:-9223372036854775808<=n)(h1:n<=9223372036854775807){R:Bt->Prop}(h:R (bl (Lib.itoa n))):PC Tp gl 79 [Arg.mk (.int .i64) n] [.str] R:=by obtain⟨b,cs,p,f,q⟩:=o;refine PC.of_scal rfl (λ_=>zi1 _) h λw l=>(zk0 n h0 h1 w ?_).mono λe w' ⟨r,k,os,c⟩=>⟨r,c ▸ zzz w k os⟩;obtain⟨T,m,i⟩:=l b cs f;unfold Lib.TabIs World.var?;rw[p];simp only[C2,i,q]
def zun(gl:Fr):Prop:=(∃(cs:Array Value) (e:Value),gl 4=Td cs/\cs[0]?=Td e/\(e=.nilIface\/∃b c,e=.iface b c))/\∃(cs:Array Value) (e:Value),gl 5=Td cs/\cs[0]?=Td e/\(e=.nilIface\/∃b c,e=.iface b c)
theorem zuo(k:IntKind)(i:Int)(t:TypeId)(u:Value):Yv M [.int k,.err] (i,Tc) (.tuple #[.int k i,.iface t u]):=⟨[_,_],⟨_,_,rfl,rfl,.iface t u,rfl,⟨_,rfl,.inr ⟨rfl,_,_,rfl⟩⟩⟩,rfl⟩
theorem zrc(k:IntKind)(i:Int):Yv M [.int k,.err] (i,Ta) (.tuple #[.int k i,.nilIface]):=⟨[_,_],⟨_,_,rfl,rfl,.nilIface,rfl,⟨_,rfl,.inl ⟨rfl,rfl⟩⟩⟩,rfl⟩
def zi9(l:List UInt8):Int×Bool:=match Lib.parseIntB 64 l with
 |.ok v=>(v,Ta)
 |.range=>(Lib.intSat 64 l,Tc)
 |_=>(0,Tc)
theorem zup(p:zun gl)(o:s.size<=281474976710656){R:Int×Bool->Prop}(h:R (zi9 (lb s))):PC Tp gl 277 [Arg.mk .str s,Arg.mk (.int .i64) 10,Arg.mk (.int .i64) 64] [.int .i64,.err] R:=by
 unfold zi9 at h;cases hx:Lib.parseIntB 64 (lb s)with
 |ok v=>rw[hx]at h;refine PC.of_ex rfl λw f=>(Z5 s (by omega) v hx w).mono λe w' ⟨c,k⟩=>⟨_,(v,Ta),c,λM=>zrc _ _,h,?_⟩;rcases k with rfl|⟨t,rfl⟩;exact Below.refl _ _;exact Lib.bytesWorld_below _ _ _
 |range=>rw[hx]at h;obtain⟨_,⟨cs,n,l,i,m⟩⟩:=p;exact PC.of_ex rfl λw f=>(Zb s o hx n w (f.glob l i) m).mono λe w' ⟨N,c,_,_,b⟩=>⟨_,(Lib.intSat 64 (lb s),Tc),c,λM=>zuo _ _ _ _,h,b⟩
 |_=>rw[hx]at h;obtain⟨⟨cs,n,l,i,m⟩,_⟩:=p;exact PC.of_ex rfl λw f=>(xq s o hx n w (f.glob l i) m).mono λe w' ⟨N,c,_,_,b⟩=>⟨_,(0,Tc),c,λM=>zuo _ _ _ _,h,b⟩
theorem zk3{s c:Bt}(k:s.size<4294967281)(i:c.size<4294967281)(f:∀(j:Nat) b,(lb s)[j]?=Td b->b.toNat<128)(e:∀(j:Nat) b,(lb c)[j]?=Td b->b.toNat<128){R:Bool->Prop}(h:R (Lib.containsAny (lb s) (lb c))):
  PC Tp gl 209 [Arg.mk .str s,Arg.mk .str c] [.bool] R:=
 PC.of_scal rfl (λ_=>znn _) h λw l=>Yd s c w k i f e
end
end Go.X
end
section
namespace Go.X
open Go Go.Lib
section
theorem zf(l:Bs):(bl l).size=l.length:=by rw[<-zi6,yg]
theorem wb(l:Bs)(a b:Nat):(bl l).extract a b=bl ((l.drop a).take (b-a)):=by rw[<-zwy,zzw,yg,yg]
theorem wq(a b:Bs):bl a++bl b=bl (a++b):=by rw[<-zwy,z3p,yg,yg,yg]
theorem jj(l:Bs)(i:Nat):zr (bl l) i=((l[i]?.getD 0).toNat:Int):=by rw[z3q,yg]
theorem zea(s:Bt):s.toList=lb s:=by
 cases s with
 |mk d=>exact Go.Lib.toList_data ⟨d⟩
theorem zg8(a b:Bs):((bl a).toList==(bl b).toList)=decide (a=b):=by rw[zea,zea,yg,yg];rw[AM];simp
theorem zrd{a b:Bs}:bl a=bl b↔a=b:=by rw[<-zwy,yg,yg]
theorem zre(l:Bs)(p:Nat):nxB (bl l) p=decide (p<l.length):=by rw[AM];simp[nxB,zf]
theorem zrf(l:Bs)(p:Nat):nxR (bl l) p=((dec (l.drop p)).1:Int):=by rw[nxR,zwz,yg]
theorem zja(l:Bs)(p:Nat)(h:p<l.length):nxP (bl l) p=p+(dec (l.drop p)).2:=by
 rw[nxP,zwz,yg];have:Nat.blt p (bl l).size=Ta:=by simp[zf,h]
 rw[this];rfl
theorem z4c{l:Bs}{i:Nat}(h:i<l.length):l[i]?.getD 0=l[i]:=by rw[Al h];rfl
def ja(c:UInt8):Bool:=decide (48<=c.toNat)&&decide (c.toNat<=57)
def Jv(l:Bs):Bool:=l.all ja && !l.isEmpty
abbrev Nm:=Bool×Bs×Int
abbrev nmB(n:Nm):Bool×Bt×Int:=(n.1,(bl n.2.1,n.2.2))
def zac(n:Nm):Bool:=!n.1&&(n.2.1.isEmpty&&n.2.2==0)
def yo(n:Nm):Bool:=zac n||(Jv n.2.1&&decide (n.2.1.length<=1000)&&n.2.1.head? != Td 48&&n.2.1.getLast? != Td 48&&decide (-1000000<=n.2.2)&&decide (n.2.2<=1000000))
def qm(n:Nm):Bs:=if yo n then(if n.2.1=[]then [48]else(if n.1 then [45]else [])++n.2.1++(if n.2.2=0 then []else 101::Go.Lib.itoa n.2.2))else []
theorem zjb{n:Nm}(h:yo n=Ta)(e:n.2.1=[]):zac n=Ta:=by unfold yo at h;rcases BO _ _ ▸ h with h|h;exact h;simp[Jv,e]at h
theorem zcj{n:Nm}(h:yo n=Ta):n.2.1.length<=1000/\-1000000<=n.2.2/\n.2.2<=1000000:=by unfold yo zac at h;obtain⟨a,d,e⟩:=n;simp at h;rcases h with⟨_,h,h'⟩|h;subst h;subst h';simp;simp only;omega
def cutAt(p:UInt8->Bool):Bs->Bs×Bs×Bool
 |[]=>([],[],Tc)
 |c::l=>if p c then([],l,Ta)else(c::(cutAt p l).1,(cutAt p l).2)
theorem za8{p:UInt8->Bool}:∀{l},(∀c∈l,p c=Tc)->cutAt p l=(l,[],Tc)
 |[],_=>rfl
 |c::l,h=>by unfold cutAt;rw[if_neg (by simp[h c (by simp)]),za8 λc b=>h c (by simp[b])]
theorem zn3{p:UInt8->Bool}:∀{l:Bs} {k:Nat} (b:k<l.length),(∀i (hi:i<k),p (l[i]'(by omega))=Tc)->p l[k]=Ta->cutAt p l=(l.take k,l.drop (k+1),Ta)
 |c::l,0,_,_,h=>by unfold cutAt;rw[if_pos (by simpa using h)];simp
 |c::l,k+1,b,h0,h=>by unfold cutAt;have h1:p c=Tc:=h0 0 (by omega);rw[if_neg (by simp[h1]),zn3 (k:=k) (by simpa using b) (λi hi=>by simpa using h0 (i+1) (by omega)) (by simpa using h)];simp
structure Lit where
 neg:Bool
 whole:Bs
 rest:Bs
 low:Bool
 exp:Bs
def zpw(s:Bs):Bs:=if s.head?==Td 45 then s.tail else s
def isE(c:UInt8):Bool:=c==101||c==69
def zjc(c:UInt8):Bool:=c==46
def Zn(s:Bs):Bs×Bs×Bool:=cutAt isE (zpw s)
def Q1(s:Bs):Bool:=(Zn s).2.2&&(Zn s).2.1.head?==Td 45
def zkm(s:Bs):Bs:=if Q1 s then(Zn s).2.1.tail else if(Zn s).2.1.head?==Td 43 then(Zn s).2.1.tail else(Zn s).2.1
def Zc(s:Bs):Bs×Bs×Bool:=cutAt zjc (Zn s).1
def zeb(s:Bs):Bool:=(!(Zn s).2.2||Jv (zkm s))&&Jv (Zc s).1&&(!(Zc s).2.2||Jv (Zc s).2.1)&&((Zc s).1==[48]||(Zc s).1.head? != Td 48)
def zg9(s:Bs):Lit:=⟨s.head?==Td 45,(Zc s).1,(Zc s).2.1,Q1 s,if(Zn s).2.2 then zkm s else []⟩
def Xf(s:Bs):Option Lit:=if zeb s then Td (zg9 s)else Te
theorem zck{s:Bs}{x:Lit}(h:Xf s=Td x):zeb s=Ta/\x=zg9 s:=by unfold Xf at h;split at h;rename_i e;exact⟨e,(Az h).symm⟩;exact absurd h (by simp)
theorem Ji{p:UInt8->Bool}:∀{l:Bs},(cutAt p l).2.2=Tc->(cutAt p l).1=l/\(cutAt p l).2.1=[]
 |[],_=>⟨rfl,rfl⟩
 |c::l,h=>by unfold cutAt at h ⊢;split;rename_i e;rw[if_pos e]at h;exact absurd h (by simp);rename_i e;rw[if_neg e]at h;have:=Ji h;exact⟨by simp[this.1],this.2⟩
def yp(l:Bs):Bs:=((l.dropWhile (· == 48)).reverse.dropWhile (· == 48)).reverse
def zm(l:Bs):Nat:=l.foldl (λn c=>10*n+(c.toNat-48)) 0
def zj(s:Bs):Nm×Int:=match Xf s with
 |none=>((Tc,[],0),2)
 |some x=>
  if x.whole.length+x.rest.length>1000 then((Tc,[],0),3)
  else if(x.exp.dropWhile (· == 48)).length>9 then((Tc,[],0),4)
  else
   let e:Int:=if x.low then-(zm (x.exp.dropWhile (· == 48)):Int)else zm (x.exp.dropWhile (· == 48))
   let d:=(x.whole++x.rest).dropWhile (· == 48)
   let b:=yp (x.whole++x.rest)
   if d=[]then((Tc,[],0),0)
   else if -1000000<=e-x.rest.length+d.length-b.length/\e-x.rest.length+d.length-b.length<=1000000 then((x.neg,b,e-x.rest.length+d.length-b.length),0)
   else((Tc,[],0),4)
def qak(n:Nm):Int×Bool:=
 if yo n&&decide (0<=n.2.2)&&decide ((n.2.1.length:Int)+n.2.2<=19)then
  let v:Int:=if n.1 then-((zm n.2.1*10 ^ n.2.2.toNat:Nat):Int)else(zm n.2.1*10 ^ n.2.2.toNat:Nat)
  if -9223372036854775808<=v/\v<=9223372036854775807 then(v,Ta)else(0,Tc)
 else(0,Tc)
end
end Go.X
end
section
namespace Go.X
section
variable {n:Nat} {l:Bs} {gl:Fr} {R:Bool -> Prop}
theorem ju{k n:Nat}(h:k<n)(b:n<=4611686018427387904):Aa .i64 ((k:Int)+1)=((k+1:Nat):Int):=z1v (by omega)
theorem qes(h:l≠[]):(48<=(dec l).1/\(dec l).1<=57)->(dec l).2=1/\∃c t,l=c::t/\ja c=Ta/\(dec l).1=c.toNat:=by obtain⟨c,t,rfl⟩:=Bq h;intro b;by_cases e:c.toNat<128;rw[X9 e]at b ⊢;exact⟨rfl,c,t,rfl,by simp[ja];simpa using b,rfl⟩;exfalso;unfold dec at b;have b0:((c::t).getD 0 0).toNat=c.toNat:=rfl;rw[b0]at b;have:=c.toNat_lt;have b1:=((c::t).getD 1 0).toNat_lt;have b2:=((c::t).getD 2 0).toNat_lt;have b3:=((c::t).getD 3 0).toNat_lt;generalize ((c::t).getD 1 0).toNat=x1 at *;generalize ((c::t).getD 2 0).toNat=x2 at *;generalize ((c::t).getD 3 0).toNat=x3 at *;generalize c.toNat=x0 at *;unfold Lib.decodeN at b;rw[if_neg e]at b;split at b;split at b <;> simp only at b <;> omega;split at b;split at b <;> simp only at b <;> omega;split at b;split at b <;> simp only at b <;> omega;simp only at b;omega
theorem zec(h:R (Jv l)):PC Tp gl 141 [Arg.mk .str (bl l)] [.bool] R:=by
 apply zg6;refine⟨λp=>p.1=bl l/\p.2<=l.length/\(l.drop p.2).all ja=l.all ja,λp=>l.length-p.2,⟨rfl,by omega,by simp⟩,?_⟩;rintro⟨_,p⟩ ⟨rfl,s,m⟩;simp only at s m ⊢;rw[zre,zrf];refine⟨λn=>⟨n,λf=>?_,λf=>?_⟩,λn=>?_⟩;all_goals first
  |have k:p<l.length:=by simpa using n
  |have k:¬p<l.length:=by simpa using n
 have i:l.drop p≠[]:=λe=>by have:=congrArg Ct e;simp at this;omega
 have o:¬(48<=(dec (l.drop p)).1/\(dec (l.drop p)).1<=57):=by rw[Bool.cond_true_left]at f;rcases BO _ _ ▸ f with f|f <;> simp at f <;> omega
 have r:l.all ja=Tc:=by
  rw[<-m];obtain⟨c,t,e⟩:=Bq i;rw[e];cases b:ja c with
  |false=>simp[b]
  |true=>
   exfalso;apply o;have:c.toNat<128:=by simp[ja]at b;omega
   rw[e,X9 this];simpa[ja]using b
 have:Jv l=Tc:=by simp[Jv,r]
 rw[this]at h;exact h;have i:l.drop p≠[]:=λe=>by have:=congrArg Ct e;simp at this;omega
 have o:48<=(dec (l.drop p)).1/\(dec (l.drop p)).1<=57:=by rw[Bool.cond_true_left]at f;have:=DV.1 f;simp at this;omega
 obtain⟨h1,c,t,e,b,_⟩:=qes i o;rw[zja l p k,h1];refine⟨⟨trivial,by omega,?_⟩,by omega⟩;have q:l.drop (p+1)=t:=by rw[<-BU,e];rfl
 rw[q,<-m,e];simp[b];have:l.drop p=[]:=Br (by omega);rw[this]at m;have e:Jv l=!(decide (l=[])):=by rw[Jv,<-m];cases l <;> simp
 have:=zg8 l [];rw[show(⟨#[]⟩:Bt)=bl []from rfl,this,<-e];exact h
abbrev tN:Ty:=.pair .bool (.pair .str (.int .i64))
theorem zw1(h:0<l.length):(((l[0]?.getD 0).toNat:Int) != 48)=(l.head? != Td 48):=by
 cases l with
 |nil=>simp at h
 |cons c t=>rw[AM];simp;constructor;intro h1 b;exact h1 (by rw[b];rfl);intro h1 b;exact h1 (UInt8.toNat_inj.1 (by(have:c.toNat=48:=by omega);rw[this];rfl))
theorem qal(h:0<l.length):(((l[l.length-1]?.getD 0).toNat:Int) != 48)=(l.getLast? != Td 48):=by rw[List.getLast?_eq_getElem?];rw[Al (by omega)];rw[AM];simp;constructor;intro h1 b;exact h1 (by rw[b];rfl);intro h1 b;exact h1 (UInt8.toNat_inj.1 (by(have:l[l.length-1].toNat=48:=by omega);rw[this];rfl))
theorem zw2(h:Jv l=Ta):0<l.length:=by
 cases l with
 |nil=>simp[Jv]at h
 |cons=>simp
theorem qet(h:0<n)(b:n<=4611686018427387904):Aa .i64 ((n:Int)-1)=((n-1:Nat):Int):=by rw[wrap64 (by omega) (by omega)];omega
theorem zn4{n:Nm}(l:n.2.1.length<=4611686018427387904)(h:R (yo n)):PC Tp gl 78 [Arg.mk tN (nmB n)] [.bool] R:=by
 apply zi4;simp only[show(⟨#[]⟩:Bt)=bl []from rfl,zg8,zf,jj];have e:((n.1==Tc)&&(decide (n.2.1=[])&&((n.2.2==0)&&Ta)))=zac n:=by unfold zac;rcases n with⟨_|_,_|⟨_,_⟩,e⟩ <;> simp
 rw[e];refine⟨λh1=>?_,λh1=>?_⟩;have:yo n=Ta:=by simp[yo,h1]
 rw[this]at h;exact h
 ·unfold yo at h;rw[h1,D7]at h;refine zec ⟨λk=>⟨λ_=>?_,λf=>?_⟩,λk=>⟨λf=>⟨λ_=>?_,λc=>?_⟩,λf=>⟨?_,λc=>⟨λ_=>?_,λb=>?_⟩,λc=>⟨?_,λb=>?_,λb=>?_⟩⟩⟩⟩;have:Jv n.2.1=Tc:=by simpa using k
  rw[this]at h;simpa using h;rw[k]at f;cases f;have:decide (n.2.1.length<=1000)=Tc:=by simp at f ⊢;omega
  rw[this]at h;simpa using h;rw[f]at c;cases c;all_goals
   have o:Jv n.2.1=Ta:=by simpa using k
   have i:=zw2 o;have m:decide (n.2.1.length<=1000)=Ta:=by simp at f ⊢;omega
   have p:=zw1 i;have el:=qal i
  omega;have:(n.2.1.head? != Td 48)=Tc:=by rw[<-p];simp at c ⊢;exact c
  rw[this]at h;simpa using h;rw[c]at b;cases b;rw[qet i l];omega;have:(n.2.1.getLast? != Td 48)=Tc:=by rw[<-el];rw[qet i l]at b;simp at b ⊢;exact b
  rw[this]at h;simpa using h;have r:(n.2.1.head? != Td 48)=Ta:=by rw[<-p];simp at c ⊢;exact c
  have q:(n.2.1.getLast? != Td 48)=Ta:=by rw[<-el];rw[qet i l]at b;simp at b ⊢;exact b
  rw[o,m,r,q]at h;simp only[Cs]at h;rw[Bool.cond_false_right];exact h
end
end Go.X
end
section
namespace Go.X
open Go Go.Lib
section
variable {n k:Nat} {l s:Bs}
theorem u8n{c:UInt8}(b:n<256):c=Bb n↔c.toNat=n:=by constructor;rintro rfl;simp;omega;intro h;rw[<-h];simp
theorem xr(c:UInt8):∀l:Bs,-1<=indexByte l c/\(0<=indexByte l c↔c∈l)
 |[]=>by simp[indexByte]
 |b::l=>by have i:=xr c l;unfold indexByte;by_cases h:b=c;simp[h];have h':¬c=b:=λe=>h e.symm;simp only[beq_iff_eq,h,if_false,Ah,h',false_or];obtain⟨k,f⟩:=i;split;rename_i e;rw[e]at f;exact⟨by omega,by rw[<-f]⟩;rename_i e;refine⟨by omega,?_⟩;rw[<-f];omega
theorem Ws(u:Nat):(decDigits u).length<=u+1:=by rw[decDigits];split;simp;rename_i h;have:=Ws (u / 10);simp;omega
theorem itoa_len(n:Int):(itoa n).length<=n.natAbs+2:=by unfold itoa;split;have:=Ws n.natAbs;simp;omega;have:=Ws n.toNat;omega
theorem zed(l:Bs)(c:UInt8):hasPrefix l [c]=(l.head?==Td c):=by
 cases l with
 |nil=>rfl
 |cons b t=>simp[hasPrefix,List.isPrefixOf];rw[AM];simp;exact eq_comm
theorem zbr(l:Bs)(c:UInt8):trimPrefix l [c]=if l.head?==Td c then l.tail else l:=by unfold trimPrefix;rw[zed];split <;> simp
theorem zjd(l:Bs)(c:UInt8):zm (l++[c])=10*zm l+(c.toNat-48):=by simp[zm,List.foldl_append]
theorem zje(b:k<l.length):zm (l.take (k+1))=10*zm (l.take k)+(l[k].toNat-48):=by rw[Aw b,zjd]
theorem zw3{p:UInt8->Bool}(h:l.all p=Ta)(k:Nat):(l.take k).all p=Ta:=by rw[Av]at h ⊢;exact λx b=>h x (List.mem_of_mem_take b)
theorem qcl(h:l.all ja=Ta)(b:k<l.length):48<=l[k].toNat/\l[k].toNat<=57:=by have:=Av.1 h _ (AE b);simpa[ja]using this
theorem zrg:∀(n:Nat) (l:Bs),l.length=n->l.all ja=Ta->zm l<10 ^ n
 |0,l,h,_=>by have:l=[]:=AN h;subst this;simp[zm]
 |n+1,l,h,hd=>by
  have b:l=l.take (n+1):=by rw[<-h,A3]
  rw[b,zje (by omega)];have h1:=zrg n (l.take n) (by simp;omega) (zw3 hd n);have c:=qcl hd (k:=n) (by omega);rw[Ef];omega
theorem zjf(b:l.length<=n)(h:l.all ja=Ta):zm l<10 ^ n:= Dh (zrg _ l rfl h) (Nat.pow_le_pow_right (by omega) b)
theorem Yq(h:Jv l=Ta):l.all ja=Ta:=by unfold Jv at h;exact(Bool.and_eq_true_iff.1 h).1
theorem Wt{p q:UInt8->Bool}(h:l.all p=Ta):(l.dropWhile q).all p=Ta:=by rw[Av]at h ⊢;exact λx b=>h x ((List.dropWhile_sublist q).mem b)
theorem xt(l:Bs)(q:UInt8->Bool):(l.dropWhile q).length<=l.length:=(List.dropWhile_sublist q).length_le
theorem zbs{q:UInt8->Bool}:∀c,(l.dropWhile q).head?=Td c->q c=Tc:=by
 induction l with
 |nil=>simp
 |cons b t e=>intro c h;rw[List.dropWhile_cons]at h;split at h;exact e c h;rename_i f;simp at h;subst h;exact Bool.eq_false_iff.2 f
theorem zee(h:l.all ja=Ta)(i:l.dropWhile (· == 48)≠[]):Jv (yp l)=Ta/\(yp l).length<=(l.dropWhile (· == 48)).length/\((yp l).head? != Td 48)=Ta/\((yp l).getLast? != Td 48)=Ta:=by
 unfold yp;obtain⟨c,t,f⟩:=Bq i;have k:(c==48)=Tc:=by have:=zbs (l:=l) (q:=(· == 48)) c (by rw[f];rfl);simpa using this
 have key:∀(t:Bs),∃u,((c::t).reverse.dropWhile (· == 48)).reverse=c::u:=by
  intro t;rw[List.reverse_cons];have m:∀(r:Bs),∃u,(r++[c]).dropWhile (· == 48)=u++[c]:=by
   intro r;induction r with
   |nil=>exact⟨[],by simp[k]⟩
   |cons b r n=>rw[AD,List.dropWhile_cons];split;exact n;exact⟨b::r,rfl⟩
  obtain⟨u,e⟩:=m t.reverse;exact⟨u.reverse,by rw[e];simp⟩
 rw[f];obtain⟨u,e⟩:=key t;refine⟨?_,?_,?_,?_⟩;rw[Jv,Bool.and_eq_true_iff];refine⟨?_,by rw[e];rfl⟩;rw[List.all_reverse];apply Wt;rw[List.all_reverse,<-f];exact Wt h;rw[List.length_reverse];refine Ck (xt _ _) ?_;simp;rw[e];simp;simpa using k;rw[List.getLast?_reverse];cases hh:((c::t).reverse.dropWhile (· == 48)).head? with
 |none=>rfl
 |some x=>have:=zbs (l:=(c::t).reverse) (q:=(· == 48)) x hh;simpa using this
theorem zma(h:l.all ja=Ta)(b:l.dropWhile (· == 48)≠[])(m:l.length<=1000)(neg:Bool)(e:Int):yo (neg,yp l,e)=(decide (-1000000<=e)&&decide (e<=1000000)):=by
 obtain⟨h1,n,f,c⟩:=zee h b;have k:=xt l (· == 48);have i:(yp l).isEmpty=Tc:=by rw[Jv]at h1;have:=(Bool.and_eq_true_iff.1 h1).2;simpa using this
 unfold yo zac;simp only[h1,f,c,i,Bool.and_false,Eg,D7,Cs];have:decide ((yp l).length<=1000)=Ta:=by simp;omega
 rw[this];simp
theorem zjg{x:Lit}(h:Xf s=Td x):Jv x.whole=Ta/\x.rest.all ja=Ta/\x.exp.all ja=Ta:=by
 obtain⟨b,rfl⟩:=zck h;unfold zeb at b;simp only[Ap]at b;obtain⟨⟨⟨h1,e⟩,c⟩,f⟩:=b;refine⟨e,?_,?_⟩;show(Zc s).2.1.all ja=Ta;cases hp:(Zc s).2.2 with
 |true=>rw[hp]at c;exact Yq (by simpa using c)
 |false=>rw[show(Zc s).2.1=[]from(Ji hp).2];rfl
 show(if(Zn s).2.2 then zkm s else []).all ja=Ta;cases hm:(Zn s).2.2 with
 |true=>rw[hm]at h1;simpa using Yq (by simpa using h1)
 |false=>rfl
theorem zf2(p:UInt8->Bool)(l:Bs):(cutAt p l).1.length+(cutAt p l).2.1.length<=l.length:=by
 induction l with
 |nil=>simp[cutAt]
 |cons c t b=>unfold cutAt;split <;> simp <;> omega
theorem zmb{x:Lit}(h:Xf s=Td x):x.whole.length+x.rest.length+x.exp.length<=s.length:=by
 obtain⟨c,rfl⟩:=zck h;have h1:(zpw s).length<=s.length:=by unfold zpw;split <;> simp
 have i:=zf2 isE (zpw s);have e:=zf2 zjc (Zn s).1;have b:(zkm s).length<=(Zn s).2.1.length:=by unfold zkm;split;simp;split <;> simp
 have f:(if(Zn s).2.2 then zkm s else []).length<=(Zn s).2.1.length:=by split;exact b;simp
 show(Zc s).1.length+(Zc s).2.1.length+(if(Zn s).2.2 then zkm s else []).length<=s.length;unfold Zc;unfold Zn at *;omega
end
end Go.X
end
section
namespace Go.X
section
variable {gl:Fr} {l s:Bs}
theorem qhs(c:UInt8):(((c.toNat:Int)).toNat).toUInt8=c:=by simp
theorem qcm{l sep:Bs}{p:UInt8->Bool}(t:∀c,p c=Ta↔c∈sep)(w:l.length<=4611686018427387904){R:Bt×Bt×Bool->Prop}(h:R (bl (cutAt p l).1,bl (cutAt p l).2.1,(cutAt p l).2.2)):
  PC Tp gl 139 [Arg.mk .str (bl l),Arg.mk .str (bl sep)] [.str,.str,.bool] R:=by
 apply zns;simp only[zf,jj,wb];refine⟨λi=>∃k:Nat,i=k/\k<=l.length/\∀j (f:j<l.length),j<k->p l[j]=Tc,λi=>l.length-i.toNat,⟨0,rfl,by omega,λj _ h=>by omega⟩,?_⟩;rintro i ⟨k,rfl,x,n⟩;refine⟨λq=>?_,λq=>?_⟩;have b:k<l.length:=by simpa using q
 simp only[Ai,z4c b];refine⟨by omega,zab ?_⟩;rw[qhs,yg];have s:=(xr l[k] sep).2;rw[ju b w];refine⟨λm=>⟨by omega,by omega,?_⟩,λm=>⟨⟨k+1,rfl,by omega,λj f u=>?_⟩,by simp;omega⟩⟩;have o:p l[k]=Ta:=(t _).2 (s.1 (by simpa using m));rw[zn3 b (λj f=>n j (by omega) f) o]at h;simp only[Ai,Int.toNat_zero,BZ,Nat.sub_zero];rw[BG (l:=l.drop (k+1)) (by simp)];exact h;by_cases e:j=k;subst e;cases hpj:p l[j]with
 |false=>rfl
 |true=>exact absurd (s.2 ((t _).1 hpj)) (by simpa using m)
 exact n j f (by omega);have b:¬k<l.length:=by simpa using q
 rw[za8 (λc r=>by obtain⟨j,f,rfl⟩:=List.getElem_of_mem r;exact n j f (by omega))]at h;exact h
theorem zmc{c:UInt8}{R:Bt×Bool->Prop}(h:R (bl (if l.head?==Td c then l.tail else l),l.head?==Td c)):PC Tp gl 138 [Arg.mk .str (bl l),Arg.mk .str (bl [c])] [.str,.bool] R:=by refine zq9 ?_;rw[yg,yg,zbr,zed];exact h
theorem zuq{c:UInt8}{R:Bt->Prop}(h:R (bl (if l.head?==Td c then l.tail else l))):PC Tp gl 140 [Arg.mk .str (bl l),Arg.mk .str (bl [c])] [.str] R:=by refine zn2 ?_;rw[yg,yg,zbr];exact h
theorem zjh{R:Bt->Prop}(h:R (bl (l.dropWhile (· == 48)))):PC Tp gl 76 [Arg.mk .str (bl l),Arg.mk .str (bl [48])] [.str] R:=by refine zum (c:=48) (by decide) ?_;rw[yg];exact h
theorem zz0(b:l.length<=4611686018427387904){R:Bt->Prop}(h:R (bl (l.reverse.dropWhile (· == 48)).reverse)):PC Tp gl 77 [Arg.mk .str (bl l),Arg.mk .str (bl [48])] [.str] R:=by refine zra (c:=48) (by decide) (by rw[zf];omega) ?_;rw[yg];exact h
theorem qeu(Q:s.length<=4611686018427387904){R:(Bool×Bool×Bt×Bt×Bt)×Bool->Prop} (h1:zeb s=Ta->R (((zg9 s).neg,(zg9 s).low,bl (zg9 s).whole,bl (zg9 s).rest,bl (zg9 s).exp),Ta)) (D:zeb s=Tc->∀a b c d e,R ((a,b,bl c,bl d,bl e),Tc)):
  PC Tp gl 75 [Arg.mk .str (bl s)] [.pair .bool (.pair .bool (.pair .str (.pair .str .str))),.bool] R:=by
 apply zky;refine zmc (c:=45) ?_;dsimp only;have S:(zpw s).length<=s.length:=by unfold zpw;split <;> simp
 have H:=zf2 isE (zpw s);refine qcm (l:=zpw s) (sep:=[101,69]) (p:=isE) (λc=>by simp[isE]) (by omega) ?_;dsimp only;have L:(Zn s).1.length+(Zn s).2.1.length<=(zpw s).length:=H;have tail:∀(e:Bs) (low:Bool),((Zn s).2.2=Ta->Jv (zkm s)=Ta/\low=Q1 s/\e=zkm s)->((Zn s).2.2=Tc->low=Tc/\e=[]) ->
   PC Tp gl 139 [Arg.mk .str (bl (Zn s).1),Arg.mk .str (bl [46])] [.str,.str,.bool] (λf:Bt×Bt×Bool=>PC Tp gl 141 [Arg.mk .str f.1] [.bool] (λm:Bool=>∃u:Bool->Prop,(((!(!m))&&f.2.2)=Ta->PC Tp gl 141 [Arg.mk .str f.2.1] [.bool] u) /\ ∀q:Bool,(((!(!m))&&f.2.2)=Ta->u q)->((bif (!m)then Ta else(bif f.2.2 then(!q)else Tc))=Ta->R ((s.head?==Td 45,(low,(f.1,(f.2.1,bl e)))),Tc)) /\ ((bif (!m)then Ta else(bif f.2.2 then(!q)else Tc))=Tc->((!((f.1:Bt).toList==((⟨#[48]⟩:Bt):Bt).toList))=Ta->(0<=(0:Int)/\(0:Int)<((f.1).size:Int))) /\ R ((s.head?==Td 45,(low,(f.1,(f.2.1,bl e)))),bif ((f.1:Bt).toList==((⟨#[48]⟩:Bt):Bt).toList)then Ta else((zr f.1 (0:Int).toNat:Int) != 48))))):=by
  intro e low P k2;have z:(!(Zn s).2.2||Jv (zkm s))=Ta/\Q1 s=low/\(if(Zn s).2.2 then zkm s else [])=e:=by
   cases w:(Zn s).2.2 with
   |true=>obtain⟨a,b,c⟩:=P w;exact⟨by simp[a],b.symm,by simp[c]⟩
   |false=>obtain⟨a,b⟩:=k2 w;exact⟨rfl,by unfold Q1;rw[w,a];rfl,by simp[b]⟩
  refine qcm (l:=(Zn s).1) (sep:=[46]) (p:=zjc) (λc=>by simp[zjc]) (by omega) ?_;refine zec ⟨λx=>Jv (Zc s).2.1=x,λ_=>zec rfl,λy G=>?_⟩;dsimp only;simp only[show(⟨#[48]⟩:Bt)=bl [48]from rfl,zg8,zf,jj];change (_->Jv (Zc s).2.1=y)at G;show((bif (!Jv (Zc s).1)then Ta else(bif (Zc s).2.2 then(!y)else Tc))=Ta->R ((s.head?==Td 45,(low,(bl (Zc s).1,(bl (Zc s).2.1,bl e)))),Tc)) /\ ((bif (!Jv (Zc s).1)then Ta else(bif (Zc s).2.2 then(!y)else Tc))=Tc->((!decide ((Zc s).1=[48]))=Ta->(0<=(0:Int)/\(0:Int)<((Zc s).1.length:Int))) /\ R ((s.head?==Td 45,(low,(bl (Zc s).1,(bl (Zc s).2.1,bl e)))),bif decide ((Zc s).1=[48])then Ta else(((((Zc s).1[(0:Int).toNat]?).getD 0).toNat:Int) != 48)));have B:Jv (Zc s).1=Ta->(Zc s).2.2=Ta->Jv (Zc s).2.1=y:=λa b=>G (by show((!(!Jv (Zc s).1))&&(Zc s).2.2)=Ta;rw[a,b];rfl);refine⟨λi=>D ?_ _ _ _ _ _,λi=>⟨λ_=>?_,?_⟩⟩;unfold zeb;cases r:Jv (Zc s).1 with
  |false=>simp
  |true=>
   rw[r]at i;cases hw:(Zc s).2.2 with
   |false=>rw[hw]at i;simp at i
   |true=>rw[hw]at i;have:=B r hw;rw[this];simp at i;simp[i]
  all_goals
   have r:Jv (Zc s).1=Ta:=by
    cases r:Jv (Zc s).1 with
    |true=>rfl
    |false=>rw[r]at i;simp at i
   have N:=zw2 r
  omega;have J:(!(Zc s).2.2||Jv (Zc s).2.1)=Ta:=by
   cases hw:(Zc s).2.2 with
   |false=>rfl
   |true=>rw[r,hw]at i;have:=B r hw;rw[this];simpa using i
  have I:(bif decide ((Zc s).1=[48])then Ta else(((((Zc s).1[(0:Int).toNat]?).getD 0).toNat:Int) != 48))=((Zc s).1==[48]||(Zc s).1.head? != Td 48):=by rw[show(0:Int).toNat=0 from rfl,zw1 N,Bool.cond_true_left,AM];simp
  have t:zeb s=((Zc s).1==[48]||(Zc s).1.head? != Td 48):=by unfold zeb;rw[z.1,r,J];simp
  rw[I];cases ho:((Zc s).1==[48]||(Zc s).1.head? != Td 48)with
  |true=>have:=h1 (t.trans ho);unfold zg9 at this;rw[z.2.1,z.2.2]at this;exact this
  |false=>exact D (t.trans ho) _ _ _ _ _
 intro K F;refine⟨λw=>?_,λw=>?_⟩;have o:(Zn s).2.2=Ta:=w;refine zmc (c:=45) (l:=(Zn s).2.1) ?_;dsimp only;intro O C;have step:∀low e,low=Q1 s->e=zkm s->O (bl e) (s.head?==Td 45) low (bl []) (bl []) (bl []):=by
  intro low e E A;refine C _ _ _ _ _ _ (zec ⟨λi=>?_,λi=>?_⟩);refine D ?_ _ _ [] [] [];unfold zeb;rw[o,<-A];have:Jv e=Tc:=by simpa using i
  rw[this];rfl;refine F _ _ _ _ _ _ (tail e low (λ_=>⟨by rw[<-A];simpa using i,E,A⟩) λh=>by rw[o]at h;cases h)
 have n:Q1 s=((Zn s).2.1.head?==Td 45):=by unfold Q1;rw[o];rfl
 refine⟨λi=>?_,λi=>?_⟩;have k:((Zn s).2.1.head?==Td 45)=Tc:=by simpa using i
 rw[k];refine zuq (c:=43) ?_;simp only[Bc,if_false];refine step Tc _ (by rw[n,k]) ?_;unfold zkm;rw[n,k];simp;have k:((Zn s).2.1.head?==Td 45)=Ta:=by simpa using i
 rw[k];simp only[if_true];refine step Ta _ (by rw[n,k]) ?_;unfold zkm;rw[n,k];simp;have o:(Zn s).2.2=Tc:=w;have M:(Zn s).2.1=[]:=(Ji o).2;have:=tail [] Tc (λh=>by rw[o]at h;cases h) λ_=>⟨rfl,rfl⟩;show K (bl (Zn s).2.1) _ _ _ _ _;rw[M];exact F _ _ _ _ _ _ this
theorem qht{α β γ δ:Type}{B:α->β->γ->δ->Prop}{c:Bool}{a b:α}{x:β}{y:γ}{z:δ}(h:∀e,e=(bif c then a else b)->B e x y z):∀K:α->β->γ->δ->Prop,(∀e x y z,B e x y z->K e x y z)->(c=Ta->K a x y z)/\(c=Tc->K b x y z):= λK i=>⟨λf=>i _ _ _ _ (h _ (by subst f;rfl)),λf=>i _ _ _ _ (h _ (by subst f;rfl))⟩
theorem w64{n:Int}(h:-4611686018427387904<=n/\n<=4611686018427387904):Aa .i64 n=n:=wrap64 (by omega) (by omega)
set_option maxHeartbeats 1000000 in
theorem zhr(V:s.length<=1152921504606846976){R:(Bool×Bt×Int)×Int->Prop}(h:R (nmB (zj s).1,(zj s).2)):PC Tp gl 25 [Arg.mk .str (bl s)] [tN,.int .i64] R:=by
 apply zi5;refine qeu (by omega) (λr=>?_) (λr a b c d e=>?_);rotate_left;refine zjh ⟨λ_=>?_,λm=>by cases m⟩;have:Xf s=Te:=by unfold Xf;simp[r]
 unfold zj at h;rw[this]at h;exact h;have f:Xf s=Td (zg9 s):=by unfold Xf;simp[r]
 have L:=zmb f;obtain⟨S,d2,J⟩:=zjg f;unfold zj at h;rw[f]at h;simp only at h;generalize zg9 s=x at *;refine zjh ⟨λm=>(by cases m),λ_=>?_⟩;simp only[zf];rw[w64 (by omega)];refine⟨λm=>?_,λm=>?_⟩;rw[if_pos (by simp at m;omega)]at h;exact h;rw[if_neg (by simp at m;omega)]at h;refine⟨λk=>?_,λk=>?_⟩;rw[if_pos (by simp at k;omega)]at h;exact h;rw[if_neg (by simp at k;omega)]at h;have H:x.whole.length+x.rest.length<=1000:=by simp at m;omega
 have U:x.exp.all ja=Ta:=J;generalize O:x.exp.dropWhile (· == 48)=E at *;have o:E.all ja=Ta:=by rw[<-O];exact Wt J
 have B:E.length<=9:=by simp at k;omega
 have Q:zm E<10 ^ 9:=zjf B o;refine⟨λe _ _ _ p=>p.1=bl E/\p.2<=E.length/\e=(zm (E.take p.2):Int),λ_ _ _ _ p=>E.length-p.2,⟨rfl,by omega,by simp[zm]⟩,?_⟩;rintro e b1 b2 b3 ⟨_,p⟩ ⟨rfl,M,rfl⟩;simp only at M ⊢;rw[zre,zrf];refine⟨λz=>⟨z,?_⟩,λz=>?_⟩;have i:p<E.length:=by simpa using z
 have Y:=qcl o i;have F:E.drop p=E[p]::E.drop (p+1):=Bw i;rw[zja E p i,F,X9 (by omega)];have P:=zjf (n:=9) (l:=E.take p) (by simp;omega) (zw3 o p);rw[zaa (by omega) (by omega),w64 (n:=10*_) (by omega),w64 (n:=(_:Int)-48) (by omega),w64 (by omega)];simp only;refine⟨⟨trivial,by omega,?_⟩,by omega⟩;rw[zje i];omega;have i:¬p<E.length:=by simpa using z
 have D:p=E.length:=by omega
 subst D;rw[A3];apply qht;intro w C;refine⟨by unfold wl;omega,?_⟩;rw[wq];refine zjh ?_;rw[show(⟨#[]⟩:Bt)=bl []from rfl];simp only[zg8];have I:(x.whole++x.rest).all ja=Ta:=by rw[DG,Yq S,d2];rfl
 refine⟨λq=>?_,λq=>?_⟩;rw[if_pos (by simpa using q)]at h;exact h;have u:(x.whole++x.rest).dropWhile (· == 48)≠[]:=by simpa using q
 rw[if_neg u]at h;have G:=xt (x.whole++x.rest) (· == 48);rw[Ag]at G;refine zz0 (by omega) ?_;have N:=(zee I u).2.1;have A:=zma I u (by rw[Ag];exact H);simp only[zf,show((List.dropWhile (λx=>x==48) (x.whole++x.rest)).reverse.dropWhile (λx=>x==48)).reverse=yp (x.whole++x.rest)from rfl];have y:w=if x.low then-(zm E:Int)else(zm E:Int):=by rw[C];cases x.low <;> simp;exact w64 (by omega)
 have Z:-1000000000<=w/\w<=1000000000:=by rw[y];split <;> omega
 rw[w64 (n:=w-_) (by omega),w64 (n:=w-_+_) (by omega),w64 (by omega)];refine zn4 (n:=(x.neg,yp (x.whole++x.rest),w-(x.rest.length:Int)+(((x.whole++x.rest).dropWhile (· == 48)).length:Int)-((yp (x.whole++x.rest)).length:Int))) (by simp only;omega) ?_;rw[A];change R (nmB (if -1000000<=(if x.low=Ta then-(zm E:Int)else(zm E:Int))-(x.rest.length:Int)+(((x.whole++x.rest).dropWhile (· == 48)).length:Int)-((yp (x.whole++x.rest)).length:Int)/\(if x.low=Ta then-(zm E:Int)else(zm E:Int))-(x.rest.length:Int)+(((x.whole++x.rest).dropWhile (· == 48)).length:Int)-((yp (x.whole++x.rest)).length:Int)<=1000000 then((x.neg,yp (x.whole++x.rest),(if x.low=Ta then-(zm E:Int)else(zm E:Int))-(x.rest.length:Int)+(((x.whole++x.rest).dropWhile (· == 48)).length:Int)-((yp (x.whole++x.rest)).length:Int)),0)else((Tc,[],0),4)).1,_)at h;rw[<-y]at h;refine⟨λt=>?_,λt=>?_⟩;rw[if_neg (by simp at t;omega)]at h;exact h;rw[if_pos (by simp at t;omega)]at h;exact h
end
section
variable {gl:Fr}
theorem zz1{a b:Bs}(h:a.length+b.length<=4611686018427387904):wl ((bl a).size+(bl b).size):=by unfold wl;rw[zf,zf];omega
theorem zur(r:Pow gl){n:Nm}(m:n.2.1.length<=4611686018427387904){R:Bt->Prop}(h:R (bl (qm n))):PC Tp gl 26 [Arg.mk tN (nmB n)] [.str] R:=by
 apply zkt;refine zn4 m ⟨λf=>?_,λf=>?_⟩;have:yo n=Tc:=by simpa using f
 have e:qm n=[]:=by unfold qm;simp[this]
 rw[e]at h;exact h;have i:yo n=Ta:=by simpa using f
 obtain⟨u,o,q⟩:=zcj i;unfold qm at h;rw[if_pos i]at h;simp only[show(⟨#[]⟩:Bt)=bl []from rfl,zg8];refine⟨λc=>?_,λc=>?_⟩;rw[if_pos (by simpa using c)]at h;exact h;rw[if_neg (by simpa using c)]at h;intro K p;have key:∀t:Bs,t=(if n.1 then [45]else [])++n.2.1->K (bl t):=by
  intro t k;have s:t.length<=1001:=by rw[k];split <;> simp <;> omega
  rw[<-k]at h;refine p _ ⟨λb=>?_,λb=>?_⟩;rw[if_neg (by simpa using b)]at h;have l:=Go.X.itoa_len n.2.2;refine z4b r (by omega) (by omega) ?_;refine⟨zz1 (a:=[101]) (by simp;omega),?_⟩;rw[show(⟨#[101]⟩:Bt)=bl [101]from rfl,wq,wq];exact⟨zz1 (by simp;omega),h⟩;rw[if_pos (by simpa using b),AQ]at h;exact h
 refine⟨λb=>⟨zz1 (a:=[45]) (by simp;omega),?_⟩,λb=>?_⟩;rw[show(⟨#[45]⟩:Bt)=bl [45]from rfl,wq];exact key _ (by rw[if_pos (by simpa using b)]);exact key _ (by rw[if_neg (by simpa using b)];rfl)
theorem qky(e:Pow gl){n:Int}(h1:-9223372036854775808<=n)(i:n<=9223372036854775807){R:Bool×Bt×Int->Prop}(h:R (nmB (zj (Lib.itoa n)).1)):PC Tp gl 110 [Arg.mk (.int .i64) n] [tN] R:=by
 apply zq7;refine z4b e h1 i (zhr ?_ h);have:=Go.X.itoa_len n;have b:∀u:Nat,u<10 ^ 20->(Lib.decDigits u).length<=20:=by
  have:∀(k u:Nat),u<10 ^ (k+1)->(Lib.decDigits u).length<=k+1:=by
   intro k;induction k with
   |zero=>intro u c;rw[Lib.decDigits,dif_pos (by simpa using c)];simp
   |succ k f=>intro u c;rw[Lib.decDigits];split;simp;have:=f (u / 10) (by rw[Ef]at c;omega);simp;omega
  exact this 19
 have:(Lib.itoa n).length<=21:=by unfold Lib.itoa;split;have:=b n.natAbs (by omega);simp;omega;have:=b n.toNat (by omega);omega
 omega
end
section
theorem qhu{n:Int}(h1:0<=n)(c:n<256):Aa .u8 n=n:=by
 unfold Aa;have e:(2:Int) ^ Bj .u8=256:=by decide
 simp only[e];have b:DT .u8=Tc:=rfl;simp only[b,Eg,Bc,if_false];omega
end
end Go.X
end
section
namespace Go.X
open Go Go.Proofs Go.Shelf Go.RowKit
section
def zn5:Go.Shelf.Ren:=⟨fun|196=>150|259=>217|n=>n,fun|9=>9|4=>4|3=>3|5=>5|12=>12|119=>230|0=>0|46=>177|139=>233|138=>232|53=>238|n=>n,fun|3=>0|4=>1|n=>n⟩
theorem z4d:Go.Proofs.Lays.n196 Tp zn5:={
 mixed:=by kernel_rfl
 f196:=LF Tryz.func150
 f259:=LF Tryz.func217
 t0:=Cf
 a0:=CZ
 z0:=CN
 v0:=Cq
 t3:=BH
 a3:=Cx
 z3:=Cm
 v3:=BP
 t4:=BI
 a4:=CC
 z4:=Cu
 v4:=BW
 t5:=Bz
 a5:=Cy
 z5:=Cn
 v5:=BQ
 t9:=BC
 a9:=Cz
 z9:=Co
 v9:=BR
 t12:=Tryz.underlying12
 a12:=Tryz.isAgg12
 z12:=Tryz.sizeOf12
 v12:=Tryz.zeroValue12
 t46:=Tryz.underlying177
 a46:=Tryz.isAgg177
 z46:=Tryz.sizeOf177
 v46:=Tryz.zeroValue177
 t53:=Tryz.underlying238
 a53:=Tryz.isAgg238
 z53:=Tryz.sizeOf238
 v53:=Tryz.zeroValue238
 t119:=Tryz.underlying230
 a119:=Tryz.isAgg230
 z119:=Tryz.sizeOf230
 t138:=Dz
 a138:=Tryz.isAgg232
 z138:=Tryz.sizeOf232
 v138:=Tryz.zeroValue232
 t139:=Tryz.underlying233
 a139:=Tryz.isAgg233
 z139:=Tryz.sizeOf233
 v139:=Tryz.zeroValue233
 g3:=by kernel_rfl
 g4:=by kernel_rfl }
open Go.RowKit Go.Lib in
theorem zef(s:Bt)(w:World)(c:s.size<=9223372036854775807)(b:Lib.Utf8Tabs 0 1 w): Calls Tp 150 #[.string s] w λe w'=>e=.returned (.bool (Lib.validD s.data.toList))/\Below w.heap.size w w':=Any.utf8_ValidString z4d s w c b
end
end Go.X
end
section
namespace Go.X
section
variable {l:Bs}
theorem qgp{n:Int}{k:Nat}(b:n=(k:Int)):(bl l).extract n.toNat ((l.length:Int)).toNat=bl (l.drop k):=by subst b;rw[Ai,Ai,wb,BG (by simp)]
theorem zrh(l:Bs):Lib.validD l=Z4 l:=by
 by_cases h:l=[];subst h;rw[Yp];rfl;rw[Lib.validD_step l h,Zw h,Lib.decodeL_N,zrh (l.drop _)];have e:zkl (dec l)=decide ((dec l).1=65533/\(dec l).2=1):=by unfold zkl;rw[Bool.decide_and];rfl
 rw[e];by_cases c:(dec l).1=65533/\(dec l).2=1;rw[decide_eq_true c];exact if_pos c;rw[decide_eq_false c];exact if_neg c
termination_by l.length
decreasing_by
 have h1:=wo l;have h2:0<l.length:=Bv.2 h;unfold dec at h1;simp only[AH];omega
theorem zk4{gl:Fr}(b:Tabs gl)(e:l.length<=4611686018427387904){R:Bool->Prop}(h:R (Z4 l)):PC Tp gl 150 [Arg.mk .str (bl l)] [.bool] R:= PC.of_scal rfl (λ_=>znn _) (by rw[<-zrh]at h;exact h) λw c=>zef (bl l) w (by rw[zf];omega) (b.at c)
end
end Go.X
end
section
namespace Go.X
open Go Go.Lib
section
theorem z4e(l:Bs)(a:Nat):l.foldl (λn c=>10*n+(c.toNat-48)) a=a*10 ^ l.length+zm l:=by
 induction l generalizing a with
 |nil=>simp[zm]
 |cons c t b=>
  simp only[List.foldl_cons,Aq,zm];rw[b,b (10*0+(c.toNat-48)),Ef];have:(10*a+(c.toNat-48))*10 ^ t.length=a*(10 ^ t.length*10)+(c.toNat-48)*10 ^ t.length:=by rw[Cg,Dq 10 a,Nat.mul_assoc,Dq 10 (10 ^ t.length)]
  rw[this];simp;omega
theorem zeg(a b:Bs):zm (a++b)=zm a*10 ^ b.length+zm b:=by rw[zm,List.foldl_append,z4e];rfl
theorem zri(n:Nat):zm (BE n 48)=0:=by
 induction n with
 |zero=>rfl
 |succ n b=>rw[List.replicate_succ];exact b
theorem zrj:∀(l:Bs) (b:Nat),l.all ja=Ta->b*10 ^ l.length+zm l<10 ^ 19->parseUintM (2 ^ 64-1) b l=.ok (b*10 ^ l.length+zm l)
 |[],b,_,_=>by simp[parseUintM,zm]
 |c::t,b,hd,hl=>by
  rw[DJ,Ap]at hd
  have h:48<=c.toNat/\c.toNat<=57:=by simpa[ja]using hd.1
  have e:zm (c::t)=(c.toNat-48)*10 ^ t.length+zm t:=by
   have:=zeg [c] t
   rw[List.singleton_append]at this
   rw[this];simp[zm]
  have f:(b*10+(c.toNat-48))*10 ^ t.length+zm t=b*10 ^ (c::t).length+zm (c::t):=by
   rw[e,Aq,Ef,Cg,Nat.mul_assoc,Dq 10 (10 ^ t.length)];omega
  have i:1<=10 ^ t.length:=Nat.one_le_pow _ _ (by decide)
  have k:b*10+(c.toNat-48)<=b*10 ^ (c::t).length+zm (c::t):=by
   rw[<-f]
   calc b*10+(c.toNat-48)=(b*10+(c.toNat-48))*1:=by omega
    _<=(b*10+(c.toNat-48))*10 ^ t.length:=Nat.mul_le_mul_left _ i
    _<=_:=by omega
  rw[parseUintM,if_pos h,if_neg (by omega),if_neg (by omega),zrj t _ hd.2 (by rw[f];exact hl),f]
def Jj(n:Nm):Bs:=n.2.1++BE n.2.2.toNat 48
theorem zz2(n:Nm):zm (Jj n)=zm n.2.1*10 ^ n.2.2.toNat:=by rw[Jj,zeg,zri,CI,C7]
theorem zus{n:Nm}(h:yo n=Ta):n.2.1.all ja=Ta:=by unfold yo zac at h;rcases BO _ _ ▸ h with h|h;simp at h;rw[h.2.1];rfl;simp only[Ap]at h;exact Yq h.1.1.1.1.1
theorem zz3{n:Nm}(h:yo n=Ta):(Jj n).all ja=Ta:=by rw[Jj,DG,zus h,Cs,Av];intro x b;rw[List.mem_replicate]at b;rw[b.2];rfl
theorem z4f{l:Bs}(neg:Bool)(e:l.all ja=Ta)(k:l.length<=19)(b:l≠[]):
  parseIntB 64 ((if neg then [45]else [])++l)=if neg then(if zm l<=9223372036854775808 then .ok (-(zm l:Int))else .range)else(if zm l<=9223372036854775807 then .ok (zm l:Int)else .range):=by
 have n:zm l<10 ^ 19:=zjf k e;have i:=zrj l 0 e (by rw[Eb];omega);rw[Eb,AI]at i;cases neg with
 |true=>simp only[if_true,List.singleton_append];unfold parseIntB;simp only[show(45:UInt8).toNat=45 from rfl,or_true,if_true];unfold parseUintB;rw[if_neg b,i];simp only[not_true_eq_false,false_and,if_false,true_and];split;rename_i h;rw[if_neg (by omega)];rename_i h;rw[if_pos (by omega)]
 |false=>
  simp only[Bc,if_false,A5];obtain⟨c,t,rfl⟩:=Bq b;have m:48<=c.toNat/\c.toNat<=57:=by rw[DJ,Ap]at e;simpa[ja]using e.1
  unfold parseIntB;simp only;rw[if_neg (by omega)];unfold parseUintB;rw[if_neg (by simp),i];have f:¬c.toNat=45:=by omega
  simp only[f,not_false_eq_true,true_and,false_and,if_false];split;rename_i h;rw[if_neg (by omega)];rename_i h;rw[if_pos (by omega)]
theorem qkz{a b:Nat}(k:a<18446744073709551616)(l:b<18446744073709551616):Aa .u64 (((BX (Bj .u64) (a:Int)) &&& (BX (Bj .u64) (b:Int))).toNat:Int)=((a &&& b:Nat):Int):=by
 have c:Bj .u64=64:=rfl;have e:((BX (Bj .u64) (a:Int)) &&& (BX (Bj .u64) (b:Int))).toNat=a &&& b:=by rw[BitVec.toNat_and,BitVec.ofInt_natCast,BitVec.ofInt_natCast,BitVec.toNat_ofNat,BitVec.toNat_ofNat,c,Nat.mod_eq_of_lt (by omega),Nat.mod_eq_of_lt (by omega)]
 rw[e];have h:a &&& b<2 ^ 64:=Nat.and_lt_two_pow _ (by omega);unfold Aa;have i:(2:Int) ^ Bj .u64=18446744073709551616:=by decide
 simp only[i];have f:DT .u64=Tc:=rfl;simp only[f,Eg,Bc,if_false];omega
theorem qev{n:Int}(h1:0<=n)(e:n<18446744073709551616):Aa .u64 n=n:=by
 unfold Aa;have b:(2:Int) ^ Bj .u64=18446744073709551616:=by decide
 simp only[b];have c:DT .u64=Tc:=rfl;simp only[c,Eg,Bc,if_false];omega
end
section
variable {v x:Tr} {l:List Tr} {k:Nat}
mutual
def tsz:Tr->Nat | .mk _ _ _ xs=>1+w9 xs
def w9:List Tr->Nat | []=>0|x::l=>tsz x+w9 l
end
mutual
def tdp:Tr->Nat | .mk _ _ _ xs=>Xj xs+1
def Xj:List Tr->Nat | []=>0|x::l=>max (tdp x) (Xj l)
end
mutual
def Q8(p:Tr->Bool):Tr->Bool | .mk k s ks xs=>p (.mk k s ks xs)&&zeh p xs
def zeh(p:Tr->Bool):List Tr->Bool | []=>Ta|x::l=>Q8 p x&&zeh p l
end
mutual
def txB(m:Nat):Tr->Prop | .mk _ s ks xs=>(s.size<=m/\ks.length<=m/\∀k∈ks,k.size<=m)/\zn6 m xs
def zn6(m:Nat):List Tr->Prop | []=>True|x::l=>txB m x/\zn6 m l
end
theorem yh(v:Tr):tsz v=1+w9 v.items:=by cases v;rw[tsz]
theorem zji(v:Tr):tdp v=Xj v.items+1:=by cases v;rw[tdp]
theorem y0(p:Tr->Bool)(v:Tr):Q8 p v=(p v&&zeh p v.items):=by cases v;rw[Q8]
theorem zmd(m:Nat)(v:Tr):txB m v↔(v.text.size<=m/\v.keys.length<=m/\∀k∈v.keys,k.size<=m)/\zn6 m v.items:=by cases v;rw[txB]
theorem zhs{m:Nat}:∀{l:List Tr},zn6 m l↔∀x∈l,txB m x
 |[]=>by simp[zn6]
 |x::l=>by rw[zn6,zhs];simp
theorem qam{m:Nat}(h:txB m v)(b:x∈v.items):txB m x:=zhs.1 ((zmd m v).1 h).2 x b
theorem jk(p:Tr->Bool):∀l:List Tr,zeh p l=l.all (Q8 p)
 |[]=>rfl
 |x::l=>by rw[zeh,jk p l];rfl
theorem zcl:∀a b:List Tr,w9 (a++b)=w9 a+w9 b
 |[],b=>by simp[w9]
 |x::l,b=>by rw[AD,w9,w9,zcl l b];omega
theorem zjj:∀a b:List Tr,Xj (a++b)=max (Xj a) (Xj b)
 |[],b=>by simp[Xj]
 |x::l,b=>by rw[AD,Xj,Xj,zjj l b];omega
theorem zw4{x:Tr}:∀{l:List Tr},x∈l->tsz x<=w9 l
 |y::l,h=>by rw[w9];rcases Ah.1 h with rfl|h;omega;have:=zw4 h;omega
theorem yd(h:x∈v.items):tsz x<tsz v:=by have:=zw4 h;rw[yh v];omega
theorem Qd:∀l:List Tr,l.length<=w9 l
 |[]=>by simp[w9]
 |x::l=>by have:=Qd l;rw[w9,Aq,yh];omega
theorem Q2(v:Tr):0<tsz v:=by rw[yh];omega
theorem z4g(b:k<l.length):w9 (l.take (k+1))=w9 (l.take k)+tsz l[k]:=by rw[Aw b,zcl];simp[w9]
theorem z4h(b:k<l.length):Xj (l.take (k+1))=max (Xj (l.take k)) (tdp l[k]):=by rw[Aw b,zjj];simp[Xj]
mutual
theorem qhv:∀v:Tr,tdp v<=tsz v
 |.mk _ _ _ xs=>by rw[tdp,tsz];have:=zut xs;omega
theorem zut:∀l:List Tr,Xj l<=w9 l
 |[]=>by simp[Xj]
 |x::l=>by rw[Xj,w9];have:=qhv x;have:=zut l;omega
end
def wh(ks:List Bt):Bool:=ks.all (λk=>Z4 (lb k))&&decide ks.Nodup
def zz4(s:Bs):Nm×Bool:=((zj s).1,(zj s).2==0&&decide (qm (zj s).1=s))
def z4i(s:Bs):Bool:=(zz4 s).2&&(qak (zz4 s).1).2&&decide (0<=(qak (zz4 s).1).1)
def zn(v:Tr):Bool:=
 if v.kind=1 then lb v.text==[]&&v.keys.isEmpty&&v.items.isEmpty
 else if v.kind=2 then(lb v.text==[116,114,117,101]||lb v.text==[102,97,108,115,101])&&v.keys.isEmpty&&v.items.isEmpty
 else if v.kind=3 then(zz4 (lb v.text)).2&&v.keys.isEmpty&&v.items.isEmpty
 else if v.kind=4 then Z4 (lb v.text)&&v.keys.isEmpty&&v.items.isEmpty
 else if v.kind=5 then lb v.text==[]&&v.keys.isEmpty
 else if v.kind=6 then wh v.keys&&decide (v.keys.length=v.items.length)&&lb v.text==[]
 else if v.kind=7 then z4i (lb v.text)&&v.keys.isEmpty&&v.items.isEmpty
 else Tc
def Zf(v:Tr):Bool:=decide (tsz v<=4096)&&decide (tdp v<=32)
def Zx(v:Tr):Bool:=Zf v&&Q8 zn v
def qa(v:Tr):Bool:=Zf v&&Q8 (λx=>decide (x.kind≠7)&&zn x) v
structure Sm (v:Tr):Prop where
 sz:tsz v<=1000000000000
 tx:txB 1048576 v
theorem Sm.item(h:Sm v)(b:x∈v.items):Sm x:=⟨by have:=yd b;have:=h.sz;omega,qam h.tx b⟩
theorem Sm.text(h:Sm v):(lb v.text).length<=1048576:=by rw[zi6];exact((zmd _ v).1 h.tx).1.1
theorem Sm.key(h:Sm v){k:Bt}(b:k∈v.keys):(lb k).length<=1048576:=by rw[zi6];exact((zmd _ v).1 h.tx).1.2.2 k b
theorem Sm.items(h:Sm v):v.items.length<=1000000000000:=by have:=Qd v.items;have:=h.sz;rw[yh]at this;omega
end
end Go.X
end
section
namespace Go.X
section
variable {gl:Fr} {l:Bs}
theorem zw5(t:Tabs gl)(y:l.length<=4611686018427387904){R:Int×Bool->Prop}(h:∀k,R (k,Z4 l)):PC Tp gl 80 [Arg.mk .str (bl l)] [.int .i64,.bool] R:=by
 apply zku;refine zk4 t y ⟨λo=>?_,λo=>?_⟩;have:=h ((bl l).size:Int);rw[o]at this;exact this;refine⟨λp=>p.1=bl l/\p.2<=l.length/\Z4 (l.drop p.2)=Tc,λp=>l.length-p.2,⟨rfl,by omega,by simpa using o⟩,?_⟩;rintro⟨_,p⟩ ⟨rfl,z,f⟩;simp only at z f ⊢;rw[zre,zrf];refine⟨λm=>⟨m,m,λq=>?_,λq=>⟨?_,?_⟩⟩,λm=>?_⟩;have c:p<l.length:=by simpa using m
 have b:l.drop p≠[]:=λe=>by have:=congrArg Ct e;simp at this;omega
 have s:zkl (dec (l.drop p))=Tc:=by
  unfold zkl;have:¬(dec (l.drop p)).1=65533:=λe=>by rw[e]at q;simp at q
  simp[this]
 rw[Zw b,s]at f;simp only[Bc,if_false,BU]at f;rw[zja l p c];have u:=wo (l.drop p);have n:=zw0 b;simp only[AH]at n;exact⟨⟨trivial,by omega,f⟩,by omega⟩;have c:p<l.length:=by simpa using m
 rw[zf];omega;have c:p<l.length:=by simpa using m
 have b:l.drop p≠[]:=λe=>by have:=congrArg Ct e;simp at this;omega
 rw[zf,qgp (k:=p) rfl];refine zrb t ?_;have r:(bl (l.drop p)).size≠0:=by rw[zf];simp;omega
 have x:Lib.decodeGo (bl (l.drop p))=dec (l.drop p):=by unfold Lib.decodeGo;rw[if_neg r,zwz,yg,BZ]
 rw[x];refine⟨λi=>?_,λi=>?_⟩;have:=h (p:Int);have w:Z4 l=Tc:=o;rw[w]at this;exact this;have s:zkl (dec (l.drop p))=Tc:=by
  unfold zkl;have:¬(dec (l.drop p)).2=1:=λe=>by rw[e]at i;simp at i
  simp[this]
 rw[Zw b,s]at f;simp only[Bc,if_false,BU]at f;rw[zja l p c];have u:=wo (l.drop p);have n:=zw0 b;simp only[AH]at n;exact⟨⟨trivial,by omega,f⟩,by omega⟩;have:l.drop p=[]:=Br (by(have:¬p<l.length:=by simpa using m);omega);rw[this,Yp]at f;cases f
theorem zrk(b:Tabs gl)(c:l.length<=4611686018427387904){R:Bool->Prop}(h:R (Z4 l)):PC Tp gl 166 [Arg.mk .str (bl l)] [.bool] R:=by apply zkx;exact zw5 b c λk=>h
structure GL (gl:Fr):Prop where
 tabs:Tabs gl
 pow:Pow gl
 max:qck gl
 err:zun gl
theorem Yr(s:Bs)(h:s.length<=1152921504606846976):(zj s).1.2.1.length<=4611686018427387904:=by
 unfold zj;split;simp;rename_i x b;have h1:=zmb b;split;simp;split;simp;simp only;generalize (if x.low=Ta then-(zm (x.exp.dropWhile (· == 48)):Int)else zm (x.exp.dropWhile (· == 48)))=e;split;simp;rename_i c;have f:(yp (x.whole++x.rest)).length<=(x.whole++x.rest).length:=by unfold yp;rw[List.length_reverse];refine Ck (xt _ _) ?_;rw[List.length_reverse];exact xt _ _
 rw[Ag]at f;split;show(yp (x.whole++x.rest)).length<=_;omega;simp
theorem zcm(f:GL gl){s:Bs}(b:s.length<=1152921504606846976){R:(Bool×Bt×Int)×Bool->Prop}(h:R (nmB (zz4 s).1,(zz4 s).2)):PC Tp gl 165 [Arg.mk .str (bl s)] [tN,.bool] R:=by
 apply zg5;refine zhr b ?_;refine⟨λt=>t=bl (qm (zj s).1),λ_=>zur f.pow (Yr s b) rfl,λr c=>?_⟩;have e:(bif ((zj s).2==0)then(r.toList==(bl s).toList)else Tc)=(zz4 s).2:=by
  unfold zz4;cases hc:((zj s).2==0)with
  |false=>rfl
  |true=>rw[c hc,cond_true,zg8];rfl
 simp only at e ⊢;rw[e];exact h
theorem qew(n:Nat):Lib.repeatL [48] n=BE n 48:=by
 induction n with
 |zero=>rfl
 |succ n b=>rw[Lib.repeatL,b];rfl
theorem qhw(B:GL gl){n:Nm}(C:n.2.1.length<=4611686018427387904){R:Int×Bool->Prop}(h:R (qak n)):PC Tp gl 234 [Arg.mk tN (nmB n)] [.int .i64,.bool] R:=by
 apply znr;refine zn4 C ?_;unfold qak at h;cases hr:yo n with
 |false=>rw[hr]at h;exact⟨λ_=>by simpa using h,λq=>by simp at q⟩
 |true=>
  obtain⟨F,y,D⟩:=zcj hr;rw[hr]at h;simp only[Cs]at h;simp only[zf];rw[w64 (by omega)];refine⟨λq=>?_,λq=>?_⟩;rw[if_neg]at h;exact h;simp at q ⊢;omega;have E:0<=n.2.2/\(n.2.1.length:Int)+n.2.2<=19:=by simp at q;omega
  rw[if_pos (by simp;omega)]at h;rw[<-zz2]at h;obtain⟨e,x⟩:∃e:Nat,n.2.2=(e:Int):=⟨n.2.2.toNat,by omega⟩;show PC Tp gl 86 [Arg.mk .str (bl [48]),Arg.mk (.int .i64) n.2.2] [.str] _;rw[x];refine zi8 (by omega) (by rw[zf];simp;omega) ?_;rw[yg,qew,wq];have k:n.2.1++BE e 48=Jj n:=by rw[Jj,x,Ai]
  have m:(Jj n).length<=19:=by rw[<-k];simp;omega
  have u:=zz3 hr;rw[k];refine⟨zz1 (a:=n.2.1) (by rw[CI];omega),?_⟩;rw[show(⟨#[]⟩:Bt)=bl []from rfl,show(⟨#[45]⟩:Bt)=bl [45]from rfl];simp only[wq];intro K z;have key:∀t:Bs,t=(if n.1 then [45]else [])++Jj n->K (bl t):=by
   intro t c;refine z _ ⟨λl=>?_,λl=>?_⟩;have w:t=[]:=by have:=zg8 t [];rw[this]at l;simpa using l
   rw[w]at c;have p:n.1=Tc:=by cases hb:n.1 <;> simp[hb]at c;rfl
   have i:Jj n=[]:=by simp[p]at c;exact c
   rw[p,i]at h;exact h;have o:t≠[]:=by intro e;rw[e,zg8]at l;simp at l
   refine zup B.err (by rw[zf,c];split <;> simp <;> omega) ?_;rw[yg,c];have i:Jj n≠[]:=by
    intro s;cases hb:n.1 with
    |false=>rw[c,hb,s]at o;exact o rfl
    |true=>
     have A:n.2.1=[]:=by rw[Jj]at s;exact(List.append_eq_nil_iff.1 s).1
     have:=zjb hr A;unfold zac at this;rw[hb]at this;simp at this
   unfold zi9;rw[z4f n.1 u m i];cases hb:n.1 with
   |true=>rw[hb]at h;simp only[if_true]at h ⊢;by_cases r:zm (Jj n)<=9223372036854775808;rw[if_pos (by omega)]at h;rw[if_pos r];exact⟨λb=>(by cases b),λ_=>h⟩;rw[if_neg (by omega)]at h;rw[if_neg r];exact⟨λ_=>h,λb=>(by cases b)⟩
   |false=>rw[hb]at h;simp only[Bc,if_false]at h ⊢;by_cases r:zm (Jj n)<=9223372036854775807;rw[if_pos (by omega)]at h;rw[if_pos r];exact⟨λb=>(by cases b),λ_=>h⟩;rw[if_neg (by omega)]at h;rw[if_neg r];exact⟨λ_=>h,λb=>(by cases b)⟩
  refine⟨λf=>⟨zz1 (a:=[45]) (by simp;omega),?_⟩,λf=>?_⟩;exact key _ (by rw[if_pos (by simpa using f)]);exact key _ (by rw[if_neg (by simpa using f)];rfl)
end
end Go.X
end
section
namespace Go.Proofs.YtjohlemfgcmaoaaGreatDoor
open Go Go.X Go.ChangeShapes Go.WideShapes Go.ChangeAt Go.RowKit Go.Lib
open Go.ChangeMaps (open_string shut_string)
set_option linter.unusedVariables false
section
variable {H:Type} {g:Nat} {t:TypeId}
theorem Tryz.own:ownKnob A0.godebug=none:=by kernel_rfl
theorem Tryz.laidOut:laidOutB A0=true:=by kernel_rfl
theorem zn7{enc:TypeId×Value->H}{a:Assume}{C:Checked}{os:Os}{f:FuncId}{fn:Func}{s:ChangeSpec}{m:List PathCond}{apart p h o:Bool}{X:World->Array Value->Prop} (M:∀(w w':World) (args:Array Value),w.heap=w'.heap->X w args->X w' args) (own:ownKnob C.prog.godebug=none) (l:os.Started) (q:C.prog.inits.idxOf? f=none) (B:C.prog.funcs[f]?=some fn) (n:∃(w:World) (b:Tape) (i:Input),w.os=os/\(w.forCall b i).Shaped C.prog/\i.vars=[]/\Input.okWide C.prog (w.forCall b i) .any w.heap.size f i /\ ((s.pre enc C.prog fn m apart (w.forCall b i).memory i.args/\X (w.forCall b i).memory i.args)/\sizedMet enc C.prog fn (OpenSpec.ofChange s) apart (w.forCall b i).memory i.args)/\a.holds C.prog (lone (Frame.enter C.prog f i.args .normal) [] (w.forCall b i))) (k:∀(W:World) (base:Nat) (args:Array Value) (y z:List (DataW H)) (c:List MemPlace),(∀(j:Nat) t v,fn.params[j]?=some t->args[j]?=some v->Value.okWide C.prog W .any base t v) -> DataW.Whole enc C.prog fn.params.toList s.vars apart W args.toList y z c -> (DataW.weightsEach C.prog (fn.params.toList++s.plain.varTypes C.prog) (y++z)).all (·<=reachBytes)=true -> X W args->W.ShapedOpen C.prog -> Calls C.prog f args W λe J=>∃v,e=.returned v/\s.post enc C.prog fn apart p h o W args v J):
  ReturnsInHanded a C os f .any (λw args=>(s.pre enc C.prog fn m apart w args/\X w args)/\sizedMet enc C.prog fn (OpenSpec.ofChange s) apart w args) (s.post enc C.prog fn apart p h o):=by
 refine returnsInHanded_of_calls own l q n ?_;intro w b i _ D _ G u A;obtain⟨_,_,_,E,r,_,_,_,_,x⟩:=G;have e:E=fn:=Az (r.symm.trans B);subst e;obtain⟨⟨⟨y,z,c,I,Q⟩,N⟩,L⟩:=u;have F:=DataW.Whole.of_heap (w':=w.forCall b i) (by rfl) I;refine(k (w.forCall b i) w.heap.size i.args y z c x F (L.weights I) (M _ _ _ (by rfl) N) D).mono λe J ⟨v,O,P⟩=>?_;subst O;exact ChangeSpec.post_blind P
theorem z4j{P:Program}{W:World}{n:String}{k:IntKind}{o:List Int}{t e:TypeId}{m:Nat}(q:P.globalNamed n=some g)(r:(P.globals[g]?).map (·.type)=some t)(s:P.underlying t=some (.array m e))(w:P.underlying e=some (.int k))
  (i:P.cellsOf e=1) (c:P.cellsOf t=m) (h:VarReads P W n (tabData k o)):∃cs:Array Value,Fz W g=some cs/\cs.toList=o.map λz=>Bm k z:=by
 obtain⟨g',t',cs,fuel,p,l,f,b,u⟩:=h;obtain rfl:=Az (q.symm.trans l);obtain rfl:=Az (r.symm.trans f);exact⟨cs,Fz.var q b,cells_of_tab s w i c u⟩
theorem qan{W : World}(h : VarReads Tryz.prog W "unicode/utf8.first" Pinned.utf8First): ∃ cs : Array Value, Fz W 0 = some cs ∧ ∀ c, c < 256 → cs[c]? = some (.int .u8 (Lib.firstT c)) := by rw[Pinned.utf8First_eq]at h;obtain⟨cs,h1,h2⟩:=z4j (g:=0) (t:=230) (e:=5) (m:=256) (by kernel_rfl) (by kernel_rfl) (by kernel_rfl) (by kernel_rfl) (by kernel_rfl) (by kernel_rfl) h;refine⟨cs,h1,λc hc=>?_⟩;rw[<-Array.getElem?_toList,h2];simp[firstTab,hc]
theorem z4k{W : World}(h : VarReads Tryz.prog W "unicode/utf8.acceptRanges" acceptData): ∃ cs : Array Value, Fz W 1 = some cs ∧ ∀ i, i < 16 → cs[2 * i]? = some (.int .u8 (Lib.accLo i)) ∧ cs[2 * i + 1]? = some (.int .u8 (Lib.accHi i)) := by
 obtain⟨g,t,cs,fuel,p,hg,hty,hvar,hd⟩:=h;obtain rfl := Option.some.inj ((show Tryz.prog.globalNamed "unicode/utf8.acceptRanges" = some 1 by kernel_rfl).symm.trans hg);obtain rfl:=Option.some.inj ((show(Tryz.prog.globals[1]?).map (·.type)=some 233 by kernel_rfl).symm.trans hty);refine⟨cs,Fz.var hg hvar,λi hi=>?_⟩;obtain⟨fuel',d,q,hdi,he⟩:=array_elem (show Tryz.prog.underlying 233=some (.array 16 232)by kernel_rfl) hd i hi;simp only[List.getElem?_map,List.getElem?_range hi,Option.map_some,Option.some.injEq]at hdi;subst hdi;have hc:Tryz.prog.cellsOf 232=2:=by kernel_rfl
 have c5:A0.cellsOf 5=1:=by kernel_rfl
 have u5:A0.underlying 5=some (.int .u8):=by kernel_rfl
 rw[hc]at he;have hcs:=ints_of_struct Dz (λj f hj=>by
  match j,hj with
  |0,hj=>simp at hj;subst hj;exact⟨u5,rfl,c5⟩
  |1,hj=>simp at hj;subst hj;exact⟨u5,rfl,c5⟩
  |j+2,hj=>simp at hj) (by rw[hc];rfl) he
 have e0:=congrArg (·[0]?) hcs;have e1:=congrArg (·[1]?) hcs;simp only[AJ,A9]at e0 e1;constructor;rw[<-Cj];simpa[Dq]using e0;rw[<-Cj];simpa[Dq]using e1
theorem qhx{W : World}{d : DataW Unit}(hd : d = tabData .u64 Lib.pow10Tab)(h : VarReads Tryz.prog W "internal/strconv.uint64pow10" d): Pow (Fz W) := by subst hd;obtain⟨cs,h1,h2⟩:=z4j (g:=2) (t:=273) (e:=238) (m:=20) (by kernel_rfl) (by kernel_rfl) (by kernel_rfl) (by kernel_rfl) (by kernel_rfl) (by kernel_rfl) h;exact⟨_,cs,by kernel_rfl,h1,by rw[<-h2]⟩
theorem qcn{W:World}{n:String}{ms:Array (String×TypeId)}{l:String}{d:DataW Unit}(k:A0.globalNamed n=some g)(o:(A0.globals[g]?).map (·.type)=some t)(q:A0.underlying t=some (.interface ms))(h:VarReads A0 W n (.iface l d)):
  ∃(cs:Array Value) (e:Value),Fz W g=some cs/\cs[0]?=some e/\(e=.nilIface\/∃s m,e=.iface s m):=by
 obtain⟨g',t',cs,fuel,p,i,c,b,r⟩:=h;obtain rfl:=Az (k.symm.trans i);obtain rfl:=Az (o.symm.trans c);obtain⟨w,u,v,f,_,_⟩:=iface_of_trod q r;exact⟨cs,.iface u v,Fz.var k b,by rw[<-Cj,f];rfl,.inr ⟨u,v,rfl⟩⟩
theorem qhy{W:World}(h:W.ShapedOpen A0):qck (Fz W):=by obtain⟨m,f⟩:=cell_of_shapedOpen_int (P:=A0) (g:=3) (t:=3) (zero:=#[.int .i64 0]) (k:=.i64) h (by decide +kernel) (by kernel_rfl) rfl (by kernel_rfl) (by kernel_rfl) (by kernel_rfl);obtain⟨b,o,c,e,h1,i⟩:=Fz.cell f;cases e;exact⟨c,m,h1,i⟩
def zjk:List (String×DataW Unit):=Rows.readReadsRow.laid
theorem qk0{W:World}(h:laidMetH A0 zjk W)(c:W.ShapedOpen A0):GL (Fz W):=by
 have f:laidMet A0 zjk W:=by rw[MakeChecks.laidMetH_plain _ _ _ (by kernel_rfl)]at h;exact h
 have b:∀(i:Nat) (n:String) (d:DataW Unit),zjk[i]?=some (n,d)->VarReads A0 W n d:=λi n d e=>Go.Lib.laidMet.reads f (BD e);exact {
  tabs:=⟨qan (b 6 _ _ rfl),z4k (by
   have e:(Rows.laid_unicode_utf8_acceptRanges:DataW Unit)=acceptData:=by kernel_rfl
   rw[<-e];exact b 3 _ _ rfl)⟩
  pow:=qhx (by kernel_rfl) (b 2 _ _ rfl)
  max:=qhy c
  err:=⟨qcn (g:=4) (t:=114) (by kernel_rfl) (by kernel_rfl) Tryz.underlying114 (b 5 _ _ rfl),qcn (g:=5) (t:=114) (by kernel_rfl) (by kernel_rfl) Tryz.underlying114 (b 4 _ _ rfl)⟩ }
noncomputable def qk1(os:Os):World:=World.laidAll A0 os zjk
theorem zuu(os:Os)(args:Array Value):((qk1 os).forCall (λ_ _=>0) ⟨#[],args,[]⟩).Shaped A0:=World.shaped_of_ZipB (by kernel_rfl) (by kernel_rfl)
theorem qao(os:Os)(args:Array Value):laidMetH A0 zjk ((qk1 os).forCall (λ_ _=>0) ⟨#[],args,[]⟩).memory:=by rw[MakeChecks.laidMetH_plain _ _ _ (by kernel_rfl)];exact laidMet_laidAll _ (by kernel_rfl) (by kernel_rfl)
theorem qex{enc:TypeId×Value->H}{W:World}{sp:Nat->Bool}{held:Bool}(fuel:Nat)(cs:List Value)(x:DataW H×List MemPlace)(h:DataW.trod enc A0 W 0 sp held fuel 26 cs=some x)(b:zuk A0 26 x.1):∃t:Tr,Rd (Fz W) .tree t cs:= qeq (tk:=3) (ts:=9) (tss:=23) (tvs:=24) Tryz.underlying26 (by kernel_rfl) ⟨rfl,rfl,rfl,rfl,rfl,rfl,rfl,rfl⟩ (by kernel_rfl) (by kernel_rfl) (by kernel_rfl) (by kernel_rfl) (by kernel_rfl) (by kernel_rfl) (by kernel_rfl) (by kernel_rfl) (by decide +kernel) (by decide +kernel) fuel cs x h b
theorem qap{ts:List TypeId}{b:List (DataW H)}(h:(DataW.weightsEach A0 ts b).all (·<=reachBytes)=true){j:Nat}{d:DataW H}(e:ts[j]?=some t)(f:b[j]?=some d):zuk A0 t d:=λn c=>by have:=Av.1 h n (DataW.weights_mem_each e f n c);simpa using this
end
end Go.Proofs.YtjohlemfgcmaoaaGreatDoor
end
section
namespace Go.X
section
theorem XF{vs:List Value}{f:FuncId}{fn:Func}{h:zb}{R:Value->zb->Prop}{F:Prop}(pl:Plan)(rs:List ResultVar)(n:Nat)(l:A0.funcs[f]?=Td fn)(H:F)(k:Qu fn=Ta:=by kernel_rfl)(b:fn.results.toList=rs:=by kernel_rfl)(c:fn.ntmps=n:=by kernel_rfl)(i:Nat.ble vs.length n=Ta:=by kernel_rfl)(e:F=W Tp n pl (codeOf fn) (qjp Tp rs R) (z1s 0 vs) h:=by kernel_rfl):XC Tp f vs.toArray h R:=zy3 Tryz.mixed pl vs l k b c i (Eq.mp e H)
theorem zbg(f:Int)(e:Int)(h:zb)(R:Value->zb->Prop) (H:XC Tp 154 #[.int .i64 f,.int .i64 e] h (λa b=>∃c,a=.string c/\R (.string c) b)):
  XC Tp 84 #[.int .i64 f,.int .i64 e] h R:=
 XF ⟨[],[],[]⟩ [.tmp 4] 8 Tryz.func84 H
theorem Zd(x0:Int)(h:zb)(R:Value->zb->Prop) (H:R (.bool ((Aa .i64 (((BX (Bj .i64) x0) &&& (BX (Bj .i64) (Aa .i64 (x0-1)))).toNat:Int):Int)==0)) h):
  XC Tp 273 #[.int .i64 x0] h R:=
 XF ⟨[],[],[]⟩ [.tmp 2] 8 Tryz.func273 H
theorem Ye(x0:Int)(h:zb)(R:Value->zb->Prop) (H:(Tc=Ta->XC Tp 303 #[.int .u32 (Aa .u32 x0)] h (λa b=>∃c,a=.int .i64 c/\R (.int .i64 c) b))/\(Tc=Tc->XC Tp 304 #[.int .u64 x0] h (λd e=>∃f,d=.int .i64 f/\R (.int .i64 f) e))):
  XC Tp 274 #[.int .u64 x0] h R:=
 XF ⟨[],[],[]⟩ [.tmp 2] 8 Tryz.func274 H
theorem Qe(x0:Int)(h:zb)(R:Value->zb->Prop) (H:((x0==0)=Ta->R (.int .i64 64) h)/\((x0==0)=Tc->∃a:Addr,(Td ⟨7,0,Te⟩=Td a/\0<=((Aa .u64 ((Aa .u64 (((BX (Bj .u64) x0) &&& (BX (Bj .u64) (Aa .u64 (0-x0)))).toNat:Int))*285870213051353865):Int).fdiv (2 ^ 58):Int)/\((Aa .u64 ((Aa .u64 (((BX (Bj .u64) x0) &&& (BX (Bj .u64) (Aa .u64 (0-x0)))).toNat:Int))*285870213051353865):Int).fdiv (2 ^ 58):Int)<((64:Nat):Int))/\∃b,zc h (a.add (((Aa .u64 ((Aa .u64 (((BX (Bj .u64) x0) &&& (BX (Bj .u64) (Aa .u64 (0-x0)))).toNat:Int))*285870213051353865):Int).fdiv (2 ^ 58):Int).toNat*1))=Td (.int .u8 b)/\R (.int .i64 (Aa .i64 b)) h)):
  XC Tp 304 #[.int .u64 x0] h R:=
 XF ⟨[],[],[]⟩ [.tmp 2] 14 Tryz.func304 H
theorem zjl(c0:Int)(h:zb)(R:Value->zb->Prop) (H:∀a:Bool->zb->Prop,(∀b:Bool,∀c:zb,((b=Ta->R (.int .u8 (Aa .u8 c0)) c)/\(b=Tc->((c0==8)=Ta->R (.int .u8 98) c)/\((c0==8)=Tc->((c0==12)=Ta->R (.int .u8 102) c)/\((c0==12)=Tc->((c0==10)=Ta->R (.int .u8 110) c)/\((c0==10)=Tc->((c0==13)=Ta->R (.int .u8 114) c)/\((c0==13)=Tc->((c0==9)=Ta->R (.int .u8 116) c)/\((c0==9)=Tc->R (.int .u8 0) c)))))))->a b c)->((c0==34)=Ta->a (c0==34) h)/\((c0==34)=Tc->a (c0==92) h)):
  XC Tp 82 #[.int .i32 c0] h R:=
 XF ⟨[],[],[(4,[(4,.one (.bool))])]⟩ [.tmp 2] 19 Tryz.func82 H
end
section
theorem zn8(s0:Bt)(h:zb)(R:Value->zb->Prop) (H:let b:=h.push (.cells #[.string (⟨#[]⟩:Bt),.slice Te 0 0] 36);XC Tp 60 #[.string s0] b (λc d=>∃e f g,c=.tuple #[slV e,.int .i64 f,.int .i64 g]/\((g != 0)=Ta->XRunU Tp (Af 36 (.pointer (Td ⟨h.size,0,Te⟩)) (.agg #[.string (⟨#[]⟩:Bt),.slice Te 0 0])) d (λi=>∃j k,zd i ⟨h.size,0,Te⟩ 0 [.string j,slV k]/\R (.tuple #[.agg #[.string j,slV k],.int .i64 f,.int .i64 g]) i))/\((g != 0)=Tc->let l:=d.push (.cells #[.string s0,.slice Te 0 0,.int .i64 0,.int .i64 0,.slice Te 0 0,.int .i64 0,.int .i64 0] 88);∃(m:Int->zb->Prop) (n:Int->zb->Nat),m 0 l/\∀o:Int,∀p:zb,m o p->((decide (o<e.len)=Ta->∃q,(e.a=Td q/\0<=o/\o<e.len)/\∃r s t,zd p (q.add (o.toNat*3)) 0 [.int .i64 r,.int .i64 s,.int .i64 t]/\let u:=p.push (.cells #[.int .i64 0,.int .i64 0,.int .i64 0] 90);XRunU Tp (Af 90 (.pointer (Td ⟨p.size,0,Te⟩)) (.agg #[.int .i64 r,.int .i64 s,.int .i64 t])) u (λv=>∃w,zc v (Ad ⟨p.size,0,Te⟩ 0)=Td (.int .i64 w)/\((w != 1)=Ta->∃x:Addr,Td ⟨d.size,0,Te⟩=Td x/\∃y,zc v (Ad x 1)=Td (slV y)/\∃z A B,zd v ⟨p.size,0,Te⟩ 0 [.int .i64 z,.int .i64 A,.int .i64 B]/\let C:=v.push (.cells #[.int .i64 z,.int .i64 A,.int .i64 B] 90);(C)[((Ad x 1):Addr).block]?=(v)[((Ad x 1):Addr).block]?/\XRun Tp (Au #[83,83] 83 #[slV y,.slice (Td ⟨v.size,0,Te⟩) 1 1]) C (λD E=>∃F,D=slV F/\∃G:Addr,Td ⟨d.size,0,Te⟩=Td G/\XRunU Tp (Af 83 (.pointer (Td (Ad G 1))) (slV F)) E (λI=>(m (Aa .i64 (o+1)) I/\n (Aa .i64 (o+1)) I<n o p))))/\((w != 1)=Tc->(m (Aa .i64 (o+1)) v/\n (Aa .i64 (o+1)) v<n o p))))/\(decide (o<e.len)=Tc->XC Tp 61 #[.pointer (Td ⟨d.size,0,Te⟩),.int .i64 1,.agg #[.int .i64 0,.int .i64 0]] p (λJ L=>∃M,J=.bool M/\∀N:Bool->zb->Prop,(∀O:Bool,∀P:zb,(((!O)=Ta->∃Q:Addr,Td ⟨d.size,0,Te⟩=Td Q/\∃S,zc P (Ad Q 5)=Td (.int .i64 S)/\∃T:Addr,Td ⟨d.size,0,Te⟩=Td T/\∃U,zc P (Ad T 6)=Td (.int .i64 U)/\(P)[((Ad T 6):Addr).block]?=(P)[((Ad T 6):Addr).block]?/\(P)[((Ad Q 5):Addr).block]?=(P)[((Ad Q 5):Addr).block]?/\XRunU Tp (Af 36 (.pointer (Td ⟨h.size,0,Te⟩)) (.agg #[.string (⟨#[]⟩:Bt),.slice Te 0 0])) P (λV=>(V)[((Ad T 6):Addr).block]?=(P)[((Ad T 6):Addr).block]?/\(V)[((Ad Q 5):Addr).block]?=(P)[((Ad Q 5):Addr).block]?/\(V)[((Ad T 6):Addr).block]?=(P)[((Ad T 6):Addr).block]?/\∃W X,zd V ⟨h.size,0,Te⟩ 0 [.string W,slV X]/\R (.tuple #[.agg #[.string W,slV X],.int .i64 S,.int .i64 U]) V))/\((!O)=Tc->∃Y:Addr,Td ⟨d.size,0,Te⟩=Td Y/\∃Z,zc P (Ad Y 4)=Td (slV Z)/\XRunU Tp (Af 36 (.pointer (Td ⟨h.size,0,Te⟩)) (.agg #[.string s0,slV Z])) P (λaa=>∃ab ac,zd aa ⟨h.size,0,Te⟩ 0 [.string ab,slV ac]/\R (.tuple #[.agg #[.string ab,slV ac],.int .i64 (s0.size:Int),.int .i64 0]) aa)))->N O P)->∃ad,(M=Ta->Td ⟨d.size,0,Te⟩=Td ad)/\∃ae,(M=Ta->zc L (Ad ad 1)=Td (slV ae))/\((bif M then(decide ((ae.len:Int)>0))else Tc)=Ta->XC Tp 62 #[.pointer (Td ⟨d.size,0,Te⟩),.int .i64 2] L (λaf ag=>∃ah,af=.bool ah/\N ah ag))/\((bif M then(decide ((ae.len:Int)>0))else Tc)=Tc->N M L))))))):
  XC Tp 19 #[.string s0] h R:=
 XF ⟨[(9,8000),(15,8000)],[(6,[(28,.one (.int .i64))])],[(14,[(11,.one (.bool))])]⟩ [.cell 2 36,.tmp 3,.tmp 4] 79 Tryz.func19 H
theorem zk5(s0:Bt)(h:zb)(R:Value->zb->Prop) (H:XC Tp 80 #[.string s0] h (λa b=>∃c d,a=.tuple #[.int .i64 c,.bool d]/\((!d)=Ta->R (.tuple #[.string (⟨#[]⟩:Bt),.int .i64 2]) b)/\((!d)=Tc->let e:=b.push (.cells #[.pointer Te,.slice Te 0 0] 112);XC Tp 81 #[.pointer (Td ⟨b.size,0,Te⟩),.int .u8 34] e (λf g=>∃i:Value,f=i/\let j:=g.push (.stringIter s0 0);∃(k:zb->Prop) (l:zb->Nat),k j/\∀m:zb,k m->(XRun Tp (Di (.pointer (Td ⟨g.size,0,Te⟩)) Ta 0) m (λn o=>(n=.tuple #[.bool Tc]/\(Tc=Ta->False)/\(Tc=Tc->XC Tp 81 #[.pointer (Td ⟨b.size,0,Te⟩),.int .u8 34] o (λp q=>∃r:Value,p=r/\XC Tp 87 #[.pointer (Td ⟨b.size,0,Te⟩)] q (λs t=>∃u,s=.string u/\R (.tuple #[.string u,.int .i64 0]) t))))\/∃v w:Int,n=.tuple #[.bool Ta,.int .i64 v,.int .i32 w]/\(Ta=Ta->XC Tp 82 #[.int .i32 w] o (λx y=>∃z,x=.int .u8 z/\((z != 0)=Ta->XC Tp 81 #[.pointer (Td ⟨b.size,0,Te⟩),.int .u8 92] y (λA B=>∃C:Value,A=C/\XC Tp 81 #[.pointer (Td ⟨b.size,0,Te⟩),.int .u8 z] B (λD E=>∃F:Value,D=F/\(k E/\l E<l m))))/\((z != 0)=Tc->(decide (w>=32)=Ta->XC Tp 83 #[.pointer (Td ⟨b.size,0,Te⟩),.int .i32 w] y (λG I=>∃J,∃L:Value,G=.tuple #[.int .i64 J,L]/\(k I/\l I<l m)))/\(decide (w>=32)=Tc->XC Tp 84 #[.int .i64 (Aa .i64 w),.int .i64 16] y (λM N=>∃O,M=.string O/\XC Tp 86 #[.string (⟨#[48]⟩:Bt),.int .i64 (Aa .i64 (4-(O.size:Int)))] N (λP Q=>∃S,P=.string S/\wl (((⟨#[92,117]⟩:Bt)).size+S.size)/\wl (((⟨#[92,117]⟩:Bt)++S).size+O.size)/\XC Tp 85 #[.pointer (Td ⟨b.size,0,Te⟩),.string (((⟨#[92,117]⟩:Bt)++S)++O)] Q (λT U=>∃V,∃W:Value,T=.tuple #[.int .i64 V,W]/\(k U/\l U<l m))))))))/\(Ta=Tc->XC Tp 81 #[.pointer (Td ⟨b.size,0,Te⟩),.int .u8 34] o (λX Y=>∃Z:Value,X=Z/\XC Tp 87 #[.pointer (Td ⟨b.size,0,Te⟩)] Y (λaa ab=>∃ac,aa=.string ac/\R (.tuple #[.string ac,.int .i64 0]) ab))))))))):
  XC Tp 27 #[.string s0] h R:=
 XF ⟨[],[(7,[])],[]⟩ [.tmp 2,.tmp 3] 48 Tryz.func27 H
theorem zrl(b:Bt)(c:Sl)(k1:Int)(a8:Int)(h:zb)(R:Value->zb->Prop) (H:let d:=h.push (.cells #[.string b,slV c] 36);let e:=d.push (.cells #[.int .i64 0,.string (⟨#[]⟩:Bt),.slice Te 0 0,.slice Te 0 0] 26);∃f,zc e (Ad ⟨h.size,0,Te⟩ 1)=Td (slV f)/\∃g,(f.a=Td g/\0<=k1/\k1<f.len)/\∃i j k l m n o,zd e (g.add (k1.toNat*7)) 0 [.int .i64 i,.int .i64 j,.int .i64 k,.int .i64 l,.int .i64 m,slV n,slV o]/\let p:=e.push (.cells #[.int .i64 0,.int .i64 0,.int .i64 0,.int .i64 0,.int .i64 0,.slice Te 0 0,.slice Te 0 0] 62);XRunU Tp (Af 62 (.pointer (Td ⟨e.size,0,Te⟩)) (.agg #[.int .i64 i,.int .i64 j,.int .i64 k,.int .i64 l,.int .i64 m,slV n,slV o])) p (λq=>∀r:Addr->zb->Prop,(∀s:Addr,∀t:zb,(∃u,zc t (Ad ⟨e.size,0,Te⟩ 5)=Td (slV u)/\∃(v:Int->zb->Prop) (w:Int->zb->Nat),v 0 t/\∀x:Int,∀y:zb,v x y->((decide (x<u.len)=Ta->∃z,zc y (Ad ⟨e.size,0,Te⟩ 5)=Td (slV z)/\∃A,(z.a=Td A/\0<=x/\x<z.len)/\∃B,zc y (A.add (x.toNat*1))=Td (.int .i64 B)/\∃C,((!(decide (B<0)))=Ta->zc y (Ad ⟨h.size,0,Te⟩ 1)=Td (slV C))/\((bif (bif (decide (B<0))then Ta else(decide (B>=C.len)))then Ta else(decide (a8>32)))=Ta->∃D E F G,zd y s 0 [.int .i64 D,.string E,slV F,slV G]/\XRunU Tp (Af 26 (.pointer (Td ⟨d.size,0,Te⟩)) (.agg #[.int .i64 D,.string E,slV F,slV G])) y (λI=>∃J L M N,zd I ⟨d.size,0,Te⟩ 0 [.int .i64 J,.string L,slV M,slV N]/\R (.agg #[.int .i64 J,.string L,slV M,slV N]) I))/\((bif (bif (decide (B<0))then Ta else(decide (B>=C.len)))then Ta else(decide (a8>32)))=Tc->∀O:zb->Prop,(∀P:zb,(∃Q,zc P (Ad s 3)=Td (slV Q)/\∃S T,zd P ⟨h.size,0,Te⟩ 0 [.string S,slV T]/\XC Tp 59 #[.agg #[.string S,slV T],.int .i64 B,.int .i64 (Aa .i64 (a8+1))] P (λU V=>∃W X Y Z,U=.agg #[.int .i64 W,.string X,slV Y,slV Z]/\(V)[((Ad s 3):Addr).block]?=(P)[((Ad s 3):Addr).block]?/\let aa:=V.push (.cells #[.int .i64 W,.string X,slV Y,slV Z] 26);(aa)[((Ad s 3):Addr).block]?=(P)[((Ad s 3):Addr).block]?/\XRun Tp (Au #[24,24] 24 #[slV Q,.slice (Td ⟨V.size,0,Te⟩) 1 1]) aa (λab ac=>∃ae,ab=slV ae/\XRunU Tp (Af 24 (.pointer (Td (Ad s 3))) (slV ae)) ac (λaf=>(v (Aa .i64 (x+1)) af/\w (Aa .i64 (x+1)) af<w x y)))))->O P)->∃ag,zc y (Ad ⟨e.size,0,Te⟩ 0)=Td (.int .i64 ag)/\((ag==6)=Ta->∃ah,zc y (Ad s 2)=Td (slV ah)/\∃ai aj,zd y ⟨h.size,0,Te⟩ 0 [.string ai,slV aj]/\XC Tp 112 #[.agg #[.string ai,slV aj],.int .i64 B] y (λak al=>∃am,ak=.string am/\(al)[((Ad s 2):Addr).block]?=(y)[((Ad s 2):Addr).block]?/\let an:=al.push (.cells #[.string am] 9);(an)[((Ad s 2):Addr).block]?=(y)[((Ad s 2):Addr).block]?/\XRun Tp (Au #[23,23] 23 #[slV ah,.slice (Td ⟨al.size,0,Te⟩) 1 1]) an (λao ap=>∃aq,ao=slV aq/\XRunU Tp (Af 23 (.pointer (Td (Ad s 2))) (slV aq)) ap (λar=>O ar))))/\((ag==6)=Tc->O y)))/\(decide (x<u.len)=Tc->∃au av aw ax,zd y s 0 [.int .i64 au,.string av,slV aw,slV ax]/\XRunU Tp (Af 26 (.pointer (Td ⟨d.size,0,Te⟩)) (.agg #[.int .i64 au,.string av,slV aw,slV ax])) y (λay=>∃az aA aB aC,zd ay ⟨d.size,0,Te⟩ 0 [.int .i64 az,.string aA,slV aB,slV aC]/\R (.agg #[.int .i64 az,.string aA,slV aB,slV aC]) ay))))->r s t)->∃aD,zc q (Ad ⟨e.size,0,Te⟩ 0)=Td (.int .i64 aD)/\∃aE,zc q (Ad ⟨e.size,0,Te⟩ 0)=Td (.int .i64 aE)/\∃aF aG,zd q ⟨h.size,0,Te⟩ 0 [.string aF,slV aG]/\∃aH aI,zd q (Ad ⟨e.size,0,Te⟩ 1) 0 [.int .i64 aH,.int .i64 aI]/\(XC Tp 31 #[.agg #[.string aF,slV aG],.agg #[.int .i64 aH,.int .i64 aI]] q (λaJ aL=>∃aM,aJ=.string aM/\(aL)[((Ad ⟨e.size,0,Te⟩ 0):Addr).block]?=(q)[((Ad ⟨e.size,0,Te⟩ 0):Addr).block]?/\(aL)[((Ad ⟨e.size,0,Te⟩ 0):Addr).block]?=(q)[((Ad ⟨e.size,0,Te⟩ 0):Addr).block]?/\(XC Tp 111 #[.int .i64 aE,.string aM] aL (λaN aO=>∃aP,aN=.string aP/\(aO)[((Ad ⟨e.size,0,Te⟩ 0):Addr).block]?=(q)[((Ad ⟨e.size,0,Te⟩ 0):Addr).block]?/\(let aQ:=aO.push (.cells #[.int .i64 0,.string (⟨#[]⟩:Bt),.slice Te 0 0,.slice Te 0 0] 26);XRunU Tp (Af 26 (.pointer (Td ⟨aO.size,0,Te⟩)) (.agg #[.int .i64 aD,.string aP,.slice Te 0 0,.slice Te 0 0])) aQ (λaS=>r ⟨aO.size,0,Te⟩ aS))/\(let aT:=aO.push (.cells #[.int .i64 0,.string (⟨#[]⟩:Bt),.slice Te 0 0,.slice Te 0 0] 26);(aT)[((Ad ⟨e.size,0,Te⟩ 0):Addr).block]?=(q)[((Ad ⟨e.size,0,Te⟩ 0):Addr).block]?/\XRunU Tp (Af 26 (.pointer (Td ⟨aO.size,0,Te⟩)) (.agg #[.int .i64 aD,.string aP,.slice Te 0 0,.slice Te 0 0])) aT (λaU=>r ⟨aO.size,0,Te⟩ aU))))/\(let aV:=aL.push (.cells #[.int .i64 0,.string (⟨#[]⟩:Bt),.slice Te 0 0,.slice Te 0 0] 26);(aV)[((Ad ⟨e.size,0,Te⟩ 0):Addr).block]?=(q)[((Ad ⟨e.size,0,Te⟩ 0):Addr).block]?/\(aV)[((Ad ⟨e.size,0,Te⟩ 0):Addr).block]?=(q)[((Ad ⟨e.size,0,Te⟩ 0):Addr).block]?/\XC Tp 111 #[.int .i64 aE,.string aM] aV (λaW aX=>∃aY,aW=.string aY/\(aX)[((Ad ⟨e.size,0,Te⟩ 0):Addr).block]?=(q)[((Ad ⟨e.size,0,Te⟩ 0):Addr).block]?/\XRunU Tp (Af 26 (.pointer (Td ⟨aL.size,0,Te⟩)) (.agg #[.int .i64 aD,.string aY,.slice Te 0 0,.slice Te 0 0])) aX (λaZ=>r ⟨aL.size,0,Te⟩ aZ)))))/\(let a0:=q.push (.cells #[.int .i64 0,.string (⟨#[]⟩:Bt),.slice Te 0 0,.slice Te 0 0] 26);(a0)[((Ad ⟨e.size,0,Te⟩ 1):Addr).block]?=(q)[((Ad ⟨e.size,0,Te⟩ 1):Addr).block]?/\(a0)[(⟨h.size,0,Te⟩:Addr).block]?=(q)[(⟨h.size,0,Te⟩:Addr).block]?/\(a0)[((Ad ⟨e.size,0,Te⟩ 0):Addr).block]?=(q)[((Ad ⟨e.size,0,Te⟩ 0):Addr).block]?/\(a0)[((Ad ⟨e.size,0,Te⟩ 0):Addr).block]?=(q)[((Ad ⟨e.size,0,Te⟩ 0):Addr).block]?/\XC Tp 31 #[.agg #[.string aF,slV aG],.agg #[.int .i64 aH,.int .i64 aI]] a0 (λa1 a2=>∃a3,a1=.string a3/\(a2)[((Ad ⟨e.size,0,Te⟩ 0):Addr).block]?=(q)[((Ad ⟨e.size,0,Te⟩ 0):Addr).block]?/\(a2)[((Ad ⟨e.size,0,Te⟩ 0):Addr).block]?=(q)[((Ad ⟨e.size,0,Te⟩ 0):Addr).block]?/\XC Tp 111 #[.int .i64 aE,.string a3] a2 (λa4 a5=>∃a6,a4=.string a6/\(a5)[((Ad ⟨e.size,0,Te⟩ 0):Addr).block]?=(q)[((Ad ⟨e.size,0,Te⟩ 0):Addr).block]?/\XRunU Tp (Af 26 (.pointer (Td ⟨q.size,0,Te⟩)) (.agg #[.int .i64 aD,.string a6,.slice Te 0 0,.slice Te 0 0])) a5 (λa7=>r ⟨q.size,0,Te⟩ a7)))))):
  XC Tp 59 #[.agg #[.string b,.slice c.a c.len c.cap],.int .i64 k1,.int .i64 a8] h R:=
 XF ⟨[(11,8000),(10,8000),(2,8000)],[(4,[(29,.one (.int .i64))])],[(3,[(8,.one (.ad))]),(11,[])]⟩ [.cell 6 26] 74 Tryz.func59 H
theorem Qa(p0:Option Addr)(aC:Int)(b:Int)(c:Int)(h:zb)(R:Value->zb->Prop) (H:let d:=h.push (.cells #[.pointer p0] 86);let e:=d.push (.cells #[.int .i64 b,.int .i64 c] 58);∃f:Option Addr,zc e ⟨h.size,0,Te⟩=Td (.pointer f)/\XC Tp 115 #[.pointer f] e (λg i=>∃j,g=.int .i64 j/\XC Tp 114 #[.int .i64 j] i (λk l=>∃m,k=.int .i64 m/\((m==0)=Ta->∃n:Option Addr,zc l ⟨h.size,0,Te⟩=Td (.pointer n)/\XC Tp 62 #[.pointer n,.int .i64 2] l (λo p=>∃q,o=.bool q/\R (.bool q) p))/\((m==0)=Tc->(decide (aC>32)=Ta->∃r:Option Addr,zc l ⟨h.size,0,Te⟩=Td (.pointer r)/\XC Tp 62 #[.pointer r,.int .i64 5] l (λs t=>∃u,s=.bool u/\R (.bool u) t))/\(decide (aC>32)=Tc->∃v:Option Addr,zc l ⟨h.size,0,Te⟩=Td (.pointer v)/\∃w,v=Td w/\∃x,zc l (Ad w 4)=Td (slV x)/\(((x.len:Int)==4096)=Ta->∃y:Option Addr,zc l ⟨h.size,0,Te⟩=Td (.pointer y)/\XC Tp 62 #[.pointer y,.int .i64 6] l (λz A=>∃B,z=.bool B/\R (.bool B) A))/\(((x.len:Int)==4096)=Tc->∃C:Option Addr,zc l ⟨h.size,0,Te⟩=Td (.pointer C)/\∃D,C=Td D/\∃E,zc l (Ad D 4)=Td (slV E)/\∃F:Option Addr,zc l ⟨h.size,0,Te⟩=Td (.pointer F)/\∃G:Option Addr,zc l ⟨h.size,0,Te⟩=Td (.pointer G)/\∃I,G=Td I/\∃J,zc l (Ad I 4)=Td (slV J)/\∃L:Option Addr,zc l ⟨h.size,0,Te⟩=Td (.pointer L)/\∃M,L=Td M/\∃N,zc l (Ad M 1)=Td (slV N)/\∃O,(N.a=Td O/\0<=(0:Int)/\(0:Int)<(N.len:Int))/\∃P Q,zd l (Ad (O.add ((0:Int).toNat*3)) 1) 0 [.int .i64 P,.int .i64 Q]/\∃S T,zd l ⟨d.size,0,Te⟩ 0 [.int .i64 S,.int .i64 T]/\(l)[((Ad I 4):Addr).block]?=(l)[((Ad I 4):Addr).block]?/\(l)[(⟨h.size,0,Te⟩:Addr).block]?=(l)[(⟨h.size,0,Te⟩:Addr).block]?/\(l)[(⟨h.size,0,Te⟩:Addr).block]?=(l)[(⟨h.size,0,Te⟩:Addr).block]?/\let U:=l.push (.cells #[.int .i64 m,.int .i64 P,.int .i64 Q,.int .i64 S,.int .i64 T,.slice Te 0 0,.slice Te 0 0] 62);(U)[((Ad I 4):Addr).block]?=(l)[((Ad I 4):Addr).block]?/\(U)[(⟨h.size,0,Te⟩:Addr).block]?=(l)[(⟨h.size,0,Te⟩:Addr).block]?/\(U)[(⟨h.size,0,Te⟩:Addr).block]?=(l)[(⟨h.size,0,Te⟩:Addr).block]?/\XRun Tp (Au #[34,34] 34 #[slV J,.slice (Td ⟨l.size,0,Te⟩) 1 1]) U (λV W=>∃X,V=slV X/\∃Y,F=Td Y/\(W)[(⟨h.size,0,Te⟩:Addr).block]?=(l)[(⟨h.size,0,Te⟩:Addr).block]?/\XRunU Tp (Af 34 (.pointer (Td (Ad Y 4))) (slV X)) W (λZ=>∃aa:Option Addr,zc Z ⟨h.size,0,Te⟩=Td (.pointer aa)/\XC Tp 116 #[.pointer aa] Z (λab ac=>ab=.tuple #[]/\∀ad:Bool->zb->Prop,(∀ae:Bool,∀af:zb,(∃ag:Option Addr,zc af ⟨h.size,0,Te⟩=Td (.pointer ag)/\∃ah,ag=Td ah/\∃ai,zc af (Ad ah 4)=Td (slV ai)/\∃aj:Option Addr,zc af ⟨h.size,0,Te⟩=Td (.pointer aj)/\∃ak,aj=Td ak/\∃al,zc af (Ad (Ad ak 2) 1)=Td (.int .i64 al)/\∃am,(ai.a=Td am/\0<=(E.len:Int)/\(E.len:Int)<(ai.len:Int))/\XRunU Tp (Af 3 (.pointer (Td (Ad (Ad (am.add ((E.len:Int).toNat*7)) 1) 1))) (.int .i64 al)) af (λan=>R (.bool ae) an))->ad ae af)->((m==5)=Ta->∃ao:Option Addr,zc ac ⟨h.size,0,Te⟩=Td (.pointer ao)/\∃ap:Option Addr,zc ac ⟨h.size,0,Te⟩=Td (.pointer ap)/\XC Tp 117 #[.pointer ao,.int .i64 (E.len:Int),.int .i64 aC,.int .i64 5,.func (.func 118) #[.pointer ap] #[]] ac (λaq ar=>∃au,aq=.bool au/\ad au ar))/\((m==5)=Tc->((m==6)=Ta->let av:=ac.push (.map #[] 0);let aw:=av.push (.cells #[.map Te] 154);XRunU Tp (Af 154 (.pointer (Td ⟨av.size,0,Te⟩)) (.map (Td ac.size))) aw (λax=>∃ay:Option Addr,zc ax ⟨h.size,0,Te⟩=Td (.pointer ay)/\XC Tp 117 #[.pointer ay,.int .i64 (E.len:Int),.int .i64 aC,.int .i64 3,.func (.func 119) #[] #[.pointer (Td ⟨h.size,0,Te⟩),.pointer (Td ⟨av.size,0,Te⟩)]] ax (λaz aA=>∃aB,az=.bool aB/\ad aB aA)))/\((m==6)=Tc->ad Ta ac))))))))))):
  XC Tp 61 #[.pointer p0,.int .i64 aC,.agg #[.int .i64 b,.int .i64 c]] h R:=
 XF ⟨[(9,8000),(18,8000)],[],[(18,[(9,.one (.bool))])]⟩ [.tmp 6] 90 Tryz.func61 H
theorem zcn(k:Option Addr)(i:Int)(h:zb)(R:Value->zb->Prop) (H:XC Tp 121 #[.pointer k] h (λa b=>∃c,a=.int .i64 c/\∃d,k=Td d/\XRunU Tp (Af 3 (.pointer (Td (Ad d 5))) (.int .i64 c)) b (λe=>∃f,k=Td f/\XRunU Tp (Af 27 (.pointer (Td (Ad f 6))) (.int .i64 i)) e (λg=>R (.bool Tc) g)))):
  XC Tp 62 #[.pointer k,.int .i64 i] h R:=
 XF ⟨[],[],[]⟩ [.tmp 4] 14 Tryz.func62 H
theorem Qf(b0:Option Addr)(p:Int)(h:zb)(R:Value->zb->Prop) (H:XC Tp 152 #[.pointer b0] h (λb c=>b=.tuple #[]/\∃d,b0=Td d/\∃e,zc c (Ad d 1)=Td (slV e)/\∃f,b0=Td f/\∃g,zc c (Ad f 1)=Td (slV g)/\XC Tp 153 #[slV g,.int .i32 p] c (λi j=>∃k,i=slV k/\∃l,b0=Td l/\XRunU Tp (Af 110 (.pointer (Td (Ad l 1))) (slV k)) j (λm=>∃n,b0=Td n/\∃o,zc m (Ad n 1)=Td (slV o)/\R (.tuple #[.int .i64 (Aa .i64 ((o.len:Int)-(e.len:Int))),.nilIface]) m)))):
  XC Tp 83 #[.pointer b0,.int .i32 p] h R:=
 XF ⟨[],[],[]⟩ [.tmp 4,.tmp 5] 30 Tryz.func83 H
theorem zz5(b:Bt)(h:zb)(R:Value->zb->Prop) (H:let a:=h.push (.cells #[.string b] 9);R (.func (.func 197) #[] #[.pointer (Td ⟨h.size,0,Te⟩)]) a):
  XC Tp 113 #[.string b] h R:=
 XF ⟨[],[],[]⟩ [.tmp 2] 4 Tryz.func113 H
theorem zco(i:Option Addr)(h:zb)(R:Value->zb->Prop) (H:∃b,i=Td b/\∃c,zc h (Ad b 1)=Td (slV c)/\(((c.len:Int)==0)=Ta->R (.int .i64 0) h)/\(((c.len:Int)==0)=Tc->∃d,i=Td d/\∃e,zc h (Ad d 1)=Td (slV e)/\∃f,(e.a=Td f/\0<=(0:Int)/\(0:Int)<(e.len:Int))/\∃g,zc h (Ad (f.add ((0:Int).toNat*3)) 0)=Td (.int .i64 g)/\R (.int .i64 g) h)):
  XC Tp 115 #[.pointer i] h R:=
 XF ⟨[],[],[]⟩ [.tmp 2] 16 Tryz.func115 H
theorem zcp(n:Option Addr)(h:zb)(R:Value->zb->Prop) (H:∃b,n=Td b/\∃c,zc h (Ad b 1)=Td (slV c)/\∃d,(c.a=Td d/\0<=(0:Int)/\(0:Int)<(c.len:Int))/\∃e f,zd h (Ad (d.add ((0:Int).toNat*3)) 1) 0 [.int .i64 e,.int .i64 f]/\∃g,n=Td g/\∃i,zc h (Ad g 1)=Td (slV i)/\((Te:Option Value)=Te\/∃v,(Te:Option Value)=Td v)/\(0<=(1:Int)/\(1:Int)<=(i.len:Int)/\(i.len:Int)<=(i.cap:Int)/\(i.cap:Int)<=(i.cap:Int))/\∃j,n=Td j/\XRunU Tp (Af 58 (.pointer (Td (Ad j 2))) (.agg #[.int .i64 e,.int .i64 f])) h (λk=>∃l,n=Td l/\XRunU Tp (Af 83 (.pointer (Td (Ad l 1))) (.slice (zfb i.a 3 ((1:Int).toNat) ((i.cap:Int).toNat)) ((i.len:Int).toNat-(1:Int).toNat) ((i.cap:Int).toNat-(1:Int).toNat))) k (λm=>R (.tuple #[]) m))):
  XC Tp 116 #[.pointer n] h R:=
 XF ⟨[(0,8000)],[],[]⟩ [] 20 Tryz.func116 H
theorem zcq(p0:Option Addr)(n1:Int)(aa:Int)(Y:Int)(Z:FuncId)(ab:Array Value)(ae:Array Value)(h:zb)(R:Value->zb->Prop) (H:XC Tp 199 #[.pointer p0,.int .i64 Y] h (λb c=>∃d,b=.bool d/\(d=Ta->R (.bool Ta) c)/\(d=Tc->∃(e:zb->Prop) (f:zb->Nat),e c/\∀g:zb,e g->(∃i,p0=Td i/\∃j,zc g (Ad (Ad i 2) 1)=Td (.int .i64 j)/\∃k,p0=Td k/\∃l,zc g (Ad k 4)=Td (slV l)/\zh Tp Z=Ta/\XC Tp Z (ab++#[.int .i64 (Aa .i64 (aa+1))]++ae) g (λm n=>∃o,m=.bool o/\((!o)=Ta->R (.bool Tc) n)/\((!o)=Tc->∃p,p0=Td p/\∃q,zc n (Ad p 4)=Td (slV q)/\∃r,(q.a=Td r/\0<=n1/\n1<q.len)/\∃s,Td (r.add (n1.toNat*7))=Td s/\∃t,zc n (Ad s 5)=Td (slV t)/\let u:=n.push (.cells #[.int .i64 (l.len:Int)] 3);XRun Tp (Au #[59,59] 59 #[slV t,.slice (Td ⟨n.size,0,Te⟩) 1 1]) u (λv w=>∃x,v=slV x/\∃y,Td (r.add (n1.toNat*7))=Td y/\XRunU Tp (Af 59 (.pointer (Td (Ad y 5))) (slV x)) w (λz=>∃A,Td (r.add (n1.toNat*7))=Td A/\∃B,zc z (Ad A 6)=Td (slV B)/\XC Tp 121 #[.pointer p0] z (λC D=>∃E,C=.int .i64 E/\(D)[((Ad A 6):Addr).block]?=(z)[((Ad A 6):Addr).block]?/\(D)[((Ad A 6):Addr).block]?=(z)[((Ad A 6):Addr).block]?/\let F:=D.push (.cells #[.int .i64 j,.int .i64 E] 58);(F)[((Ad A 6):Addr).block]?=(z)[((Ad A 6):Addr).block]?/\XRun Tp (Au #[60,60] 60 #[slV B,.slice (Td ⟨D.size,0,Te⟩) 1 1]) F (λG I=>∃J,G=slV J/\∃L,Td (r.add (n1.toNat*7))=Td L/\XRunU Tp (Af 60 (.pointer (Td (Ad L 6))) (slV J)) I (λM=>XC Tp 199 #[.pointer p0,.int .i64 Y] M (λN O=>∃P,N=.bool P/\(P=Ta->R (.bool Ta) O)/\(P=Tc->XC Tp 199 #[.pointer p0,.int .i64 6] O (λQ S=>∃T,Q=.bool T/\((!T)=Ta->XC Tp 62 #[.pointer p0,.int .i64 2] S (λU V=>∃W,U=.bool W/\R (.bool W) V))/\((!T)=Tc->(e S/\f S<f g)))))))))))))))):
  XC Tp 117 #[.pointer p0,.int .i64 n1,.int .i64 aa,.int .i64 Y,.func (.func Z) ab ae] h R:=
 XF ⟨[(8,8000)],[(3,[])],[]⟩ [.tmp 10] 71 Tryz.func117 H
theorem zcr(f:Option Addr)(e:Int)(h:zb)(R:Value->zb->Prop) (H:XC Tp 61 #[.pointer f,.int .i64 e,.agg #[.int .i64 0,.int .i64 0]] h (λa b=>∃c,a=.bool c/\R (.bool c) b)):
  XC Tp 118 #[.pointer f,.int .i64 e] h R:=
 XF ⟨[],[],[]⟩ [.tmp 4] 9 Tryz.func118 H
theorem Xk(f:Int)(c1:Addr)(c2:Addr)(h:zb)(R:Value->zb->Prop) (H:∃a:Option Addr,zc h c1=Td (.pointer a)/\∃b:Option Nat,zc h c2=Td (.map b)/\XC Tp 120 #[.pointer a,.int .i64 f,.map b] h (λc d=>∃e,c=.bool e/\R (.bool e) d)):
  XC Tp 119 #[.int .i64 f,.pointer (Td c1),.pointer (Td c2)] h R:=
 XF ⟨[],[],[]⟩ [.tmp 4] 9 Tryz.func119 H
theorem zad(Y:Option Addr)(U:Int)(V:Option Nat)(h:zb)(R:Value->zb->Prop) (H:XC Tp 115 #[.pointer Y] h (λb c=>∃d,b=.int .i64 d/\((d != 8)=Ta->XC Tp 62 #[.pointer Y,.int .i64 2] c (λe f=>∃g,e=.bool g/\R (.bool g) f))/\((d != 8)=Tc->∃i,Y=Td i/\∃j,zc c (Ad i 1)=Td (slV j)/\∃k,(j.a=Td k/\0<=(0:Int)/\(0:Int)<(j.len:Int))/\∃l m,zd c (Ad (k.add ((0:Int).toNat*3)) 1) 0 [.int .i64 l,.int .i64 m]/\let n:=c.push (.cells #[.int .i64 0,.int .i64 0] 58);XRunU Tp (Af 58 (.pointer (Td ⟨c.size,0,Te⟩)) (.agg #[.int .i64 l,.int .i64 m])) n (λo=>∃p,Y=Td p/\∃q,zc o (Ad p 0)=Td (.string q)/\∃r,zc o (Ad ⟨c.size,0,Te⟩ 0)=Td (.int .i64 r)/\∃s,zc o (Ad ⟨c.size,0,Te⟩ 1)=Td (.int .i64 s)/\(0<=r/\r<=s/\s<=q.size)/\XC Tp 196 #[.string (q.extract r.toNat s.toNat)] o (λt u=>∃v w x,t=.tuple #[.string v,.int .i64 w,.int .i64 x]/\∃y,QExec Tp (Dw 154 (.map V) (.string v) Tc) u (.bool y)/\(y=Ta->XC Tp 62 #[.pointer Y,.int .i64 7] u (λz A=>∃B,z=.bool B/\R (.bool B) A))/\(y=Tc->XRunU Tp (Cv 154 (.map V) (.string v) (.bool Ta)) u (λC=>XC Tp 116 #[.pointer Y] C (λD E=>D=.tuple #[]/\XC Tp 199 #[.pointer Y,.int .i64 7] E (λF G=>∃I,F=.bool I/\((!I)=Ta->XC Tp 62 #[.pointer Y,.int .i64 2] G (λJ L=>∃M,J=.bool M/\R (.bool M) L))/\((!I)=Tc->∃N O,zd G ⟨c.size,0,Te⟩ 0 [.int .i64 N,.int .i64 O]/\XC Tp 61 #[.pointer Y,.int .i64 U,.agg #[.int .i64 N,.int .i64 O]] G (λP Q=>∃S,P=.bool S/\R (.bool S) Q))))))))))):
  XC Tp 120 #[.pointer Y,.int .i64 U,.map V] h R:=
 XF ⟨[(4,8000)],[],[]⟩ [.tmp 6] 55 Tryz.func120 H
theorem zcs(k:Option Addr)(h:zb)(R:Value->zb->Prop) (H:∃b,k=Td b/\∃c,zc h (Ad b 1)=Td (slV c)/\(((c.len:Int)==0)=Ta->∃d,k=Td d/\∃e,zc h (Ad d 0)=Td (.string e)/\R (.int .i64 (e.size:Int)) h)/\(((c.len:Int)==0)=Tc->∃f,k=Td f/\∃g,zc h (Ad f 1)=Td (slV g)/\∃i,(g.a=Td i/\0<=(0:Int)/\(0:Int)<(g.len:Int))/\∃j,zc h (Ad (Ad (i.add ((0:Int).toNat*3)) 1) 0)=Td (.int .i64 j)/\R (.int .i64 j) h)):
  XC Tp 121 #[.pointer k] h R:=
 XF ⟨[],[],[]⟩ [.tmp 2] 22 Tryz.func121 H
theorem zuv(s0:Bt)(bz:Int)(h:zb)(R:Value->zb->Prop) (H:let a:=h.push (.cells #[.int .i64 bz] 3);let b:=a.push (.cells #[.int .i64 0,.int .i64 0,.int .i64 0] 90);∃c,zc b ⟨h.size,0,Te⟩=Td (.int .i64 c)/\(0<=c/\c<=s0.size/\(s0.size:Int)<=(s0.size:Int))/\(0<=(0:Int)/\(0:Int)<((s0.extract c.toNat (s0.size:Int).toNat).size:Int))/\XC Tp 212 #[.string (⟨#[123,125,91,93,44,58]⟩:Bt),.int .u8 (zr (s0.extract c.toNat (s0.size:Int).toNat) (0:Int).toNat)] b (λd e=>∃f,d=.int .i64 f/\(decide (f>=0)=Ta->∃g,zc e ⟨h.size,0,Te⟩=Td (.int .i64 g)/\zh Tp 254=Ta/\XC Tp 254 #[.int .i64 (Aa .i64 (2+f)),.int .i64 (Aa .i64 (g+1)),.pointer (Td ⟨h.size,0,Te⟩)] e (λi j=>∃k l m n,i=.tuple #[.agg #[.int .i64 k,.int .i64 l,.int .i64 m],.int .i64 n]/\XRunU Tp (Af 90 (.pointer (Td ⟨a.size,0,Te⟩)) (.agg #[.int .i64 k,.int .i64 l,.int .i64 m])) j (λo=>∃p q r,zd o ⟨a.size,0,Te⟩ 0 [.int .i64 p,.int .i64 q,.int .i64 r]/\R (.tuple #[.agg #[.int .i64 p,.int .i64 q,.int .i64 r],.int .i64 n]) o)))/\(decide (f>=0)=Tc->XC Tp 212 #[.string (⟨#[32,9,10,13]⟩:Bt),.int .u8 (zr (s0.extract c.toNat (s0.size:Int).toNat) (0:Int).toNat)] e (λs t=>∃u,s=.int .i64 u/\(decide (u>=0)=Ta->∃v,zc t ⟨h.size,0,Te⟩=Td (.int .i64 v)/\XC Tp 257 #[.string (⟨#[32,9,10,13]⟩:Bt)] t (λw x=>∃y:Value,w=y/\(x)[(⟨h.size,0,Te⟩:Addr).block]?=(t)[(⟨h.size,0,Te⟩:Addr).block]?/\XC Tp 256 #[.string (s0.extract c.toNat (s0.size:Int).toNat),y] x (λz A=>∃B,z=.int .i64 B/\(A)[(⟨h.size,0,Te⟩:Addr).block]?=(t)[(⟨h.size,0,Te⟩:Addr).block]?/\zh Tp 254=Ta/\XC Tp 254 #[.int .i64 1,.int .i64 (Aa .i64 (v+B)),.pointer (Td ⟨h.size,0,Te⟩)] A (λC D=>∃E F G I,C=.tuple #[.agg #[.int .i64 E,.int .i64 F,.int .i64 G],.int .i64 I]/\XRunU Tp (Af 90 (.pointer (Td ⟨a.size,0,Te⟩)) (.agg #[.int .i64 E,.int .i64 F,.int .i64 G])) D (λJ=>∃L M N,zd J ⟨a.size,0,Te⟩ 0 [.int .i64 L,.int .i64 M,.int .i64 N]/\R (.tuple #[.agg #[.int .i64 L,.int .i64 M,.int .i64 N],.int .i64 I]) J)))))/\(decide (u>=0)=Tc->(((zr (s0.extract c.toNat (s0.size:Int).toNat) (0:Int).toNat:Int)==34)=Ta->∃O,zc t ⟨h.size,0,Te⟩=Td (.int .i64 O)/\XC Tp 258 #[.string s0,.int .i64 O] t (λP Q=>∃S T,P=.tuple #[.int .i64 S,.int .i64 T]/\((T != 0)=Ta->zh Tp 255=Ta/\XC Tp 255 #[.int .i64 S,.int .i64 T] Q (λU V=>∃W X Y Z,U=.tuple #[.agg #[.int .i64 W,.int .i64 X,.int .i64 Y],.int .i64 Z]/\XRunU Tp (Af 90 (.pointer (Td ⟨a.size,0,Te⟩)) (.agg #[.int .i64 W,.int .i64 X,.int .i64 Y])) V (λaa=>∃ab ac ad,zd aa ⟨a.size,0,Te⟩ 0 [.int .i64 ab,.int .i64 ac,.int .i64 ad]/\R (.tuple #[.agg #[.int .i64 ab,.int .i64 ac,.int .i64 ad],.int .i64 Z]) aa)))/\((T != 0)=Tc->zh Tp 254=Ta/\XC Tp 254 #[.int .i64 8,.int .i64 S,.pointer (Td ⟨h.size,0,Te⟩)] Q (λae af=>∃ag ah ai aj,ae=.tuple #[.agg #[.int .i64 ag,.int .i64 ah,.int .i64 ai],.int .i64 aj]/\XRunU Tp (Af 90 (.pointer (Td ⟨a.size,0,Te⟩)) (.agg #[.int .i64 ag,.int .i64 ah,.int .i64 ai])) af (λak=>∃al am an,zd ak ⟨a.size,0,Te⟩ 0 [.int .i64 al,.int .i64 am,.int .i64 an]/\R (.tuple #[.agg #[.int .i64 al,.int .i64 am,.int .i64 an],.int .i64 aj]) ak)))))/\(((zr (s0.extract c.toNat (s0.size:Int).toNat) (0:Int).toNat:Int)==34)=Tc->((bif ((zr (s0.extract c.toNat (s0.size:Int).toNat) (0:Int).toNat:Int)==45)then Ta else(bif (decide ((zr (s0.extract c.toNat (s0.size:Int).toNat) (0:Int).toNat:Int)>=48))then(decide ((zr (s0.extract c.toNat (s0.size:Int).toNat) (0:Int).toNat:Int)<=57))else Tc))=Ta->∃ao,zc t ⟨h.size,0,Te⟩=Td (.int .i64 ao)/\XC Tp 257 #[.string (⟨#[45,43,46,48,49,50,51,52,53,54,55,56,57,101,69]⟩:Bt)] t (λap aq=>∃ar:Value,ap=ar/\(aq)[(⟨h.size,0,Te⟩:Addr).block]?=(t)[(⟨h.size,0,Te⟩:Addr).block]?/\XC Tp 256 #[.string (s0.extract c.toNat (s0.size:Int).toNat),ar] aq (λau av=>∃aw,au=.int .i64 aw/\(av)[(⟨h.size,0,Te⟩:Addr).block]?=(t)[(⟨h.size,0,Te⟩:Addr).block]?/\∃ax,zc av ⟨h.size,0,Te⟩=Td (.int .i64 ax)/\(0<=ax/\ax<=(Aa .i64 (ao+aw))/\(Aa .i64 (ao+aw))<=(s0.size:Int))/\XC Tp 25 #[.string (s0.extract ax.toNat (Aa .i64 (ao+aw)).toNat)] av (λay az=>∃aA aB aC aD,ay=.tuple #[.agg #[.bool aA,.string aB,.int .i64 aC],.int .i64 aD]/\let aE:=az.push (.cells #[.bool Tc,.string (⟨#[]⟩:Bt),.int .i64 0] 46);XRunU Tp (Af 46 (.pointer (Td ⟨az.size,0,Te⟩)) (.agg #[.bool aA,.string aB,.int .i64 aC])) aE (λaF=>((aD != 0)=Ta->∃aG,zc aF ⟨h.size,0,Te⟩=Td (.int .i64 aG)/\zh Tp 255=Ta/\XC Tp 255 #[.int .i64 aG,.int .i64 aD] aF (λaH aI=>∃aJ aL aM aN,aH=.tuple #[.agg #[.int .i64 aJ,.int .i64 aL,.int .i64 aM],.int .i64 aN]/\XRunU Tp (Af 90 (.pointer (Td ⟨a.size,0,Te⟩)) (.agg #[.int .i64 aJ,.int .i64 aL,.int .i64 aM])) aI (λaO=>∃aP aQ aS,zd aO ⟨a.size,0,Te⟩ 0 [.int .i64 aP,.int .i64 aQ,.int .i64 aS]/\R (.tuple #[.agg #[.int .i64 aP,.int .i64 aQ,.int .i64 aS],.int .i64 aN]) aO)))/\((aD != 0)=Tc->zh Tp 254=Ta/\XC Tp 254 #[.int .i64 9,.int .i64 (Aa .i64 (ao+aw)),.pointer (Td ⟨h.size,0,Te⟩)] aF (λaT aU=>∃aV aW aX aY,aT=.tuple #[.agg #[.int .i64 aV,.int .i64 aW,.int .i64 aX],.int .i64 aY]/\XRunU Tp (Af 90 (.pointer (Td ⟨a.size,0,Te⟩)) (.agg #[.int .i64 aV,.int .i64 aW,.int .i64 aX])) aU (λaZ=>∃a0 a1 a2,zd aZ ⟨a.size,0,Te⟩ 0 [.int .i64 a0,.int .i64 a1,.int .i64 a2]/\R (.tuple #[.agg #[.int .i64 a0,.int .i64 a1,.int .i64 a2],.int .i64 aY]) aZ))))))))/\((bif ((zr (s0.extract c.toNat (s0.size:Int).toNat) (0:Int).toNat:Int)==45)then Ta else(bif (decide ((zr (s0.extract c.toNat (s0.size:Int).toNat) (0:Int).toNat:Int)>=48))then(decide ((zr (s0.extract c.toNat (s0.size:Int).toNat) (0:Int).toNat:Int)<=57))else Tc))=Tc->XC Tp 256 #[.string (s0.extract c.toNat (s0.size:Int).toNat),.func (.func 259) #[] #[]] t (λa3 a4=>∃a5,a3=.int .i64 a5/\(0<=(0:Int)/\(0:Int)<=a5/\a5<=((s0.extract c.toNat (s0.size:Int).toNat).size:Int))/\XC Tp 260 #[.string ((s0.extract c.toNat (s0.size:Int).toNat).extract (0:Int).toNat a5.toNat)] a4 (λa6 a7=>∃a8,a6=.int .i64 a8/\((a8 != 0)=Ta->∃a9,zc a7 ⟨h.size,0,Te⟩=Td (.int .i64 a9)/\zh Tp 254=Ta/\XC Tp 254 #[.int .i64 a8,.int .i64 (Aa .i64 (a9+a5)),.pointer (Td ⟨h.size,0,Te⟩)] a7 (λba bb=>∃bc bd be bf,ba=.tuple #[.agg #[.int .i64 bc,.int .i64 bd,.int .i64 be],.int .i64 bf]/\XRunU Tp (Af 90 (.pointer (Td ⟨a.size,0,Te⟩)) (.agg #[.int .i64 bc,.int .i64 bd,.int .i64 be])) bb (λbg=>∃bh bi bj,zd bg ⟨a.size,0,Te⟩ 0 [.int .i64 bh,.int .i64 bi,.int .i64 bj]/\R (.tuple #[.agg #[.int .i64 bh,.int .i64 bi,.int .i64 bj],.int .i64 bf]) bg)))/\((a8 != 0)=Tc->∃bk,zc a7 ⟨h.size,0,Te⟩=Td (.int .i64 bk)/\zh Tp 255=Ta/\XC Tp 255 #[.int .i64 bk,.int .i64 2] a7 (λbl bm=>∃bn bo bp bq,bl=.tuple #[.agg #[.int .i64 bn,.int .i64 bo,.int .i64 bp],.int .i64 bq]/\XRunU Tp (Af 90 (.pointer (Td ⟨a.size,0,Te⟩)) (.agg #[.int .i64 bn,.int .i64 bo,.int .i64 bp])) bm (λbr=>∃bs bt bu,zd br ⟨a.size,0,Te⟩ 0 [.int .i64 bs,.int .i64 bt,.int .i64 bu]/\R (.tuple #[.agg #[.int .i64 bs,.int .i64 bt,.int .i64 bu],.int .i64 bq]) br)))))))))))):
  XC Tp 198 #[.string s0,.int .i64 bz] h R:=
 XF ⟨[(9,8000),(16,8000)],[],[]⟩ [.cell 4 90,.tmp 5] 130 Tryz.func198 H
theorem zbh(i:Option Addr)(f:Int)(h:zb)(R:Value->zb->Prop) (H:XC Tp 115 #[.pointer i] h (λa b=>∃c,a=.int .i64 c/\((c != f)=Ta->R (.bool Tc) b)/\((c != f)=Tc->XC Tp 116 #[.pointer i] b (λd e=>d=.tuple #[]/\R (.bool Ta) e)))):
  XC Tp 199 #[.pointer i,.int .i64 f] h R:=
 XF ⟨[],[],[]⟩ [.tmp 4] 11 Tryz.func199 H
theorem zn9(s:Bt)(r:Int)(h:zb)(R:Value->zb->Prop) (H:((!(decide (r>=s.size)))=Ta->(0<=r/\r<s.size))/\((bif (decide (r>=s.size))then Ta else((zr s r.toNat:Int) != 34))=Ta->R (.tuple #[.string (⟨#[]⟩:Bt),.int .i64 r,.int .i64 2]) h)/\((bif (decide (r>=s.size))then Ta else((zr s r.toNat:Int) != 34))=Tc->let a:=h.push (.cells #[.pointer Te,.slice Te 0 0] 112);∃(b:Int->zb->Prop) (c:Int->zb->Nat),b (Aa .i64 (r+1)) a/\∀d:Int,∀e:zb,b d e->((decide (d<s.size)=Ta->(0<=d/\d<s.size)/\(((zr s d.toNat:Int)==34)=Ta->XC Tp 87 #[.pointer (Td ⟨h.size,0,Te⟩)] e (λf g=>∃i,f=.string i/\R (.tuple #[.string i,.int .i64 (Aa .i64 (d+1)),.int .i64 0]) g))/\(((zr s d.toNat:Int)==34)=Tc->(0<=d/\d<=s.size/\(s.size:Int)<=(s.size:Int))/\XC Tp 291 #[.string (s.extract d.toNat (s.size:Int).toNat)] e (λj k=>∃l m,j=.tuple #[.int .i32 l,.int .i64 m]/\((m==0)=Ta->R (.tuple #[.string (⟨#[]⟩:Bt),.int .i64 d,.int .i64 2]) k)/\((m==0)=Tc->XC Tp 83 #[.pointer (Td ⟨h.size,0,Te⟩),.int .i32 l] k (λn o=>∃p,∃q:Value,n=.tuple #[.int .i64 p,q]/\(b (Aa .i64 (d+m)) o/\c (Aa .i64 (d+m)) o<c d e))))))/\(decide (d<s.size)=Tc->R (.tuple #[.string (⟨#[]⟩:Bt),.int .i64 (s.size:Int),.int .i64 2]) e)))):
  XC Tp 253 #[.string s,.int .i64 r] h R:=
 XF ⟨[],[(5,[(1,.one (.int .i64))])],[]⟩ [.tmp 4,.tmp 5,.tmp 6] 51 Tryz.func253 H
theorem zoa(i:Int)(k:Int)(c2:Addr)(h:zb)(R:Value->zb->Prop) (H:let a:=h.push (.cells #[.int .i64 0,.int .i64 0,.int .i64 0] 90);∃b,zc a c2=Td (.int .i64 b)/\XRunU Tp (Af 90 (.pointer (Td ⟨h.size,0,Te⟩)) (.agg #[.int .i64 i,.int .i64 b,.int .i64 k])) a (λc=>∃d e f,zd c ⟨h.size,0,Te⟩ 0 [.int .i64 d,.int .i64 e,.int .i64 f]/\R (.tuple #[.agg #[.int .i64 d,.int .i64 e,.int .i64 f],.int .i64 0]) c)):
  XC Tp 254 #[.int .i64 i,.int .i64 k,.pointer (Td c2)] h R:=
 XF ⟨[],[],[]⟩ [.cell 5 90,.tmp 6] 12 Tryz.func254 H
theorem zz6(m:Bt)(i:FuncId)(k:Array Value)(l:Array Value)(h:zb)(R:Value->zb->Prop) (H:∃(a:Int->zb->Prop) (b:Int->zb->Nat),a 0 h/\∀c:Int,∀d:zb,a c d->((decide (c<m.size)=Ta->(0<=c/\c<m.size)/\zh Tp i=Ta/\XC Tp i (k++#[.int .u8 (zr m c.toNat)]++l) d (λe f=>∃g,e=.bool g/\((!g)=Ta->R (.int .i64 c) f)/\((!g)=Tc->(a (Aa .i64 (c+1)) f/\b (Aa .i64 (c+1)) f<b c d))))/\(decide (c<m.size)=Tc->R (.int .i64 (m.size:Int)) d))):
  XC Tp 256 #[.string m,.func (.func i) k l] h R:=
 XF ⟨[],[(2,[(8,.one (.int .i64))])],[]⟩ [.tmp 4] 21 Tryz.func256 H
theorem zrm(b:Bt)(h:zb)(R:Value->zb->Prop) (H:let a:=h.push (.cells #[.string b] 9);R (.func (.func 292) #[] #[.pointer (Td ⟨h.size,0,Te⟩)]) a):
  XC Tp 257 #[.string b] h R:=
 XF ⟨[],[],[]⟩ [.tmp 2] 4 Tryz.func257 H
theorem zk6(c0:Int)(c1:Addr)(h:zb)(R:Value->zb->Prop) (H:∃a,zc h c1=Td (.string a)/\XC Tp 212 #[.string a,.int .u8 c0] h (λb c=>∃d,b=.int .i64 d/\R (.bool (decide (d>=0))) c)):
  XC Tp 292 #[.int .u8 c0,.pointer (Td c1)] h R:=
 XF ⟨[],[],[]⟩ [.tmp 3] 8 Tryz.func292 H
theorem Z6(s0:Bt)(aM:Int)(aL:Int)(h:zb)(R:Value->zb->Prop) (H:((s0.toList==(⟨#[]⟩:Bt).toList)=Ta->R (.tuple #[.int .u64 0,.iface 287 (.int .i64 2)]) h)/\((s0.toList==(⟨#[]⟩:Bt).toList)=Tc->∀b:Bt->Int->zb->Prop,(∀c:Bt,∀d:Int,∀e:zb,(∀f:Int->zb->Prop,(∀g:Int,∀i:zb,(∀j:Int->zb->Prop,(∀k:Int,∀l:zb,(0<=(Aa .u64 g)/\XRun Tp (convert 9 110 (.string c)) l (λm n=>∃o,m=slV o/\∃(p:Bool->Int->Int->zb->Prop) (q:Bool->Int->Int->zb->Nat),p Tc 0 0 n/\∀r:Bool,∀s t:Int,∀u:zb,p r s t u->((decide (t<o.len)=Ta->∃v,(o.a=Td v/\0<=t/\t<o.len)/\∃w,zc u (v.add (t.toNat*1))=Td (.int .u8 w)/\∀x:Bool->Int->zb->Prop,(∀y:Bool,∀z:Int,∀A:zb,((decide (z>=(Aa .u8 d))=Ta->R (.tuple #[.int .u64 0,.iface 287 (.int .i64 2)]) A)/\(decide (z>=(Aa .u8 d))=Tc->(decide (s>=k)=Ta->R (.tuple #[.int .u64 (Aa .u64 ((Aa .u64 (1*2 ^ (min (Aa .u64 g).toNat 64)))-1)),.iface 287 (.int .i64 1)]) A)/\(decide (s>=k)=Tc->((bif (decide ((Aa .u64 ((Aa .u64 (s*(Aa .u64 d)))+(Aa .u64 z)):Int)<(Aa .u64 (s*(Aa .u64 d)))))then Ta else(decide ((Aa .u64 ((Aa .u64 (s*(Aa .u64 d)))+(Aa .u64 z)):Int)>(Aa .u64 ((Aa .u64 (1*2 ^ (min (Aa .u64 g).toNat 64)))-1)))))=Ta->R (.tuple #[.int .u64 (Aa .u64 ((Aa .u64 (1*2 ^ (min (Aa .u64 g).toNat 64)))-1)),.iface 287 (.int .i64 1)]) A)/\((bif (decide ((Aa .u64 ((Aa .u64 (s*(Aa .u64 d)))+(Aa .u64 z)):Int)<(Aa .u64 (s*(Aa .u64 d)))))then Ta else(decide ((Aa .u64 ((Aa .u64 (s*(Aa .u64 d)))+(Aa .u64 z)):Int)>(Aa .u64 ((Aa .u64 (1*2 ^ (min (Aa .u64 g).toNat 64)))-1)))))=Tc->(p y (Aa .u64 ((Aa .u64 (s*(Aa .u64 d)))+(Aa .u64 z))) (Aa .i64 (t+1)) A/\q y (Aa .u64 ((Aa .u64 (s*(Aa .u64 d)))+(Aa .u64 z))) (Aa .i64 (t+1)) A<q r s t u)))))->x y z A)->((bif (w==95)then(aM==0)else Tc)=Ta->(p Ta s (Aa .i64 (t+1)) u/\q Ta s (Aa .i64 (t+1)) u<q r s t u))/\((bif (w==95)then(aM==0)else Tc)=Tc->((bif (decide ((48:Int)<=w))then(decide (w<=57))else Tc)=Ta->x r (Aa .u8 (w-48)) u)/\((bif (decide ((48:Int)<=w))then(decide (w<=57))else Tc)=Tc->XC Tp 325 #[.int .u8 w] u (λB C=>∃D,B=.int .u8 D/\∃E:Value->zb->Prop,(decide ((97:Int)<=D)=Ta->XC Tp 325 #[.int .u8 w] C (λF G=>∃I,F=.int .u8 I/\E (.int .u8 I) G))/\(decide ((97:Int)<=D)=Tc->∃J,E (.int .u8 J) C)/\(decide ((97:Int)<=D)=Ta->∀L M,E L M->∃N,L=.int .u8 N)/\∀O:Int,∀P,E (.int .u8 O) P->((bif (decide ((97:Int)<=D))then(decide (O<=122))else Tc)=Ta->XC Tp 325 #[.int .u8 w] P (λQ S=>∃T,Q=.int .u8 T/\x r (Aa .u8 ((Aa .u8 (T-97))+10)) S))/\((bif (decide ((97:Int)<=D))then(decide (O<=122))else Tc)=Tc->R (.tuple #[.int .u64 0,.iface 287 (.int .i64 2)]) P)))))/\(decide (t<o.len)=Tc->∃U:Value->zb->Prop,(r=Ta->XC Tp 326 #[.string s0] u (λV W=>∃X,V=.bool X/\U (.bool X) W))/\(r=Tc->∃Y,U (.bool Y) u)/\(r=Ta->∀Z aa,U Z aa->∃ab,Z=.bool ab)/\∀ac:Bool,∀ad,U (.bool ac) ad->((bif r then(!ac)else Tc)=Ta->R (.tuple #[.int .u64 0,.iface 287 (.int .i64 2)]) ad)/\((bif r then(!ac)else Tc)=Tc->R (.tuple #[.int .u64 s,.nilIface]) ad)))))->j k l)->((d==10)=Ta->j 1844674407370955162 i)/\((d==10)=Tc->((d==16)=Ta->j 1152921504606846976 i)/\((d==16)=Tc->IntKind.u64=IntKind.u64/\(Aa .u64 d)≠0/\j (Aa .u64 ((Aa .u64 ((18446744073709551615:Int).tdiv (Aa .u64 d)))+1)) i)))->f g i)->((aL==0)=Ta->f 64 e)/\((aL==0)=Tc->((bif (decide (aL<0))then Ta else(decide (aL>64)))=Ta->R (.tuple #[.int .u64 0,.iface 287 (.int .i64 4)]) e)/\((bif (decide (aL<0))then Ta else(decide (aL>64)))=Tc->f aL e)))->b c d e)->((bif (decide ((2:Int)<=aM))then(decide (aM<=36))else Tc)=Ta->b s0 aM h)/\((bif (decide ((2:Int)<=aM))then(decide (aM<=36))else Tc)=Tc->((aM==0)=Ta->(0<=(0:Int)/\(0:Int)<(s0.size:Int))/\(((zr s0 (0:Int).toNat:Int)==48)=Ta->(decide ((s0.size:Int)>=3)=Ta->(0<=(1:Int)/\(1:Int)<(s0.size:Int)))/\∃ae:Value->zb->Prop,(decide ((s0.size:Int)>=3)=Ta->XC Tp 325 #[.int .u8 (zr s0 (1:Int).toNat)] h (λaf ag=>∃ah,af=.int .u8 ah/\ae (.int .u8 ah) ag))/\(decide ((s0.size:Int)>=3)=Tc->∃ai,ae (.int .u8 ai) h)/\(decide ((s0.size:Int)>=3)=Ta->∀aj ak,ae aj ak->∃al,aj=.int .u8 al)/\∀am:Int,∀an,ae (.int .u8 am) an->((bif (decide ((s0.size:Int)>=3))then(am==98)else Tc)=Ta->(0<=(2:Int)/\(2:Int)<=(s0.size:Int)/\(s0.size:Int)<=(s0.size:Int))/\b (s0.extract (2:Int).toNat (s0.size:Int).toNat) 2 an)/\((bif (decide ((s0.size:Int)>=3))then(am==98)else Tc)=Tc->(decide ((s0.size:Int)>=3)=Ta->(0<=(1:Int)/\(1:Int)<(s0.size:Int)))/\∃ao:Value->zb->Prop,(decide ((s0.size:Int)>=3)=Ta->XC Tp 325 #[.int .u8 (zr s0 (1:Int).toNat)] an (λap aq=>∃ar,ap=.int .u8 ar/\ao (.int .u8 ar) aq))/\(decide ((s0.size:Int)>=3)=Tc->∃au,ao (.int .u8 au) an)/\(decide ((s0.size:Int)>=3)=Ta->∀av aw,ao av aw->∃ax,av=.int .u8 ax)/\∀ay:Int,∀az,ao (.int .u8 ay) az->((bif (decide ((s0.size:Int)>=3))then(ay==111)else Tc)=Ta->(0<=(2:Int)/\(2:Int)<=(s0.size:Int)/\(s0.size:Int)<=(s0.size:Int))/\b (s0.extract (2:Int).toNat (s0.size:Int).toNat) 8 az)/\((bif (decide ((s0.size:Int)>=3))then(ay==111)else Tc)=Tc->(decide ((s0.size:Int)>=3)=Ta->(0<=(1:Int)/\(1:Int)<(s0.size:Int)))/\∃aA:Value->zb->Prop,(decide ((s0.size:Int)>=3)=Ta->XC Tp 325 #[.int .u8 (zr s0 (1:Int).toNat)] az (λaB aC=>∃aD,aB=.int .u8 aD/\aA (.int .u8 aD) aC))/\(decide ((s0.size:Int)>=3)=Tc->∃aE,aA (.int .u8 aE) az)/\(decide ((s0.size:Int)>=3)=Ta->∀aF aG,aA aF aG->∃aH,aF=.int .u8 aH)/\∀aI:Int,∀aJ,aA (.int .u8 aI) aJ->((bif (decide ((s0.size:Int)>=3))then(aI==120)else Tc)=Ta->(0<=(2:Int)/\(2:Int)<=(s0.size:Int)/\(s0.size:Int)<=(s0.size:Int))/\b (s0.extract (2:Int).toNat (s0.size:Int).toNat) 16 aJ)/\((bif (decide ((s0.size:Int)>=3))then(aI==120)else Tc)=Tc->(0<=(1:Int)/\(1:Int)<=(s0.size:Int)/\(s0.size:Int)<=(s0.size:Int))/\b (s0.extract (1:Int).toNat (s0.size:Int).toNat) 8 aJ))))/\(((zr s0 (0:Int).toNat:Int)==48)=Tc->b s0 10 h))/\((aM==0)=Tc->R (.tuple #[.int .u64 0,.iface 287 (.int .i64 3)]) h)))):
  XC Tp 316 #[.string s0,.int .i64 aM,.int .i64 aL] h R:=
 XF ⟨[],[(36,[(12,.one (.bool)),(13,.one (.int .u64)),(101,.one (.int .i64))])],[(21,[(0,.one (.str)),(1,.one (.int .i64))]),(25,[(2,.one (.int .i64))]),(32,[(10,.one (.int .u64))]),(46,[(12,.one (.bool)),(16,.one (.int .u8))])]⟩ [.tmp 6,.tmp 7] 172 Tryz.func316 H
theorem zbi(l:Bt)(k:Int)(i:Int)(h:zb)(R:Value->zb->Prop) (H:XC Tp 316 #[.string l,.int .i64 k,.int .i64 i] h (λa b=>∃c,∃d:Value,a=.tuple #[.int .u64 c,d]/\ifc d=Ta/\((!qgw d)=Ta->XC Tp 267 #[.string (⟨#[80,97,114,115,101,85,105,110,116]⟩:Bt),.string l,.int .i64 k,.int .i64 i,d] b (λe f=>∃g:Value,e=g/\R (.tuple #[.int .u64 c,g]) f))/\((!qgw d)=Tc->R (.tuple #[.int .u64 c,.nilIface]) b))):
  XC Tp 329 #[.string l,.int .i64 k,.int .i64 i] h R:=
 XF ⟨[],[],[]⟩ [.tmp 6,.tmp 7] 26 Tryz.func329 H
theorem Zy(aa:Sl)(u1:Int)(Y:Int)(Z:Bool)(b:Bool)(h:zb)(R:Value->zb->Prop) (H:∀c:zb->Prop,(∀d:zb,(let e:=d.push (.cells #[.int .u8 0,.int .u8 0,.int .u8 0,.int .u8 0,.int .u8 0,.int .u8 0,.int .u8 0,.int .u8 0,.int .u8 0,.int .u8 0,.int .u8 0,.int .u8 0,.int .u8 0,.int .u8 0,.int .u8 0,.int .u8 0,.int .u8 0,.int .u8 0,.int .u8 0,.int .u8 0,.int .u8 0,.int .u8 0,.int .u8 0,.int .u8 0,.int .u8 0,.int .u8 0,.int .u8 0,.int .u8 0,.int .u8 0,.int .u8 0,.int .u8 0,.int .u8 0,.int .u8 0,.int .u8 0,.int .u8 0,.int .u8 0,.int .u8 0,.int .u8 0,.int .u8 0,.int .u8 0,.int .u8 0,.int .u8 0,.int .u8 0,.int .u8 0,.int .u8 0,.int .u8 0,.int .u8 0,.int .u8 0,.int .u8 0,.int .u8 0,.int .u8 0,.int .u8 0,.int .u8 0,.int .u8 0,.int .u8 0,.int .u8 0,.int .u8 0,.int .u8 0,.int .u8 0,.int .u8 0,.int .u8 0,.int .u8 0,.int .u8 0,.int .u8 0,.int .u8 0] 274);∀f:Int->zb->Prop,(∀g:Int,∀i:zb,(∀j:Int->zb->Prop,(∀k:Int,∀l:zb,(∀m:Int->zb->Prop,(∀n:Int,∀o:zb,((b=Ta->(0<=n/\n<=(65:Int)/\(65:Int)<=(65:Int))/\XRun Tp (Au #[110,110] 110 #[slV aa,.slice (zfb (Td ⟨d.size,0,Te⟩) 1 n.toNat 65) ((65:Int).toNat-n.toNat) (65-n.toNat)]) o (λp q=>∃r,p=slV r/\R (.tuple #[slV r,.string (⟨#[]⟩:Bt)]) q))/\(b=Tc->(0<=n/\n<=(65:Int)/\(65:Int)<=(65:Int))/\XRun Tp (convert 110 9 (.slice (zfb (Td ⟨d.size,0,Te⟩) 1 n.toNat 65) ((65:Int).toNat-n.toNat) (65-n.toNat))) o (λs t=>∃u,s=.string u/\R (.tuple #[.slice Te 0 0,.string u]) t)))->m n o)->(Z=Ta->∃v:Addr,(Td ⟨d.size,0,Te⟩=Td v/\0<=(Aa .i64 (k-1))/\(Aa .i64 (k-1))<((65:Nat):Int))/\XRunU Tp (Af 5 (.pointer (Td (v.add ((Aa .i64 (k-1)).toNat*1)))) (.int .u8 45)) l (λw=>m (Aa .i64 (k-1)) w))/\(Z=Tc->m k l))->j k l)->XC Tp 273 #[.int .i64 Y] i (λx y=>∃z,x=.bool z/\(z=Ta->XC Tp 274 #[.int .u64 (Aa .u64 Y)] y (λA B=>∃C,A=.int .i64 C/\∃(D:Int->Int->zb->Prop) (E:Int->Int->zb->Nat),D g 65 B/\∀F G:Int,∀I:zb,D F G I->((decide (F>=(Aa .u64 Y))=Ta->(0<=(Aa .u64 (((BX (Bj .u64) F) &&& (BX (Bj .u64) (Aa .u64 ((Aa .u64 Y)-1)))).toNat:Int):Int)/\(Aa .u64 (((BX (Bj .u64) F) &&& (BX (Bj .u64) (Aa .u64 ((Aa .u64 Y)-1)))).toNat:Int):Int)<(((⟨#[48,49,50,51,52,53,54,55,56,57,97,98,99,100,101,102,103,104,105,106,107,108,109,110,111,112,113,114,115,116,117,118,119,120,121,122]⟩:Bt)).size:Int))/\∃J:Addr,(Td ⟨d.size,0,Te⟩=Td J/\0<=(Aa .i64 (G-1))/\(Aa .i64 (G-1))<((65:Nat):Int))/\XRunU Tp (Af 5 (.pointer (Td (J.add ((Aa .i64 (G-1)).toNat*1)))) (.int .u8 (zr (⟨#[48,49,50,51,52,53,54,55,56,57,97,98,99,100,101,102,103,104,105,106,107,108,109,110,111,112,113,114,115,116,117,118,119,120,121,122]⟩:Bt) (Aa .u64 (((BX (Bj .u64) F) &&& (BX (Bj .u64) (Aa .u64 ((Aa .u64 Y)-1)))).toNat:Int):Int).toNat))) I (λL=>0<=(Aa .u64 C)/\(D (F.fdiv (2 ^ (min (Aa .u64 C).toNat 64))) (Aa .i64 (G-1)) L/\E (F.fdiv (2 ^ (min (Aa .u64 C).toNat 64))) (Aa .i64 (G-1)) L<E F G I)))/\(decide (F>=(Aa .u64 Y))=Tc->(0<=F/\F<(((⟨#[48,49,50,51,52,53,54,55,56,57,97,98,99,100,101,102,103,104,105,106,107,108,109,110,111,112,113,114,115,116,117,118,119,120,121,122]⟩:Bt)).size:Int))/\∃M:Addr,(Td ⟨d.size,0,Te⟩=Td M/\0<=(Aa .i64 (G-1))/\(Aa .i64 (G-1))<((65:Nat):Int))/\XRunU Tp (Af 5 (.pointer (Td (M.add ((Aa .i64 (G-1)).toNat*1)))) (.int .u8 (zr (⟨#[48,49,50,51,52,53,54,55,56,57,97,98,99,100,101,102,103,104,105,106,107,108,109,110,111,112,113,114,115,116,117,118,119,120,121,122]⟩:Bt) F.toNat))) I (λN=>j (Aa .i64 (G-1)) N)))))/\(z=Tc->∃(O:Int->Int->zb->Prop) (P:Int->Int->zb->Nat),O g 65 y/\∀Q S:Int,∀T:zb,O Q S T->((decide (Q>=(Aa .u64 Y))=Ta->IntKind.u64=IntKind.u64/\(Aa .u64 Y)≠0/\(0<=(Aa .u64 (Q-(Aa .u64 ((Aa .u64 (Q.tdiv (Aa .u64 Y)))*(Aa .u64 Y)))):Int)/\(Aa .u64 (Q-(Aa .u64 ((Aa .u64 (Q.tdiv (Aa .u64 Y)))*(Aa .u64 Y)))):Int)<(((⟨#[48,49,50,51,52,53,54,55,56,57,97,98,99,100,101,102,103,104,105,106,107,108,109,110,111,112,113,114,115,116,117,118,119,120,121,122]⟩:Bt)).size:Int))/\∃U:Addr,(Td ⟨d.size,0,Te⟩=Td U/\0<=(Aa .i64 (S-1))/\(Aa .i64 (S-1))<((65:Nat):Int))/\XRunU Tp (Af 5 (.pointer (Td (U.add ((Aa .i64 (S-1)).toNat*1)))) (.int .u8 (zr (⟨#[48,49,50,51,52,53,54,55,56,57,97,98,99,100,101,102,103,104,105,106,107,108,109,110,111,112,113,114,115,116,117,118,119,120,121,122]⟩:Bt) (Aa .u64 (Q-(Aa .u64 ((Aa .u64 (Q.tdiv (Aa .u64 Y)))*(Aa .u64 Y)))):Int).toNat))) T (λV=>(O (Aa .u64 (Q.tdiv (Aa .u64 Y))) (Aa .i64 (S-1)) V/\P (Aa .u64 (Q.tdiv (Aa .u64 Y))) (Aa .i64 (S-1)) V<P Q S T)))/\(decide (Q>=(Aa .u64 Y))=Tc->(0<=Q/\Q<(((⟨#[48,49,50,51,52,53,54,55,56,57,97,98,99,100,101,102,103,104,105,106,107,108,109,110,111,112,113,114,115,116,117,118,119,120,121,122]⟩:Bt)).size:Int))/\∃W:Addr,(Td ⟨d.size,0,Te⟩=Td W/\0<=(Aa .i64 (S-1))/\(Aa .i64 (S-1))<((65:Nat):Int))/\XRunU Tp (Af 5 (.pointer (Td (W.add ((Aa .i64 (S-1)).toNat*1)))) (.int .u8 (zr (⟨#[48,49,50,51,52,53,54,55,56,57,97,98,99,100,101,102,103,104,105,106,107,108,109,110,111,112,113,114,115,116,117,118,119,120,121,122]⟩:Bt) Q.toNat))) T (λX=>j (Aa .i64 (S-1)) X))))))->f g i)->(Z=Ta->f (Aa .u64 (0-u1)) e)/\(Z=Tc->f u1 e))->c d)->((bif (bif (decide (Y<2))then Ta else(Y==10))then Ta else(decide (Y>36)))=Ta->False)/\((bif (bif (decide (Y<2))then Ta else(Y==10))then Ta else(decide (Y>36)))=Tc->c h)):
  XC Tp 224 #[.slice aa.a aa.len aa.cap,.int .u64 u1,.int .i64 Y,.bool Z,.bool b] h R:=
 XF ⟨[],[(11,[(1,.one (.int .u64)),(13,.one (.int .i64))]),(18,[(1,.one (.int .u64)),(13,.one (.int .i64))])],[(3,[]),(7,[(1,.one (.int .u64))]),(25,[(13,.one (.int .i64))]),(28,[(13,.one (.int .i64))])]⟩ [.tmp 10,.tmp 11] 102 Tryz.func224 H
theorem Z7(B:Int)(A:Int)(h:zb)(R:Value->zb->Prop) (H:((A==10)=Ta->((bif (decide ((0:Int)<=B))then(decide (B<100))else Tc)=Ta->XC Tp 221 #[.int .i64 B] h (λb c=>∃d,b=.string d/\R (.string d) c))/\((bif (decide ((0:Int)<=B))then(decide (B<100))else Tc)=Tc->let e:=h.push (.cells #[.int .u8 0,.int .u8 0,.int .u8 0,.int .u8 0,.int .u8 0,.int .u8 0,.int .u8 0,.int .u8 0,.int .u8 0,.int .u8 0,.int .u8 0,.int .u8 0,.int .u8 0,.int .u8 0,.int .u8 0,.int .u8 0,.int .u8 0,.int .u8 0,.int .u8 0,.int .u8 0,.int .u8 0,.int .u8 0,.int .u8 0,.int .u8 0] 237);∀f:Int->zb->Prop,(∀g:Int,∀i:zb,(XC Tp 222 #[.int .u64 g] i (λj k=>∃l,j=.int .i64 l/\(0<=(1:Int)/\(1:Int)<=(Aa .i64 (1+l))/\(Aa .i64 (1+l))<=(24:Int))/\XC Tp 223 #[.slice (zfb (Td ⟨h.size,0,Te⟩) 1 ((1:Int).toNat) 24) ((Aa .i64 (1+l)).toNat-(1:Int).toNat) (24-(1:Int).toNat),.int .u64 g] k (λm n=>m=.tuple #[]/\(decide (B<0)=Ta->∃o:Addr,(Td ⟨h.size,0,Te⟩=Td o/\0<=(0:Int)/\(0:Int)<((24:Nat):Int))/\XRunU Tp (Af 5 (.pointer (Td (o.add ((0:Int).toNat*1)))) (.int .u8 45)) n (λp=>(0<=(0:Int)/\(0:Int)<=(Aa .i64 (1+l))/\(Aa .i64 (1+l))<=(24:Int))/\XRun Tp (convert 110 9 (.slice (zfb (Td ⟨h.size,0,Te⟩) 1 ((0:Int).toNat) 24) ((Aa .i64 (1+l)).toNat-(0:Int).toNat) (24-(0:Int).toNat))) p (λq r=>∃s,q=.string s/\R (.string s) r)))/\(decide (B<0)=Tc->(0<=(1:Int)/\(1:Int)<=(Aa .i64 (1+l))/\(Aa .i64 (1+l))<=(24:Int))/\XRun Tp (convert 110 9 (.slice (zfb (Td ⟨h.size,0,Te⟩) 1 ((1:Int).toNat) 24) ((Aa .i64 (1+l)).toNat-(1:Int).toNat) (24-(1:Int).toNat))) n (λt u=>∃v,t=.string v/\R (.string v) u)))))->f g i)->(decide (B<0)=Ta->f (Aa .u64 (0-(Aa .u64 B))) e)/\(decide (B<0)=Tc->f (Aa .u64 B) e)))/\((A==10)=Tc->XC Tp 224 #[.slice Te 0 0,.int .u64 (Aa .u64 B),.int .i64 A,.bool (decide (B<0)),.bool Tc] h (λw x=>∃y z,w=.tuple #[slV y,.string z]/\R (.string z) x))):
  XC Tp 154 #[.int .i64 B,.int .i64 A] h R:=
 XF ⟨[],[],[(8,[(6,.one (.int .u64))])]⟩ [.tmp 4] 54 Tryz.func154 H
end
section
variable {gl:Fr} {R:Bool -> Prop}
theorem qey(b:GL gl){s:Bs}(c:s.length<=1152921504606846976)(h:R (z4i s)):PC Tp gl 167 [Arg.mk .str (bl s)] [.bool] R:=by apply znq;refine zcm b c (qhw b (n:=(zz4 s).1) (Yr s c) ?_);simp only[Bool.cond_false_right];exact h
theorem Xg(v:Tr):Tr.mk v.kind v.text v.keys v.items=v:=by cases v;rfl
theorem zjm{l:List Tr}{k:Nat}(h:k<l.length):l[((k:Int)).toNat]?=Td l[k]:=by rw[Ai,Al h]
theorem zuw{gl:Fr}(v:Tr)(q:tsz v<=1000000000000){R:Int->Prop}(h:R (tsz v:Int)):PC Tp gl 56 [Arg.mk .tree v] [.int .i64] R:=by
 apply znp;have f:=Qd v.items;have c:=yh v;refine⟨λn i=>∃k:Nat,i=k/\k<=v.items.length/\n=((1+w9 (v.items.take k):Nat):Int),λ_ i=>v.items.length-i.toNat,⟨0,rfl,by omega,by simp[w9]⟩,?_⟩;rintro n i ⟨k,rfl,p,rfl⟩;refine⟨λe=>?_,λe=>?_⟩;have b:k<v.items.length:=by simp at e;omega
 refine⟨v.items[k],⟨by omega,zjm b⟩,?_⟩;rw[Xg];have m:v.items[k]∈v.items:=AE b;have l:=yd m;have o:w9 (v.items.take (k+1))<=w9 v.items:=by have:=zcl (v.items.take (k+1)) (v.items.drop (k+1));rw[Cb]at this;omega
 have r:=z4g b;refine zuw (v.items[k]) (by omega) ?_;rw[ju b (by omega),w64 (by omega)];exact⟨⟨k+1,rfl,by omega,by omega⟩,by simp only[Ai];omega⟩;have b:k=v.items.length:=by simp at e;omega
 subst b;rw[A3,<-c];exact h
termination_by tsz v
theorem zw6{gl:Fr}(v:Tr)(s:tsz v<=1000000000000){R:Int->Prop}(h:R (tdp v:Int)):PC Tp gl 161 [Arg.mk .tree v] [.int .i64] R:=by
 apply zkw;have e:=Qd v.items;have o:=yh v;have l:=zut v.items;have q:=zji v;refine⟨λn i=>∃k:Nat,i=k/\k<=v.items.length/\n=((Xj (v.items.take k):Nat):Int),λ_ i=>v.items.length-i.toNat,⟨0,rfl,by omega,by simp[Xj]⟩,?_⟩;rintro n i ⟨k,rfl,r,rfl⟩;refine⟨λc=>?_,λc=>?_⟩;have b:k<v.items.length:=by simp at c;omega
 refine⟨v.items[k],⟨by omega,zjm b⟩,?_⟩;rw[Xg];have m:v.items[k]∈v.items:=AE b;have f:=yd m;have p:=z4h b;refine zw6 (v.items[k]) (by omega) ?_;rw[ju b (by omega)];refine⟨⟨k+1,rfl,by omega,?_⟩,by simp only[Ai];omega⟩;rw[p];split <;> omega;have b:k=v.items.length:=by simp at c;omega
 subst b;rw[A3,w64 (by omega)];have:((Xj v.items:Nat):Int)+1=(tdp v:Int):=by omega
 rw[this];exact h
termination_by tsz v
theorem zw7{v:Tr}(b:Sm v)(h:R (Zf v)):PC Tp gl 93 [Arg.mk .tree v] [.bool] R:=by
 apply zkv;rw[Xg];refine zuw v b.sz ⟨λr=>r=(tdp v:Int),λ_=>zw6 v b.sz rfl,λr c=>?_⟩;have e:(bif decide ((tsz v:Int)<=4096)then decide (r<=32)else Tc)=Zf v:=by
  unfold Zf;cases hc:decide ((tsz v:Int)<=4096)with
  |false=>(have:decide (tsz v<=4096)=Tc:=by simp at hc ⊢;omega);rw[this];rfl
  |true=>
   have:decide (tsz v<=4096)=Ta:=by simp at hc ⊢;omega
   rw[this,c hc,cond_true,Cs,AM];simp;omega
 rw[e];exact h
end
section
theorem zk7(w:Sl)(x:Int)(h:zb)(R:Value->zb->Prop) (H:let b:=h.push (.map #[] 0);∃(c:Int->zb->Prop) (d:Int->zb->Nat),c 0 b/\∀e:Int,∀f:zb,c e f->((decide (e<w.len)=Ta->∃g,(w.a=Td g/\0<=e/\e<w.len)/\∃i,zc f (g.add (e.toNat*1))=Td (.string i)/\∃j,QExec Tp (Dw 154 (.map (Td h.size)) (.string i) Tc) f (.bool j)/\∃k:Value->zb->Prop,((!j)=Ta->XC Tp 166 #[.string i] f (λl m=>∃n,l=.bool n/\k (.bool n) m))/\((!j)=Tc->∃o,k (.bool o) f)/\((!j)=Ta->∀p q,k p q->∃r,p=.bool r)/\∀s:Bool,∀t,k (.bool s) t->((bif j then Ta else(!s))=Ta->R (.bool Tc) t)/\((bif j then Ta else(!s))=Tc->XRunU Tp (Cv 154 (.map (Td h.size)) (.string i) (.bool Ta)) t (λu=>(c (Aa .i64 (e+1)) u/\d (Aa .i64 (e+1)) u<d e f))))/\(decide (e<w.len)=Tc->R (.bool ((w.len:Int)==x)) f))):
  XC Tp 164 #[.slice w.a w.len w.cap,.int .i64 x] h R:=
 XF ⟨[],[(3,[(13,.one (.int .i64))])],[]⟩ [.tmp 4] 32 Tryz.func164 H
theorem jl(k:Sl)(i:FuncId)(e:Array Value)(f:Array Value)(h:zb)(R:Value->zb->Prop) (H:XC Tp 233 #[slV k,.func (.func i) e f] h (λb c=>∃d,b=.int .i64 d/\R (.bool (decide (d>=0))) c)):
  XC Tp 162 #[.slice k.a k.len k.cap,.func (.func i) e f] h R:=
 XF ⟨[],[],[]⟩ [.tmp 4] 9 Tryz.func162 H
theorem j7(o:Sl)(p:FuncId)(r:Array Value)(q:Array Value)(h:zb)(R:Value->zb->Prop) (H:∃(b:Int->zb->Prop) (c:Int->zb->Nat),b 0 h/\∀d:Int,∀e:zb,b d e->((decide (d<o.len)=Ta->∃f,(o.a=Td f/\0<=d/\d<o.len)/\∃g i j k,zd e (f.add (d.toNat*4)) 0 [.int .i64 g,.string i,slV j,slV k]/\zh Tp p=Ta/\XC Tp p (r++#[.agg #[.int .i64 g,.string i,slV j,slV k]]++q) e (λl m=>∃n,l=.bool n/\(n=Ta->R (.int .i64 d) m)/\(n=Tc->(b (Aa .i64 (d+1)) m/\c (Aa .i64 (d+1)) m<c d e))))/\(decide (d<o.len)=Tc->R (.int .i64 (-1)) e))):
  XC Tp 233 #[.slice o.a o.len o.cap,.func (.func p) r q] h R:=
 XF ⟨[],[(2,[(8,.one (.int .i64))])],[]⟩ [.tmp 4] 19 Tryz.func233 H
theorem zha(b:Int)(c:Bt)(d:Sl)(e:Sl)(c1:Addr)(h:zb)(R:Value->zb->Prop) (H:let f:=h.push (.cells #[.int .i64 b,.string c,slV d,slV e] 26);∃g i j k,zd f ⟨h.size,0,Te⟩ 0 [.int .i64 g,.string i,slV j,slV k]/\∃l:Value,zc f c1=Td l/\XC Tp 94 #[.agg #[.int .i64 g,.string i,slV j,slV k],l] f (λm n=>∃o,m=.bool o/\R (.bool (!o)) n)):
  XC Tp 163 #[.agg #[.int .i64 b,.string c,.slice d.a d.len d.cap,.slice e.a e.len e.cap],.pointer (Td c1)] h R:=
 XF ⟨[],[],[]⟩ [.tmp 3] 8 Tryz.func163 H
theorem zk8(b:Int)(c:Bt)(d:Sl)(e:Sl)(D:FuncId)(F:Array Value)(E:Array Value)(h:zb)(R:Value->zb->Prop) (H:let f:=h.push (.cells #[.int .i64 b,.string c,slV d,slV e] 26);let g:=f.push (.cells #[.func (.func D) F E] 65);∃i:Value,zc g ⟨f.size,0,Te⟩=Td i/\∃j k l m,zd g ⟨h.size,0,Te⟩ 0 [.int .i64 j,.string k,slV l,slV m]/\qgx Tp i #[.agg #[.int .i64 j,.string k,slV l,slV m]] (λn o=>XC Tp n o g (λp q=>∃r,p=.bool r/\∃s,(r=Ta->zc q (Ad ⟨h.size,0,Te⟩ 3)=Td (slV s))/\∃t:Value->zb->Prop,(r=Ta->XC Tp 162 #[slV s,.func (.func 163) #[] #[.pointer (Td ⟨f.size,0,Te⟩)]] q (λu v=>∃w,u=.bool w/\t (.bool w) v))/\(r=Tc->∃x,t (.bool x) q)/\(r=Ta->∀y z,t y z->∃A,y=.bool A)/\∀B:Bool,∀C,t (.bool B) C->R (.bool (bif r then(!B)else Tc)) C))):
  XC Tp 94 #[.agg #[.int .i64 b,.string c,.slice d.a d.len d.cap,.slice e.a e.len e.cap],.func (.func D) F E] h R:=
 XF ⟨[],[],[]⟩ [.tmp 4] 15 Tryz.func94 H
theorem zob(b:Int)(c:Bt)(d:Sl)(e:Sl)(h:zb)(R:Value->zb->Prop) (H:let f:=h.push (.cells #[.int .i64 b,.string c,slV d,slV e] 26);∃g i j k,zd f ⟨h.size,0,Te⟩ 0 [.int .i64 g,.string i,slV j,slV k]/\XC Tp 93 #[.agg #[.int .i64 g,.string i,slV j,slV k]] f (λl m=>∃n,l=.bool n/\∃o p q r,(n=Ta->zd m ⟨h.size,0,Te⟩ 0 [.int .i64 o,.string p,slV q,slV r])/\∃s:Value->zb->Prop,(n=Ta->XC Tp 94 #[.agg #[.int .i64 o,.string p,slV q,slV r],.func (.func 96) #[] #[]] m (λt u=>∃v,t=.bool v/\s (.bool v) u))/\(n=Tc->∃w,s (.bool w) m)/\(n=Ta->∀x y,s x y->∃z,x=.bool z)/\∀A:Bool,∀B,s (.bool A) B->R (.bool (bif n then A else Tc)) B)):
  XC Tp 88 #[.agg #[.int .i64 b,.string c,.slice d.a d.len d.cap,.slice e.a e.len e.cap]] h R:=
 XF ⟨[],[],[]⟩ [.tmp 2] 9 Tryz.func88 H
theorem j5(b0:Option Addr)(c1:Int)(h:zb)(R:Value->zb->Prop) (H:XC Tp 152 #[.pointer b0] h (λb c=>b=.tuple #[]/\∃d,b0=Td d/\∃e,zc c (Ad d 1)=Td (slV e)/\let f:=c.push (.cells #[.int .u8 c1] 5);XRun Tp (Au #[110,110] 110 #[slV e,.slice (Td ⟨c.size,0,Te⟩) 1 1]) f (λg i=>∃j,g=slV j/\∃k,b0=Td k/\XRunU Tp (Af 110 (.pointer (Td (Ad k 1))) (slV j)) i (λl=>R (.nilIface) l)))):
  XC Tp 81 #[.pointer b0,.int .u8 c1] h R:=
 XF ⟨[],[],[]⟩ [.tmp 4] 17 Tryz.func81 H
theorem jb(b0:Option Addr)(s1:Bt)(h:zb)(R:Value->zb->Prop) (H:XC Tp 152 #[.pointer b0] h (λb c=>b=.tuple #[]/\∃d,b0=Td d/\∃e,zc c (Ad d 1)=Td (slV e)/\XRun Tp (Au #[110,9] 110 #[slV e,.string s1]) c (λf g=>∃i,f=slV i/\∃j,b0=Td j/\XRunU Tp (Af 110 (.pointer (Td (Ad j 1))) (slV i)) g (λk=>R (.tuple #[.int .i64 (s1.size:Int),.nilIface]) k)))):
  XC Tp 85 #[.pointer b0,.string s1] h R:=
 XF ⟨[],[],[]⟩ [.tmp 4,.tmp 5] 19 Tryz.func85 H
end
section
variable {gl:Fr}
theorem z4l:MapT Tp 154 9 4 (.bool Tc):=⟨by kernel_rfl,by kernel_rfl,⟨Tryz.t4,by kernel_rfl,by kernel_rfl⟩⟩
set_option maxHeartbeats 1000000 in
theorem qaq(hg:GL gl){ks:List Bt}{n:Int}(hk:∀k∈ks,(lb k).length<=1048576){R:Bool->Prop}(h:R (wh ks&&decide ((ks.length:Int)=n))):PC Tp gl 164 [Arg.mk (.row .str) ks,Arg.mk (.int .i64) n] [.bool] R:=by
 intro p M vs hM ag ha
 match vs,ha with
 |[u,w],⟨h1,h2,_⟩=>
  obtain⟨s,rfl,Z⟩:=z3l h1;have hw:=j4 h2;subst hw;have Z:Rd M (.row .str) ks [slV s]:=Z;obtain⟨Q,ak,am⟩:=rowLen Z;apply PX.of;apply zk7 s n;intro g0;have kg:Keep p.size p g0:=Keep.push _ _ (Ab _);have sg:g0.size=p.size+1:=Aj _;have mg:MapAt g0 p.size []:=MapAt.new p;clear_value g0;refine⟨λi Y=>∃k:Nat,i=k/\k<=ks.length/\p.size<Y.size/\(∃L,Later p M Y L/\L p.size=Te)/\(∃l,MapAt Y p.size l/\∀x,zwd l x (.bool Tc)=.bool (decide (x∈ks.take k)))/\wh (ks.take k)=Ta,λi _=>ks.length-i.toNat,⟨0,rfl,by omega,by omega,⟨M,Later.same ag kg,ag.none (Ab _)⟩,⟨[],mg,λx=>rfl⟩,by simp[wh]⟩,?_⟩;rintro i Y ⟨k,rfl,an,E,⟨L,C,N⟩,⟨l,A,S⟩,F⟩;refine⟨λhc=>?_,λhc=>?_⟩;have q:k<ks.length:=by simp at hc;omega
  have ai:=Rd.mono C.le Z;refine zzv C.ag ai q rfl rfl ?_;have U:=J8 z4l A ks[k] Tc;rw[S]at U;refine⟨decide (ks[k]∈ks.take k),U,?_⟩;have o:=zrk hg.tabs (l:=lb ks[k]) (R:=λb=>b=Z4 (lb ks[k])) (by have:=hk _ (AE q);omega) rfl;rw[Yw]at o;generalize hd:decide (ks[k]∈ks.take k)=d;refine⟨λv H=>∃b,v=.bool b/\(d=Tc->b=Z4 (lb ks[k]))/\p.size<H.size/\(∃D,Later p M H D/\D p.size=Te)/\MapAt H p.size l,λhn=>?_,λhn=>⟨Ta,Ta,rfl,λe=>(by rw[e]at hn;cases hn),E,⟨L,C,N⟩,A⟩,λ_ v H ⟨b,e,_⟩=>⟨b,e⟩,?_⟩;refine o.go (vs:=[.string ks[k]]) (hM.trans C.le) C.ag (qc (rdStr _) qt) λv H D r t V ae=>⟨r,zhq V,r,rfl,λ_=>ae,by have:=t.keep.size;omega,⟨D,C.trans t,by rw[t.old _ E,N]⟩,A.keep (t.keep.get _ E)⟩;rintro b H ⟨b',e,P,aj,⟨D,t,O⟩,aa⟩;cases e;have J:ks.take (k+1)=ks.take k++[ks[k]]:=Aw q;have I:wh (ks.take (k+1))=(!d&&Z4 (lb ks[k])):=by
   have f:=F;unfold wh at f ⊢;rw[Ap,decide_eq_true_eq]at f;rw[J,DG,f.1,<-hd];have:decide (List.take k ks++[ks[k]]).Nodup=!decide (ks[k]∈ks.take k):=by rw[AM];simp only[decide_eq_true_eq,DL,decide_eq_false_iff_not,CV];constructor;rintro⟨_,_,h3⟩ y;exact h3 _ y _ (by simp) rfl;intro y;exact⟨f.2,by simp,λa ha b P e=>y (by simp at P;rw[<-P,<-e];exact ha)⟩
   rw[this];simp[Bool.and_comm]
  refine⟨λz=>?_,λz=>?_⟩;refine⟨D,_,t,Xe.2 (rdBool _),?_⟩;have hf:wh (ks.take (k+1))=Tc:=by
   rw[I];cases d with
   |true=>rfl
   |false=>rw[P rfl]at z;simpa using z
  have ah:wh ks=Tc:=by
   cases hks:wh ks with
   |false=>rfl
   |true=>
    unfold wh at hks hf;rw[Ap,decide_eq_true_eq]at hks;have h1:((ks.take (k+1)).all λk=>Z4 (lb k))=Ta:=by rw[Av]at hks ⊢;exact λx z=>hks.1 x (List.mem_of_mem_take z)
    have h2:(ks.take (k+1)).Nodup:=hks.2.sublist (List.take_sublist _ _);rw[h1,decide_eq_true h2]at hf;cases hf
  rw[ah]at h;exact h;have B:d=Tc:=by cases d with
   |true=>simp at z
   |false=>rfl
  have ab:Z4 (lb ks[k])=Ta:=by rw[<-P B];rw[B]at z;simpa using z
  refine zqa z4l aa ks[k] (.bool Ta) λh6 m6 s6 o6=>?_;rw[ju q (by omega)];refine⟨⟨k+1,rfl,by omega,by omega,⟨D,⟨⟨by have:=t.keep.size;omega,λi hi=>by rw[o6 i (by omega)];exact t.keep.get i hi⟩,t.le,t.old,?_⟩,O⟩,⟨_,m6,λx=>?_⟩,by rw[I,B,ab];rfl⟩,by simp only[Ai];omega⟩;intro b c e;have af:b≠p.size:=λe2=>by rw[e2,O]at e;cases e
  obtain⟨T,m,e'⟩:=t.ag b c e;exact⟨T,m,by rw[o6 b af];exact e'⟩;unfold zwd;rw[zp9,J];by_cases G:ks[k]=x;subst G;rw[if_pos rfl];simp only[Ay,A4,or_true,decide_true,Option.getD_some];rw[if_neg G];have:=S x;unfold zwd at this;rw[this];congr 1;rw[AM,decide_eq_true_eq,decide_eq_true_eq,Ay,A4];exact⟨.inl,λe=>e.elim id λe=>absurd e.symm G⟩;have q:k=ks.length:=by simp at hc;omega
  subst q;rw[A3]at F;refine⟨L,_,C,Xe.2 (rdBool _),?_⟩;rw[F,Cs]at h;have:(((s.len:Nat):Int)==n)=decide ((ks.length:Int)=n):=by rw[Q,AM];simp
  rw[this];exact h
def Beh(gl:Fr)(F:FuncId)(A C:Array Value)(h:zb)(M:Fr)(t:Ty)(x:El t)(b:Bool):Prop:=
 zh Tp F=Ta/\∀h' M' u,Later h M h' M'->RdV M' t x u->PX Tp F (A++#[u]++C) h' M' [.bool] (λr=>r=b)
theorem qhz{F:FuncId}{A C:Array Value}{h:zb}{M:Fr}(ag:AgM M h){xs:List Tr}{s:Sl}(t:Rd M (.row .tree) xs [slV s]){p:Tr->Bool}(y:∀x∈xs,Beh gl F A C h M .tree x (p x)):
  PX Tp 162 #[slV s,.func (.func F) A C] h M [.bool] (λr=>r=xs.any p):=by
 apply PX.of;apply jl s F A C;apply j7 s F A C;obtain⟨z,G,D⟩:=rowLen t;refine⟨λi o=>∃k:Nat,i=k/\k<=xs.length/\(∃m,Later h M o m)/\(xs.take k).any p=Tc,λi _=>xs.length-i.toNat,⟨0,rfl,by omega,⟨M,Later.refl ag⟩,by simp⟩,?_⟩;rintro i o ⟨k,rfl,J,⟨m,e⟩,c⟩;refine⟨λn=>?_,λn=>?_⟩;have b:k<xs.length:=by simp at n;omega
 obtain⟨a,sk,si,H,B,I,E⟩:=zd8 e.ag (Rd.mono e.le t) b;refine⟨a,⟨H,by omega,by omega⟩,xs[k].kind,xs[k].text,sk,si,by rw[Ai];exact B,(y _ (AE b)).1,?_⟩;refine((y _ (AE b)).2 o m _ e (qf I E)).go λv L u r w f l=>⟨r,zhq f,λq=>?_,λq=>?_⟩;refine⟨(k:Int),rfl,u,_,e.trans w,Xe.2 (rdBool _),?_⟩;have:xs.any p=Ta:=List.any_eq_true.2 ⟨xs[k],AE b,by rw[<-l];exact q⟩;rw[this];simp;rw[ju b (by omega)];refine⟨⟨k+1,rfl,by omega,⟨u,e.trans w⟩,?_⟩,by simp only[Ai];omega⟩;rw[Aw b,List.any_append,c];simp only[List.any_cons,List.any_nil,<-l,q];rfl;have b:k=xs.length:=by simp at n;omega
 subst b;rw[A3]at c;refine⟨-1,rfl,m,_,e,Xe.2 (rdBool _),?_⟩;rw[c];rfl
end
section
variable {l:List Bt} {gl:Fr} {v:Tr} {R:Bool -> Prop} {F:FuncId}
theorem qmh:decide (((l.length:Nat):Int)>0)=!l.isEmpty:=by cases l <;> simp
theorem qk2{l:List Tr}:decide (((l.length:Nat):Int)>0)=!l.isEmpty:=by cases l <;> simp
theorem qh0(s:Bt):(s.toList==(⟨#[]⟩:Bt).toList)=(lb s==[]):=by have:=zg8 (lb s) [];rw[Yw]at this;rw[show(⟨#[]⟩:Bt)=bl []from rfl,this,AM];simp
theorem qk3(s:Bt)(l:Bs):(s.toList==(bl l).toList)=(lb s==l):=by have:=zg8 (lb s) l;rw[Yw]at this;rw[this,AM];simp
theorem qmi{k n:Int}:(k==n)=decide (k=n):=by rw[AM];simp
set_option maxHeartbeats 1000000 in
theorem z4m(o:GL gl)(H:Sm v)(h:R (zn v)):PC Tp gl 96 [Arg.mk .tree v] [.bool] R:=by
 apply zno;have y:(lb v.text).length<=1152921504606846976:=by have:=H.text;omega
 have key:∀b,b=zn v->R b:=λb I=>by rw[I];exact h
 have J:=zcm o (s:=lb v.text) (R:=λr=>R r.2\/v.kind≠3) y;have p:=zrk o.tabs (l:=lb v.text) (R:=λr=>r=Z4 (lb v.text)) (by omega) rfl;have n:=qey o (s:=lb v.text) (R:=λr=>r=z4i (lb v.text)) y rfl;have q:=zcm o (s:=lb v.text) (R:=λr=>r.2=(zz4 (lb v.text)).2) y rfl;rw[Yw]at p n q;simp only[qmi,qmh,qk2,show(⟨#[116,114,117,101]⟩:Bt)=bl [116,114,117,101]from rfl,show(⟨#[102,97,108,115,101]⟩:Bt)=bl [102,97,108,115,101]from rfl,qk3];unfold zn at key;refine⟨λt=>key _ ?_,λt=>⟨λu=>?_,λu=>⟨λE=>key _ ?_,λE=>?_⟩⟩⟩;have:v.kind=5:=by simpa using t
 simp[this,Bool.and_comm];have c:v.kind=6:=by simpa using u
 refine qaq o (λk m=>H.key m) (key _ ?_);simp only[c];rw[Bool.cond_false_right];have:decide ((v.keys.length:Int)=(v.items.length:Int))=decide (v.keys.length=v.items.length):=by rw[AM,decide_eq_true_eq,decide_eq_true_eq];omega
 rw[this];rfl;have f:v.kind≠5:=by simpa using t
 have c:v.kind≠6:=by simpa using u
 have e:(v.keys.isEmpty&&v.items.isEmpty)=Tc:=by cases m:v.keys.isEmpty <;> cases hi:v.items.isEmpty <;> simp[m,hi]at E ⊢
 simp only[f,c,if_false,Bool.and_assoc,e,Bool.and_false];simp;have f:v.kind≠5:=by simpa using t
 have c:v.kind≠6:=by simpa using u
 have e:v.keys.isEmpty=Ta/\v.items.isEmpty=Ta:=by cases m:v.keys.isEmpty <;> cases hi:v.items.isEmpty <;> simp[m,hi]at E ⊢
 simp only[f,c,if_false,e.1,e.2,Dt]at key;refine⟨λh1=>key _ ?_,λh1=>⟨λx=>key _ ?_,λx=>⟨λB=>?_,λB=>⟨λA=>?_,λA=>⟨λD=>?_,λD=>key _ ?_⟩⟩⟩⟩⟩;have:v.kind=1:=by simpa using h1
 simp[this];have:v.kind=2:=by simpa using x
 simp[this];have:v.kind=3:=by simpa using B
 exact q.mono λr i=>key _ (by rw[i];simp[this]);have:v.kind=4:=by simpa using A
 exact p.mono λr i=>key _ (by rw[i];simp[this]);have:v.kind=7:=by simpa using D
 exact n.mono λr i=>key _ (by rw[i];simp[this]);have G:v.kind≠1:=by simpa using h1
 have w:v.kind≠2:=by simpa using x
 have z:v.kind≠3:=by simpa using B
 have F:v.kind≠4:=by simpa using A
 have C:v.kind≠7:=by simpa using D
 simp[G,w,z,F,C]
theorem qk4{k:Nat}(h:k<l.length):l[((k:Int)).toNat]?=Td l[k]:=by rw[Ai,Al h]
theorem qar(hF:zh Tp F=Ta){p:Tr->Bool}(hp:∀x,Sm x->PC Tp gl F [Arg.mk .tree x] [.bool] (λr=>r=p x))(n:Nat):∀(v:Tr),tsz v<=n->Sm v->∀{h:zb} {M:Fr} {u:Value},Fr.le gl M->AgM M h->RdV M .tree v u ->
  PX Tp 94 #[u,.func (.func F) #[] #[]] h M [.bool] (λr=>r=Q8 p v):=by
 induction n with
 |zero=>intro v hn;have:=Q2 v;omega
 |succ n ih=>
 intro v hn hv h M u hM ag hu;have O:=hu;obtain⟨sk,si,rfl,rk,ri⟩:=yz hu;apply PX.of;apply zk8 v.kind v.text sk si F #[] #[];intro h1 m;have L1:Later h M h1 M:=Later.push ag _;have l:Later h1 M m (Mx M h1.size #[.func (.func F) #[] #[]]):=Later.frz L1.ag _ _;have s1:h1.size=h.size+1:=Aj _;have s2:m.size=h1.size+1:=Aj _;have o:zd m ⟨h.size,0,Te⟩ 0 [.int .i64 v.kind,.string v.text,slV sk,slV si]:=z3o (h':=m) (by have:=l.keep;rw[s1]at this;exact this);have S:∀h':zb,Keep m.size m h'->zc h' (Ad ⟨h.size,0,Te⟩ 3)=Td (slV si):=λh' k=>by refine qen (h:=h) (T:=26) (cs:=[.int .i64 v.kind,.string v.text,slV sk,slV si]) ?_ rfl;have:=l.keep.trans k (by omega);rw[s1]at this;exact this
 have q:zc m ⟨h1.size,0,Te⟩=Td (.func (.func F) #[] #[]):=l.ag.cell (z3n _ _ _) rfl;have Z:(Mx M h1.size #[.func (.func F) #[] #[]]) h1.size=Td #[.func (.func F) #[] #[]]:=z3n _ _ _;have D:=L1.trans l;clear_value h1 m;generalize (Mx M h1.size #[.func (.func F) #[] #[]])=M2 at *;refine⟨_,q,v.kind,v.text,sk,si,o,hF,?_⟩;refine(hp v hv).go (vs:=[.agg #[.int .i64 v.kind,.string v.text,slV sk,slV si]]) (hM.trans D.le) D.ag (qc (RdV.mono D.le O) qt) λw h3 N r E B hr=>?_;refine⟨r,zhq B,si,λ_=>S h3 E.keep,?_⟩;have f:=D.trans E;refine⟨λw C=>∃b,w=.bool b/\(r=Ta->b=!(zeh p v.items))/\∃y,Later h M C y,λaf=>?_,λA=>⟨Ta,Ta,rfl,λe=>(by rw[e]at A;cases A),N,f⟩,λ_ w C ⟨b,e,_⟩=>⟨b,e⟩,?_⟩;have ab:Rd N (.row .tree) v.items [slV si]:=Rd.mono f.le ri;have aa:N h1.size=Td #[.func (.func F) #[] #[]]:=E.le _ _ Z;refine(qhz (gl:=gl) E.ag ab (p:=λx=>!(Q8 p x)) λx hx=>⟨by kernel_rfl,λh' M' u' V Q=>?_⟩).go λw C y b H t I=>⟨b,zhq t,b,rfl,λ_=>?_,y,f.trans H⟩;have ae:=yd hx;obtain⟨i,c,rfl,L,Y⟩:=yz Q;apply PX.of;show XC Tp 163 #[.agg #[.int .i64 x.kind,.string x.text,slV i,slV c],.pointer (Td ⟨h1.size,0,Te⟩)] h' _;apply zha x.kind x.text i c;intro z;have P:Later h' M' z M':=Later.push V.ag _;have G:zd z ⟨h'.size,0,Te⟩ 0 [.int .i64 x.kind,.string x.text,slV i,slV c]:=z3o (Keep.refl _ _);have U:zc z ⟨h1.size,0,Te⟩=Td (.func (.func F) #[] #[]):=P.ag.cell (V.le _ _ aa) rfl;clear_value z;refine⟨x.kind,x.text,i,c,G,_,U,?_⟩;refine(ih x (by omega) (hv.item hx) (h:=z) (M:=M') ((hM.trans f.le).trans V.le) P.ag (qf L Y)).go λw h5 M5 b L5 s J=>⟨b,zhq s,M5,_,P.trans L5,Xe.2 (rdBool _),by rw[J]⟩;rw[I,jk,AM];simp;rintro b C ⟨b',e,hb,y,H⟩;cases e;refine⟨y,_,H,Xe.2 (rdBool _),?_⟩;rw[y0,<-hr];cases r with
 |false=>rfl
 |true=>rw[hb rfl];simp
theorem zw8(b:zh Tp F=Ta){p:Tr->Bool}(i:∀x,Sm x->PC Tp gl F [Arg.mk .tree x] [.bool] (λr=>r=p x))(v:Tr)(e:Sm v){h:zb}{M:Fr}{u:Value}(c:Fr.le gl M)(ag:AgM M h)(f:RdV M .tree v u): PX Tp 94 #[u,.func (.func F) #[] #[]] h M [.bool] (λr=>r=Q8 p v):=qar b i (tsz v) v (Ab _) e c ag f
theorem zux(J:GL gl)(D:Sm v)(q:R (Zx v)):PC Tp gl 88 [Arg.mk .tree v] [.bool] R:=by
 intro h M vs C ag L
 match vs,L with
 |[u],⟨o,_⟩=>
  have o:RdV M .tree v u:=o;have n:=o;obtain⟨sk,si,rfl,V,Z⟩:=yz o;apply PX.of;apply zob v.kind v.text sk si;intro h1;have s:Later h M h1 M:=Later.push ag _;have s1:h1.size=h.size+1:=Aj _;have f:∀h':zb,Keep h1.size h1 h'->zd h' ⟨h.size,0,Te⟩ 0 [.int .i64 v.kind,.string v.text,slV sk,slV si]:=λh' k=>z3o (h':=h') (by rw[s1]at k;exact k);clear_value h1;refine⟨v.kind,v.text,sk,si,f h1 (Keep.refl _ _),?_⟩;have A:PC Tp gl 93 [Arg.mk .tree v] [.bool] (λr=>r=Zf v):=zw7 D rfl;refine A.go (vs:=[.agg #[.int .i64 v.kind,.string v.text,slV sk,slV si]]) (C.trans s.le) s.ag (qc (RdV.mono s.le n) qt) λw H G r y m E=>?_;refine⟨r,zhq m,v.kind,v.text,sk,si,λ_=>f H y.keep,?_⟩;have c:=s.trans y;refine⟨λw t=>∃b,w=.bool b/\(r=Ta->b=Q8 zn v)/\∃z,Later h M t z,λQ=>?_,λl=>⟨Ta,Ta,rfl,λe=>(by rw[e]at l;cases l),G,c⟩,λ_ w t ⟨b,e,_⟩=>⟨b,e⟩,?_⟩;refine(zw8 (F:=96) (by kernel_rfl) (p:=zn) (λx O=>z4m J O rfl) v D (C.trans c.le) y.ag (RdV.mono c.le n)).go λw Y N b S i B=>⟨b,zhq i,b,rfl,λ_=>B,N,c.trans S⟩;rintro b t ⟨U,e,P,z,I⟩;cases e;refine⟨z,_,I,Xe.2 (rdBool _),?_⟩;unfold Zx at q;rw[<-E]at q;cases r with
  |false=>exact q
  |true=>rw[cond_true,P rfl];exact q
end
end Go.X
end
section
namespace Go.X
open Go Go.RowKit
section
variable {h h':zb} {bs:List Nat} {v:Tr} {M:Fr} {b o:Nat} {cs:Array Value} {vs:List Value}
def OKeys(h:zb)(ks:List Bt)(bs:List Nat)(s:Sl):Prop:=
 s.len=ks.length/\ks.length<=140737488355328/\ks.length<=s.cap/\((ks=[]/\bs=[]/\s.cap=0)\/∃b cs,bs=[b]/\s.a=Td ⟨b,0,Te⟩/\Blk h b cs/\s.cap<=cs.size/\cut cs 0 ks.length=ks.map AZ)
inductive OT (h:zb):Tr->List Nat->List Value->Prop where
 |mk {k:Int} {s:Bt} {ks:List Bt} {xs:List Tr} {sk si:Sl} {bk bb:List Nat} {b:Nat} {cs:Array Value} {bf:Nat->List Nat}
  (hk:OKeys h ks bk sk) (hn:si.len=xs.length/\xs.length<=140737488355328/\xs.length<=si.cap)
  (hz:(xs=[]/\bb=[]/\si.cap=0)\/(bb=[b]/\si.a=Td ⟨b,0,Te⟩/\Blk h b cs/\si.cap*4<=cs.size))
  (hi:∀i (hx:i<xs.length),OT h xs[i] (bf i) (cut cs (i*4) 4))
  (hd:(bk++(bb++(Bl xs.length).flatMap bf)).Nodup):
  OT h (.mk k s ks xs) (bk++(bb++(Bl xs.length).flatMap bf)) [.int .i64 k,.string s,slV sk,slV si]
theorem OKeys.frame{ks:List Bt}{s:Sl}(H:OKeys h ks bs s)(i:∀b∈bs,h'[b]?=h[b]?):OKeys h' ks bs s:=by obtain⟨h1,m,f,c⟩:=H;refine⟨h1,m,f,c.imp id ?_⟩;rintro⟨b,cs,rfl,k,e,l⟩;exact⟨b,cs,rfl,k,e.keep (i b (by simp)),l⟩
theorem OT.frame{cells:List Value}(H:OT h v bs cells):(∀b∈bs,h'[b]?=h[b]?)->OT h' v bs cells:=by
 induction H with
 | @mk k s ks xs sk si bk bb b cs bf hk hn hz hi hd ih=>intro f;refine OT.mk (b:=b) (cs:=cs) (hk.frame λx c=>f x (by simp[c])) hn (hz.imp id ?_) (λi c=>ih i c λx e=>f x ?_) hd;rintro⟨rfl,n,l,m⟩;exact⟨rfl,n,l.keep (f b (by simp)),m⟩;simp only[Ay,Cw,A1];exact .inr (.inr ⟨i,c,e⟩)
theorem OT.nodup{cells:List Value}(H:OT h v bs cells):bs.Nodup:=by cases H with|mk _ _ _ _ b=>exact b
theorem OT.lt{cells:List Value}(H:OT h v bs cells):∀b∈bs,b<h.size:=by
 induction H with
 | @mk k s ks xs sk si bk bb b cs bf hk hn hz hi hd ih=>intro x c;simp only[Ay,Cw,A1]at c;rcases c with c|c|⟨i,h1,l⟩;obtain⟨_,_,_,f⟩:=hk;rcases f with⟨_,rfl,_⟩|⟨m,cs',rfl,_,e,_⟩;cases c;simp at c;subst c;exact e.lt;rcases hz with⟨_,rfl,_⟩|⟨rfl,_,e,_⟩;cases c;simp at c;subst c;exact e.lt;exact ih i h1 x l
theorem OT.len{cells:List Value}(H:OT h v bs cells):cells.length=4:=by cases H;rfl
theorem OT.rd{cells:List Value}(H:OT h v bs cells)(p:∀b∈bs,∀cs,Blk h b cs->M b=Td cs):TrRd M v cells:=by
 induction H with
 | @mk k s ks xs sk si bk bb b cs bf hk hn hz hi hd ih=>
  obtain⟨y,k2,w,u⟩:=hk;have l:RowAt M (λs cs=>cs=[.string s]) 1 ks (slV sk):=by
   refine⟨sk.a,sk.cap,by rw[slV,y],⟨k2,w⟩,?_⟩;rcases u with⟨h0,_⟩|⟨t,cs',rfl,r,m,_,z⟩;exact .inl h0;refine .inr ⟨t,0,cs',r,p t (by simp) cs' m,λi f=>?_⟩;have:(cut cs' 0 ks.length)[i]?=Td (AZ ks[i]):=by rw[z,Bn,Al f];rfl
   unfold cut at this ⊢;rw[AJ,if_pos f,BZ]at this;have c:=(AY.1 this).1;rw[AI,Ci,Bw c,Dd,Dl];rw[Al c]at this;rw[Az this]
  have n:slV si=.slice si.a xs.length si.cap:=by rw[slV,hn.1]
  rw[n];refine TrRd.mk (b:=b) (o:=0) (cs:=cs) l hn.2 (hz.imp (·.1) ?_) λi f=>?_;rintro⟨rfl,r,m,_⟩;exact⟨r,p b (by simp) cs m⟩;rw[AI];exact ih i f λx q cs' e=>p x (by simp only[Ay,Cw,A1];exact .inr (.inr ⟨i,f,q⟩)) cs' e
def MxL(M:Fr)(h:zb)(bs:List Nat):Fr:=λi=>if i∈bs then(match h[i]? with
 |some (.cells cs _ _)=>Td cs
 |_=>Te)else M i
theorem MxL.ag{M:Fr}{h:zb}(ag:AgM M h)(bs:List Nat):AgM (MxL M h bs) h:=by intro b c e;unfold MxL at e;split at e;split at e;rename_i cs T m f;cases e;exact⟨T,m,f⟩;cases e;exact ag b c e
theorem MxL.later{h0 h:zb}(ag:AgM M h0)(k:Keep h0.size h0 h)(hb:∀b∈bs,h0.size<=b):Later h0 M h (MxL M h bs) where
 keep:=k
 le:=λb c e=>by have:=ag.lt e;unfold MxL;rw[if_neg (λhm=>by have:=hb b hm;omega)];exact e
 old:=λb hlt=>by unfold MxL;rw[if_neg (λhm=>by have:=hb b hm;omega)]
 ag:=MxL.ag (ag.keep k) bs
theorem MxL.at(c:b∈bs)(e:Blk h b cs):MxL M h bs b=Td cs:=by obtain⟨T,e⟩:=e;unfold MxL;rw[if_pos c,e]
theorem OT.rdv{cells:List Value}(H:OT h v bs cells):RdV (MxL M h bs) .tree v (.agg cells.toArray):=by unfold RdV;simp only[zhn,if_true];exact⟨cells,rfl,H.rd λb c cs e=>MxL.at c e⟩
def upd(cs:Array Value)(o:Nat)(vs:List Value):Array Value:=(cs.toList.take o++vs++cs.toList.drop (o+vs.length)).toArray
theorem zw9(h:o+vs.length<=cs.size):(upd cs o vs).size=cs.size:=by unfold upd;simp;omega
theorem qez(h:o+vs.length<=cs.size)(q:Nat):(upd cs o vs).toList[q]?=if q<o then cs.toList[q]? else if q<o+vs.length then vs[q-o]? else cs.toList[q]?:=by unfold upd;exact Qo (by simpa using h) q
theorem qz{o n i:Nat}:(cut cs o n)[i]?=if i<n then cs.toList[o+i]? else Te:=by unfold cut;rw[AJ];split;rw[A9];rfl
theorem zei{P:Program}{t:TypeId}(hi:qb P t=Ta)(H:Blk h b cs){v:Value}(f:v.cells.toList=vs)(m:qi P t=vs.length)(k:o+vs.length<=cs.size)(h1:∀u∈vs,u.oneCell'=Ta){K:zb->Prop}
  (i:∀h':zb,Blk h' b (upd cs o vs)->h'.size=h.size->(∀j,j≠b->h'[j]?=h[j]?)->K h'):XRunU P (Af t (.pointer (Td ⟨b,o,Te⟩)) v) h K:=by
 intro B d;obtain⟨T,e⟩:=H;have c:v.cells.size=vs.length:=by rw[<-f];simp
 obtain⟨h',n,q,p,l⟩:=Qx (P:=P) hi m e c k (by rw[f];exact h1) B d;refine⟨d,h',n,i h' ⟨T,?_⟩ p l⟩;rw[q];unfold upd;rw[f]
theorem Blk.ofKeep(H:Blk h b cs)(k:Keep h.size h h'):Blk h' b cs:=H.keepN k H.lt
theorem zej(ag:AgM M h)(bs:List Nat):Fr.le M (MxL M h bs):=by intro b c e;unfold MxL;split;obtain⟨T,m,e'⟩:=ag b c e;rw[e'];exact e
end
end Go.X
end
section
namespace Go.X
section
variable {cs:Array Value}
theorem z4n:ElemT Tp 23 9 (.string ⟨#[]⟩) 1 16:=⟨by kernel_rfl,⟨Tryz.t9,by kernel_rfl,by kernel_rfl,by kernel_rfl,by kernel_rfl⟩,rfl,by omega⟩
theorem zoc:ElemT Tp 24 26 (.agg #[.int .i64 0,.string ⟨#[]⟩,.slice Te 0 0,.slice Te 0 0]) 4 72:=⟨by kernel_rfl,⟨Tryz.t26,by kernel_rfl,by kernel_rfl,by kernel_rfl,by kernel_rfl⟩,rfl,by omega⟩
theorem qk5:qb Tp 26=Ta:=by kernel_rfl
theorem qk6:qi Tp 26=4:=by kernel_rfl
theorem qh1:qb Tp 23=Ta:=by kernel_rfl
theorem qh2:qi Tp 23=1:=by kernel_rfl
def wu(k:Int)(s:Bt)(sk si:Sl):List Value:=[.int .i64 k,.string s,slV sk,slV si]
theorem zz7(k:Int)(s:Bt)(sk si:Sl):∀u∈wu k s sk si,u.oneCell'=Ta:=by intro u b;simp[wu]at b;rcases b with rfl|rfl|rfl|rfl <;> simp[Value.oneCell',slV]
theorem zrn(k:Int)(s:Bt)(sk si:Sl):(Value.agg #[.int .i64 k,.string s,slV sk,slV si]).cells.toList=wu k s sk si:=rfl
theorem qe0{vs:List Value}(h:cs.size=vs.length):upd cs 0 vs=vs.toArray:=by unfold upd;rw[Dl,A5,AI,<-h];have:cs.toList.drop cs.size=[]:=Br (by simp);rw[this,AQ]
theorem zek{h:zb}{b:Nat}(H:Blk h b cs)(c:cs.size=4)(k:Int)(s:Bt)(sk si:Sl){K:zb->Prop}
  (i:∀h':zb,Blk h' b (wu k s sk si).toArray->h'.size=h.size->(∀j,j≠b->h'[j]?=h[j]?)->K h'):XRunU Tp (Af 26 (.pointer (Td ⟨b,0,Te⟩)) (.agg #[.int .i64 k,.string s,.slice sk.a sk.len sk.cap,.slice si.a si.len si.cap])) h K:=
 zei (vs:=wu k s sk si) qk5 H (zrn k s sk si) qk6 (by rw[c];exact Ab _) (zz7 k s sk si) λh' e f l=>i h' (by rw[qe0 (by rw[c];rfl)]at e;exact e) f l
end
end Go.X
end
section
namespace Go.X
open Go Go.Lib
section
mutual
def tks:Tr->Nat | .mk _ _ ks xs=>1+ks.length+zht xs
def zht:List Tr->Nat | []=>0|x::l=>tks x+zht l
end
theorem qco(v:Tr):tks v=1+v.keys.length+zht v.items:=by cases v;rw[tks]
theorem zjn:∀a b:List Tr,zht (a++b)=zht a+zht b
 |[],b=>by simp[zht]
 |x::l,b=>by rw[AD,zht,zht,zjn l b];omega
theorem zxa{x:Tr}:∀{l:List Tr},x∈l->tks x<=zht l
 |y::l,h=>by rw[zht];rcases Ah.1 h with rfl|h;omega;have:=zxa h;omega
theorem z4o{l:List Tr}{k:Nat}(b:k<l.length):zht (l.take (k+1))=zht (l.take k)+tks l[k]:=by rw[Aw b,zjn];simp[zht]
mutual
theorem z4p:∀v:Tr,tsz v<=tks v
 |.mk k s ks xs=>by rw[tsz,tks];have:=zro xs;omega
theorem zro:∀l:List Tr,w9 l<=zht l
 |[]=>by simp[w9,zht]
 |x::l=>by rw[w9,zht];have:=z4p x;have:=zro l;omega
end
mutual
def txS:Tr->Prop | .mk _ s ks xs=>(s.size<=2048/\∀k∈ks,k.size<=1024)/\qcp xs
def qcp:List Tr->Prop | []=>True|x::l=>txS x/\qcp l
end
theorem qh3(v:Tr):txS v↔(v.text.size<=2048/\∀k∈v.keys,k.size<=1024)/\qcp v.items:=by cases v;rw[txS]
theorem zxb:∀{l:List Tr},qcp l↔∀x∈l,txS x
 |[]=>by simp[qcp]
 |x::l=>by rw[qcp,zxb];simp
mutual
theorem qcq:∀(v:Tr),tks v<=1000000->txS v->txB 1048576 v
 |.mk k s ks xs,h,g=>by rw[tks]at h;rw[txS]at g;rw[txB];exact⟨⟨by omega,by omega,λk b=>by have:=g.1.2 k b;omega⟩,z4q xs (by omega) g.2⟩
theorem z4q:∀(l:List Tr),zht l<=1000000->qcp l->zn6 1048576 l
 |[],_,_=>by rw[zn6];trivial
 |x::l,h,g=>by rw[zht]at h;rw[qcp]at g;rw[zn6];exact⟨qcq x (by omega) g.1,z4q l (by omega) g.2⟩
end
theorem Sm.few{v:Tr}(h:tks v<=1000000)(g:txS v):Sm v:=⟨by have:=z4p v;omega,qcq v h g⟩
end
end Go.X
end
section
namespace Go.X
section
variable {gl:Fr} {R:Tr -> Prop} {l:List Tr}
theorem qcr{gl:Fr}(v:Tr)(l d:Int)(z:0<=l/\l<=1000)(x:0<=d/\d<=61){R:Int->Prop}(h:∀r,-1000000000000000<=r->r<=l->(0<=r->r+tks v<=l)->R r):PC Tp gl 91 [Arg.mk .tree v,Arg.mk (.int .i64) l,Arg.mk (.int .i64) d] [.int .i64] R:=by
 refine PC.bd λf=>?_;have A:v.keys.length<=140737488355328/\v.items.length<=140737488355328:=f ⟨.tree,v⟩ (by simp);apply zf0;refine⟨λo=>h _ (by omega) (by omega) (by omega),λo=>?_⟩;have u:d<=60:=by simp at o;omega
 rw[w64 (n:=l-1) (by omega),w64 (by omega)];refine⟨λc i=>∃k:Nat,i=k/\k<=v.items.length/\-1000000000000000<=c/\c<=l/\(0<=c->c+(1+v.keys.length+zht (v.items.take k))<=l),λc i=>v.items.length-i.toNat,⟨0,rfl,by omega,by omega,by omega,λ_=>by simp[zht];omega⟩,?_⟩;rintro c i ⟨k,rfl,w,h1,p,m⟩;refine⟨λe=>?_,λe=>h c h1 p λh0=>?_⟩;have b:k<v.items.length/\0<=c:=by simp at e;omega
 refine⟨v.items[k],⟨by omega,zjm b.1⟩,?_⟩;rw[Xg,w64 (by omega)];have t:=yd (AE b.1);refine qcr v.items[k] c (d+1) ⟨b.2,by omega⟩ (by omega) λr q y s=>?_;rw[ju b.1 (by omega)];refine⟨⟨k+1,rfl,by omega,q,by omega,λh0=>?_⟩,by simp only[Ai];omega⟩;have:=s h0;have:=m b.2;rw[z4o b.1];omega;have b:k=v.items.length:=by simp at e;omega
 subst b;have:=m h0;rw[A3]at this;rw[qco];omega
termination_by tsz v
theorem zxc{gl:Fr}(v:Tr){R:Bool->Prop}(h:∀b,(b=Ta->txS v)->R b):PC Tp gl 92 [Arg.mk .tree v] [.bool] R:=by
 refine PC.bd λr=>?_;have t:v.keys.length<=140737488355328/\v.items.length<=140737488355328:=r ⟨.tree,v⟩ (by simp);apply zcf;refine⟨λc=>h _ (λe=>by cases e),λc=>?_⟩;have q:v.text.size<=2048:=by simp at c;omega
 refine⟨λi=>∃k:Nat,i=k/\k<=v.keys.length/\∀x∈v.keys.take k,x.size<=1024,λi=>v.keys.length-i.toNat,⟨0,rfl,by omega,by simp⟩,?_⟩;rintro i ⟨k,rfl,w,h1⟩;refine⟨λo=>?_,λo=>?_⟩;have l:k<v.keys.length:=by simp at o;omega
 refine⟨v.keys[k],⟨by omega,qk4 l⟩,λ_=>h _ (λe=>by cases e),λm=>?_⟩;have s:v.keys[k].size<=1024:=by simp at m;omega
 rw[ju l (by omega)];refine⟨⟨k+1,rfl,by omega,?_⟩,by simp only[Ai];omega⟩;rw[Aw l];intro x c;rcases Ay.1 c with c|c;exact h1 x c;simp at c;subst c;exact s;have l:k=v.keys.length:=by simp at o;omega
 subst l;rw[A3]at h1;refine⟨λi=>∃k:Nat,i=k/\k<=v.items.length/\∀x∈v.items.take k,txS x,λi=>v.items.length-i.toNat,⟨0,rfl,by omega,by simp⟩,?_⟩;rintro i ⟨k,rfl,w,n⟩;refine⟨λp=>?_,λp=>h _ λ_=>?_⟩;have f:k<v.items.length:=by simp at p;omega
 refine⟨v.items[k],⟨by omega,zjm f⟩,?_⟩;rw[Xg];have u:=yd (AE f);refine zxc v.items[k] λb t=>⟨λ_=>h _ (λe=>by cases e),λm=>?_⟩;rw[ju f (by omega)];refine⟨⟨k+1,rfl,by omega,?_⟩,by simp only[Ai];omega⟩;rw[Aw f];intro x c;rcases Ay.1 c with c|c;exact n x c;simp at c;subst c;exact t (by simpa using m);have f:k=v.items.length:=by simp at p;omega
 subst f;rw[A3]at n;exact(qh3 v).2 ⟨⟨q,h1⟩,zxb.2 n⟩
termination_by tsz v
theorem qh4{v:Tr}{m:Int}(i:0<=m/\m<=1000){R:Bool->Prop}(h:∀b,(b=Ta->tks v<=m/\Sm v)->R b):PC Tp gl 32 [Arg.mk .tree v,Arg.mk (.int .i64) m] [.bool] R:=by
 apply zfx;rw[Xg];refine qcr v m 0 i (by omega) λr h1 k f=>⟨λb=>b=Ta->txS v,λ_=>zxc v λb c=>c,λb c=>h _ λe=>?_⟩;cases hr:decide (r>=0)with
 |false=>rw[hr]at e;cases e
 |true=>
  rw[hr,cond_true]at e;have h0:0<=r:=by simp at hr;omega
  have:=f h0;exact⟨by omega,Sm.few (by omega) (c hr e)⟩
theorem qh5(h:R (.mk 5 ⟨#[]⟩ [] l)):PC Tp gl 29 [Arg.mk (.row .tree) l] [.tree] R:=by apply zfz;exact h
theorem qh6{ks:List Bt}(h:R (.mk 6 ⟨#[]⟩ ks l)):PC Tp gl 99 [Arg.mk (.row .str) ks,Arg.mk (.row .tree) l] [.tree] R:=by apply zfy;exact h
theorem qcs(b:GL gl){n:Int}(h1:-1000000<=n)(c:n<=1000000)(h:R (.mk 3 (bl (qm (zj (Lib.itoa n)).1)) [] [])):PC Tp gl 58 [Arg.mk (.int .i64) n] [.tree] R:=by apply zq6;refine qky b.pow (by omega) (by omega) ?_;exact zur b.pow (Yr _ (by have:=Go.X.itoa_len n;omega)) h
end
end Go.X
end
section
namespace Go.X
open Go Go.Proofs Go.Shelf Go.RowKit
section
def zel:Go.Shelf.Ren:=⟨fun|169=>87|n=>n,fun|70=>109|9=>9|0=>0|72=>112|37=>110|127=>181|3=>3|5=>5|n=>n,fun|n=>n⟩
theorem z4r:Go.Proofs.Lays.n169 Tp zel:={
 mixed:=by kernel_rfl
 f169:=LF Tryz.func87
 t0:=Cf
 a0:=CZ
 z0:=CN
 v0:=Cq
 t3:=BH
 a3:=Cx
 z3:=Cm
 v3:=BP
 t9:=BC
 a9:=Cz
 z9:=Co
 v9:=BR
 t37:=Tryz.underlying110
 a37:=Tryz.isAgg110
 z37:=Tryz.sizeOf110
 v37:=Tryz.zeroValue110
 t70:=Tryz.underlying109
 a70:=Tryz.isAgg109
 z70:=Tryz.sizeOf109
 v70:=Tryz.zeroValue109
 t72:=Tryz.underlying112
 a72:=Tryz.isAgg112
 z72:=Tryz.sizeOf112
 v72:=Tryz.zeroValue112
 t127:=DC
 a127:=Tryz.isAgg181
 z127:=Tryz.sizeOf181
 v127:=Tryz.zeroValue181 }
theorem zct:Builder.Extra Tp zel:={
 sizeBuilder:=by kernel_rfl
 liesBuilder:=by kernel_rfl
 t5:=Bz
 a5:=Cy
 z5:=Cn
 v5:=BQ
 infoByte:=by kernel_rfl
 cellsByte:=by kernel_rfl
 sizeByte:=by kernel_rfl
 neB5:=by decide }
theorem zbj(B b:Nat)(l:List UInt8)(w:World)(h:Lib.IsBuilder 112 5 B b (Lib.byteCells l) w)(c:B<=w.heap.size): Calls Tp 87 #[.pointer (Td ⟨b,0,Te⟩)] w λe w'=>e=.returned (.string ⟨l.toArray⟩)/\Below B w w':=Any.Builder_String_any z4r zct B b l w h c
def zod:Go.Shelf.Ren:=⟨fun|153=>265|152=>269|226=>293|227=>143|228=>214|137=>212|119=>300|224=>301|225=>302|217=>268|266=>299|n=>n,fun|9=>9|3=>3|4=>4|5=>5|21=>21|117=>170|116=>169|0=>0|46=>177|124=>173|n=>n,fun|n=>n⟩
theorem z4s:Go.Proofs.Lays.n153 Tp zod:={
 mixed:=by kernel_rfl
 f119:=LF Tryz.func300
 f137:=LF Ee
 f152:=LF Tryz.func269
 f153:=LF Tryz.func265
 f217:=LF Tryz.func268
 f224:=LF Tryz.func301
 f225:=LF Tryz.func302
 f226:=LF Tryz.func293
 f227:=LF Tryz.func143
 f228:=LF Tryz.func214
 f266:=LF Tryz.func299
 t0:=Cf
 a0:=CZ
 z0:=CN
 v0:=Cq
 t3:=BH
 a3:=Cx
 z3:=Cm
 v3:=BP
 t4:=BI
 a4:=CC
 z4:=Cu
 v4:=BW
 t5:=Bz
 a5:=Cy
 z5:=Cn
 v5:=BQ
 t9:=BC
 a9:=Cz
 z9:=Co
 v9:=BR
 t21:=Da
 a21:=DY
 z21:=DI
 v21:=Df
 t46:=Tryz.underlying177
 a46:=Tryz.isAgg177
 z46:=Tryz.sizeOf177
 v46:=Tryz.zeroValue177
 t116:=Tryz.underlying169
 a116:=Tryz.isAgg169
 z116:=Tryz.sizeOf169
 t117:=Tryz.underlying170
 a117:=Tryz.isAgg170
 z117:=Tryz.sizeOf170
 v117:=Tryz.zeroValue170
 t124:=Tryz.underlying173
 a124:=Tryz.isAgg173
 z124:=Tryz.sizeOf173
 v124:=Tryz.zeroValue173 }
open Go.RowKit Go.Lib in
theorem Wu(h:∀w,(zeroValue 169).run Tp w=.ok (.agg (BN 256 (.bool Tc))) w)(s c:Bt)(w:World)(m:2<=c.size)(k:8<s.size)(l:s.size<4294967281)(i:c.size<4294967281)(f:∀(j:Nat) b,c.data.toList[j]?=Td b->b.toNat<128): Calls Tp 265 #[.string s,.string c] w λe w'=>e=.returned (.int .i64 (Lib.indexAny s.data.toList c.data.toList))/\w'=((w.alloc (.cells (Lib.setCells c.data.toList) 169)).alloc (.cells (Lib.setCells c.data.toList) 169)):=Any.strings_IndexAny_long z4s h (by kernel_rfl) s c w m k l i f
end
end Go.X
end
section
namespace Go.X
open Go Go.X Go.Proofs Go.RowKit
section
variable {h h':zb} {b:Nat} {l:Bs} {cs:Array Value} {s:Sl} {K:Value -> zb -> Prop}
def Bld(h:zb)(b:Nat)(l:Bs):Prop:=∃(p:Option Addr) (s:Sl),h[b]?=Td (.cells #[.pointer p,slV s] 112 (0,0))/\(p=Te\/p=Td ⟨b,0,Te⟩)/\Owns h (b+1) 5 1 s (Lib.byteCells l)
theorem Bld.lt(H:Bld h b l):b<h.size:=by obtain⟨p,s,e,_⟩:=H;rcases A6 b h.size with q|q;exact q;rw[Array.getElem?_eq_none q]at e;cases e
theorem Bld.keep(H:Bld h b l)(k:Keep h.size h h'):Bld h' b l:=by have c:=H.lt;obtain⟨p,s,e,i,f⟩:=H;exact⟨p,s,by rw[k.get b c];exact e,i,f.keepN k⟩
theorem Bld.new(h:zb):Bld (h.push (.cells #[.pointer Te,.slice Te 0 0] 112)) h.size []:= ⟨Te,⟨Te,0,0⟩,yb _ _,.inl rfl,Owns.nil _ _ _ _⟩
theorem zuy:(A0.info? 112).map (·.size)=Td 2:=by kernel_rfl
theorem qe1:liesAt Tp A0.depth 112 (2 / A0.cellsOf 112) 0 112 1=Ta:=by kernel_rfl
theorem zrp:A0.underlying 109=Td (.pointer 112):=by kernel_rfl
theorem zoe:A0.underlying 234=Td .unsafePointer:=by kernel_rfl
set_option maxHeartbeats 1000000 in
set_option maxRecDepth 100000 in
theorem zme(b:Nat)(w:World)(h0:w.cell? ⟨b,0,Te⟩=Td (.pointer (Td ⟨b,0,Te⟩))):
  Calls Tp 152 #[.pointer (Td ⟨b,0,Te⟩)] w λe w'=>e=.returned (.tuple #[])/\w'=w:=by
 obtain⟨j,c,_⟩:=CF.1 zuy;have mixed:=Tryz.mixed
 go_enter Tryz.func152,Tryz.ntmps152
 go_wp2
 rw[Lib.run_neq_ptr_same w _ zrp c]
 go_wp2
 go_end0
 exact⟨rfl,rfl⟩
set_option maxHeartbeats 1000000 in
set_option maxRecDepth 100000 in
theorem zuz(b:Nat)(w:World)(h0:w.cell? ⟨b,0,Te⟩=Td (.pointer Te))(c:w.shape? b=Td (112,2))(i:w.frozen? ⟨b,0,Te⟩=Tc):
  Calls Tp 152 #[.pointer (Td ⟨b,0,Te⟩)] w λe w'=>e=.returned (.tuple #[])/\w'=w.setCell ⟨b,0,Te⟩ (.pointer (Td ⟨b,0,Te⟩)):=by
 obtain⟨j,h,f⟩:=CF.1 zuy;have mixed:=Tryz.mixed
 go_enter Tryz.func152,Tryz.ntmps152
 go_wp2
 rw[Lib.run_to_unsafe w ⟨b,0,Te⟩ zrp zoe h (by rw[f];decide) c (Nat.zero_lt_succ 1)];simp only[Result.andThen];rw[Oper.upon_value]
 go_wp2
 rw[run_callFunc_extern Tryz.func219 (by kernel_rfl) (by kernel_rfl) (by kernel_rfl) (e:=Ev) (by kernel_rfl)];rw[Lib.run_noEscape];simp only[Result.andThen];rw[Oper.upon_value]
 go_wp2
 rw[Lib.run_from_unsafe w ⟨b,0,Te⟩ zoe zrp h c qe1];simp only[Result.andThen];rw[Oper.upon_value]
 go_wp2
 go_end0
 exact⟨rfl,rfl⟩
theorem zmf{b o:Nat}{T:TypeId}(e:h[b]?=Td (.cells cs T (0,0)))(v:Value)(B:World)(d:Nat):(mk B d h).setCell ⟨b,o,Te⟩ v=mk B d (h.setIfInBounds b (.cells (cs.setIfInBounds o v) T (0,0))):=by
 unfold World.setCell mk;simp only;congr 1;have c:b<h.size:=(An.1 e).1;apply Array.ext_getElem?;intro i;rw[Array.getElem?_modify];by_cases hi:i=b;subst hi;have e':h[i]=.cells cs T (0,0):=by have:=Bo c;rw[e]at this;exact(Az this).symm
 simp[c,e'];rw[if_neg (Ne.symm hi),AB (Ne.symm hi)]
theorem Keep.ne(e:h'.size=h.size)(c:∀i,i≠b->h'[i]?=h[i]?):Keep b h h':=⟨by omega,λi hi=>c i (by omega)⟩
def Itk(h h':zb):Prop:=∀(i:Nat) (s:Bt) (p:Nat),h[i]?=Td (.stringIter s p)->h'[i]?=Td (.stringIter s p)
theorem Itk.trans{a b c:zb}(x:Itk a b)(y:Itk b c):Itk a c:=λi s p e=>y i s p (x i s p e)
theorem Itk.keep(k:Keep h.size h h'):Itk h h':=λi s p e=>by have hi:i<h.size:=(An.1 e).1;rw[k.get i hi];exact e
theorem Itk.ne{T:TypeId}{m:Nat×Nat}(e:h[b]?=Td (.cells cs T m))(f:∀i,i≠b->h'[i]?=h[i]?):Itk h h':=λi s p c=>by by_cases hi:i=b;subst hi;rw[e]at c;cases c;rw[f i hi];exact c
theorem Itk.own{base:Nat}{e:TypeId}{sz:Nat}{xs:List Value}(H:Owns h base e sz s xs)(f:∀i,i<h.size->(∀p,s.a=Td p->i≠p.block)->h'[i]?=h[i]?):Itk h h':=λi t p b=>by have hi:i<h.size:=(An.1 b).1;rw[f i hi λq n l=>?_];exact b;rcases H.2 with⟨c,_⟩|⟨g,cap,k,c,_,m,_⟩;rw[n]at c;cases c;have m:h[g]?=Td (.cells k e (0,0)):=m;rw[n]at c;injection c with e1 _ _;injection e1 with e1;rw[l,e1]at b;rw[m]at b;cases b
theorem chk(H:Bld h b l)(m:∀h',Bld h' b l->Keep b h h'->h'.size=h.size->Itk h h'->K (.tuple #[]) h'):XC Tp 152 #[.pointer (Td ⟨b,0,Te⟩)] h K:=by
 have f:=H.lt;obtain⟨p,s,e,n,k⟩:=H;have c:∀B d,(mk B d h).cell? ⟨b,0,Te⟩=Td (.pointer p):=λB d=>by have:(mk B d h).heap[b]?=Td (.cells #[.pointer p,slV s] 112 (0,0)):=e;simp[World.cell?,this]
 rcases n with rfl|rfl;refine XC.of_calls λB d=>(zuz b (mk B d h) (c B d) ?_ ?_).mono ?_
 have:(mk B d h).heap[b]?=Td (.cells #[.pointer Te,slV s] 112 (0,0)):=e;simp[World.shape?,this];exact zfk ⟨_,e⟩ B d;rintro e' w' ⟨rfl,rfl⟩;rw[zmf e];refine⟨_,rfl,rfl,rfl,rfl,?_⟩;show K _ (h.setIfInBounds b _);refine m _ ⟨_,s,?_,.inr rfl,?_⟩ ?_ (by simp) (Itk.ne e λi hi=>AB (Ne.symm hi));rw[CB f];rfl;refine k.keep λq o=>?_;have:=k.base_le q o;rw[AB (by omega)];exact Keep.setBlk _ (Ab _);refine XC.of_calls λB d=>(zme b (mk B d h) (c B d)).mono ?_;rintro e' w' ⟨rfl,rfl⟩;exact⟨_,rfl,rfl,rfl,rfl,m _ ⟨_,s,e,.inr rfl,k⟩ (Keep.refl _ _) rfl (Itk.keep (Keep.refl _ _))⟩
theorem elemU8:ElemT Tp 110 5 (.int .u8 0) 1 1:=⟨by kernel_rfl,⟨Tryz.t5,by kernel_rfl,by kernel_rfl,by kernel_rfl,by kernel_rfl⟩,rfl,by omega⟩
theorem qk7:A0.underlying 9=Td .string:=by kernel_rfl
theorem z4t:qb Tp 110=Ta:=by kernel_rfl
theorem z4u:qi Tp 110=1:=by kernel_rfl
theorem z4v{p:Option Addr}{s t:Sl}(e:h[b]?=Td (.cells #[.pointer p,slV t] 112 (0,0)))(k:p=Te\/p=Td ⟨b,0,Te⟩)(i:Owns h (b+1) 5 1 s (Lib.byteCells l)){K:zb->Prop}
  (r:∀h',Bld h' b l->Keep b h h'->h'.size=h.size->Itk h h'->K h'):XRunU Tp (Af 110 (.pointer (Td ⟨b,1,Te⟩)) (.slice s.a s.len s.cap)) h K:=by
 intro B d;obtain⟨h',n,u,f,c⟩:=Qx (P:=Tp) z4t z4u e (o:=1) (v:=slV s) rfl (by simp) (by simp[slV,Value.cells,Value.oneCell']) B d;refine⟨d,h',n,r h' ⟨p,s,?_,k,?_⟩ (Keep.ne f c) f (Itk.ne e c)⟩;rw[u];rfl;refine i.keep λq m=>?_;have:=i.base_le q m;exact c _ (by omega)
theorem Wv(H:Bld h b l)(hl:l.length<140737488355328)(c:UInt8)(F:∀h',Bld h' b (l++[c])->Keep b h h'->Itk h h'->K .nilIface h'):
  XC Tp 81 #[.pointer (Td ⟨b,0,Te⟩),.int .u8 (c.toNat:Int)] h K:=by
 apply j5;refine chk H λf C k2 z2 E=>⟨rfl,_,rfl,?_⟩;have y:=C.lt;obtain⟨p,s,e,J,t⟩:=C;have r:=t.1;rw[Lib.byteCells_length,Ci]at r;refine⟨s,Blk.cellAdd (o:=0) (k:=1) (cs:=#[.pointer p,slV s]) ⟨_,e⟩ rfl,?_⟩;intro m;have u:Keep f.size f m:=Keep.push _ _ (Ab _);have Z:m.size=f.size+1:=Aj _;have b5:Blk m f.size #[.int .u8 (c.toNat:Int)]:=Blk.new _ _ _;have L:m[b]?=Td (.cells #[.pointer p,slV s] 112 (0,0)):=by rw[u.get b y];exact e
 have B:=t.keepN u;clear_value m;refine za2 elemU8 B (src:=⟨Td ⟨f.size,0,Te⟩,1,1⟩) (news:=[.int .u8 (c.toNat:Int)]) (n:=m.size) ?_ rfl (by simp[Value.oneCell']) (by simp only;omega) (by simp only;omega) (by omega) λD A Y O x q4 V=>⟨D,rfl,_,rfl,?_⟩;refine .inr ⟨f.size,0,rfl,by omega,λi v z=>?_⟩
 match i,z with
 |0,z=>cases z;exact b5.cell rfl
 have P:A[b]?=Td (.cells #[.pointer p,slV s] 112 (0,0)):=by rw[x b (by omega) λq w=>by have:=t.base_le q w;omega];exact L
 have G:Owns A (b+1) 5 1 D (Lib.byteCells (l++[c])):=by
  have:Lib.byteCells (l++[c])=Lib.byteCells l++[.int .u8 (c.toNat:Int)]:=by unfold Lib.byteCells;rw[Bf];rfl
  rw[this];exact O
 have S:Keep b h A:=k2.trans ⟨by omega,λi hi=>by rw[x i (by omega) λq w=>by have:=t.base_le q w;omega];exact u.get i (by omega)⟩ (Ab _);refine z4v P J G λN Q M U I=>F N Q (S.trans M (Ab _)) (E.trans ((Itk.keep u).trans ((Itk.own B x).trans I)))
theorem zof(H:Bld h b l)(t:Bs)(hl:l.length+t.length<=140737488355328)(E:∀h',Bld h' b (l++t)->Keep b h h'->Itk h h'->K (.tuple #[.int .i64 (t.length:Int),.nilIface]) h'):
  XC Tp 85 #[.pointer (Td ⟨b,0,Te⟩),.string (bl t)] h K:=by
 apply jb;refine chk H λG z k2 z2 C=>⟨rfl,_,rfl,?_⟩;have L:=z.lt;obtain⟨p,s,e,U,f⟩:=z;have n:=f.1;rw[Lib.byteCells_length,Ci]at n;refine⟨s,Blk.cellAdd (o:=0) (k:=1) (cs:=#[.pointer p,slV s]) ⟨_,e⟩ rfl,?_⟩;have c:=zf t;refine za7 elemU8 f (x:=.string (bl t)) (m:=(bl t).size) (news:=Lib.byteCells t) (λB d=>?_) (by rw[c];omega) (by rw[c];omega) (by omega) λA y Y N u q4 Z=>⟨A,rfl,_,rfl,?_⟩;have:=Src.ofString (P:=Tp) (w:=mk B d G) qk7 (bl t);have D:byteCells (bl t)=Lib.byteCells t:=by unfold byteCells Lib.byteCells;have:(bl t).data.toList=t:=yg t;rw[this]
 rw[D]at this;exact this;have O:y[b]?=Td (.cells #[.pointer p,slV s] 112 (0,0)):=by rw[u b (by omega) λq r=>by have:=f.base_le q r;omega];exact e
 have F:Owns y (b+1) 5 1 A (Lib.byteCells (l++t)):=by
  have:Lib.byteCells (l++t)=Lib.byteCells l++Lib.byteCells t:=by unfold Lib.byteCells;rw[Bf]
  rw[this];exact N
 have S:Keep b h y:=k2.trans ⟨by omega,λi hi=>u i (by omega) λq r=>by have:=f.base_le q r;omega⟩ (Ab _);refine z4v O U F λM Q I V J=>?_;rw[c];exact E M Q (S.trans I (Ab _)) (C.trans ((Itk.own f u).trans J))
theorem zxd(H:Bld h b l)(o:∀h',Keep b h h'->K (.string (bl l)) h'):XC Tp 87 #[.pointer (Td ⟨b,0,Te⟩)] h K:=by
 have i:=H.lt;obtain⟨p,s,e,n,k⟩:=H;refine XC.of_calls λB d=>(zbj b b l (mk B d h) ?_ (DZ i)).mono ?_;have m:Lib.BuilderAt 112 5 b b (.pointer p) (Lib.byteCells l) (mk B d h):=by
  refine⟨Ab _,slV s,e,?_,?_⟩;have h1:=k.1;rw[Ci]at h1;rw[h1];exact k.base (Nat.le_succ b);intro f;cases ha:s.a with
  |none=>rw[slV,ha]at f;cases f
  |some q=>
   have:=k.base_le q ha;rw[slV,ha]at f;have:q.block=b:=by simpa[Value.ownBlock]using f
   omega
 rcases n with rfl|rfl;exact .inl m;exact .inr m;rintro e' w' ⟨rfl,c⟩;exact⟨_,rfl,c.os,c.tape,c.output,o _ ⟨c.size,c.block⟩⟩
end
end Go.X
end
section
namespace Go.X
section
theorem zog(gl:Fr)(b:Bt×List (Int×(Int×Int)×(Int×Int)×(List Int)×List (Int×Int)))(s1:Int×Int)(R:Bt->Prop) (H:((bif (bif (decide (s1.1<0))then Ta else(decide (s1.1>s1.2)))then Ta else(decide (s1.2>b.1.size)))=Ta->R (⟨#[]⟩:Bt))/\((bif (bif (decide (s1.1<0))then Ta else(decide (s1.1>s1.2)))then Ta else(decide (s1.2>b.1.size)))=Tc->(0<=s1.1/\s1.1<=s1.2/\s1.2<=b.1.size)/\R (b.1.extract s1.1.toNat s1.2.toNat))):
  PC Tp gl 31 [Arg.mk (.pair .str (.row (.pair (.int .i64) (.pair (.pair (.int .i64) (.int .i64)) (.pair (.pair (.int .i64) (.int .i64)) (.pair (.row (.int .i64)) (.row (.pair (.int .i64) (.int .i64))))))))) b,Arg.mk (.pair (.int .i64) (.int .i64)) s1] [.str] R:=
 PF ⟨[],[],[],[]⟩ [.tmp 4] 30 Tryz.func31 H
theorem zrq(gl:Fr)(e:Int)(s1:Bt)(R:Bt->Prop) (H:((e==2)=Ta->R s1)/\((e==2)=Tc->((e==3)=Ta->PC Tp gl 25 [Arg.mk .str s1] [.pair .bool (.pair .str (.int .i64)),.int .i64] (λa:(Bool×Bt×Int)×Int=>PC Tp gl 26 [Arg.mk (.pair .bool (.pair .str (.int .i64))) (a.1.1,(a.1.2.1,a.1.2.2))] [.str] (λb:Bt=>R b)))/\((e==3)=Tc->((e==4)=Ta->PC Tp gl 196 [Arg.mk .str s1] [.str,.int .i64,.int .i64] (λc:Bt×Int×Int=>R c.1))/\((e==4)=Tc->R (⟨#[]⟩:Bt))))):
  PC Tp gl 111 [Arg.mk (.int .i64) e,Arg.mk .str s1] [.str] R:=
 PF ⟨[],[],[],[]⟩ [.tmp 4] 32 Tryz.func111 H
theorem zu0(gl:Fr)(e:Bt×List (Int×(Int×Int)×(Int×Int)×(List Int)×List (Int×Int)))(f:Int)(R:Bt->Prop) (H:∃a:Int×(Int×Int)×(Int×Int)×(List Int)×List (Int×Int),(0<=f/\e.2[f.toNat]?=Td a)/\PC Tp gl 31 [Arg.mk (.pair .str (.row (.pair (.int .i64) (.pair (.pair (.int .i64) (.int .i64)) (.pair (.pair (.int .i64) (.int .i64)) (.pair (.row (.int .i64)) (.row (.pair (.int .i64) (.int .i64))))))))) (e.1,e.2),Arg.mk (.pair (.int .i64) (.int .i64)) (a.2.2.1.1,a.2.2.1.2)] [.str] (λb:Bt=>PC Tp gl 196 [Arg.mk .str b] [.str,.int .i64,.int .i64] (λc:Bt×Int×Int=>R c.1))):
  PC Tp gl 112 [Arg.mk (.pair .str (.row (.pair (.int .i64) (.pair (.pair (.int .i64) (.int .i64)) (.pair (.pair (.int .i64) (.int .i64)) (.pair (.row (.int .i64)) (.row (.pair (.int .i64) (.int .i64))))))))) e,Arg.mk (.int .i64) f] [.str] R:=
 PF ⟨[],[(1,13,[],[0,1,2,3,4,5,6,7,8,9,10,11,12],[11,12])],[],[]⟩ [.tmp 4] 22 Tryz.func112 H
theorem zk9(gl:Fr)(c:Int)(R:Int->Prop) (H:((c==12)=Ta->R 1)/\((c==12)=Tc->∀a:Bool->Prop,(∀b:Bool,((b=Ta->R 2)/\(b=Tc->((c==9)=Ta->R 3)/\((c==9)=Tc->((c==8)=Ta->R 4)/\((c==8)=Tc->((c==4)=Ta->R 5)/\((c==4)=Tc->((c==2)=Ta->R 6)/\((c==2)=Tc->R 0))))))->a b)->((c==10)=Ta->a (c==10))/\((c==10)=Tc->a (c==11)))):
  PC Tp gl 114 [Arg.mk (.int .i64) c] [.int .i64] R:=
 PF ⟨[],[],[],[(6,⟨[(6,.one (.dat .bool))],[],[],[100384]⟩)]⟩ [.tmp 2] 17 Tryz.func114 H
theorem zhb(gl:Fr)(b:Bt)(R:(Bt×Int×Int)->Prop) (H:PC Tp gl 253 [Arg.mk .str b,Arg.mk (.int .i64) 0] [.str,.int .i64,.int .i64] (λa:Bt×Int×Int=>((bif (a.2.2==0)then(decide (a.2.1<b.size))else Tc)=Ta->R ((⟨#[]⟩:Bt),a.2.1,2))/\((bif (a.2.2==0)then(decide (a.2.1<b.size))else Tc)=Tc->R (a.1,a.2.1,a.2.2)))):
  PC Tp gl 196 [Arg.mk .str b] [.str,.int .i64,.int .i64] R:=
 PF ⟨[],[],[],[]⟩ [.tmp 2,.tmp 3,.tmp 4] 26 Tryz.func196 H
theorem zoh(gl:Fr)(c:Int)(b:Int)(R:((Int×Int×Int)×Int)->Prop) (H:R ((0,(c,c)),b)):
  PC Tp gl 255 [Arg.mk (.int .i64) c,Arg.mk (.int .i64) b] [.pair (.int .i64) (.pair (.int .i64) (.int .i64)),.int .i64] R:=
 PF ⟨[],[],[],[]⟩ [.cell 4 90,.tmp 5] 11 Tryz.func255 H
theorem zrr(gl:Fr)(c:Bt)(b:Int)(R:(Int×Int)->Prop) (H:((bif (decide (b<0))then Ta else(decide (b>c.size)))=Ta->R (0,2))/\((bif (decide (b<0))then Ta else(decide (b>c.size)))=Tc->PC Tp gl 253 [Arg.mk .str c,Arg.mk (.int .i64) b] [.str,.int .i64,.int .i64] (λa:Bt×Int×Int=>R (a.2.1,a.2.2)))):
  PC Tp gl 258 [Arg.mk .str c,Arg.mk (.int .i64) b] [.int .i64,.int .i64] R:=
 PF ⟨[],[],[],[]⟩ [.tmp 4,.tmp 5] 26 Tryz.func258 H
theorem zrs(gl:Fr)(c0:Int)(R:Bool->Prop) (H:R (bif (decide (c0>=97))then(decide (c0<=122))else Tc)):
  PC Tp gl 259 [Arg.mk (.int .u8) c0] [.bool] R:=
 PF ⟨[],[],[],[]⟩ [.tmp 2] 9 Tryz.func259 H
theorem zu1(gl:Fr)(b:Bt)(R:Int->Prop) (H:((b.toList==(⟨#[116,114,117,101]⟩:Bt).toList)=Ta->R 10)/\((b.toList==(⟨#[116,114,117,101]⟩:Bt).toList)=Tc->((b.toList==(⟨#[102,97,108,115,101]⟩:Bt).toList)=Ta->R 11)/\((b.toList==(⟨#[102,97,108,115,101]⟩:Bt).toList)=Tc->((b.toList==(⟨#[110,117,108,108]⟩:Bt).toList)=Ta->R 12)/\((b.toList==(⟨#[110,117,108,108]⟩:Bt).toList)=Tc->R 0)))):
  PC Tp gl 260 [Arg.mk .str b] [.int .i64] R:=
 PF ⟨[],[],[],[]⟩ [.tmp 2] 10 Tryz.func260 H
theorem zoi(gl:Fr)(c:Bt)(R:(Int×Int)->Prop) (H:(0<=(0:Int)/\(0:Int)<(c.size:Int))/\(((zr c (0:Int).toNat:Int)==92)=Ta->PC Tp gl 315 [Arg.mk .str c] [.int .i32,.int .i64] (λa:Int×Int=>R (a.1,a.2)))/\(((zr c (0:Int).toNat:Int)==92)=Tc->PC Tp gl 151 [Arg.mk .str c] [.int .i32,.int .i64] (λb:Int×Int=>((bif (decide (b.1<32))then Ta else(bif (b.1==65533)then(b.2==1)else Tc))=Ta->R (0,0))/\((bif (decide (b.1<32))then Ta else(bif (b.1==65533)then(b.2==1)else Tc))=Tc->R (b.1,b.2))))):
  PC Tp gl 291 [Arg.mk .str c] [.int .i32,.int .i64] R:=
 PF ⟨[],[],[],[]⟩ [.tmp 2,.tmp 3] 30 Tryz.func291 H
theorem zjo(gl:Fr)(c:Bt)(R:(Int×Int)->Prop) (H:(decide ((c.size:Int)<2)=Ta->R (0,0))/\(decide ((c.size:Int)<2)=Tc->(0<=(1:Int)/\(1:Int)<(c.size:Int))/\PC Tp gl 323 [Arg.mk (.int .u8) (zr c (1:Int).toNat)] [.int .i32,.bool] (λa:Int×Bool=>(a.2=Ta->R (a.1,2))/\(a.2=Tc->(0<=(1:Int)/\(1:Int)<(c.size:Int))/\(((zr c (1:Int).toNat:Int)==117)=Ta->PC Tp gl 324 [Arg.mk .str c] [.int .i32,.int .i64] (λb:Int×Int=>R (b.1,b.2)))/\(((zr c (1:Int).toNat:Int)==117)=Tc->R (0,0)))))):
  PC Tp gl 315 [Arg.mk .str c] [.int .i32,.int .i64] R:=
 PF ⟨[],[],[],[]⟩ [.tmp 2,.tmp 3] 24 Tryz.func315 H
theorem zla(gl:Fr)(c0:Int)(R:(Int×Bool)->Prop) (H:∀a:Bool->Prop,(∀b:Bool,((b=Ta->R (Aa .i32 c0,Ta))/\(b=Tc->((c0==98)=Ta->R (8,Ta))/\((c0==98)=Tc->((c0==102)=Ta->R (12,Ta))/\((c0==102)=Tc->((c0==110)=Ta->R (10,Ta))/\((c0==110)=Tc->((c0==114)=Ta->R (13,Ta))/\((c0==114)=Tc->((c0==116)=Ta->R (9,Ta))/\((c0==116)=Tc->R (0,Tc))))))))->a b)->((c0==34)=Ta->a (c0==34))/\((c0==34)=Tc->((c0==92)=Ta->a (c0==92))/\((c0==92)=Tc->a (c0==47)))):
  PC Tp gl 323 [Arg.mk (.int .u8) c0] [.int .i32,.bool] R:=
 PF ⟨[],[],[],[(5,⟨[(5,.one (.dat .bool))],[],[],[100320]⟩)]⟩ [.tmp 2,.tmp 3] 21 Tryz.func323 H
theorem zhc(gl:Fr)(f:Bt)(R:(Int×Int)->Prop) (H:(0<=(2:Int)/\(2:Int)<=(f.size:Int)/\(f.size:Int)<=(f.size:Int))/\PC Tp gl 328 [Arg.mk .str (f.extract (2:Int).toNat (f.size:Int).toNat)] [.int .i32,.bool] (λa:Int×Bool=>∀b:Bool->Prop,(∀c:Bool,((c=Ta->R (0,0))/\(c=Tc->((bif (decide (a.1<55296))then Ta else(decide (a.1>=57344)))=Ta->R (a.1,6))/\((bif (decide (a.1<55296))then Ta else(decide (a.1>=57344)))=Tc->(0<=(6:Int)/\(6:Int)<=(f.size:Int)/\(f.size:Int)<=(f.size:Int))/\PC Tp gl 156 [Arg.mk .str (f.extract (6:Int).toNat (f.size:Int).toNat),Arg.mk .str (⟨#[92,117]⟩:Bt)] [.bool] (λd:Bool=>((!d)=Ta->R (0,0))/\((!d)=Tc->(0<=(8:Int)/\(8:Int)<=(f.size:Int)/\(f.size:Int)<=(f.size:Int))/\PC Tp gl 328 [Arg.mk .str (f.extract (8:Int).toNat (f.size:Int).toNat)] [.int .i32,.bool] (λe:Int×Bool=>((bif (bif (!e.2)then Ta else(decide (e.1<56320)))then Ta else(decide (e.1>=57344)))=Ta->R (0,0))/\((bif (bif (!e.2)then Ta else(decide (e.1<56320)))then Ta else(decide (e.1>=57344)))=Tc->R (Aa .i32 ((Aa .i32 ((Aa .i32 (65536+(Aa .i32 ((Aa .i32 (a.1-55296))*1024))))+e.1))-56320),12))))))))->b c)->((!a.2)=Ta->b (!a.2))/\((!a.2)=Tc->b (bif (decide (a.1>=56320))then(decide (a.1<57344))else Tc)))):
  PC Tp gl 324 [Arg.mk .str f] [.int .i32,.int .i64] R:=
 PF ⟨[],[],[],[(4,⟨[(13,.one (.dat .bool))],[],[],[100832]⟩)]⟩ [.tmp 2,.tmp 3] 58 Tryz.func324 H
theorem zoj(gl:Fr)(e:Bt)(R:(Int×Bool)->Prop) (H:((!(decide ((e.size:Int)<4)))=Ta->(0<=(0:Int)/\(0:Int)<=4/\(4:Int)<=(e.size:Int)))/\∃a:Bool->Prop,((!(decide ((e.size:Int)<4)))=Ta->PC Tp gl 209 [Arg.mk .str (e.extract (0:Int).toNat (4:Int).toNat),Arg.mk .str (⟨#[43,45,95]⟩:Bt)] [.bool] a)/\∀b:Bool,((!(decide ((e.size:Int)<4)))=Ta->a b)->((bif (decide ((e.size:Int)<4))then Ta else b)=Ta->R (0,Tc))/\((bif (decide ((e.size:Int)<4))then Ta else b)=Tc->(0<=(0:Int)/\(0:Int)<=4/\(4:Int)<=(e.size:Int))/\PC Tp gl 329 [Arg.mk .str (e.extract (0:Int).toNat (4:Int).toNat),Arg.mk (.int .i64) 16,Arg.mk (.int .i64) 32] [.int .u64,.err] (λc:Int×Bool=>R (Aa .i32 c.1,c.2)))):
  PC Tp gl 328 [Arg.mk .str e] [.int .i32,.bool] R:=
 PF ⟨[],[],[],[]⟩ [.tmp 2,.tmp 3] 24 Tryz.func328 H
end
end Go.X
end
section
namespace Go.X
open Go Go.Lib
section
variable {l:Bs} {n r:Nat}
theorem qmj(l:Bs):decodeL l=dec l:=by rw[decodeL_N,dec]
theorem zu2(h:l≠[])(b:zkl (dec l)=Tc):encodeRune ((dec l).1:Int)=l.take (dec l).2:=by rw[<-qmj]at b ⊢;refine encode_decode l h λ⟨h1,c⟩=>?_;unfold zkl at b;rw[h1,c]at b;cases b
def zkn(c:UInt8):Option Nat:=
 if 48<=c.toNat/\c.toNat<=57 then Td (c.toNat-48)
 else if 97<=c.toNat/\c.toNat<=102 then Td (c.toNat-87)
 else if 65<=c.toNat/\c.toNat<=70 then Td (c.toNat-55)
 else Te
theorem qe2{c:UInt8}(h:zkn c=Td n):n<16:=by unfold zkn at h;split at h;cases h;omega;split at h;cases h;omega;split at h;cases h;omega;cases h
def zlb:Nat->Bs->Option Nat
 |n,[]=>Td n
 |n,c::l=>match zkn c with
  |some d=>zlb (16*n+d) l
  |none=>Te
def zjp(l:Bs):Option Nat:=if 4<=l.length then zlb 0 (l.take 4)else Te
theorem zu3:∀{l:Bs} {n m:Nat},zlb n l=Td m->m<(n+1)*16 ^ l.length
 |[],n,m,h=>by cases h;simp
 |c::l,n,m,h=>by
  unfold zlb at h;cases e:zkn c with
  |none=>rw[e]at h;cases h
  |some d=>
   rw[e]at h;have h1:=zu3 h;have i:=qe2 e;have f:(16*n+d+1)*16 ^ l.length<=(16*(n+1))*16 ^ l.length:=AP _ (by omega);have b:(16*(n+1))*16 ^ l.length=(n+1)*16 ^ (l.length+1):=by rw[Ef,Dq 16,Nat.mul_assoc,Dq 16]
   simp only[Aq];omega
theorem zf3(h:zjp l=Td n):n<65536:=by unfold zjp at h;split at h;have:=zu3 h;simp only[AK]at this;rename_i b;rw[CE b]at this;omega;cases h
def qas(c:UInt8):Option Nat:=
 if c=34\/c=92\/c=47 then Td c.toNat else if c=98 then Td 8 else if c=102 then Td 12 else if c=110 then Td 10 else if c=114 then Td 13 else if c=116 then Td 9 else Te
def qe3(t:Bs):Option (Nat×Nat):=match zjp t with
 |none=>Te
 |some n=>if 56320<=n/\n<57344 then Te else if n<55296\/57344<=n then Td (n,6)else
  if(t.drop 4).take 2=[92,117]then match zjp (t.drop 6)with
   |some m=>if 56320<=m/\m<57344 then Td (65536+(n-55296)*1024+(m-56320),12)else Te
   |none=>Te
  else Te
def qe4(l:Bs):Option (Nat×Nat):=match l with
 |_::c::t=>match qas c with
  |some r=>Td (r,2)
  |none=>if c=117 then qe3 t else Te
 |_=>Te
def zae(l:Bs):Option (Nat×Nat):=if l.head?=Td 92 then qe4 l else if(dec l).1<32\/zkl (dec l)=Ta then Te else Td (dec l)
def zrt:Nat->Bs->Bs×Nat×Bool
 |0,_=>([],0,Tc)
 |f+1,l=>if l=[]then([],0,Tc)else if l.head?=Td 34 then([],1,Ta)else match zae l with
  |none=>([],0,Tc)
  |some (r,n)=>let q:=zrt f (l.drop n);(encodeRune (r:Int)++q.1,n+q.2.1,q.2.2)
def zem(l:Bs):Bs×Nat×Bool:=zrt l.length l
theorem zz8{t:Bs}(h:qe3 t=Td (r,n)):(n=6\/n=12)/\n<=t.length+2/\r<=1114111:=by
 unfold qe3 at h;cases e:zjp t with
 |none=>rw[e]at h;cases h
 |some m=>
  have f:=zf3 e;have c:4<=t.length:=by unfold zjp at e;split at e;assumption;cases e
  rw[e]at h;dsimp only at h;split at h;cases h;split at h;simp only[Ac,Bh]at h;obtain⟨rfl,rfl⟩:=h;exact⟨.inl rfl,by omega,by omega⟩;split at h;cases e2:zjp (t.drop 6)with
  |none=>rw[e2]at h;cases h
  |some k=>
   have b:4<=(t.drop 6).length:=by unfold zjp at e2;split at e2;assumption;cases e2
   rw[AH]at b;rw[e2]at h;dsimp only at h;split at h;simp only[Ac,Bh]at h;obtain⟨rfl,rfl⟩:=h;exact⟨.inr rfl,by omega,by omega⟩;cases h
  cases h
theorem z4w{c:UInt8}(h:qas c=Td r):r<=255:=by
 have:=c.toNat_lt;unfold qas at h;repeat' split at h
 all_goals first|(cases h;omega)|cases h
theorem zz9(h:qe4 l=Td (r,n)):2<=n/\n<=12/\n<=l.length/\r<=1114111:=by
 match l,h with
 |a::c::t,h=>
  unfold qe4 at h;dsimp only at h;cases e:qas c with
  |some k=>rw[e]at h;cases h;have:=z4w e;exact⟨by omega,by omega,by simp,by omega⟩
  |none=>rw[e]at h;dsimp only at h;split at h;obtain⟨h1,f,b⟩:=zz8 h;refine⟨by omega,by omega,?_,b⟩;simp only[Aq];omega;cases h
theorem z4x(l:Bs):(dec l).1<=1114111:=by
 have h0:=(l.getD 0 0).toNat_lt;have h1:=(l.getD 1 0).toNat_lt;have c:=(l.getD 2 0).toNat_lt;have b:=(l.getD 3 0).toNat_lt;unfold dec decodeN;repeat' split
 all_goals (simp only;omega)
theorem Q3(f:l≠[])(h:zae l=Td (r,n)):1<=n/\n<=12/\n<=l.length/\r<=1114111:=by
 unfold zae at h;split at h;obtain⟨h1,b,e,c⟩:=zz9 h;exact⟨by omega,b,e,c⟩;split at h;cases h;have h:=Az h;obtain⟨rfl,rfl⟩:r=(dec l).1/\n=(dec l).2:=by rw[h];exact⟨rfl,rfl⟩
 have h1:=wo l;have b:=zw0 f;exact⟨h1.1,by omega,b,z4x l⟩
theorem zmg:∀(f:Nat) (l:Bs),l.length<=f->∀g,l.length<=g->zrt f l=zrt g l
 |0,l,h,g,_=>by have:l=[]:=Bi.1 (by omega);subst this;cases g <;> simp[zrt]
 |f+1,l,h,0,hg=>by have:l=[]:=Bi.1 (by omega);subst this;simp[zrt]
 |f+1,l,h,g+1,hg=>by
  unfold zrt;by_cases h1:l=[];rw[if_pos h1,if_pos h1];rw[if_neg h1,if_neg h1];by_cases b:l.head?=Td 34;rw[if_pos b,if_pos b];rw[if_neg b,if_neg b];cases e:zae l with
  |none=>rfl
  |some x=>obtain⟨r,n⟩:=x;obtain⟨i,_,c,_⟩:=Q3 h1 e;have:=zmg f (l.drop n) (by rw[AH];omega) g (by rw[AH];omega);dsimp only;rw[this]
theorem z4y:zem []=([],0,Tc):=rfl
theorem Jk(h:l≠[]):zem l=if l.head?=Td 34 then([],1,Ta)else match zae l with
  |none=>([],0,Tc)
  |some (r,n)=>(encodeRune (r:Int)++(zem (l.drop n)).1,n+(zem (l.drop n)).2.1,(zem (l.drop n)).2.2):=by
 have m:=Bv.2 h;obtain⟨f,c⟩:∃f,l.length=f+1:=⟨l.length-1,by omega⟩;rw[zem,c,zrt,if_neg h];by_cases b:l.head?=Td 34;rw[if_pos b,if_pos b];rw[if_neg b,if_neg b];cases e:zae l with
 |none=>rfl
 |some x=>obtain⟨r,n⟩:=x;obtain⟨k,_,i,_⟩:=Q3 h e;dsimp only;rw[zem,zmg f (l.drop n) (by rw[AH];omega) (l.drop n).length (Ab _)]
theorem zru:∀(k:Nat) (l:Bs),l.length=k->(zem l).2.1<=l.length/\(zem l).1.length<=4*l.length:=by
 intro k;induction k using DF with
 |_ k b=>
  intro l m;by_cases h:l=[];subst h;exact⟨Ab _,Ab _⟩;have c:=Bv.2 h;rw[Jk h];split;exact⟨c,by simp⟩;cases e:zae l with
  |none=>exact⟨by simp,by simp⟩
  |some x=>
   obtain⟨r,n⟩:=x;obtain⟨o,_,f,_⟩:=Q3 h e;have p:(l.drop n).length=l.length-n:=AH;have:=b (l.drop n).length (by omega) _ rfl;have i:(encodeRune (r:Int)).length<=4:=by have:=(encodeRuneZ_length (r:Int)).2;rw[encodeRune,Ao];exact this
   dsimp only;rw[Ag];omega
def yq(t:Bs)(a:Nat):Bs×Nat×Int:=
 if(t.drop a).head?=Td 34 then(let q:=zem (t.drop (a+1));if q.2.2 then(q.1,a+1+q.2.1,0)else([],a+1+q.2.1,2))else([],a,2)
def Xh(t:Bs):Bs×Nat×Int:=let r:=yq t 0;if r.2.2=0/\r.2.1<t.length then([],r.2.1,2)else r
def qct(c:UInt8):Bs:=
 if c=34\/c=92 then [92,c]else if c=8 then [92,98]else if c=12 then [92,102]else if c=10 then [92,110]else if c=13 then [92,114]else if c=9 then [92,116]
 else if c.toNat<32 then [92,117,48,48,Bb (48+c.toNat / 16),Bb (if c.toNat % 16<10 then 48+c.toNat % 16 else 87+c.toNat % 16)]else [c]
def za9(l:Bs):Bs:=l.flatMap qct
def zmh(l:Bs):Bs×Int:=if Z4 l then(34::za9 l++[34],0)else([],2)
end
end Go.X
end
section
namespace Go.X
open Go Go.X Go.Proofs Go.RowKit
section
variable {h:zb} {b:Nat} {l:Bs} {r:Int} {K:Value -> zb -> Prop}
theorem zjq(H:Bld h b l)(h0:0<=r)(h1:r<=1114111)(hl:l.length+4<=140737488355328)(G:∀h' n,Bld h' b (l++Lib.encodeRune r)->Keep b h h'->Itk h h'->K (.tuple #[.int .i64 n,.nilIface]) h'):
  XC Tp 83 #[.pointer (Td ⟨b,0,Te⟩),.int .i32 r] h K:=by
 apply Qf;refine chk H λf C k2 z2 E=>⟨rfl,_,rfl,?_⟩;have t:=C.lt;obtain⟨p,s,e,hp,y⟩:=C;have x:=y.1;rw[Lib.byteCells_length,Ci]at x;have c1:=Blk.cellAdd (o:=0) (k:=1) (v:=slV s) (cs:=#[.pointer p,slV s]) ⟨_,e⟩ rfl;refine⟨s,c1,_,rfl,s,c1,?_⟩;refine XC.of_calls λB d=>(Wr (b+1) (slV s) s.len (Lib.byteCells l) r (by omega) (by omega) (mk B d f) y (by omega) (show b+1<=f.size by omega)).mono ?_;rintro e' w' ⟨O,rfl,q,o,m⟩;obtain⟨w,rfl,S⟩:∃w:Sl,O=slV w/\w.len=s.len+(Lib.runeCells r).length:=by rcases q.2 with⟨rfl,F⟩|⟨g,cap,M,rfl,_⟩;exact⟨⟨Te,0,0⟩,rfl,F.symm⟩;exact⟨⟨_,_,_⟩,rfl,rfl⟩
 have I:Owns w'.heap (b+1) 5 1 w (Lib.byteCells (l++Lib.encodeRune r)):=by
  have Z:Lib.byteCells (l++Lib.encodeRune r)=Lib.byteCells l++Lib.runeCells r:=by rw[<-Lib.byteCells_encodeRune];unfold Lib.byteCells;rw[Bf]
  rw[Z];rw[<-S]at q;exact q
 have Y:w'.heap[b]?=Td (.cells #[.pointer p,slV s] 112 (0,0)):=by
  have u:=m.block b (by show b<(f.push o).size;rw[Aj];omega) (by
   intro c;cases ha:s.a with
   |none=>rw[slV,ha]at c;cases c
   |some a=>have:=y.base_le a ha;rw[slV,ha]at c;simp only[Value.ownBlock,Ac]at c;omega)
  rw[u];show(f.push o)[b]?=_;rw[Array.getElem?_push_lt t,<-e];simp[t]
 have kk:Keep b h w'.heap:=by
  refine k2.trans ⟨?_,λi hi=>?_⟩ (Ab _);have:=m.size;have Q:(f.push o).size<=w'.heap.size:=this;rw[Aj]at Q;omega;have u:=m.block i (by show i<(f.push o).size;rw[Aj];omega) (by
   intro c;cases ha:s.a with
   |none=>rw[slV,ha]at c;cases c
   |some a=>have:=y.base_le a ha;rw[slV,ha]at c;simp only[Value.ownBlock,Ac]at c;omega)
  rw[u];show(f.push o)[i]?=_;rw[Array.getElem?_push_lt (by omega)];simp[show i<f.size by omega]
 have L:Itk f w'.heap:=Itk.own y λi hi A=>by
  have u:=m.block i (by show i<(f.push o).size;rw[Aj];omega) (by
   intro c;cases ha:s.a with
   |none=>rw[slV,ha]at c;cases c
   |some a=>have:=A a ha;rw[slV,ha]at c;simp only[Value.ownBlock,Ac]at c;exact this c)
  rw[u];show(f.push o)[i]?=_;rw[Array.getElem?_push_lt hi];simp[hi]
 refine⟨_,rfl,m.os,m.tape,m.output,w,rfl,_,rfl,?_⟩;refine z4v Y hp I λU D N z7 P=>?_;have H8:=D;obtain⟨V,z,J,_,_⟩:=H8;exact⟨_,rfl,z,Blk.cellAdd (o:=0) (k:=1) (v:=slV z) (cs:=#[.pointer V,slV z]) ⟨_,J⟩ rfl,G U _ D (kk.trans N (Ab _)) (E.trans (L.trans P))⟩
theorem zu4(H:Bld h b l)(h0:0<=r)(h1:r<=1114111)(c:l.length+4<=140737488355328)(e:∀h' n,Bld h' b (l++Lib.encodeRune r)->Keep b h h'->K (.tuple #[.int .i64 n,.nilIface]) h'):
  XC Tp 83 #[.pointer (Td ⟨b,0,Te⟩),.int .i32 r] h K:=
 zjq H h0 h1 c λh' n a b _=>e h' n a b
def qk8(c:Int):Option Nat:=let lo:=bits .or .u8 c 32
 if 97<=lo/\lo<=122 then(let d:=Aa .u8 ((Aa .u8 (lo-97))+10);if d>=16 then Te else Td d.toNat)else Te
theorem qe5:(Bl 256).all (λc=>decide (48<=c/\c<=57)||(qk8 (c:Int)==zkn (Bb c)))=Ta:=by kernel_rfl
theorem qe6{c:UInt8}(h:¬(48<=c.toNat/\c.toNat<=57)):qk8 (c.toNat:Int)=zkn c:=by have:=Av.1 qe5 c.toNat (A1.2 c.toNat_lt);rw[BO,decide_eq_true_eq]at this;rcases this with h1|h1;exact absurd h1 h;rw[beq_iff_eq]at h1;rw[h1];congr 1;rw[UInt8.ofNat_toNat]
theorem z4z:(Bl 256).all (λc=>decide (0<=Aa .u8 ((Aa .u8 ((bits .or .u8 (c:Int) 32)-97))+10)))=Ta:=by kernel_rfl
theorem zu5{c:Int}(b:K (.int .u8 (bits .or .u8 c 32)) h):XC Tp 325 #[.int .u8 c] h K:=by refine XC.of_calls λB d=>(Jh c (mk B d h)).mono ?_;rintro e w' ⟨rfl,rfl⟩;exact⟨_,rfl,rfl,rfl,rfl,b⟩
theorem zcu:∀(a b:Bs) (n:Nat),zlb n (a++b)=(zlb n a).bind λm=>zlb m b
 |[],b,n=>rfl
 |c::a,b,n=>by
  show(match zkn c with|some d=>zlb (16*n+d) (a++b)|none=>Te)=(match zkn c with|some d=>zlb (16*n+d) a|none=>Te).bind _;cases zkn c with
  |none=>rfl
  |some d=>exact zcu a b _
theorem qat(n:Nat)(c:UInt8):zlb n [c]=(zkn c).map λd=>16*n+d:=by show(match zkn c with|some d=>zlb (16*n+d) []|none=>Te)=_;cases zkn c <;> rfl
theorem qh7{s:Bs}(c:∀(x:Sl) h',Keep h.size h h'->x.len=s.length->x.a=Td ⟨h.size,0,Te⟩->(∀j (b:j<s.length),zc h' ⟨h.size,j,Te⟩=Td (.int .u8 (s[j].toNat:Int)))->K (slV x) h'):
  XRun Tp (convert 9 110 (.string (bl s))) h K:=by
 intro B d;refine⟨_,_,_,Lib.run_convert_string_bytes (P:=Tp) (mk B d h) 9 110 5 (bl s) qk7 elemU8.slice (by kernel_rfl),?_⟩;refine c ⟨Td ⟨h.size,0,Te⟩,(bl s).size,_⟩ _ ⟨?_,λi hi=>?_⟩ (zf s) rfl λj b=>?_;show h.size<=(Lib.bytesWorld (mk B d h) 5 (bl s)).heap.size;rw[Lib.bytesWorld_size];exact Nat.le_succ _;exact Lib.bytesWorld_at_old (mk B d h) 5 (bl s) i hi;have:=Lib.bytesWorld_cell (mk B d h) 5 (bl s) j (by rw[zf];exact b);have e:(bl s).data.toList=s:=yg s;rw[e,A7,Al b]at this;exact this
set_option maxHeartbeats 4000000 in
theorem zu6(F:l.length=4)(h1:∀n h',zlb 0 l=Td n->Keep h.size h h'->K (.tuple #[.int .u64 (n:Int),.nilIface]) h') (Z:∀h',zlb 0 l=Te->Keep h.size h h'->K (.tuple #[.int .u64 0,.iface 287 (.int .i64 2)]) h'):
  XC Tp 316 #[.string (bl l),.int .i64 16,.int .i64 32] h K:=by
 apply Z6;have he:((bl l:Bt).toList==((⟨#[]⟩:Bt):Bt).toList)=Tc:=by have:((bl l:Bt).toList==((⟨#[]⟩:Bt):Bt).toList)=decide (l=[]):=zg8 l [];rw[this,decide_eq_false_iff_not];intro e;rw[e]at F;simp at F
 refine⟨λe=>(by rw[he]at e;cases e),λ_=>?_⟩;intro K4 P;refine⟨λ_=>P _ _ _ ?_,λe=>by simp at e⟩;intro K7 U;refine⟨λe=>by simp at e,λ_=>⟨λe=>by simp at e,λ_=>U _ _ ?_⟩⟩;intro ab w;refine⟨λe=>by simp at e,λ_=>⟨λ_=>w _ _ ?_,λe=>by simp at e⟩⟩;have C:(Aa .u64 32:Int)=32:=by decide
 refine⟨by rw[C];omega,?_⟩;refine qh7 λx h3 V xl xa xc=>⟨x,rfl,?_⟩;refine⟨λu n i g=>u=Tc/\g=h3/\∃(k m:Nat),k<=4/\i=(k:Int)/\n=(m:Int)/\zlb 0 (l.take k)=Td m,λu n i g=>4-i.toNat,⟨rfl,rfl,0,0,by omega,rfl,rfl,rfl⟩,?_⟩;rintro u n i g ⟨rfl,rfl,k,m,hk,rfl,rfl,E⟩;have aa:m<65536:=by
  have:=zu3 E;have hp:(l.take k).length<=4:=by rw[AK];omega
  have:16 ^ (l.take k).length<=16 ^ 4:=Nat.pow_le_pow_right (by omega) hp;omega
 refine⟨λs=>?_,λs=>?_⟩;have A:k<4:=by rw[decide_eq_true_eq,xl,F]at s;omega
 have y:k<l.length:=by omega
 refine⟨⟨h.size,0,Te⟩,⟨xa,by omega,by rw[decide_eq_true_eq]at s;exact s⟩,(l[k].toNat:Int),?_,?_⟩;rw[qd,Ai,Ci,AI];exact xc k y;generalize Y:l[k]=c;have f:zlb 0 (l.take (k+1))=(zkn c).map λd=>16*m+d:=by rw[Aw y,zcu,E,Y];exact qat m c
 have o:zkn c=Te->zlb 0 l=Te:=by intro e;rw[e]at f;rw[<-Cb (k+1) l,zcu,f];rfl
 have cl:=c.toNat_lt;intro Q q;have fin:∀d:Int,0<=d->(d<16->zkn c=Td d.toNat)->(16<=d->zkn c=Te)->Q Tc d g:=by
  intro d L M J;apply q;have G:(Aa .u8 16:Int)=16:=by decide
  have r:(Aa .u64 16:Int)=16:=by decide
  rw[G,r,C];refine⟨λe=>Z _ (o (J (by simpa using e))) V,λe=>?_⟩;have t:d<16:=by simpa using e
  have hv:=M t;rw[hv]at f;have O:∀z:Int,0<=z->z<18446744073709551616->Aa .u64 z=z:=by
   intro z z0 z1;unfold Aa;have p:(2:Int) ^ Bj .u64=18446744073709551616:=by decide
   have H:DT .u64=Tc:=rfl;simp only[p,H,Eg,Bc,if_false];exact Int.emod_eq_of_lt z0 z1
  have p:Aa .u64 ((m:Int)*16)=(m:Int)*16:=O _ (by omega) (by omega);have H:Aa .u64 d=d:=O _ L (by omega);have e3:Aa .u64 ((m:Int)*16+d)=(m:Int)*16+d:=O _ (by omega) (by omega);have e4:(Aa .u64 ((Aa .u64 (1*2 ^ (min (32:Int).toNat 64)))-1):Int)=4294967295:=by decide
  rw[p,H,e3,e4];refine⟨λe=>?_,λ_=>⟨λe=>?_,λ_=>?_⟩⟩;rw[decide_eq_true_eq]at e;omega;simp only[Bool.cond_eq_ite,Bool.if_true_left,BO,decide_eq_true_eq]at e;omega;rw[ju (n:=4) A (by omega)];refine⟨⟨rfl,rfl,k+1,16*m+d.toNat,by omega,rfl,by omega,f⟩,?_⟩;show 4-((k+1:Nat):Int).toNat<4-((k:Nat):Int).toNat;omega
 have D:(bif ((c.toNat:Int)==95)then((16:Int)==0)else Tc)=Tc:=by cases((c.toNat:Int)==95) <;> rfl
 refine⟨λe=>(by rw[D]at e;cases e),λ_=>⟨λe=>?_,λe=>?_⟩⟩;have t:48<=c.toNat/\c.toNat<=57:=by simp only[Bool.cond_eq_ite,Bool.if_false_right,Ap,decide_eq_true_eq]at e;omega
 rw[qhu (by omega) (by omega)];refine fin _ (by omega) (λ_=>?_) (λh9=>by omega);unfold zkn;rw[if_pos t];congr 1;omega;have t:¬(48<=c.toNat/\c.toNat<=57):=by simp only[Bool.cond_eq_ite,Bool.if_false_right,CJ,decide_eq_false_iff_not,decide_eq_true_eq]at e;omega
 have b:=qe6 t;have S:=Av.1 z4z c.toNat (A1.2 cl);rw[decide_eq_true_eq]at S;unfold qk8 at b;dsimp only at b;refine zu5 ?_;generalize B:bits .or .u8 (c.toNat:Int) 32=lo at b S ⊢;refine⟨lo,rfl,λv g'=>v=.int .u8 lo/\g'=g,λ_=>zu5 ?_,λ_=>⟨lo,rfl,rfl⟩,?_,?_⟩;rw[B];exact⟨lo,rfl,rfl,rfl⟩;rintro _ v g' ⟨rfl,_⟩;exact⟨lo,rfl⟩;rintro x g' ⟨p,rfl⟩;injection p with _ p;subst p;refine⟨λN=>zu5 ?_,λN=>?_⟩;rw[B];refine⟨x,rfl,?_⟩;have I:97<=x/\x<=122:=by simp only[Bool.cond_eq_ite,Bool.if_false_right,Ap,decide_eq_true_eq]at N;omega
 rw[if_pos I]at b;refine fin _ S (λh9=>?_) (λh9=>?_);rw[if_neg (by omega)]at b;exact b.symm;rw[if_pos (by omega)]at b;exact b.symm;have I:¬(97<=x/\x<=122):=by simp only[Bool.cond_eq_ite,Bool.if_false_right,CJ,decide_eq_false_iff_not,decide_eq_true_eq]at N;omega
 rw[if_neg I]at b;exact Z _ (o b.symm) V;have A:k=4:=by rw[decide_eq_false_iff_not,xl,F]at s;omega
 refine⟨λv g'=>g'=g,(λe=>by cases e),(λ_=>⟨Ta,rfl⟩),(λe=>by cases e),?_⟩;rintro x g' rfl;refine⟨λe=>(by cases e),λ_=>h1 _ _ ?_ V⟩;rw[BG (by omega)]at E;exact E
end
end Go.X
end
