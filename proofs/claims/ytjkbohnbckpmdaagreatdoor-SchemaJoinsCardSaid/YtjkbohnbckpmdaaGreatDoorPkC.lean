/- A part of the proof: nothing is stated here for its own sake. -/
import Derived.Test.YtjkbohnbckpmdaaGreatDoorPkB
import Derived.ProofKit
import Derived.OpenShut
import Derived.ShutString
import Derived.Shelf.Strings.Trim
import Derived.Shelf.Small.Bits
import Derived.Shelf.Small.Wraps
import Derived.Shelf.Strings.BuilderRune
import Derived.Shelf.Utf8.AppendRune
import Derived.Shelf.Utf8.AppendRunePlain
import Derived.Shelf.Strconv.Itoa3
import Derived.Shelf.Strconv.AtoiErr
import Derived.Shelf.Strconv.ErrVarAll
import Derived.Shelf.Strconv.ErrVarParseInt
import Derived.Shelf.Pu.ParseUintPublic10
import Derived.Shelf.Sort.Plain
import Derived.Shelf.Strings.IndexAnyAll
import Derived.Shelf.Strings.Repeat
import Derived.Shelf.Unicode.DecodeLast
import Derived.Shelf.Strings.BuilderCap
import Derived.Shelf.Slices.Turned
import Derived.Shelf.Slices.Clone
import Derived.Shelf.Slices.SearchI
import Derived.Shelf.Slices.In.SortNone
import Derived.Shelf.SlicesE.Clone
import Derived.Shelf.Utf8.RuneCount
import Derived.Shelf.Strings.Shaped
import Derived.Shelf.Strings.SplitShaped
import Derived.Shelf.Strings.Explode
import Derived.Shelf.Unicode.ValidAny
import Derived.Test.YtjkbohnbckpmdaaGreatDoorTie
import Derived.Test.YtjkbohnbckpmdaaGreatDoorCards
import Derived.PinnedBridge
import Derived.Lay
import Derived.HandedShaped
import Derived.Maps.RangeRun
open _root_.Go.Addr renaming add->zae
open _root_.Array renaming getElem?_append_left->zcu,getElem?_eq_some_iff->zai,getElem?_setIfInBounds_ne->zcs,getElem?_toList->zb7,size->zax,size_push->zau
open _root_.Bool renaming and_eq_true->zan,and_true->zed,eq_iff_iff->za7,false_eq_true->zcc,not_eq_true'->zd4,or_eq_true->zcw,true_and->zcq
open _root_.Go.Builtin renaming append_->zav,len_->zda
open _root_.ByteArray renaming empty->zeh
open _root_.Go.Instr renaming entry->zeu,keyThatStays->zej,lookup->zd1,mapUpdate->zc7,next->zep,range->zet,storeAt->zag
open _root_.Int renaming toNat_natCast->zao
open _root_.Go.IntKind renaming bits->zem,signed->ze1,wrap->zaa
open _root_.List renaming all_append->zei,all_cons->zcx,all_eq_true->zas,append_assoc->zcb,cons_append->zby,drop_drop->zdb,drop_eq_getElem_cons->za9,drop_eq_nil_of_le->zci,drop_zero->zc2,eq_nil_of_length_eq_zero->zbb,exists_cons_of_ne_nil->zb3,ext_getElem?->zbt,filter_cons->zc4,flatMap_cons->zb0,getD_eq_getElem?_getD->zdl,getElem?_drop->zbs,getElem?_eq_getElem->zaj,getElem?_eq_some_iff->za0,getElem?_map->zbu,getElem?_modify->zck,getElem?_take->zba,getElem_mem->zay,getElem_of_mem->zcf,length_append->zat,length_cons->zbi,length_drop->zb2,length_map->zaw,length_pos_iff->zbo,length_take->zcr,map_cons->zbh,map_map->zb6,mem_append->zaz,mem_append_left->zap,mem_append_right->za4,mem_cons->zah,mem_flatMap->zb5,mem_iff_getElem->zd8,mem_map->zb1,mem_of_getElem?->zbv,mem_range->zcd,nil_append->zco,nodup_append->zc6,nodup_nil->zeo,range->zbk,replicate->zd6,take_append_drop->zce,take_length->zbw,take_of_length_le->zcn,take_succ_cons->zdf,take_succ_eq_append_getElem->zar,zip_cons_cons->zb8
open _root_.List.cons renaming injEq->zcg
open _root_.Nat renaming add_mul->zc5,add_zero->zen,le_mul_of_pos_right->zdd,le_refl->zaf,le_trans->zbx,lt_of_lt_of_le->zdj,lt_or_ge->zbf,min_eq_left->zeg,strongRecOn->zee,zero_add->za5,zero_le->zbn
open _root_.Go.Op renaming bytesLess->zdg
open _root_.Option renaming bind_some->zcy
open _root_.Option.some renaming inj->za6
open _root_.Go.Proofs.Tryz renaming prog->za3
open _root_.UInt8 renaming ofNat->zcj,toNat_inj->zdo
open _root_.Go.Value renaming int->zez,string->za1
open _root_.Go.Value.slice renaming injEq->zbg
set_option linter.all false
set_option maxRecDepth 100000
namespace Go.X
end Go.X
namespace Go.Proofs
end Go.Proofs
open Go Go.X Go.Proofs
open _root_.Bool renaming true->Ta,false->Tb
open _root_.Option renaming some->Tc,none->Td
section
namespace Go.X
open Go Go.ChangeShapes Go.WideShapes Go.RowKit
set_option linter.all false
section
variable {a:Addr} {cs:List Value} {fuel:Nat} {t e:TypeId} {P:Program}
def Fz(W:World):Fr:=λb=>match W.heap[b]? with|some (.cells cs _ _)=>some cs|_=>none
theorem Fz.ag(W:World):AgM (Fz W) W.heap:=by intro b c e;unfold Fz at e;split at e;rename_i cs T m f;cases e;exact⟨T,m,f⟩;cases e
theorem Fz.cell{W:World}{v:Value}(h:W.cell? a=some v):∃b o c,a=⟨b,o,none⟩/\Fz W b=some c/\c[o]?=some v:=by
 obtain⟨b,o,sp⟩:=a;unfold World.cell? at h;split at h;rename_i c T m e;cases sp with
 |some x=>simp at h
 |none=>refine⟨b,o,c,rfl,?_,by simpa using h⟩;unfold Fz;change W.heap[b]?=_ at e;rw[e]
 cases h
theorem Fz.cells{W:World}{n:Nat}(h:W.cells? 0 a n=some cs)(t:0<n):∃b o c,a=⟨b,o,none⟩/\Fz W b=some c/\cut c o n=cs:=by
 obtain⟨_,u,p⟩:=World.cells?_some h;have h0:=p 0 t;rw[zaj (by omega)]at h0;obtain⟨b,o,c,e,l,_⟩:=Fz.cell h0;obtain⟨r,m,sp⟩:=a;rw[show zae ⟨r,m,sp⟩ 0=⟨r,m,sp⟩from rfl]at e;cases e;refine⟨b,o,c,rfl,l,?_⟩;have f:∀i,i<n->c[o+i]?=cs[i]?:=λi hi=>by have h1:=p i hi;rw[zaj (by omega)]at h1 ⊢;obtain⟨b2,w,c2,q,k,s⟩:=Fz.cell h1;rw[qe]at q;cases q;rw[l]at k;cases k;exact s
 unfold cut;apply zbt;intro i;by_cases hi:i<n;rw[zba,if_pos hi,zbs,<-f i hi];simp;rw[zba,if_neg hi,List.getElem?_eq_none (by omega)]
theorem Ru{α:Type}{Q:Nat->α->Prop}(n:Nat)(h:∀i,i<n->∃z,Q i z):∃xs:List α,xs.length=n/\∀i (hi:i<xs.length),Q i xs[i]:=by refine⟨List.ofFn λi:Fin n=>Classical.choose (h i i.2),by simp,λi hi=>?_⟩;rw[List.getElem_ofFn];exact Classical.choose_spec (h i (by simpa using hi))
section
variable {H : Type} {enc : TypeId × Value -> H} {P : Program} {W : World} {sp : Nat -> Bool} {held : Bool}
def nw(P:Program)(t:TypeId)(d:DataW H):Prop:=∀n∈d.weights P t,n<=reachBytes
theorem Ii{e:TypeId}{y:DataW H}:∀{l:List (DataW H)},y∈l->∀n∈y.weights P e,n∈DataW.weightsAll P e l
 |x::l,b,n,hn=>by unfold DataW.weightsAll;rcases zah.1 b with rfl|b;exact zap _ hn;exact za4 _ (Ii b n hn)
theorem Fv{T : Ty}{x : DataW H × List MemPlace}(ht : P.underlying t = some (.slice e))(hz : P.cellsOf e = sz T)(hp : 0 < sz T)(hby : 0 < P.bytesOf e) (hel : ∀ n, n < fuel -> ∀ cs y, DataW.trod enc P W 0 sp held n e cs = some y -> nw P e y.1 -> ∃ z : El T, Rd (Fz W) T z cs)
    (h : DataW.trod enc P W 0 sp held fuel t cs = some x) (hw : nw P t x.1) : ∃ xs : List (El T), Rd (Fz W) (.row T) xs cs := by
  rcases DataW.trod_slice ht h with ⟨rfl, _⟩ | ⟨a, len, cap, elems, rest, n, rfl, rfl, hx, _, hlc, hcap, hlen, hi, _, _⟩;exact ⟨[], _, rfl, none, 0, rfl, ⟨by simp, by simp⟩, .inl rfl⟩
  · have hwt : ∀ m, m = (elems.length + rest.length) * P.bytesOf e \/ m ∈ DataW.weightsAll P e (elems.map (·.1)) -> m <= reachBytes := λm hm => hw m (by rw [hx];unfold DataW.weights;rw [ht];simp only [zah, zaz, zaw];rcases hm with hm | hm;exact .inl hm;exact .inr (.inl hm));have hmax : len <= 140737488355328 := by
      have h1 := hwt _ (.inl rfl);have h2 : elems.length + rest.length <= (elems.length + rest.length) * P.bytesOf e := zdd _ hby;have h3 : reachBytes <= 140737488355328 := by decide
      omega
    have key : ∀ i, i < len -> ∃ z : El T, ∃ b o c, a.add (i * sz T) = ⟨b, o, none⟩ /\ Fz W b = some c /\ Rd (Fz W) T z (cut c o (sz T)) := λi hil => by have h1 := hi i hil;rw [zaj (by omega), Option.bind_eq_some_iff] at h1;obtain ⟨cc, h2, h3⟩ := h1;rw [hz] at h2;obtain ⟨b, o, c, e1, e2, e3⟩ := Fz.cells h2 hp;obtain ⟨z, hz⟩ := hel n (by omega) _ _ h3 λm hm => hwt m (.inr (Ii (zb1.2 ⟨elems[i], zay (by omega), rfl⟩) m hm));exact ⟨z, b, o, c, e1, e2, by rw [e3]; exact hz⟩
    obtain ⟨xs, hxl, hxs⟩ := Ru len key;subst hxl;refine ⟨xs, _, rfl, some a, cap, rfl, ⟨by omega, hlc⟩, ?_⟩;by_cases h0 : xs.length = 0;exact .inl (zbb h0);obtain ⟨b, o, c, e1, e2, _⟩ := hxs 0 (by omega);obtain ⟨ab, ao, asp⟩ := a;rw [Nat.zero_mul, show zae ⟨ab, ao, asp⟩ 0 = ⟨ab, ao, asp⟩ from rfl] at e1;cases e1;refine .inr ⟨b, o, c, rfl, e2, λi hil => ?_⟩;obtain ⟨b', o', c', e1', e2', e3'⟩ := hxs i hil;rw [qe] at e1';cases e1';rw [e2] at e2'; cases e2';simpa using e3'
theorem E9{x:DataW H×List MemPlace}(b:P.underlying t=some .string)(h:DataW.trod enc P W 0 sp held fuel t cs=some x):∃s:El .str,Rd (Fz W) .str s cs:=by obtain⟨s,rfl,_,_⟩:=DataW.trod_string b h;exact⟨s,rfl⟩
theorem MC{k:IntKind}{x:DataW H×List MemPlace}(b:P.underlying t=some (.int k))(h:DataW.trod enc P W 0 sp held fuel t cs=some x):∃s:El (.int k),Rd (Fz W) (.int k) s cs:=by obtain⟨s,rfl,_,_⟩:=DataW.trod_int b h;exact⟨s,rfl⟩
theorem NP{x:DataW H×List MemPlace}(k:P.underlying t=some (.slice e))(f:P.underlying e=some .string)(l:P.cellsOf e=1)(b:0<P.bytesOf e)
  (h:DataW.trod enc P W 0 sp held fuel t cs=some x) (c:nw P t x.1):∃xs:List ByteArray,Rd (Fz W) (.row .str) xs cs:=
 Fv (T:=.str) k l (by decide) b (λn _ cs y i _=>E9 f i) h c
theorem four{a b c d:Value}(h:cs.length=4)(h0:(cs.drop 0).take 1=[a])(h1:(cs.drop 1).take 1=[b])(e:(cs.drop 2).take 1=[c])(f:(cs.drop 3).take 1=[d]):cs=[a,b,c,d]:=by
 match cs,h with
 |[w,x,y,z],_=>simp at h0 h1 e f;subst h0;subst h1;subst e;subst f;rfl
theorem Oi{c ts tss tvs tk:TypeId}{o p e i:Field}(G:P.underlying c=some (.struct #[o,p,e,i]))(E:P.cellsOf c=4) (Z:o.type=tk/\o.offset=0/\p.type=ts/\p.offset=1/\e.type=tss/\e.offset=2/\i.type=tvs/\i.offset=3) (M:P.underlying tk=some (.int .i64)) (us:P.underlying ts=some .string) (w:P.underlying tss=some (.slice ts)) (u:P.underlying tvs=some (.slice c)) (V:P.cellsOf tk=1) (cs':P.cellsOf ts=1) (q:P.cellsOf tss=1) (z:P.cellsOf tvs=1) (bs:0<P.bytesOf ts) (bv:0<P.bytesOf c):
  ∀(fuel:Nat) (cs:List Value) (x:DataW H×List MemPlace),DataW.trod enc P W 0 sp held fuel c cs=some x->nw P c x.1->∃t:Tr,Rd (Fz W) .tree t cs:=by
 intro fuel;induction fuel using zee with
 |_ fuel ih=>intro cs x h hw;obtain⟨xs,n,rfl,hx,hl,r,b⟩:=DataW.trod_struct G h;have l:∀(j:Nat) (f:Field) (J:j<xs.length),(#[o,p,e,i]:Array Field)[j]?=some f->nw P f.type (xs[j]).1:=λj f J hf m I=>hw m (by rw[hx];unfold DataW.weights;rw[G];exact DataW.weights_mem_each (j:=j) (t:=f.type) (d:=(xs[j]).1) (by rw[zbu,zb7,hf];rfl) (by rw[zbu,zaj J];rfl) m I);obtain⟨a0,o0,a1,Y,a2,S,D,o3⟩:=Z;have g0:=b 0 o rfl;have F:=b 1 p rfl;have C:=b 2 e rfl;have L:=b 3 i rfl;have B:xs.length=4:=r;rw[a0,o0,V,zaj (by omega)]at g0;rw[a1,Y,cs',zaj (by omega)]at F;rw[a2,S,q,zaj (by omega)]at C;rw[D,o3,z,zaj (by omega)]at L;obtain⟨k,N⟩:=MC M g0;obtain⟨s,e1⟩:=E9 us F;obtain⟨ks,U⟩:=NP w us cs' bs C (by have:=l 2 e (by omega) rfl;rw[a2]at this;exact this);obtain⟨is,e3⟩:=Fv (T:=.tree) u E (by decide) bv (λm I cs y hy A=>ih m (by omega) cs y hy A) L (by have:=l 3 i (by omega) rfl;rw[D]at this;exact this);obtain⟨vk,q2,O⟩:=U;obtain⟨vi,Q,h3⟩:=e3;have:=four (hl.trans E) N e1 q2 Q;subst this;exact⟨.mk k s ks is,TrRd.of ⟨vk,rfl,O⟩ ⟨vi,rfl,h3⟩⟩
end
theorem Bj{f:FuncId}{W:World}{args:List Arg}{vs:Array Value}(H:PC P (Fz W) f args [.bool] (λr=>r=true))(i:J0 (Fz W) args vs.toList):
  Calls P f vs W λe w'=>e=.returned (.bool true)/\Below W.heap.size W w':=by
 have c:=H W.heap (Fz W) vs.toList (Fr.le.refl _) (Fz.ag W) i;rw[Array.toArray_toList]at c;refine(c W W.drawn).mono ?_;rintro e w' ⟨v,l,h',rfl,rfl,k,M',r,_,_,_,h,b⟩;have b:r=true:=b;subst b;rw[dK h];exact⟨rfl,rfl,rfl,rfl,k.size,k.get⟩
theorem nJ{M:Fr}{t:Tr}{cs:Array Value}(h:Rd M .tree t cs.toList):RdV M .tree t (.agg cs):=by unfold RdV;simp only[gO,if_true];exact⟨cs.toList,by simp,h⟩
theorem Fz.var{W:World}{n:String}{g:Nat}{cs:Array Value}(b:P.globalNamed n=some g)(h:W.var? P n=some cs):Fz W g=some cs:=by unfold World.var? at h;rw[b]at h;exact h
end
end Go.X
end
section
namespace Go.Proofs
section
theorem Tryz.mixed:za3.follows .mixedOrders=true:=by kernel_rfl
noncomputable abbrev Tp:= za3
end
end Go.Proofs
end
section
namespace Go.X
section
theorem PF{gl:Fr}{args:List Arg}{f:FuncId}{fn:Func}{rt:List Ty}{R:gQ rt->Prop}{F:Prop}(pl:PlanA)(rs:List ResultVar)(n:Nat)(b:za3.funcs[f]?=Tc fn)(H:F)(h:Y0 fn=Ta:=by kernel_rfl)(c:fn.results.toList=rs:=by kernel_rfl)(i:fn.ntmps=n:=by kernel_rfl)(hz:Nat.ble args.length n=Ta:=by kernel_rfl)(e:F=WA Tp gl 25 n pl (codeOf fn) [] (CP Tp rs rt R) (nI 0 args) []:=by kernel_rfl):PC Tp gl f args rt R:=P5 Tryz.mixed gl 25 pl args b h c i hz H e
theorem R5(gl:Fr)(f:Tr)(e:Int)(R:Bool->Prop) (H:PC Tp gl 80 [Arg.mk .tree (Tr.mk f.kind f.text f.keys f.items),Arg.mk (.int .i64) e,Arg.mk (.int .i64) 0] [.int .i64] (λa:Int=>∃b:Bool->Prop,(decide (a>=0)=Ta->PC Tp gl 81 [Arg.mk .tree (Tr.mk f.kind f.text f.keys f.items)] [.bool] b)/\∀c:Bool,(decide (a>=0)=Ta->b c)->R (bif (decide (a>=0))then c else Tb))):
  PC Tp gl 39 [Arg.mk .tree f,Arg.mk (.int .i64) e] [.bool] R:=
 PF ⟨[],[],[],[]⟩ [.tmp 4] 15 Tryz.func39 H
theorem QL(gl:Fr)(e:Bt)(R:(Int×Bool)->Prop) (H:(((!(bif (e.toList==(⟨#[]⟩:Bt).toList)then Ta else(decide ((e.size:Int)>9))))&&(!(e.toList==(⟨#[48]⟩:Bt).toList)))=Ta->(0<=(0:Int)/\(0:Int)<(e.size:Int)))/\∃a:Bool->Prop,((!(bif (bif (e.toList==(⟨#[]⟩:Bt).toList)then Ta else(decide ((e.size:Int)>9)))then Ta else(bif (!(e.toList==(⟨#[48]⟩:Bt).toList))then((qj e (0:Int).toNat:Int)==48)else Tb)))=Ta->PC Tp gl 307 [Arg.mk .str e,Arg.mk .str (⟨#[43,45,95]⟩:Bt)] [.bool] a)/\∀b:Bool,((!(bif (bif (e.toList==(⟨#[]⟩:Bt).toList)then Ta else(decide ((e.size:Int)>9)))then Ta else(bif (!(e.toList==(⟨#[48]⟩:Bt).toList))then((qj e (0:Int).toNat:Int)==48)else Tb)))=Ta->a b)->((bif (bif (bif (e.toList==(⟨#[]⟩:Bt).toList)then Ta else(decide ((e.size:Int)>9)))then Ta else(bif (!(e.toList==(⟨#[48]⟩:Bt).toList))then((qj e (0:Int).toNat:Int)==48)else Tb))then Ta else b)=Ta->R (0,Tb))/\((bif (bif (bif (e.toList==(⟨#[]⟩:Bt).toList)then Ta else(decide ((e.size:Int)>9)))then Ta else(bif (!(e.toList==(⟨#[48]⟩:Bt).toList))then((qj e (0:Int).toNat:Int)==48)else Tb))then Ta else b)=Tb->PC Tp gl 308 [Arg.mk .str e] [.int .i64,.err] (λc:Int×Bool=>((!c.2)=Ta->R (0,Tb))/\((!c.2)=Tb->R (c.1,Ta))))):
  PC Tp gl 250 [Arg.mk .str e] [.int .i64,.bool] R:=
 PF ⟨[],[],[],[]⟩ [.tmp 2,.tmp 3] 34 Tryz.func250 H
theorem SF(gl:Fr)(b:List Bt)(c:List Tr)(R:Tr->Prop) (H:R (Tr.mk 6 (⟨#[]⟩:Bt) b c)):
  PC Tp gl 29 [Arg.mk (.row .str) b,Arg.mk (.row .tree) c] [.tree] R:=
 PF ⟨[],[],[],[]⟩ [.cell 4 25] 8 Tryz.func29 H
theorem TK(gl:Fr)(b:List Tr)(R:Tr->Prop) (H:R (Tr.mk 5 (⟨#[]⟩:Bt) [] b)):
  PC Tp gl 28 [Arg.mk (.row .tree) b] [.tree] R:=
 PF ⟨[],[],[],[]⟩ [.cell 2 25] 5 Tryz.func28 H
theorem UG(gl:Fr)(n0:Int)(R:Tr->Prop) (H:PC Tp gl 64 [Arg.mk (.int .i64) n0] [.pair .bool (.pair .str (.int .i64))] (λa:Bool×Bt×Int=>PC Tp gl 63 [Arg.mk (.pair .bool (.pair .str (.int .i64))) (a.1,(a.2.1,a.2.2))] [.str] (λb:Bt=>R (Tr.mk 3 b [] [])))):
  PC Tp gl 30 [Arg.mk (.int .i64) n0] [.tree] R:=
 PF ⟨[],[],[],[]⟩ [.cell 2 25] 7 Tryz.func30 H
theorem Vb(gl:Fr)(b:Bt)(R:Bool->Prop) (H:PC Tp gl 174 [Arg.mk .str b] [.int .i64,.bool] (λa:Int×Bool=>R a.2)):
  PC Tp gl 113 [Arg.mk .str b] [.bool] R:=
 PF ⟨[],[],[],[]⟩ [.tmp 2] 11 Tryz.func113 H
theorem LY(gl:Fr)(k:Tr)(i:Int)(h:Int)(R:Int->Prop) (H:(decide (h>60)=Ta->R (-1))/\(decide (h>60)=Tb->∃(a:Int->Int->Prop) (b:Int->Int->Nat),a (zaa .i64 ((zaa .i64 (i-1))-(k.keys.length:Int))) 0/\∀c d:Int,a c d->(((bif (decide (d<k.items.length))then(decide (c>=0))else Tb)=Ta->∃e,(0<=d/\k.items[d.toNat]?=Tc e)/\PC Tp gl 80 [Arg.mk .tree (Tr.mk e.kind e.text e.keys e.items),Arg.mk (.int .i64) c,Arg.mk (.int .i64) (zaa .i64 (h+1))] [.int .i64] (λf:Int=>(a f (zaa .i64 (d+1))/\b f (zaa .i64 (d+1))<b c d)))/\((bif (decide (d<k.items.length))then(decide (c>=0))else Tb)=Tb->R c)))):
  PC Tp gl 80 [Arg.mk .tree k,Arg.mk (.int .i64) i,Arg.mk (.int .i64) h] [.int .i64] R:=
 PF ⟨[],[],[(5,⟨[(1,.one (.dat (.int .i64))),(7,.one (.dat (.int .i64)))],[],[3],[100064,100448]⟩)],[]⟩ [.tmp 6] 37 Tryz.func80 H
theorem RQ(gl:Fr)(h:Tr)(R:Bool->Prop) (H:(decide ((h.text.size:Int)>2048)=Ta->R Tb)/\(decide ((h.text.size:Int)>2048)=Tb->∃(a:Int->Prop) (b:Int->Nat),a 0/\∀c:Int,a c->((decide (c<h.keys.length)=Ta->∃d,(0<=c/\h.keys[c.toNat]?=Tc d)/\(decide ((d.size:Int)>1024)=Ta->R Tb)/\(decide ((d.size:Int)>1024)=Tb->(a (zaa .i64 (c+1))/\b (zaa .i64 (c+1))<b c)))/\(decide (c<h.keys.length)=Tb->∃(e:Int->Prop) (f:Int->Nat),e 0/\∀g:Int,e g->((decide (g<h.items.length)=Ta->∃i,(0<=g/\h.items[g.toNat]?=Tc i)/\PC Tp gl 81 [Arg.mk .tree (Tr.mk i.kind i.text i.keys i.items)] [.bool] (λj:Bool=>((!j)=Ta->R Tb)/\((!j)=Tb->(e (zaa .i64 (g+1))/\f (zaa .i64 (g+1))<f g))))/\(decide (g<h.items.length)=Tb->R Ta)))))):
  PC Tp gl 81 [Arg.mk .tree h] [.bool] R:=
 PF ⟨[],[],[(4,⟨[(3,.one (.dat (.int .i64)))],[],[1],[100192]⟩),(9,⟨[(4,.one (.dat (.int .i64)))],[],[1],[100256]⟩)],[]⟩ [.tmp 2] 39 Tryz.func81 H
theorem Va(gl:Fr)(n0:Bool×Bt×Int)(R:Bt->Prop) (H:PC Tp gl 105 [Arg.mk (.pair .bool (.pair .str (.int .i64))) (n0.1,(n0.2.1,n0.2.2))] [.bool] (λa:Bool=>((!a)=Ta->R (⟨#[]⟩:Bt))/\((!a)=Tb->((n0.2.1.toList==(⟨#[]⟩:Bt).toList)=Ta->R (⟨#[48]⟩:Bt))/\((n0.2.1.toList==(⟨#[]⟩:Bt).toList)=Tb->∀b:Bt->Prop,(∀c:Bt,(((n0.2.2 != 0)=Ta->PC Tp gl 106 [Arg.mk (.int .i64) n0.2.2] [.str] (λd:Bt=>Wm (((⟨#[101]⟩:Bt)).size+d.size)/\Wm (c.size+((⟨#[101]⟩:Bt)++d).size)/\R (c++((⟨#[101]⟩:Bt)++d))))/\((n0.2.2 != 0)=Tb->R c))->b c)->(n0.1=Ta->Wm (((⟨#[45]⟩:Bt)).size+n0.2.1.size)/\b ((⟨#[45]⟩:Bt)++n0.2.1))/\(n0.1=Tb->b n0.2.1))))):
  PC Tp gl 63 [Arg.mk (.pair .bool (.pair .str (.int .i64))) n0] [.str] R:=
 PF ⟨[],[],[],[(8,⟨[(3,.one (.dat .str))],[],[1],[100192]⟩)]⟩ [.tmp 2] 26 Tryz.func63 H
theorem ZF(gl:Fr)(n0:Int)(R:(Bool×Bt×Int)->Prop) (H:PC Tp gl 106 [Arg.mk (.int .i64) n0] [.str] (λa:Bt=>PC Tp gl 107 [Arg.mk .str a] [.pair .bool (.pair .str (.int .i64)),.int .i64] (λb:(Bool×Bt×Int)×Int=>R (b.1.1,(b.1.2.1,b.1.2.2))))):
  PC Tp gl 64 [Arg.mk (.int .i64) n0] [.pair .bool (.pair .str (.int .i64))] R:=
 PF ⟨[],[],[],[]⟩ [.cell 2 78] 12 Tryz.func64 H
theorem PY(gl:Fr)(f:Bt)(R:(Int×Bool)->Prop) (H:PC Tp gl 232 [Arg.mk .str f] [.bool] (λa:Bool=>(a=Ta->R ((f.size:Int),Ta))/\(a=Tb->∃(b:(Bt×Nat)->Prop) (c:(Bt×Nat)->Nat),b (f,0)/\∀e:Bt×Nat,b e->(((hP e.1 e.2)=Ta->(hP e.1 e.2)=Ta/\(hP e.1 e.2)=Ta/\(((i8 e.1 e.2:Int) != 65533)=Ta->(b (e.1,ir e.1 e.2)/\c (e.1,ir e.1 e.2)<c e))/\(((i8 e.1 e.2:Int) != 65533)=Tb->(0<=(e.2:Int)/\(e.2:Int)<=(f.size:Int)/\(f.size:Int)<=(f.size:Int))/\PC Tp gl 233 [Arg.mk .str (f.extract (e.2:Int).toNat (f.size:Int).toNat)] [.int .i32,.int .i64] (λd:Int×Int=>((d.2==1)=Ta->R ((e.2:Int),Tb))/\((d.2==1)=Tb->(b (e.1,ir e.1 e.2)/\c (e.1,ir e.1 e.2)<c e)))))/\((hP e.1 e.2)=Tb->R ((f.size:Int),Ta)))))):
  PC Tp gl 174 [Arg.mk .str f] [.int .i64,.bool] R:=
 PF ⟨[],[],[(4,⟨[],[(13,[.dat .iter])],[],[1000832]⟩)],[]⟩ [.tmp 2,.tmp 3] 32 Tryz.func174 H
theorem zor(gl:Fr)(e:Tr)(R:Bool->Prop) (H:PC Tp gl 47 [Arg.mk .tree (Tr.mk e.kind e.text e.keys e.items)] [.int .i64] (λa:Int=>∃b:Int->Prop,(decide (a<=4096)=Ta->PC Tp gl 26 [Arg.mk .tree (Tr.mk e.kind e.text e.keys e.items)] [.int .i64] b)/\∀c:Int,(decide (a<=4096)=Ta->b c)->R (bif (decide (a<=4096))then(decide (c<=32))else Tb))):
  PC Tp gl 59 [Arg.mk .tree e] [.bool] R:=
 PF ⟨[],[],[],[]⟩ [.tmp 2] 11 Tryz.func59 H
theorem YA(gl:Fr)(e:Tr)(R:Bool->Prop) (H:((e.kind==5)=Ta->R (bif (!(decide ((e.keys.length:Int)>0)))then(e.text.toList==(⟨#[]⟩:Bt).toList)else Tb))/\((e.kind==5)=Tb->((e.kind==6)=Ta->PC Tp gl 101 [Arg.mk (.row .str) e.keys,Arg.mk (.int .i64) (e.items.length:Int)] [.bool] (λa:Bool=>R (bif a then(e.text.toList==(⟨#[]⟩:Bt).toList)else Tb)))/\((e.kind==6)=Tb->((bif (decide ((e.keys.length:Int)>0))then Ta else(decide ((e.items.length:Int)>0)))=Ta->R Tb)/\((bif (decide ((e.keys.length:Int)>0))then Ta else(decide ((e.items.length:Int)>0)))=Tb->((e.kind==1)=Ta->R (e.text.toList==(⟨#[]⟩:Bt).toList))/\((e.kind==1)=Tb->((e.kind==2)=Ta->R (bif (e.text.toList==(⟨#[116,114,117,101]⟩:Bt).toList)then Ta else(e.text.toList==(⟨#[102,97,108,115,101]⟩:Bt).toList)))/\((e.kind==2)=Tb->((e.kind==3)=Ta->PC Tp gl 102 [Arg.mk .str e.text] [.pair .bool (.pair .str (.int .i64)),.bool] (λb:(Bool×Bt×Int)×Bool=>R b.2))/\((e.kind==3)=Tb->((e.kind==4)=Ta->PC Tp gl 103 [Arg.mk .str e.text] [.bool] (λc:Bool=>R c))/\((e.kind==4)=Tb->((e.kind==7)=Ta->PC Tp gl 104 [Arg.mk .str e.text] [.bool] (λd:Bool=>R d))/\((e.kind==7)=Tb->R Tb))))))))):
  PC Tp gl 62 [Arg.mk .tree e] [.bool] R:=
 PF ⟨[],[],[],[]⟩ [.tmp 2] 79 Tryz.func62 H
theorem N0(gl:Fr)(n0:Bool×Bt×Int)(R:Bool->Prop) (H:(((n0.1==Tb)&&((n0.2.1.toList==(⟨#[]⟩:Bt).toList)&&((n0.2.2==0)&&Ta)))=Ta->R Ta)/\(((n0.1==Tb)&&((n0.2.1.toList==(⟨#[]⟩:Bt).toList)&&((n0.2.2==0)&&Ta)))=Tb->PC Tp gl 176 [Arg.mk .str n0.2.1] [.bool] (λa:Bool=>((!a)=Ta->((!a)=Ta->R Tb)/\((!a)=Tb->R (bif (decide (n0.2.2>=(-1000000)))then(decide (n0.2.2<=1000000))else Tb)))/\((!a)=Tb->(decide ((n0.2.1.size:Int)>1000)=Ta->(decide ((n0.2.1.size:Int)>1000)=Ta->R Tb)/\(decide ((n0.2.1.size:Int)>1000)=Tb->R (bif (decide (n0.2.2>=(-1000000)))then(decide (n0.2.2<=1000000))else Tb)))/\(decide ((n0.2.1.size:Int)>1000)=Tb->(0<=(0:Int)/\(0:Int)<(n0.2.1.size:Int))/\(((qj n0.2.1 (0:Int).toNat:Int)==48)=Ta->(((qj n0.2.1 (0:Int).toNat:Int)==48)=Ta->R Tb)/\(((qj n0.2.1 (0:Int).toNat:Int)==48)=Tb->R (bif (decide (n0.2.2>=(-1000000)))then(decide (n0.2.2<=1000000))else Tb)))/\(((qj n0.2.1 (0:Int).toNat:Int)==48)=Tb->(0<=(zaa .i64 ((n0.2.1.size:Int)-1))/\(zaa .i64 ((n0.2.1.size:Int)-1))<(n0.2.1.size:Int))/\(((qj n0.2.1 (zaa .i64 ((n0.2.1.size:Int)-1)).toNat:Int)==48)=Ta->R Tb)/\(((qj n0.2.1 (zaa .i64 ((n0.2.1.size:Int)-1)).toNat:Int)==48)=Tb->R (bif (decide (n0.2.2>=(-1000000)))then(decide (n0.2.2<=1000000))else Tb)))))))):
  PC Tp gl 105 [Arg.mk (.pair .bool (.pair .str (.int .i64))) n0] [.bool] R:=
 PF ⟨[],[],[],[]⟩ [.tmp 2] 34 Tryz.func105 H
theorem Mu(gl:Fr)(r:Bt)(R:((Bool×Bt×Int)×Int)->Prop) (H:PC Tp gl 178 [Arg.mk .str r] [.pair .bool (.pair .bool (.pair .str (.pair .str .str))),.bool] (λa:(Bool×Bool×Bt×Bt×Bt)×Bool=>PC Tp gl 179 [Arg.mk .str a.1.2.2.2.2,Arg.mk .str (⟨#[48]⟩:Bt)] [.str] (λb:Bt=>((!a.2)=Ta->R ((Tb,((⟨#[]⟩:Bt),0)),2))/\((!a.2)=Tb->((decide ((zaa .i64 ((a.1.2.2.1.size:Int)+(a.1.2.2.2.1.size:Int)))>1000))=Ta->R ((Tb,((⟨#[]⟩:Bt),0)),3))/\((decide ((zaa .i64 ((a.1.2.2.1.size:Int)+(a.1.2.2.2.1.size:Int)))>1000))=Tb->(decide ((b.size:Int)>9)=Ta->R ((Tb,((⟨#[]⟩:Bt),0)),4))/\(decide ((b.size:Int)>9)=Tb->∃(c:Int->Bool->Bt->Int->(Bt×Nat)->Prop) (d:Int->Bool->Bt->Int->(Bt×Nat)->Nat),c 0 Tb (⟨#[]⟩:Bt) 0 (b,0)/\∀e:Int,∀m:Bool,∀l:Bt,∀n:Int,∀h:Bt×Nat,c e m l n h->(((hP h.1 h.2)=Ta->(hP h.1 h.2)=Ta/\(c (zaa .i64 ((zaa .i64 (10*e))+(zaa .i64 (zaa .i32 ((i8 h.1 h.2)-48))))) m l n (h.1,ir h.1 h.2)/\d (zaa .i64 ((zaa .i64 (10*e))+(zaa .i64 (zaa .i32 ((i8 h.1 h.2)-48))))) m l n (h.1,ir h.1 h.2)<d e m l n h))/\((hP h.1 h.2)=Tb->∀f:Int->Bool->Bt->Int->Prop,(∀g:Int,∀o:Bool,∀q:Bt,∀p:Int,(Wm (a.1.2.2.1.size+a.1.2.2.2.1.size)/\PC Tp gl 179 [Arg.mk .str (a.1.2.2.1++a.1.2.2.2.1),Arg.mk .str (⟨#[48]⟩:Bt)] [.str] (λi:Bt=>((i.toList==(⟨#[]⟩:Bt).toList)=Ta->R ((Tb,((⟨#[]⟩:Bt),0)),0))/\((i.toList==(⟨#[]⟩:Bt).toList)=Tb->PC Tp gl 180 [Arg.mk .str i,Arg.mk .str (⟨#[48]⟩:Bt)] [.str] (λj:Bt=>PC Tp gl 105 [Arg.mk (.pair .bool (.pair .str (.int .i64))) (a.1.1,(j,zaa .i64 ((zaa .i64 ((zaa .i64 (g-(a.1.2.2.2.1.size:Int)))+(i.size:Int)))-(j.size:Int))))] [.bool] (λk:Bool=>((!k)=Ta->R ((Tb,((⟨#[]⟩:Bt),0)),4))/\((!k)=Tb->R ((a.1.1,(j,zaa .i64 ((zaa .i64 ((zaa .i64 (g-(a.1.2.2.2.1.size:Int)))+(i.size:Int)))-(j.size:Int)))),0)))))))->f g o q p)->(a.1.2.1=Ta->f (zaa .i64 (0-e)) m l n)/\(a.1.2.1=Tb->f e m l n))))))))):
  PC Tp gl 107 [Arg.mk .str r] [.pair .bool (.pair .str (.int .i64)),.int .i64] R:=
 PF ⟨[],[],[(11,⟨[(7,.one (.dat (.int .i64)))],[(2,[.dat .bool,.dat .str,.dat (.int .i64)]),(41,[.dat .iter])],[4],[100448,1000128,1000129,1000130,1002624]⟩)],[(16,⟨[(7,.one (.dat (.int .i64)))],[(2,[.dat .bool,.dat .str,.dat (.int .i64)])],[4],[100448,1000128,1000129,1000130]⟩)]⟩ [.cell 2 78,.tmp 3] 86 Tryz.func107 H
theorem MP(gl:Fr)(h:Tr)(R:Int->Prop) (H:∃(a:Int->Int->Prop) (b:Int->Int->Nat),a 1 0/\∀c d:Int,a c d->((decide (d<h.items.length)=Ta->∃e,(0<=d/\h.items[d.toNat]?=Tc e)/\PC Tp gl 47 [Arg.mk .tree (Tr.mk e.kind e.text e.keys e.items)] [.int .i64] (λf:Int=>(a (zaa .i64 (c+f)) (zaa .i64 (d+1))/\b (zaa .i64 (c+f)) (zaa .i64 (d+1))<b c d)))/\(decide (d<h.items.length)=Tb->R c))):
  PC Tp gl 47 [Arg.mk .tree h] [.int .i64] R:=
 PF ⟨[],[],[(3,⟨[(3,.one (.dat (.int .i64))),(9,.one (.dat (.int .i64)))],[],[],[100192,100576]⟩)],[]⟩ [.tmp 2] 19 Tryz.func47 H
theorem YH(gl:Fr)(h:Tr)(R:Int->Prop) (H:∃(a:Int->Int->Prop) (b:Int->Int->Nat),a 0 0/\∀c d:Int,a c d->((decide (d<h.items.length)=Ta->∃e,(0<=d/\h.items[d.toNat]?=Tc e)/\PC Tp gl 26 [Arg.mk .tree (Tr.mk e.kind e.text e.keys e.items)] [.int .i64] (λf:Int=>(a (if c<f then f else c) (zaa .i64 (d+1))/\b (if c<f then f else c) (zaa .i64 (d+1))<b c d)))/\(decide (d<h.items.length)=Tb->R (zaa .i64 (c+1))))):
  PC Tp gl 26 [Arg.mk .tree h] [.int .i64] R:=
 PF ⟨[],[],[(3,⟨[(3,.one (.dat (.int .i64))),(9,.one (.dat (.int .i64)))],[],[],[100192,100576]⟩)],[]⟩ [.tmp 2] 20 Tryz.func26 H
theorem Rz(gl:Fr)(b:Bt)(R:Bool->Prop) (H:PC Tp gl 174 [Arg.mk .str b] [.int .i64,.bool] (λa:Int×Bool=>R a.2)):
  PC Tp gl 103 [Arg.mk .str b] [.bool] R:=
 PF ⟨[],[],[],[]⟩ [.tmp 2] 11 Tryz.func103 H
theorem VI(gl:Fr)(c:Bt)(R:Bool->Prop) (H:PC Tp gl 102 [Arg.mk .str c] [.pair .bool (.pair .str (.int .i64)),.bool] (λa:(Bool×Bt×Int)×Bool=>PC Tp gl 175 [Arg.mk (.pair .bool (.pair .str (.int .i64))) (a.1.1,(a.1.2.1,a.1.2.2))] [.int .i64,.bool] (λb:Int×Bool=>R (bif (bif a.2 then b.2 else Tb)then(decide (b.1>=0))else Tb)))):
  PC Tp gl 104 [Arg.mk .str c] [.bool] R:=
 PF ⟨[],[],[],[]⟩ [.tmp 2] 25 Tryz.func104 H
theorem QN(gl:Fr)(e:Bt)(R:Bool->Prop) (H:∃(a:(Bt×Nat)->Prop) (b:(Bt×Nat)->Nat),a (e,0)/\∀c:Bt×Nat,a c->(((hP c.1 c.2)=Ta->(hP c.1 c.2)=Ta/\((bif (decide ((i8 c.1 c.2:Int)<48))then Ta else(decide ((i8 c.1 c.2:Int)>57)))=Ta->R Tb)/\((bif (decide ((i8 c.1 c.2:Int)<48))then Ta else(decide ((i8 c.1 c.2:Int)>57)))=Tb->(a (c.1,ir c.1 c.2)/\b (c.1,ir c.1 c.2)<b c)))/\((hP c.1 c.2)=Tb->R (!(e.toList==(⟨#[]⟩:Bt).toList))))):
  PC Tp gl 176 [Arg.mk .str e] [.bool] R:=
 PF ⟨[],[],[(2,⟨[],[(6,[.dat .iter])],[],[1000384]⟩)],[]⟩ [.tmp 2] 18 Tryz.func176 H
theorem Ut(gl:Fr)(e:Bt)(f:Bt)(R:(Bt×Bt×Bool)->Prop) (H:∃(a:Int->Prop) (b:Int->Nat),a 0/\∀c:Int,a c->((decide (c<e.size)=Ta->(0<=c/\c<e.size)/\PC Tp gl 194 [Arg.mk .str f,Arg.mk (.int .u8) (qj e c.toNat)] [.int .i64] (λd:Int=>(decide (d>=0)=Ta->(0<=(0:Int)/\(0:Int)<=c/\c<=e.size)/\(0<=(zaa .i64 (c+1))/\(zaa .i64 (c+1))<=(e.size:Int)/\(e.size:Int)<=(e.size:Int))/\R (e.extract (0:Int).toNat c.toNat,e.extract (zaa .i64 (c+1)).toNat (e.size:Int).toNat,Ta))/\(decide (d>=0)=Tb->(a (zaa .i64 (c+1))/\b (zaa .i64 (c+1))<b c))))/\(decide (c<e.size)=Tb->R (e,(⟨#[]⟩:Bt),Tb)))):
  PC Tp gl 238 [Arg.mk .str e,Arg.mk .str f] [.str,.str,.bool] R:=
 PF ⟨[],[],[(2,⟨[(10,.one (.dat (.int .i64)))],[],[],[100640]⟩)],[]⟩ [.tmp 4,.tmp 5,.tmp 6] 28 Tryz.func238 H
theorem RD(gl:Fr)(a0:List Bt)(b:List Bt)(R:Bool->Prop) (H:PC Tp gl 54 [Arg.mk (.row .str) a0,Arg.mk (.row .str) b] [.int .i64] (λa:Int=>R (a==0))):
  PC Tp gl 21 [Arg.mk (.row .str) a0,Arg.mk (.row .str) b] [.bool] R:=
 PF ⟨[],[],[],[]⟩ [.tmp 4] 9 Tryz.func21 H
theorem NB(gl:Fr)(a0:List Bt)(h:List Bt)(R:Int->Prop) (H:∃(a:Int->Prop) (b:Int->Nat),a 0/\∀c:Int,a c->(((bif (decide (c<a0.length))then(decide (c<h.length))else Tb)=Ta->∃d,(0<=c/\a0[c.toNat]?=Tc d)/\∃e,(0<=c/\h[c.toNat]?=Tc e)/\((zdg d.toList e.toList)=Ta->R (-1))/\((zdg d.toList e.toList)=Tb->∃f,(0<=c/\a0[c.toNat]?=Tc f)/\∃g,(0<=c/\h[c.toNat]?=Tc g)/\((!(zdg f.toList g.toList||(f.toList==g.toList)))=Ta->R 1)/\((!(zdg f.toList g.toList||(f.toList==g.toList)))=Tb->(a (zaa .i64 (c+1))/\b (zaa .i64 (c+1))<b c))))/\((bif (decide (c<a0.length))then(decide (c<h.length))else Tb)=Tb->(decide ((a0.length:Int)<(h.length:Int))=Ta->R (-1))/\(decide ((a0.length:Int)<(h.length:Int))=Tb->(decide ((a0.length:Int)>(h.length:Int))=Ta->R 1)/\(decide ((a0.length:Int)>(h.length:Int))=Tb->R 0))))):
  PC Tp gl 54 [Arg.mk (.row .str) a0,Arg.mk (.row .str) h] [.int .i64] R:=
 PF ⟨[],[],[(2,⟨[(5,.one (.dat (.int .i64)))],[],[],[100320]⟩)],[]⟩ [.tmp 4] 46 Tryz.func54 H
theorem zmv(gl:Fr)(h:Tr)(f:List Bt)(R:(Tr×Bool)->Prop) (H:PC Tp gl 65 [Arg.mk .tree (Tr.mk h.kind h.text h.keys h.items)] [.bool] (λa:Bool=>∃b:Bool->Prop,((!(!a))=Ta->PC Tp gl 67 [Arg.mk (.row .str) f] [.bool] b)/\∀c:Bool,((!(!a))=Ta->b c)->((bif (!a)then Ta else(!c))=Ta->R (Tr.mk 0 (⟨#[]⟩:Bt) [] [],Tb))/\((bif (!a)then Ta else(!c))=Tb->PC Tp gl 68 [Arg.mk .tree (Tr.mk h.kind h.text h.keys h.items),Arg.mk (.row .str) f] [.row (.int .i64),.tree,.bool] (λd:(List Int)×Tr×Bool=>((!d.2.2)=Ta->R (Tr.mk 0 (⟨#[]⟩:Bt) [] [],Tb))/\((!d.2.2)=Tb->PC Tp gl 69 [Arg.mk .tree (Tr.mk d.2.1.kind d.2.1.text d.2.1.keys d.2.1.items)] [.tree] (λe:Tr=>R (Tr.mk e.kind e.text e.keys e.items,Ta))))))):
  PC Tp gl 32 [Arg.mk .tree h,Arg.mk (.row .str) f] [.tree,.bool] R:=
 PF ⟨[],[],[],[]⟩ [.cell 4 25,.tmp 5] 30 Tryz.func32 H
theorem WU(gl:Fr)(e:Tr)(c:Bt)(R:Int->Prop) (H:((e.kind==6)=Ta->PC Tp gl 98 [Arg.mk (.row .str) e.keys,Arg.mk .str c] [.int .i64] (λa:Int=>R a))/\((e.kind==6)=Tb->((e.kind==5)=Ta->PC Tp gl 250 [Arg.mk .str c] [.int .i64,.bool] (λb:Int×Bool=>((bif b.2 then(decide (b.1<e.items.length))else Tb)=Ta->R b.1)/\((bif b.2 then(decide (b.1<e.items.length))else Tb)=Tb->R (-1))))/\((e.kind==5)=Tb->R (-1)))):
  PC Tp gl 186 [Arg.mk .tree e,Arg.mk .str c] [.int .i64] R:=
 PF ⟨[],[],[],[]⟩ [.tmp 4] 31 Tryz.func186 H
end
section
abbrev bl(l:List UInt8):Bt:=⟨l.toArray⟩
abbrev lb(s:Bt):List UInt8:=s.data.toList
@[simp] theorem yo(l:List UInt8):lb (bl l)=l:=by simp[lb]
@[simp] theorem jL(s:Bt):bl (lb s)=s:=by simp
theorem wD{s t:Bt}:lb s=lb t↔s=t:=⟨λh=>by rw[<-jL s,h,jL],λh=>by rw[h]⟩
theorem qB(s:Bt):(lb s).length=s.size:=by simp
theorem XO(s t:Bt):lb (s++t)=lb s++lb t:=by simp
theorem z5m(s:Bt)(a b:Nat):lb (s.extract a b)=((lb s).drop a).take (b-a):=by cases s;simp[lb,ByteArray.data_extract,List.extract_eq_take_drop]
theorem Sn(s:Bt)(i:Nat):qj s i=((((lb s)[i]?).getD 0).toNat:Int):=by cases s;simp[lb,qj]
theorem qkb(s:Bt)(i:Nat):s.get! i=((lb s)[i]?).getD 0:=by
 cases s with
 |mk d=>simp[lb,ByteArray.get!,Array.getElem!_eq_getD];rfl
def dec(l:List UInt8):Nat×Nat:=Go.Lib.decodeN l.length (l.getD 0 0).toNat (l.getD 1 0).toNat (l.getD 2 0).toNat (l.getD 3 0).toNat
theorem vH(s:Bt)(i:Nat):Utf8.decode s i=dec ((lb s).drop i):=by rw[Go.Lib.decode_at,dec];simp only[qkb,zdl,zbs,zb2,qB,zen]
theorem Y7(l:List UInt8):1<=(dec l).2/\(dec l).2<=4:=by unfold dec Go.Lib.decodeN;grind
theorem xM{l:List UInt8}(h:l≠[]):(dec l).2<=l.length:=by have:0<l.length:=zbo.2 h;unfold dec Go.Lib.decodeN;grind
def jW(d:Nat×Nat):Bool:=d.1==65533&&d.2==1
def gL(l:List UInt8):Bool:=if h:l=[]then Ta else if jW (dec l)then Tb else gL (l.drop (dec l).2)
termination_by l.length
decreasing_by
 have h1:=Y7 l;have h2:0<l.length:=zbo.2 h;grind
theorem yB:gL []=Ta:=by unfold gL;simp
theorem vA{l:List UInt8}(h:l≠[]):gL l=if jW (dec l)then Tb else gL (l.drop (dec l).2):=by rw[gL];simp[h]
theorem qQ{c:UInt8}{l:List UInt8}(h:c.toNat<128):dec (c::l)=(c.toNat,1):=by simp[dec,Go.Lib.decodeN,h]
theorem WR{c:UInt8}{l:List UInt8}(h:c.toNat<128):jW (dec (c::l))=Tb:=by rw[qQ h,jW];grind
theorem QB{c:UInt8}{l:List UInt8}(h:c.toNat<128):gL (c::l)=gL l:=by rw[vA (by simp),WR h,qQ h];simp
end
end Go.X
end
section
namespace Go.X
open Go Go.Lib
section
abbrev Bs:=List UInt8
end
end Go.X
end
section
namespace Go.X
section
theorem mY{n:Int}(h1:-2147483648<=n)(c:n<=2147483647):zaa .i32 n=n:=by
 unfold zaa;have e:(2:Int) ^ zem .i32=4294967296:=by decide
 have e':(2:Int) ^ (zem .i32-1)=2147483648:=by decide
 simp only[e,e'];have b:ze1 .i32=Ta:=rfl;grind
end
end Go.X
end
section
namespace Go.X
open Go Go.Proofs Go.Shelf Go.RowKit
section
def Oq:Go.Shelf.Ren:=⟨fun|161=>179|231=>240|227=>241|233=>242|235=>243|228=>293|197=>233|151=>294|260=>282|152=>351|137=>194|119=>381|224=>312|225=>311|217=>262|266=>316|n=>n,fun|9=>9|4=>4|3=>3|5=>5|117=>237|116=>236|0=>0|124=>240|105=>226|21=>21|119=>264|46=>244|139=>267|138=>266|n=>n,fun|3=>0|4=>1|n=>n⟩
theorem Sw:Go.Proofs.Lays.n161 Tp Oq:=by constructor <;> intros <;> kernel_rfl
theorem Ub(s:Bt)(c:UInt8)(b:c.toNat<128)(w:World): Calls Tp 179 #[.string s,.string ⟨#[c]⟩] w λe w'=>e=.returned (.string ⟨(Lib.trimLeftB s.data.toList c).toArray⟩)/\w'=w:=Any.strings_TrimLeft_one Sw s c b w
def S7:Go.Shelf.Ren:=⟨fun|162=>180|232=>244|227=>241|234=>245|236=>246|228=>293|271=>295|151=>294|120=>352|197=>233|152=>351|260=>282|137=>194|119=>381|224=>312|225=>311|217=>262|266=>316|n=>n,fun|9=>9|4=>4|3=>3|5=>5|117=>237|116=>236|0=>0|124=>240|21=>21|105=>226|46=>244|119=>264|139=>267|138=>266|n=>n,fun|3=>0|4=>1|n=>n⟩
theorem MJ:Go.Proofs.Lays.n162 Tp S7:=by constructor <;> intros <;> kernel_rfl
theorem zac(s:Bt)(c:UInt8)(b:c.toNat<128)(w:World)(f:s.size<=9223372036854775807): Calls Tp 180 #[.string s,.string ⟨#[c]⟩] w λe w'=>e=.returned (.string ⟨(Lib.trimRightB s.data.toList c).toArray⟩)/\w'=w:=Any.strings_TrimRight_one MJ s c b w f
def MY:Go.Shelf.Ren:=⟨fun|137=>194|217=>262|266=>316|n=>n,fun|9=>9|5=>5|3=>3|n=>n,fun|n=>n⟩
theorem z90:Go.Proofs.Lays.n137 Tp MY:=by constructor <;> intros <;> kernel_rfl
theorem wl(s:Bt)(c:Int)(w:World): Calls Tp 194 #[.string s,.int .u8 c] w λe w'=>e=.returned (.int .i64 (Lib.indexByte s.data.toList c.toNat.toUInt8))/\w'=w:=Any.strings_IndexByte z90 s c w
def zr6:Go.Shelf.Ren:=⟨fun|103=>237|210=>291|206=>123|n=>n,fun|9=>9|4=>4|24=>232|3=>3|n=>n,fun|n=>n⟩
theorem ZP:Go.Proofs.Lays.n103 Tp zr6:=by constructor <;> intros <;> kernel_rfl
theorem TQ(s p:Bt)(w:World): Calls Tp 237 #[.string s,.string p] w λe w'=>e=.returned (.tuple #[.string ⟨(Lib.trimPrefix s.data.toList p.data.toList).toArray⟩,.bool (Lib.hasPrefix s.data.toList p.data.toList)])/\w'=w:=Any.strings_CutPrefix ZP s p w
def SK:Go.Shelf.Ren:=⟨fun|242=>309|278=>361|n=>n,fun|37=>86|21=>21|51=>287|4=>4|5=>5|46=>244|n=>n,fun|n=>n⟩
theorem Pt:Go.Proofs.Lays.n242 Tp SK:=by constructor <;> intros <;> kernel_rfl
theorem zad(B:Nat)(v:Value)(n:Nat)(xs:List Value)(r:Int)(f:-2147483648<=r)(i:r<=2147483647)(w:World)(b:w.ownsRow B 5 1 v n xs)(c:n+4<=140737488355328)(h:B<=w.heap.size): Calls Tp 309 #[v,.int .i32 r] w λe w'=>∃k,e=.returned k/\w'.ownsRow B 5 1 k (n+(Lib.runeCells r).length) (xs++Lib.runeCells r)/\∃o,(w.alloc o).grownBy w' v.ownBlock:=Any.utf8_AppendRune_plain Pt (by kernel_rfl) B v n xs r f i w b c h
def WX:Go.Shelf.Ren:=⟨fun|171=>106|243=>177|246=>236|283=>287|284=>288|285=>289|286=>290|129=>306|317=>347|318=>348|319=>349|320=>350|337=>379|338=>380|n=>n,fun|3=>3|9=>9|2=>2|4=>4|171=>271|0=>0|53=>272|37=>86|5=>5|173=>275|212=>313|51=>287|20=>20|213=>314|46=>244|232=>340|233=>341|n=>n,fun|17=>3|18=>6|19=>7|n=>n⟩
theorem NE:Go.Proofs.LaysM.n171 Tp WX:=by repeat' first|(intros;kernel_rfl)|constructor
open Go.RowKit Go.Sort Go.Lib in
theorem YI(n : Int)(h0 : -9223372036854775808 ≤ n)(h1 : n ≤ 9223372036854775807)(w : World)(htab : Lib.TabIs Tp w "internal/strconv.uint64pow10" .u64 Lib.pow10Tab): Calls Tp 106 #[.int .i64 n] w λe w'=>e=.returned (.string ⟨(Lib.itoa n).toArray⟩)/\∃k os,w'=grow (w.drewN k) os:=Any.strconv_Itoa NE n h0 h1 w htab
def Ny:Go.Shelf.Ren:=⟨fun|245=>286|279=>343|280=>344|281=>345|282=>346|316=>377|171=>106|205=>378|243=>177|246=>236|283=>287|284=>288|285=>289|286=>290|129=>306|317=>347|318=>348|319=>349|320=>350|337=>379|338=>380|n=>n,fun|9=>9|3=>3|75=>90|167=>306|4=>4|168=>309|210=>330|37=>86|0=>0|127=>149|145=>339|143=>337|2=>2|171=>271|53=>272|5=>5|173=>275|212=>313|51=>287|20=>20|213=>314|46=>244|232=>340|233=>341|80=>94|n=>n,fun|15=>4|16=>5|17=>3|18=>6|19=>7|n=>n⟩
theorem WQ:Go.Proofs.LaysC.n245 Tp Ny:=by repeat' first|(intros;kernel_rfl)|constructor
theorem W5(fn s:Bt)(base b:Int)(c:Value)(w:World)(f:s.size<=281474976710656)(k:w.cell? ⟨4,0,Td⟩=Tc c)(h:c=.nilIface\/∃i l,c=.iface i l): Calls Tp 286 #[.string fn,.string s,.int .i64 base,.int .i64 b,.iface 306 (.int .i64 2)] w λe w'=>∃N,e=.returned (.iface 309 (.pointer (Tc ⟨N,0,Td⟩)))/\w.heap.size<=N/\w'.heap[N]?=Tc (.cells #[.string fn,.string s,c] 330 (0,0))/\Below w.heap.size w w':=Any.strconv_toError_syntax WQ fn s base b c w f k h
def Un:Go.Shelf.Ren:=⟨fun|172=>308|244=>360|245=>286|247=>285|279=>343|280=>344|281=>345|282=>346|287=>342|316=>377|171=>106|205=>378|321=>375|322=>376|243=>177|246=>236|283=>287|284=>288|285=>289|286=>290|129=>306|317=>347|318=>348|319=>349|320=>350|337=>379|338=>380|n=>n,fun|9=>9|3=>3|75=>90|76=>91|4=>4|5=>5|167=>306|37=>86|0=>0|85=>229|2=>2|168=>309|53=>272|175=>307|46=>244|210=>330|127=>149|145=>339|143=>337|21=>21|171=>271|173=>275|212=>313|51=>287|20=>20|213=>314|232=>340|233=>341|80=>94|n=>n,fun|15=>4|16=>5|17=>3|18=>6|19=>7|n=>n⟩
theorem Ag:Go.Proofs.LaysC.n172 Tp Un:=by repeat' first|(intros;kernel_rfl)|constructor
def zr8:Go.Shelf.Ren:=⟨fun|321=>375|n=>n,fun|5=>5|n=>n,fun|n=>n⟩
theorem Pq:Go.Proofs.Lays.n321 Tp zr8:=by constructor <;> intros <;> kernel_rfl
theorem W6(c:Int)(w:World): Calls Tp 375 #[.int .u8 c] w λe w'=>e=.returned (.int .u8 (bits .or .u8 c 32))/\w'=w:=Any.internal_strconv_lower Pq c w
theorem UA(s:Bt)(b:s.size<=9223372036854775806)(v:Int)(h:Lib.atoiAll s.data.toList=.ok v)(w:World): Calls Tp 308 #[.string s] w λe w'=>e=.returned (.tuple #[.int .i64 v,.nilIface])/\(w'=w\/∃t,w'=Lib.bytesWorld w 5 t):=Any.strconv_Atoi_ok Ag s b v h w
theorem SE(s:Bt)(c:s.size<=281474976710656)(h:Lib.atoiAll s.data.toList=Lib.atoiAll [])(b:Value)(w:World)(k:w.cell? ⟨4,0,Td⟩=Tc b)(f:b=.nilIface\/∃i l,b=.iface i l): Calls Tp 308 #[.string s] w λe w'=>∃N,e=.returned (.tuple #[.int .i64 (0),.iface 309 (.pointer (Tc ⟨N,0,Td⟩))])/\w.heap.size<=N/\w'.heap[N]?=Tc (.cells #[.string ⟨#[65,116,111,105]⟩,.string s,b] 330 (0,0))/\Below w.heap.size w w':=Any.strconv_Atoi_syntax Ag s c h b w k f
theorem Vg(s:Bt)(c:s.size<=281474976710656)(h:Lib.atoiAll s.data.toList=.range)(b:Value)(w:World)(k:w.cell? ⟨5,0,Td⟩=Tc b)(f:b=.nilIface\/∃i l,b=.iface i l): Calls Tp 308 #[.string s] w λe w'=>∃N,e=.returned (.tuple #[.int .i64 (Lib.atoiSat s.data.toList),.iface 309 (.pointer (Tc ⟨N,0,Td⟩))])/\w.heap.size<=N/\w'.heap[N]?=Tc (.cells #[.string ⟨#[65,116,111,105]⟩,.string s,b] 330 (0,0))/\Below w.heap.size w w':=Any.strconv_Atoi_range Ag s c h b w k f
def zoy:Go.Shelf.Ren:=⟨fun|174=>235|247=>285|245=>286|287=>342|279=>343|280=>344|281=>345|282=>346|321=>375|322=>376|316=>377|171=>106|205=>378|243=>177|246=>236|283=>287|284=>288|285=>289|286=>290|129=>306|317=>347|318=>348|319=>349|320=>350|337=>379|338=>380|n=>n,fun|9=>9|3=>3|2=>2|75=>90|85=>229|4=>4|167=>306|5=>5|53=>272|175=>307|46=>244|168=>309|37=>86|0=>0|210=>330|21=>21|127=>149|145=>339|143=>337|171=>271|173=>275|212=>313|51=>287|20=>20|213=>314|232=>340|233=>341|80=>94|n=>n,fun|15=>4|16=>5|17=>3|18=>6|19=>7|n=>n⟩
theorem xP:Go.Proofs.LaysC.n174 Tp zoy:=by repeat' first|(intros;kernel_rfl)|constructor
theorem Yc(s:Bt)(b:s.size<=9223372036854775806)(v:Int)(h:Lib.parseIntB 64 s.data.toList=.ok v)(w:World): Calls Tp 235 #[.string s,.int .i64 10,.int .i64 64] w λe w'=>e=.returned (.tuple #[.int .i64 v,.nilIface])/\(w'=w\/∃t,w'=Lib.bytesWorld w 5 t):=Any.strconv_ParseInt_10_at64_ok xP s b v h w
theorem Zy(s:Bt)(c:s.size<=281474976710656)(h:Lib.parseIntB 64 s.data.toList=Lib.parseIntB 64 [])(b:Value)(w:World)(k:w.cell? ⟨4,0,Td⟩=Tc b)(f:b=.nilIface\/∃i l,b=.iface i l): Calls Tp 235 #[.string s,.int .i64 10,.int .i64 64] w λe w'=>∃N,e=.returned (.tuple #[.int .i64 (0),.iface 309 (.pointer (Tc ⟨N,0,Td⟩))])/\w.heap.size<=N/\w'.heap[N]?=Tc (.cells #[.string ⟨#[80,97,114,115,101,73,110,116]⟩,.string s,b] 330 (0,0))/\Below w.heap.size w w':=Any.strconv_ParseInt_10_at64_syntax xP s c h b w k f
theorem Z9(s:Bt)(c:s.size<=281474976710656)(h:Lib.parseIntB 64 s.data.toList=.range)(b:Value)(w:World)(k:w.cell? ⟨5,0,Td⟩=Tc b)(f:b=.nilIface\/∃i l,b=.iface i l): Calls Tp 235 #[.string s,.int .i64 10,.int .i64 64] w λe w'=>∃N,e=.returned (.tuple #[.int .i64 (Lib.intSat 64 s.data.toList),.iface 309 (.pointer (Tc ⟨N,0,Td⟩))])/\w.heap.size<=N/\w'.heap[N]?=Tc (.cells #[.string ⟨#[80,97,114,115,101,73,110,116]⟩,.string s,b] 330 (0,0))/\Below w.heap.size w w':=Any.strconv_ParseInt_10_at64_range xP s c h b w k f
def zvr:Go.Shelf.Ren:=⟨fun|99=>76|206=>123|n=>n,fun|9=>9|4=>4|3=>3|n=>n,fun|n=>n⟩
theorem WB:Go.Proofs.Lays.n99 Tp zvr:=by constructor <;> intros <;> kernel_rfl
open Go.RowKit Go.Lib in
theorem PT(s p:Bt)(w:World): Calls Tp 76 #[.string s,.string p] w λe w'=>e=.returned (.bool (Lib.hasPrefix s.data.toList p.data.toList))/\w'=w:=Any.strings_HasPrefix WB s p w
def ZM:Go.Shelf.Ren:=⟨fun|101=>239|208=>292|206=>123|n=>n,fun|9=>9|4=>4|3=>3|n=>n,fun|n=>n⟩
theorem Mz:Go.Proofs.Lays.n101 Tp ZM:=by constructor <;> intros <;> kernel_rfl
open Go.RowKit Go.Lib in
theorem T4(s p:Bt)(w:World): Calls Tp 239 #[.string s,.string p] w λe w'=>e=.returned (.string ⟨(Lib.trimPrefix s.data.toList p.data.toList).toArray⟩)/\w'=w:=Any.strings_TrimPrefix Mz s p w
def Vx:Go.Shelf.Ren:=⟨fun|197=>233|260=>282|n=>n,fun|9=>9|21=>21|3=>3|4=>4|5=>5|105=>226|119=>264|0=>0|46=>244|139=>267|138=>266|n=>n,fun|3=>0|4=>1|n=>n⟩
theorem MO:Go.Proofs.Lays.n197 Tp Vx:=by constructor <;> intros <;> kernel_rfl
def Mi:Go.Shelf.Ren:=⟨fun|150=>307|153=>359|152=>351|226=>383|227=>241|228=>293|137=>194|119=>381|224=>312|225=>311|217=>262|266=>316|n=>n,fun|9=>9|4=>4|3=>3|5=>5|21=>21|117=>237|116=>236|0=>0|46=>244|124=>240|n=>n,fun|n=>n⟩
theorem UW:Go.Proofs.Lays.n150 Tp Mi:=by constructor <;> intros <;> kernel_rfl
open Go.RowKit Go.Lib in
theorem Jm(s c:Bt)(w:World)(k:s.size<4294967281)(i:c.size<4294967281)(h:∀(j:Nat) b,s.data.toList[j]?=Tc b->b.toNat<128)(f:∀(j:Nat) b,c.data.toList[j]?=Tc b->b.toNat<128): Calls Tp 307 #[.string s,.string c] w λe w'=>e=.returned (.bool (Lib.containsAny s.data.toList c.data.toList))/\Below w.heap.size w w':=Any.strings_ContainsAny_laid UW (by kernel_rfl) s c w k i h f
def H7:Go.Shelf.Ren:=⟨fun|105=>234|212=>283|99=>76|165=>266|166=>70|170=>284|169=>72|263=>340|264=>341|206=>123|240=>116|241=>326|276=>188|277=>372|n=>n,fun|9=>9|3=>3|4=>4|20=>20|0=>0|46=>244|109=>268|5=>5|72=>88|76=>91|51=>287|146=>302|53=>272|148=>304|70=>85|37=>86|75=>90|127=>149|164=>196|80=>94|n=>n,fun|n=>n⟩
theorem XG:Go.Proofs.Lays.n105 Tp H7:=by constructor <;> intros <;> kernel_rfl
theorem U9:Builder.Extra Tp H7:={
 sizeBuilder:=by kernel_rfl
 liesBuilder:=by kernel_rfl
 t5:=Tryz.underlying5
 a5:=Tryz.isAgg5
 z5:=Tryz.sizeOf5
 v5:=Tryz.zeroValue5
 infoByte:=by kernel_rfl
 cellsByte:=by kernel_rfl
 sizeByte:=by kernel_rfl
 neB5:=by decide }
open Go.RowKit Go.Lib in
theorem zko(s:Bt)(c:Nat)(w:World)(f:c<=9223372036854775807)(b:s.size*c<=140737488355328): Calls Tp 234 #[.string s,.int .i64 c] w λe w'=>e=.returned (.string ⟨(Lib.repeatL s.data.toList c).toArray⟩)/\Below w.heap.size w w':=Any.strings_Repeat XG U9 s c w f b
open Go.RowKit Go.Lib in
theorem Wa(s:Bt)(w:World)(b:Lib.Utf8Tabs 0 1 w): Calls Tp 233 #[.string s] w λe w'=>e=.returned (.tuple #[.int .i32 (Lib.decodeGo s).1,.int .i64 (Lib.decodeGo s).2])/\Below w.heap.size w w':=Any.utf8_DecodeRuneInString MO s w b
def zsc:Go.Shelf.Ren:=⟨fun|109=>98|n=>n,fun|31=>22|9=>9|3=>3|0=>0|4=>4|n=>n,fun|n=>n⟩
theorem K8:Go.Proofs.Lays.n109 Tp zsc:=by constructor <;> intros <;> kernel_rfl
open Go.Lib in
theorem XJ(b off n c:Nat)(f:List Bt)(x:Bt)(w:World)(hz:n<=f.length)(h:n<=9223372036854775807)(i:∀j,j<f.length->w.cell? ⟨b,off+j,Td⟩=Tc (.string (f.getD j zeh))): Calls Tp 98 #[.slice (Tc ⟨b,off,Td⟩) n c,.string x] w λe w'=>e=.returned (.int .i64 (Lib.idxOfS (f.take n) x))/\w'=w:=Any.slices_Index_string K8 b off n c f x w hz h i
open Go.Lib in
theorem Y8(a:Option Addr)(c:Nat)(x:Bt)(w:World): Calls Tp 98 #[.slice a 0 c,.string x] w λe w'=>e=.returned (.int .i64 (Lib.idxOfS [] x))/\w'=w:=Any.slices_Index_string_empty K8 a c x w
end
end Go.X
end
section
namespace Go.X
open Go Go.X Go.Proofs Go.RowKit
section
variable {gl M:Fr} {s:Bt} {R:Int -> Prop}
theorem BV{c:Int}(h:R (Lib.indexByte (lb s) c.toNat.toUInt8)):PC Tp gl 194 [Arg.mk .str s,Arg.mk (.int .u8) c] [.int .i64] R:= PC.of_same rfl (λ_=>sX _ _) h λw _=>wl s c w
theorem ZR{s p:Bt}{R:Bt×Bool->Prop}(h:R (bl (Lib.trimPrefix (lb s) (lb p)),Lib.hasPrefix (lb s) (lb p))):PC Tp gl 237 [Arg.mk .str s,Arg.mk .str p] [.str,.bool] R:= PC.of_same rfl (λM=>⟨[_,_],⟨_,_,rfl,rfl,_,rfl,rfl⟩,rfl⟩) h λw _=>TQ s p w
theorem Rn{s p:Bt}{R:Bt->Prop}(h:R (bl (Lib.trimPrefix (lb s) (lb p)))):PC Tp gl 239 [Arg.mk .str s,Arg.mk .str p] [.str] R:= PC.of_same rfl (λ_=>rI _) h λw _=>T4 s p w
theorem zy1{c:UInt8}(b:c.toNat<128){R:Bt->Prop}(h:R (bl (Lib.trimLeftB (lb s) c))):PC Tp gl 179 [Arg.mk .str s,Arg.mk .str ⟨#[c]⟩] [.str] R:= PC.of_same rfl (λ_=>rI _) h λw _=>Ub s c b w
theorem zvu{c:UInt8}(e:c.toNat<128)(b:s.size<=9223372036854775807){R:Bt->Prop}(h:R (bl (Lib.trimRightB (lb s) c))):PC Tp gl 180 [Arg.mk .str s,Arg.mk .str ⟨#[c]⟩] [.str] R:= PC.of_same rfl (λ_=>rI _) h λw _=>zac s c e w b
def FV(gl:Fr):Prop:=∃(cs:Array Value) (m:Int),gl 2=Tc cs/\cs[0]?=Tc (.int .i64 m)
theorem G6(w:World)(n:Nat):Below w.heap.size w (w.drewN n):=⟨rfl,rfl,rfl,zaf _,λ_ _=>rfl⟩
theorem SX{c:Nat}(e:c<=9223372036854775807)(b:s.size*c<=140737488355328){R:Bt->Prop}(h:R (bl (Lib.repeatL (lb s) c))):PC Tp gl 234 [Arg.mk .str s,Arg.mk (.int .i64) (c:Int)] [.str] R:= PC.of_scal rfl (λ_=>rI _) h λw f=>zko s c w e b
def Tabs(gl:Fr):Prop:=(∃cs:Array Value,gl 0=Tc cs/\∀c,c<256->cs[c]?=Tc (.int .u8 (Lib.firstT c)))/\∃cs:Array Value,gl 1=Tc cs/\∀i,i<16->cs[2*i]?=Tc (.int .u8 (Lib.accLo i))/\cs[2*i+1]?=Tc (.int .u8 (Lib.accHi i))
theorem Tabs.at(h:Tabs gl){w:World}(b:AgM gl w.heap):Lib.Utf8Tabs 0 1 w:=by obtain⟨⟨l,f,e⟩,c2,a2,b2⟩:=h;exact⟨λc k=>b.glob f (e c k),λi hi=>⟨b.glob a2 (b2 i hi).1,b.glob a2 (b2 i hi).2⟩⟩
theorem E2(c:Tabs gl){R:Int×Int->Prop}(h:R ((Lib.decodeGo s).1,(Lib.decodeGo s).2)):PC Tp gl 233 [Arg.mk .str s] [.int .i32,.int .i64] R:= PC.of_scal rfl (λM=>⟨[_,_],⟨_,_,rfl,rfl,_,rfl,rfl⟩,rfl⟩) h λw b=>Wa s w (c.at b)
theorem YZ(w:World)(k:Nat)(os:Array Obj):Below w.heap.size w (Go.Sort.grow (w.drewN k) os):=⟨rfl,rfl,rfl,by simp[Go.Sort.grow,World.drewN],λi hi=>by show((w.drewN k).heap++os)[i]?=_;exact zcu hi⟩
def rY(gl : Fr): Prop := ∃ b cs, Tryz.prog.globalNamed "internal/strconv.uint64pow10" = some b ∧ gl b = some cs ∧ cs = (Lib.pow10Tab.map λz => Value.int .u64 z).toArray
theorem Af(i:rY gl){n:Int}(h0:-9223372036854775808<=n)(h1:n<=9223372036854775807){R:Bt->Prop}(h:R (bl (Lib.itoa n))):PC Tp gl 106 [Arg.mk (.int .i64) n] [.str] R:=by obtain⟨b,cs,l,r,o⟩:=i;refine PC.of_scal rfl (λ_=>rI _) h λw f=>(YI n h0 h1 w ?_).mono λe w' ⟨p,k,os,c⟩=>⟨p,c ▸ YZ w k os⟩;obtain⟨T,m,q⟩:=f b cs r;unfold Lib.TabIs World.var?;rw[l];simp only[zcy,q,o]
def BI(l:List UInt8):Int×Bool:=match Lib.atoiAll l with
 |.ok v=>(v,Ta)
 |.range=>(Lib.atoiSat l,Tb)
 |_=>(0,Tb)
def vf(gl:Fr):Prop:=(∃(cs:Array Value) (e:Value),gl 4=Tc cs/\cs[0]?=Tc e/\(e=.nilIface\/∃b c,e=.iface b c))/\∃(cs:Array Value) (e:Value),gl 5=Tc cs/\cs[0]?=Tc e/\(e=.nilIface\/∃b c,e=.iface b c)
theorem qP(k:IntKind)(i:Int)(t:TypeId)(u:Value):Jl M [.int k,.err] (i,Tb) (.tuple #[.int k i,.iface t u]):=⟨[_,_],⟨_,_,rfl,rfl,.iface t u,rfl,⟨_,rfl,.inr ⟨rfl,_,_,rfl⟩⟩⟩,rfl⟩
theorem CW(k:IntKind)(i:Int):Jl M [.int k,.err] (i,Ta) (.tuple #[.int k i,.nilIface]):=⟨[_,_],⟨_,_,rfl,rfl,.nilIface,rfl,⟨_,rfl,.inl ⟨rfl,rfl⟩⟩⟩,rfl⟩
theorem QA(p:vf gl)(o:s.size<=281474976710656){R:Int×Bool->Prop}(h:R (BI (lb s))):PC Tp gl 308 [Arg.mk .str s] [.int .i64,.err] R:=by
 unfold BI at h;cases hx:Lib.atoiAll (lb s)with
 |ok v=>rw[hx]at h;refine PC.of_ex rfl λw f=>(UA s (by omega) v hx w).mono λe w' ⟨c,i⟩=>⟨_,(v,Ta),c,λM=>CW _ _,h,?_⟩;rcases i with rfl|⟨t,rfl⟩;exact Below.refl _ _;exact Lib.bytesWorld_below _ _ _
 |range=>rw[hx]at h;obtain⟨_,⟨cs,k,l,n,m⟩⟩:=p;exact PC.of_ex rfl λw f=>(Vg s o hx k w (f.glob l n) m).mono λe w' ⟨N,c,_,_,b⟩=>⟨_,(Lib.atoiSat (lb s),Tb),c,λM=>qP _ _ _ _,h,b⟩
 |_=>rw[hx]at h;obtain⟨⟨cs,k,l,n,m⟩,_⟩:=p;exact PC.of_ex rfl λw f=>(SE s o hx k w (f.glob l n) m).mono λe w' ⟨N,c,_,_,b⟩=>⟨_,(0,Tb),c,λM=>qP _ _ _ _,h,b⟩
def xX(l:List UInt8):Int×Bool:=match Lib.parseIntB 64 l with
 |.ok v=>(v,Ta)
 |.range=>(Lib.intSat 64 l,Tb)
 |_=>(0,Tb)
theorem LR(p:vf gl)(o:s.size<=281474976710656){R:Int×Bool->Prop}(h:R (xX (lb s))):PC Tp gl 235 [Arg.mk .str s,Arg.mk (.int .i64) 10,Arg.mk (.int .i64) 64] [.int .i64,.err] R:=by
 unfold xX at h;cases hx:Lib.parseIntB 64 (lb s)with
 |ok v=>rw[hx]at h;refine PC.of_ex rfl λw f=>(Yc s (by omega) v hx w).mono λe w' ⟨c,i⟩=>⟨_,(v,Ta),c,λM=>CW _ _,h,?_⟩;rcases i with rfl|⟨t,rfl⟩;exact Below.refl _ _;exact Lib.bytesWorld_below _ _ _
 |range=>rw[hx]at h;obtain⟨_,⟨cs,k,l,n,m⟩⟩:=p;exact PC.of_ex rfl λw f=>(Z9 s o hx k w (f.glob l n) m).mono λe w' ⟨N,c,_,_,b⟩=>⟨_,(Lib.intSat 64 (lb s),Tb),c,λM=>qP _ _ _ _,h,b⟩
 |_=>rw[hx]at h;obtain⟨⟨cs,k,l,n,m⟩,_⟩:=p;exact PC.of_ex rfl λw f=>(Zy s o hx k w (f.glob l n) m).mono λe w' ⟨N,c,_,_,b⟩=>⟨_,(0,Tb),c,λM=>qP _ _ _ _,h,b⟩
theorem TL{s c:Bt}(i:s.size<4294967281)(k:c.size<4294967281)(f:∀(j:Nat) b,(lb s)[j]?=Tc b->b.toNat<128)(e:∀(j:Nat) b,(lb c)[j]?=Tc b->b.toNat<128){R:Bool->Prop}(h:R (Lib.containsAny (lb s) (lb c))):
  PC Tp gl 307 [Arg.mk .str s,Arg.mk .str c] [.bool] R:=
 PC.of_scal rfl (λ_=>v6 _) h λw l=>Jm s c w i k f e
theorem IU{xs:List Bt}{x:Bt}(h:R (Lib.idxOfS xs x)):PC Tp gl 98 [Arg.mk (.row .str) xs,Arg.mk .str x] [.int .i64] R:=by
 intro l M vs y ag k
 match vs,k with
 |[u,v],⟨h1,h2,_⟩=>
  have i:Rd M (.row .str) xs [u]:=by simpa[RdV,gO]using h1
  have c:v=.string x:=by simpa[RdV,gO,Rd]using h2
  subst c;obtain⟨s,rfl,f,A,cells,t,k⟩:=Rd.rowC ag i;have:=CZ t;subst this;have key:∀w:World,w.heap=l->Calls Tp 98 #[aK s,.string x] w λe w'=>e=.returned (.int .i64 (Lib.idxOfS xs x))/\w'=w:=by
   intro w n;rcases k with h0|⟨b,o,q,z,r⟩;have p:xs=[]:=by simpa using h0
   subst p;have:=Y8 s.a s.cap x w;simp only[aK,f];exact this;have:=XJ b o s.len s.cap xs x w (by omega) (by omega) (λj m=>by have:=r j (.string (xs.getD j zeh)) (by rw[zbu,zaj m,zdl,zaj m];rfl);rw[<-n]at this;exact this);rw[f,zbw]at this;simp only[aK,q,f];exact this
  refine XC.of_calls λB d=>(key (mk B d l) rfl).mono ?_;rintro e w' ⟨rfl,rfl⟩;exact⟨_,rfl,rfl,rfl,rfl,Keep.refl _ _,M,_,Fr.le.refl _,λ_ _=>rfl,ag,sX _ _,h⟩
end
end Go.X
end
section
namespace Go.X
open Go Go.Lib
section
theorem zu(l:Bs):(bl l).size=l.length:=by rw[<-qB,yo]
theorem Ql(l:Bs)(a b:Nat):(bl l).extract a b=bl ((l.drop a).take (b-a)):=by rw[<-wD,z5m,yo,yo]
theorem rj(a b:Bs):bl a++bl b=bl (a++b):=by rw[<-wD,XO,yo,yo,yo]
theorem xt(l:Bs)(i:Nat):qj (bl l) i=((l[i]?.getD 0).toNat:Int):=by rw[Sn,yo]
theorem W7(s:Bt):s.toList=lb s:=by simp[Go.Lib.toList_data]
theorem ke(a b:Bs):((bl a).toList==(bl b).toList)=decide (a=b):=by rw[W7,W7,yo,yo];grind
theorem SZ{a b:Bs}:bl a=bl b↔a=b:=by simp
theorem sF(l:Bs)(p:Nat):hP (bl l) p=decide (p<l.length):=by rw[za7];simp[hP,zu]
theorem uc(l:Bs)(p:Nat):i8 (bl l) p=((dec (l.drop p)).1:Int):=by rw[i8,vH,yo]
theorem oU(l:Bs)(p:Nat)(h:p<l.length):ir (bl l) p=p+(dec (l.drop p)).2:=by
 rw[ir,vH,yo];have:Nat.blt p (bl l).size=Ta:=by simp[zu,h]
 rw[this];rfl
theorem Ai{l:Bs}{i:Nat}(h:i<l.length):l[i]?.getD 0=l[i]:=by simp_all
def yq(c:UInt8):Bool:=decide (48<=c.toNat)&&decide (c.toNat<=57)
def gN(l:Bs):Bool:=l.all yq && !l.isEmpty
abbrev Nm:=Bool×Bs×Int
abbrev ix(n:Nm):Bool×Bt×Int:=(n.1,(bl n.2.1,n.2.2))
def mV(n:Nm):Bool:=!n.1&&(n.2.1.isEmpty&&n.2.2==0)
def yg(n:Nm):Bool:=mV n||(gN n.2.1&&decide (n.2.1.length<=1000)&&n.2.1.head? != Tc 48&&n.2.1.getLast? != Tc 48&&decide (-1000000<=n.2.2)&&decide (n.2.2<=1000000))
def j0(n:Nm):Bs:=if yg n then(if n.2.1=[]then [48]else(if n.1 then [45]else [])++n.2.1++(if n.2.2=0 then []else 101::Go.Lib.itoa n.2.2))else []
theorem R4{n:Nm}(h:yg n=Ta)(e:n.2.1=[]):mV n=Ta:=by unfold yg at h;rcases zcw _ _ ▸ h with h|h;exact h;simp[gN,e]at h
theorem C9{n:Nm}(h:yg n=Ta):n.2.1.length<=1000/\-1000000<=n.2.2/\n.2.2<=1000000:=by unfold yg mV at h;grind
def cutAt(p:UInt8->Bool):Bs->Bs×Bs×Bool
 |[]=>([],[],Tb)
 |c::l=>if p c then([],l,Ta)else(c::(cutAt p l).1,(cutAt p l).2)
theorem En{p:UInt8->Bool}:∀{l},(∀c∈l,p c=Tb)->cutAt p l=(l,[],Tb)
 |[],_=>rfl
 |c::l,h=>by unfold cutAt;rw[za (by grind),En λc b=>h c (by simp[b])]
theorem G4{p:UInt8->Bool}:∀{l:Bs} {k:Nat} (b:k<l.length),(∀i (hi:i<k),p (l[i]'(by omega))=Tb)->p l[k]=Ta->cutAt p l=(l.take k,l.drop (k+1),Ta)
 |c::l,0,_,_,h=>by unfold cutAt;simp_all
 |c::l,k+1,b,h0,h=>by unfold cutAt;have h1:p c=Tb:=h0 0 (by omega);rw[za (by simp[h1]),G4 (k:=k) (by simpa using b) (λi hi=>by grind) (by simpa using h)];simp
structure Lit where
 neg:Bool
 whole:Bs
 rest:Bs
 low:Bool
 exp:Bs
def lS(s:Bs):Bs:=if s.head?==Tc 45 then s.tail else s
def sq(c:UInt8):Bool:=c==101||c==69
def uU(c:UInt8):Bool:=c==46
def gK(s:Bs):Bs×Bs×Bool:=cutAt sq (lS s)
def m7(s:Bs):Bool:=(gK s).2.2&&(gK s).2.1.head?==Tc 45
def jD(s:Bs):Bs:=if m7 s then(gK s).2.1.tail else if(gK s).2.1.head?==Tc 43 then(gK s).2.1.tail else(gK s).2.1
def Jo(s:Bs):Bs×Bs×Bool:=cutAt uU (gK s).1
def my(s:Bs):Bool:=(!(gK s).2.2||gN (jD s))&&gN (Jo s).1&&(!(Jo s).2.2||gN (Jo s).2.1)&&((Jo s).1==[48]||(Jo s).1.head? != Tc 48)
def lx(s:Bs):Lit:=⟨s.head?==Tc 45,(Jo s).1,(Jo s).2.1,m7 s,if(gK s).2.2 then jD s else []⟩
def mB(s:Bs):Option Lit:=if my s then Tc (lx s)else Td
theorem D8{s:Bs}{x:Lit}(h:mB s=Tc x):my s=Ta/\x=lx s:=by unfold mB at h;simp_all
theorem Al{p:UInt8->Bool}:∀{l:Bs},(cutAt p l).2.2=Tb->(cutAt p l).1=l/\(cutAt p l).2.1=[]
 |[],_=>⟨rfl,rfl⟩
 |c::l,h=>by unfold cutAt at h ⊢;split;simp_all;rename_i e;rw[za e]at h;have:=Al h;simp_all
def Qm(l:Bs):Bs:=((l.dropWhile (· == 48)).reverse.dropWhile (· == 48)).reverse
def zz(l:Bs):Nat:=l.foldl (λn c=>10*n+(c.toNat-48)) 0
def zw(s:Bs):Nm×Int:=match mB s with
 |none=>((Tb,[],0),2)
 |some x=>
  if x.whole.length+x.rest.length>1000 then((Tb,[],0),3)
  else if(x.exp.dropWhile (· == 48)).length>9 then((Tb,[],0),4)
  else
   let e:Int:=if x.low then-(zz (x.exp.dropWhile (· == 48)):Int)else zz (x.exp.dropWhile (· == 48))
   let d:=(x.whole++x.rest).dropWhile (· == 48)
   let b:=Qm (x.whole++x.rest)
   if d=[]then((Tb,[],0),0)
   else if -1000000<=e-x.rest.length+d.length-b.length/\e-x.rest.length+d.length-b.length<=1000000 then((x.neg,b,e-x.rest.length+d.length-b.length),0)
   else((Tb,[],0),4)
def oD(n:Nm):Int×Bool:=
 if yg n&&decide (0<=n.2.2)&&decide ((n.2.1.length:Int)+n.2.2<=19)then
  let v:Int:=if n.1 then-((zz n.2.1*10 ^ n.2.2.toNat:Nat):Int)else(zz n.2.1*10 ^ n.2.2.toNat:Nat)
  if -9223372036854775808<=v/\v<=9223372036854775807 then(v,Ta)else(0,Tb)
 else(0,Tb)
end
end Go.X
end
section
namespace Go.X
section
variable {n:Nat} {l:Bs} {gl:Fr} {R:Bool -> Prop}
theorem Ze{k n:Nat}(h:k<n)(b:n<=4611686018427387904):zaa .i64 ((k:Int)+1)=((k+1:Nat):Int):=VN (by omega)
theorem Ox(h:l≠[]):(48<=(dec l).1/\(dec l).1<=57)->(dec l).2=1/\∃c t,l=c::t/\yq c=Ta/\(dec l).1=c.toNat:=by obtain⟨c,t,rfl⟩:=zb3 h;intro b;by_cases e:c.toNat<128;rw[qQ e]at b ⊢;exact⟨rfl,c,t,rfl,by simp[yq];simpa using b,rfl⟩;exfalso;unfold dec at b;have b0:((c::t).getD 0 0).toNat=c.toNat:=rfl;rw[b0]at b;have:=c.toNat_lt;have f:=((c::t).getD 1 0).toNat_lt;have b2:=((c::t).getD 2 0).toNat_lt;have b3:=((c::t).getD 3 0).toNat_lt;generalize ((c::t).getD 1 0).toNat=x1 at *;generalize ((c::t).getD 2 0).toNat=x2 at *;generalize ((c::t).getD 3 0).toNat=x3 at *;generalize c.toNat=x0 at *;unfold Lib.decodeN at b;grind
theorem tJ(h:R (gN l)):PC Tp gl 176 [Arg.mk .str (bl l)] [.bool] R:=by
 apply QN;refine⟨λp=>p.1=bl l/\p.2<=l.length/\(l.drop p.2).all yq=l.all yq,λp=>l.length-p.2,⟨rfl,by omega,by simp⟩,?_⟩;rintro⟨_,p⟩ ⟨rfl,q,m⟩;simp only at q m ⊢;rw[sF,uc];refine⟨λn=>⟨n,λf=>?_,λf=>?_⟩,λn=>?_⟩;all_goals first
  |have k:p<l.length:=by simpa using n
  |have k:¬p<l.length:=by simpa using n
 have i:l.drop p≠[]:=λe=>by simp_all;omega
 have o:¬(48<=(dec (l.drop p)).1/\(dec (l.drop p)).1<=57):=by rw[Bool.cond_true_left]at f;rcases zcw _ _ ▸ f with f|f <;> simp at f <;> omega
 have r:l.all yq=Tb:=by
  rw[<-m];obtain⟨c,t,e⟩:=zb3 i;rw[e];cases b:yq c with
  |false=>simp[b]
  |true=>
   exfalso;apply o;have:c.toNat<128:=by simp[yq]at b;omega
   rw[e,qQ this];simpa[yq]using b
 have:gN l=Tb:=by simp[gN,r]
 simp_all;have i:l.drop p≠[]:=λe=>by simp_all;omega
 have o:48<=(dec (l.drop p)).1/\(dec (l.drop p)).1<=57:=by rw[Bool.cond_true_left]at f;have:=Bool.or_eq_false_iff.1 f;simp at this;omega
 obtain⟨h1,c,t,e,b,_⟩:=Ox i o;rw[oU l p k,h1];refine⟨⟨trivial,by omega,?_⟩,by omega⟩;have s:l.drop (p+1)=t:=by rw[<-zdb,e];rfl
 simp_all;have:l.drop p=[]:=zci (by omega);rw[this]at m;have e:gN l=!(decide (l=[])):=by rw[gN,<-m];cases l <;> simp
 grind [ke]
abbrev tN:Ty:=.pair .bool (.pair .str (.int .i64))
theorem KI(h:0<l.length):(((l[0]?.getD 0).toNat:Int) != 48)=(l.head? != Tc 48):=by
 cases l with
 |nil=>simp at h
 |cons c t=>rw[za7];simp;constructor;intro h1 b;simp_all;intro h1 b;exact h1 (zdo.1 (by grind))
theorem Mp(h:0<l.length):(((l[l.length-1]?.getD 0).toNat:Int) != 48)=(l.getLast? != Tc 48):=by rw[List.getLast?_eq_getElem?];rw[zaj (by omega)];rw[za7];simp;constructor;intro h1 b;simp_all;intro h1 b;exact h1 (zdo.1 (by grind))
theorem Et(h:gN l=Ta):0<l.length:=by
 cases l with
 |nil=>simp[gN]at h
 |cons=>simp
theorem CV(h:0<n)(b:n<=4611686018427387904):zaa .i64 ((n:Int)-1)=((n-1:Nat):Int):=by grind [wrap64]
theorem r8{n:Nm}(m:n.2.1.length<=4611686018427387904)(h:R (yg n)):PC Tp gl 105 [Arg.mk tN (ix n)] [.bool] R:=by
 apply N0;simp only[show(⟨#[]⟩:Bt)=bl []from rfl,ke,zu,xt];have e:((n.1==Tb)&&(decide (n.2.1=[])&&((n.2.2==0)&&Ta)))=mV n:=by unfold mV;rcases n with⟨_|_,_|⟨_,_⟩,e⟩ <;> simp
 rw[e];refine⟨λh1=>?_,λh1=>?_⟩;have:yg n=Ta:=by simp[yg,h1]
 rw[this]at h;exact h
 ·unfold yg at h;rw[h1,Bool.false_or]at h;refine tJ ⟨λk=>⟨λ_=>?_,λf=>?_⟩,λk=>⟨λf=>⟨λ_=>?_,λc=>?_⟩,λf=>⟨?_,λc=>⟨λ_=>?_,λb=>?_⟩,λc=>⟨?_,λb=>?_,λb=>?_⟩⟩⟩⟩;have:gN n.2.1=Tb:=by simpa using k
  rw[this]at h;simpa using h;rw[k]at f;cases f;have:decide (n.2.1.length<=1000)=Tb:=by simp at f ⊢;omega
  rw[this]at h;simpa using h;rw[f]at c;cases c;all_goals
   have o:gN n.2.1=Ta:=by simpa using k
   have i:=Et o;have l:decide (n.2.1.length<=1000)=Ta:=by simp at f ⊢;omega
   have p:=KI i;have el:=Mp i
  omega;have:(n.2.1.head? != Tc 48)=Tb:=by rw[<-p];simp at c ⊢;exact c
  rw[this]at h;simpa using h;rw[c]at b;cases b;rw[CV i m];omega;have:(n.2.1.getLast? != Tc 48)=Tb:=by rw[<-el];rw[CV i m]at b;simp at b ⊢;exact b
  rw[this]at h;simpa using h;have q:(n.2.1.head? != Tc 48)=Ta:=by rw[<-p];simp at c ⊢;exact c
  have r:(n.2.1.getLast? != Tc 48)=Ta:=by rw[<-el];rw[CV i m]at b;simp at b ⊢;exact b
  rw[o,l,q,r]at h;simp only[zcq]at h;rw[Bool.cond_false_right];exact h
end
section
theorem XF{vs:List Value}{f:FuncId}{fn:Func}{h:zc}{R:Value->zc->Prop}{F:Prop}(pl:Plan)(rs:List ResultVar)(n:Nat)(b:za3.funcs[f]?=Tc fn)(H:F)(i:Y0 fn=Ta:=by kernel_rfl)(c:fn.results.toList=rs:=by kernel_rfl)(k:fn.ntmps=n:=by kernel_rfl)(hz:Nat.ble vs.length n=Ta:=by kernel_rfl)(e:F=W Tp n pl (codeOf fn) (vG Tp rs R) (jO 0 vs) h:=by kernel_rfl):XC Tp f vs.toArray h R:=Mt Tryz.mixed pl vs b i c k hz (Eq.mp e H)
theorem Oz(s0:Bt)(h:zc)(R:Value->zc->Prop) (H:let a:=h.push (.cells #[.bool Tb,.bool Tb,.string (⟨#[]⟩:Bt),.string (⟨#[]⟩:Bt),.string (⟨#[]⟩:Bt)] 188);XC Tp 237 #[.string s0,.string (⟨#[45]⟩:Bt)] a (λb c=>∃d e,b=.tuple #[.string d,.bool e]/\XRunU Tp (zag 4 (.pointer (Tc (zae ⟨h.size,0,Td⟩ 0))) (.bool e)) c (λf=>XC Tp 238 #[.string d,.string (⟨#[101,69]⟩:Bt)] f (λg i=>∃j k l,g=.tuple #[.string j,.string k,.bool l]/\∀m:Bt->zc->Prop,(∀n:Bt,∀o:zc,(XRunU Tp (zag 9 (.pointer (Tc (zae ⟨h.size,0,Td⟩ 4))) (.string n)) o (λp=>XC Tp 238 #[.string j,.string (⟨#[46]⟩:Bt)] p (λq r=>∃s t u,q=.tuple #[.string s,.string t,.bool u]/\XRunU Tp (zag 9 (.pointer (Tc (zae ⟨h.size,0,Td⟩ 2))) (.string s)) r (λv=>XRunU Tp (zag 9 (.pointer (Tc (zae ⟨h.size,0,Td⟩ 3))) (.string t)) v (λw=>XC Tp 176 #[.string s] w (λx y=>∃z,x=.bool z/\∃A:Value->zc->Prop,(((!(!z))&&u)=Ta->XC Tp 176 #[.string t] y (λB C=>∃D,B=.bool D/\A (.bool D) C))/\(((!(!z))&&u)=Tb->∃E,A (.bool E) y)/\(((!(!z))&&u)=Ta->∀F G,A F G->∃I,F=.bool I)/\∀J:Bool,∀L,A (.bool J) L->((bif (!z)then Ta else(bif u then(!J)else Tb))=Ta->∃M N O P Q,zd L ⟨h.size,0,Td⟩ 0 [.bool M,.bool N,.string O,.string P,.string Q]/\XRunU Tp (zag 188 (.pointer (Tc ⟨h.size,0,Td⟩)) (.agg #[.bool M,.bool N,.string O,.string P,.string Q])) L (λS=>∃T U V W X,zd S ⟨h.size,0,Td⟩ 0 [.bool T,.bool U,.string V,.string W,.string X]/\R (.tuple #[.agg #[.bool T,.bool U,.string V,.string W,.string X],.bool Tb]) S))/\((bif (!z)then Ta else(bif u then(!J)else Tb))=Tb->∃Y Z aa ab ac,zd L ⟨h.size,0,Td⟩ 0 [.bool Y,.bool Z,.string aa,.string ab,.string ac]/\let ad:zc->Prop:=λ(ae:zc)=>(∃af ag ah ai aj,zd ae ⟨h.size,0,Td⟩ 0 [.bool af,.bool ag,.string ah,.string ai,.string aj]/\R (.tuple #[.agg #[.bool af,.bool ag,.string ah,.string ai,.string aj],.bool (bif (s.toList==(⟨#[48]⟩:Bt).toList)then Ta else((qj s (0:Int).toNat:Int) != 48))]) ae);let ak:zc->Prop:=λ(al:zc)=>(ad al);let am:zc->Prop:=λ(an:zc)=>(ak an);let ao:zc->Prop:=λ(ap:zc)=>(((!(s.toList==(⟨#[48]⟩:Bt).toList))=Ta->(0<=(0:Int)/\(0:Int)<(s.size:Int)))/\am ap);((L)[(⟨h.size,0,Td⟩:Addr).block]?=(L)[(⟨h.size,0,Td⟩:Addr).block]?/\(((!(s.toList==(⟨#[48]⟩:Bt).toList))=Ta->(0<=(0:Int)/\(0:Int)<(s.size:Int)))/\(L)[(⟨h.size,0,Td⟩:Addr).block]?=(L)[(⟨h.size,0,Td⟩:Addr).block]?/\((L)[(⟨h.size,0,Td⟩:Addr).block]?=(L)[(⟨h.size,0,Td⟩:Addr).block]?/\((L)[(⟨h.size,0,Td⟩:Addr).block]?=(L)[(⟨h.size,0,Td⟩:Addr).block]?/\XRunU Tp (zag 188 (.pointer (Tc ⟨h.size,0,Td⟩)) (.agg #[.bool Y,.bool Z,.string aa,.string ab,.string ac])) L (λaq=>ad aq))/\(XRunU Tp (zag 188 (.pointer (Tc ⟨h.size,0,Td⟩)) (.agg #[.bool Y,.bool Z,.string aa,.string ab,.string ac])) L (λar=>ak ar)))/\(XRunU Tp (zag 188 (.pointer (Tc ⟨h.size,0,Td⟩)) (.agg #[.bool Y,.bool Z,.string aa,.string ab,.string ac])) L (λau=>am au)))/\(XRunU Tp (zag 188 (.pointer (Tc ⟨h.size,0,Td⟩)) (.agg #[.bool Y,.bool Z,.string aa,.string ab,.string ac])) L (λav=>ao av)))/\(XRunU Tp (zag 188 (.pointer (Tc ⟨h.size,0,Td⟩)) (.agg #[.bool Y,.bool Z,.string aa,.string ab,.string ac])) L (λaw=>ao aw)))))))))->m n o)->(l=Ta->XC Tp 237 #[.string k,.string (⟨#[45]⟩:Bt)] i (λax ay=>∃az aA,ax=.tuple #[.string az,.bool aA]/\XRunU Tp (zag 4 (.pointer (Tc (zae ⟨h.size,0,Td⟩ 1))) (.bool aA)) ay (λaB=>∀aC:Bt->zc->Prop,(∀aD:Bt,∀aE:zc,(XC Tp 176 #[.string aD] aE (λaF aG=>∃aH,aF=.bool aH/\((!aH)=Ta->∃aI aJ aL aM aN,zd aG ⟨h.size,0,Td⟩ 0 [.bool aI,.bool aJ,.string aL,.string aM,.string aN]/\XRunU Tp (zag 188 (.pointer (Tc ⟨h.size,0,Td⟩)) (.agg #[.bool aI,.bool aJ,.string aL,.string aM,.string aN])) aG (λaO=>∃aP aQ aS aT aU,zd aO ⟨h.size,0,Td⟩ 0 [.bool aP,.bool aQ,.string aS,.string aT,.string aU]/\R (.tuple #[.agg #[.bool aP,.bool aQ,.string aS,.string aT,.string aU],.bool Tb]) aO))/\((!aH)=Tb->m aD aG)))->aC aD aE)->∃aV,zf aB (zae ⟨h.size,0,Td⟩ 1)=Tc (.bool aV)/\((!aV)=Ta->XC Tp 239 #[.string az,.string (⟨#[43]⟩:Bt)] aB (λaW aX=>∃aY,aW=.string aY/\aC aY aX))/\((!aV)=Tb->aC az aB))))/\(l=Tb->m k i))))):
  XC Tp 178 #[.string s0] h R:=
 XF ⟨[(14,8000)],[],[(9,[(4,.one (.str))]),(7,[(4,.one (.str))])]⟩ [.cell 2 188,.tmp 3] 69 Tryz.func178 H
theorem U5(s0:Bt)(h:zc)(R:Value->zc->Prop) (H:let a:=h.push (.cells #[.bool Tb,.string (⟨#[]⟩:Bt),iV 0] 78);XC Tp 107 #[.string s0] a (λb c=>∃d e f g,b=.tuple #[.agg #[.bool d,.string e,iV f],iV g]/\let i:=c.push (.cells #[.bool Tb,.string (⟨#[]⟩:Bt),iV 0] 78);XRunU Tp (zag 78 (.pointer (Tc ⟨c.size,0,Td⟩)) (.agg #[.bool d,.string e,iV f])) i (λj=>∃k l m,zd j ⟨c.size,0,Td⟩ 0 [.bool k,.string l,iV m]/\let n:Bool->zc->Prop:=λo (p:zc)=>(∃q r s,zd p ⟨h.size,0,Td⟩ 0 [.bool q,.string r,iV s]/\R (.tuple #[.agg #[.bool q,.string r,iV s],.bool o]) p);let t:Bool->zc->Prop:=λu (v:zc)=>(n (bif (g==0)then u else Tb) v);let w:Bt->zc->Prop:=λx (y:zc)=>(t (x.toList==s0.toList) y);let z:Bt->zc->Prop:=λA (B:zc)=>(((B)[(⟨c.size,0,Td⟩:Addr).block]?=(j)[(⟨c.size,0,Td⟩:Addr).block]?/\((B)[(⟨c.size,0,Td⟩:Addr).block]?=(j)[(⟨c.size,0,Td⟩:Addr).block]?/\XRunU Tp (zag 78 (.pointer (Tc ⟨h.size,0,Td⟩)) (.agg #[.bool k,.string l,iV m])) B (λC=>n (bif (g==0)then(A.toList==s0.toList)else Tb) C))/\(XRunU Tp (zag 78 (.pointer (Tc ⟨h.size,0,Td⟩)) (.agg #[.bool k,.string l,iV m])) B (λD=>t (A.toList==s0.toList) D)))/\(XRunU Tp (zag 78 (.pointer (Tc ⟨h.size,0,Td⟩)) (.agg #[.bool k,.string l,iV m])) B (λE=>w A E)));let F:Bool->Bt->Int->zc->Prop:=λG I J (L:zc)=>(∃M:Value->zc->Prop,((g==0)=Ta->XC Tp 63 #[.agg #[.bool G,.string I,iV J]] L (λN O=>∃P,N=.string P/\M (.string P) O))/\((g==0)=Tb->∃Q,M (.string Q) L)/\((g==0)=Ta->∀S T,M S T->∃U,S=.string U)/\∀V:Bt,∀W,M (.string V) W->(W)[(⟨c.size,0,Td⟩:Addr).block]?=(j)[(⟨c.size,0,Td⟩:Addr).block]?/\z V W);(∃X Y Z,((g==0)=Ta->zd j ⟨c.size,0,Td⟩ 0 [.bool X,.string Y,iV Z])/\(j)[(⟨c.size,0,Td⟩:Addr).block]?=(j)[(⟨c.size,0,Td⟩:Addr).block]?/\(∃aa:Value->zc->Prop,((g==0)=Ta->XC Tp 63 #[.agg #[.bool X,.string Y,iV Z]] j (λab ac=>∃ad,ab=.string ad/\aa (.string ad) ac))/\((g==0)=Tb->∃ae,aa (.string ae) j)/\((g==0)=Ta->∀af ag,aa af ag->∃ah,af=.string ah)/\∀ai:Bt,∀aj,aa (.string ai) aj->(aj)[(⟨c.size,0,Td⟩:Addr).block]?=(j)[(⟨c.size,0,Td⟩:Addr).block]?/\((aj)[(⟨c.size,0,Td⟩:Addr).block]?=(j)[(⟨c.size,0,Td⟩:Addr).block]?/\z ai aj)/\(XRunU Tp (zag 78 (.pointer (Tc ⟨h.size,0,Td⟩)) (.agg #[.bool k,.string l,iV m])) aj (λak=>w ai ak)))/\((j)[(⟨c.size,0,Td⟩:Addr).block]?=(j)[(⟨c.size,0,Td⟩:Addr).block]?/\F X Y Z j))/\((j)[(⟨c.size,0,Td⟩:Addr).block]?=(j)[(⟨c.size,0,Td⟩:Addr).block]?/\∃al am an,((g==0)=Ta->zd j ⟨c.size,0,Td⟩ 0 [.bool al,.string am,iV an])/\(j)[(⟨c.size,0,Td⟩:Addr).block]?=(j)[(⟨c.size,0,Td⟩:Addr).block]?/\F al am an j)))):
  XC Tp 102 #[.string s0] h R:=
 XF ⟨[(2,8000)],[],[]⟩ [.cell 2 78,.tmp 3] 20 Tryz.func102 H
theorem TX(a:Bool)(b:Bt)(c:Int)(h:zc)(R:Value->zc->Prop) (H:let d:=h.push (.cells #[.bool a,.string b,iV c] 78);∃e f g,zd d ⟨h.size,0,Td⟩ 0 [.bool e,.string f,iV g]/\XC Tp 105 #[.agg #[.bool e,.string f,iV g]] d (λi j=>∃k,i=.bool k/\∃l,((!(!k))=Ta->zf j (zae ⟨h.size,0,Td⟩ 2)=Tc (iV l))/\∃m,((!(bif (!k)then Ta else(decide (l<0))))=Ta->zf j (zae ⟨h.size,0,Td⟩ 1)=Tc (.string m))/\∃n,((!(bif (!k)then Ta else(decide (l<0))))=Ta->zf j (zae ⟨h.size,0,Td⟩ 2)=Tc (iV n))/\((bif (bif (!k)then Ta else(decide (l<0)))then Ta else(decide ((zaa .i64 ((m.size:Int)+n))>19)))=Ta->R (.tuple #[iV 0,.bool Tb]) j)/\((bif (bif (!k)then Ta else(decide (l<0)))then Ta else(decide ((zaa .i64 ((m.size:Int)+n))>19)))=Tb->∃o,zf j (zae ⟨h.size,0,Td⟩ 1)=Tc (.string o)/\∃p,zf j (zae ⟨h.size,0,Td⟩ 2)=Tc (iV p)/\XC Tp 234 #[.string (⟨#[48]⟩:Bt),iV p] j (λq r=>∃s,q=.string s/\Wm (o.size+s.size)/\(r)[((zae ⟨h.size,0,Td⟩ 1):Addr).block]?=(j)[((zae ⟨h.size,0,Td⟩ 1):Addr).block]?/\∀t:Bt->zc->Prop,(∀u:Bt,∀v:zc,(((u.toList==(⟨#[]⟩:Bt).toList)=Ta->R (.tuple #[iV 0,.bool Ta]) v)/\((u.toList==(⟨#[]⟩:Bt).toList)=Tb->XC Tp 235 #[.string u,iV 10,iV 64] v (λw x=>∃y,∃z:Value,w=.tuple #[iV y,z]/\m3 z=Ta/\((!nn z)=Ta->R (.tuple #[iV 0,.bool Tb]) x)/\((!nn z)=Tb->R (.tuple #[iV y,.bool Ta]) x))))->t u v)->∃A,zf r (zae ⟨h.size,0,Td⟩ 0)=Tc (.bool A)/\(A=Ta->Wm (((⟨#[45]⟩:Bt)).size+(o++s).size)/\t ((⟨#[45]⟩:Bt)++(o++s)) r)/\(A=Tb->t (o++s) r))))):
  XC Tp 175 #[.agg #[.bool a,.string b,.int .i64 c]] h R:=
 XF ⟨[(3,8000)],[],[(6,[(4,.one (.str))])]⟩ [.tmp 2,.tmp 3] 44 Tryz.func175 H
end
end Go.X
end
section
namespace Go.X
open Go Go.RowKit
section
variable {h h':zc} {bs:List Nat} {v:Tr} {M:Fr} {b o n:Nat} {cs:Array Value} {vs:List Value}
def OKeys(h:zc)(ks:List Bt)(bs:List Nat)(s:Sl):Prop:=
 s.len=ks.length/\ks.length<=140737488355328/\ks.length<=s.cap/\((ks=[]/\bs=[]/\s.cap=0)\/∃b cs,bs=[b]/\s.a=Tc ⟨b,0,Td⟩/\Blk h b cs/\s.cap<=cs.size/\cut cs 0 ks.length=ks.map za1)
inductive OT (h:zc):Tr->List Nat->List Value->Prop where
 |mk {k:Int} {s:Bt} {ks:List Bt} {xs:List Tr} {sk si:Sl} {bk bb:List Nat} {b:Nat} {cs:Array Value} {bf:Nat->List Nat}
  (hk:OKeys h ks bk sk) (hn:si.len=xs.length/\xs.length<=140737488355328/\xs.length<=si.cap)
  (hz:(xs=[]/\bb=[]/\si.cap=0)\/(bb=[b]/\si.a=Tc ⟨b,0,Td⟩/\Blk h b cs/\si.cap*4<=cs.size))
  (hi:∀i (hx:i<xs.length),OT h xs[i] (bf i) (cut cs (i*4) 4))
  (hd:(bk++(bb++(zbk xs.length).flatMap bf)).Nodup):
  OT h (.mk k s ks xs) (bk++(bb++(zbk xs.length).flatMap bf)) [.int .i64 k,.string s,aK sk,aK si]
theorem OKeys.frame{ks:List Bt}{s:Sl}(H:OKeys h ks bs s)(c:∀b∈bs,h'[b]?=h[b]?):OKeys h' ks bs s:=by obtain⟨h1,i,l,k⟩:=H;refine⟨h1,i,l,k.imp id ?_⟩;rintro⟨b,cs,rfl,e,m,f⟩;exact⟨b,cs,rfl,e,m.keep (c b (by simp)),f⟩
theorem OT.frame{cells:List Value}(H:OT h v bs cells):(∀b∈bs,h'[b]?=h[b]?)->OT h' v bs cells:=by
 induction H with
 | @mk k s ks xs sk si bk bb b cs bf hk hn hz hi hd ih=>intro c;refine OT.mk (b:=b) (cs:=cs) (hk.frame λx e=>c x (by simp[e])) hn (hz.imp id ?_) (λi e=>ih i e λx f=>c x ?_) hd;rintro⟨rfl,l,n,m⟩;exact⟨rfl,l,n.keep (c b (by simp)),m⟩;grind
theorem OT.nodup{cells:List Value}(H:OT h v bs cells):bs.Nodup:=by cases H with|mk _ _ _ _ b=>exact b
theorem OT.lt{cells:List Value}(H:OT h v bs cells):∀b∈bs,b<h.size:=by
 induction H with
 | @mk k s ks xs sk si bk bb b cs bf hk hn hz hi hd ih=>intro x c;simp only[zaz,zb5,zcd]at c;rcases c with c|c|⟨i,h1,l⟩;obtain⟨_,_,_,f⟩:=hk;rcases f with⟨_,rfl,_⟩|⟨m,cs',rfl,_,e,_⟩;cases c;simp at c;subst c;exact e.lt;rcases hz with⟨_,rfl,_⟩|⟨rfl,_,e,_⟩;cases c;simp at c;subst c;exact e.lt;grind
theorem OT.len{cells:List Value}(H:OT h v bs cells):cells.length=4:=by cases H;rfl
theorem OT.rd{cells:List Value}(H:OT h v bs cells)(m:∀b∈bs,∀cs,Blk h b cs->M b=Tc cs):TrRd M v cells:=by
 induction H with
 | @mk k s ks xs sk si bk bb b cs bf hk hn hz hi hd ih=>
  obtain⟨p,k2,u,y⟩:=hk;have l:RowAt M (λs cs=>cs=[.string s]) 1 ks (aK sk):=by
   refine⟨sk.a,sk.cap,by rw[aK,p],⟨k2,u⟩,?_⟩;rcases y with⟨h0,_⟩|⟨n,cs',rfl,t,z,_,w⟩;exact .inl h0;refine .inr ⟨n,0,cs',t,m n (by simp) cs' z,λi c=>?_⟩;have:(cut cs' 0 ks.length)[i]?=Tc (za1 ks[i]):=by rw[w,zbu,zaj c];rfl
   unfold cut at this ⊢;rw[zba,zb c,zc2]at this;have r:=(za0.1 this).1;simp_all[za9]
  have f:aK si=.slice si.a xs.length si.cap:=by rw[aK,hn.1]
  rw[f];refine TrRd.mk (b:=b) (o:=0) (cs:=cs) l hn.2 (hz.imp (·.1) ?_) λi c=>?_;grind;rw[za5];exact ih i c λx q cs' e=>m x (by grind) cs' e
def MxL(M:Fr)(h:zc)(bs:List Nat):Fr:=λi=>if i∈bs then(match h[i]? with
 |some (.cells cs _ _)=>Tc cs
 |_=>Td)else M i
theorem MxL.ag{M:Fr}{h:zc}(ag:AgM M h)(bs:List Nat):AgM (MxL M h bs) h:=by intro b c e;unfold MxL at e;split at e;grind;exact ag b c e
theorem MxL.later{h0 h:zc}(ag:AgM M h0)(k:Keep h0.size h0 h)(hb:∀b∈bs,h0.size<=b):Later h0 M h (MxL M h bs) where
 keep:=k
 le:=λb c e=>by have:=ag.lt e;unfold MxL;grind
 old:=λb hlt=>by unfold MxL;grind
 ag:=MxL.ag (ag.keep k) bs
theorem MxL.at(c:b∈bs)(e:Blk h b cs):MxL M h bs b=Tc cs:=by obtain⟨T,e⟩:=e;unfold MxL;grind
theorem OT.rdv{cells:List Value}(H:OT h v bs cells):RdV (MxL M h bs) .tree v (.agg cells.toArray):=by unfold RdV;simp only[gO,if_true];exact⟨cells,rfl,H.rd λb c cs e=>MxL.at c e⟩
def upd(cs:Array Value)(o:Nat)(vs:List Value):Array Value:=(cs.toList.take o++vs++cs.toList.drop (o+vs.length)).toArray
theorem xW(h:o+vs.length<=cs.size):(upd cs o vs).size=cs.size:=by unfold upd;simp;omega
theorem AJ(h:o+vs.length<=cs.size)(q:Nat):(upd cs o vs).toList[q]?=if q<o then cs.toList[q]? else if q<o+vs.length then vs[q-o]? else cs.toList[q]?:=by unfold upd;grind
theorem yd{o n i:Nat}:(cut cs o n)[i]?=if i<n then cs.toList[o+i]? else Td:=by unfold cut;grind
theorem Rb(h:o+vs.length<=cs.size):cut (upd cs o vs) o vs.length=vs:=by apply zbt;intro i;rw[yd];split;rw[AJ h,za (by omega),zb (by omega)];congr 1;omega;simp_all
theorem II{o p n:Nat}(h:o+vs.length<=cs.size)(b:p+n<=o\/o+vs.length<=p):cut (upd cs o vs) p n=cut cs p n:=by apply zbt;intro i;rw[yd,yd];split;rw[AJ h];grind;rfl
theorem Qz{P:Program}{t:TypeId}(hi:qo P t=Ta)(H:Blk h b cs){v:Value}(f:v.cells.toList=vs)(m:ya P t=vs.length)(k:o+vs.length<=cs.size)(h1:∀u∈vs,u.oneCell'=Ta){K:zc->Prop}
  (q:∀h':zc,Blk h' b (upd cs o vs)->h'.size=h.size->(∀j,j≠b->h'[j]?=h[j]?)->K h'):XRunU P (zag t (.pointer (Tc ⟨b,o,Td⟩)) v) h K:=by
 intro B d;obtain⟨T,e⟩:=H;have c:v.cells.size=vs.length:=by rw[<-f];simp
 obtain⟨h',l,n,i,p⟩:=Xx (P:=P) hi m e c k (by grind) B d;refine⟨d,h',l,q h' ⟨T,?_⟩ i p⟩;rw[n];unfold upd;rw[f]
theorem Blk.ofKeep(H:Blk h b cs)(k:Keep h.size h h'):Blk h' b cs:=H.keepN k H.lt
theorem lN(ag:AgM M h)(bs:List Nat):Fr.le M (MxL M h bs):=by intro b c e;unfold MxL;split;obtain⟨T,m,e'⟩:=ag b c e;rw[e'];exact e
end
end Go.X
end
section
namespace Go.X
open Go Go.X Go.Proofs Go.Lib
section
variable {cs:Array Value} {M Mg:Fr} {v:Value} {g h g':zc}
theorem Kv{vs:List Value}(h:cs.size=vs.length):upd cs 0 vs=vs.toArray:=by unfold upd;simp_all
theorem Im{n:Bool×Bt×Int}{u:Value}(h:RdV M (.pair .bool (.pair .str (.int .i64))) n u):u=.agg #[.bool n.1,.string n.2.1,.int .i64 n.2.2]:=by
 unfold RdV at h;simp only[gO,if_true]at h;obtain⟨cs,e,k,c2,rfl,h1,f,i,rfl,b,c⟩:=h;have h1:k=[.bool n.1]:=by simpa[Rd]using h1
 have b:f=[.string n.2.1]:=by simpa[Rd]using b
 have c:i=[.int .i64 n.2.2]:=by simpa[Rd]using c
 simp_all
theorem AL(a:Bool)(s:Bt)(i:Int):RdV M (.pair .bool (.pair .str (.int .i64))) (a,s,i) (.agg #[.bool a,.string s,.int .i64 i]):=by unfold RdV;simp only[gO,if_true];exact⟨[.bool a,.string s,.int .i64 i],rfl,[_],[_,_],rfl,rfl,[_],[_],rfl,rfl,rfl⟩
theorem vM(n:Int)(b:Bool):Jl M [.int .i64,.bool] (n,b) (.tuple #[.int .i64 n,.bool b]):=⟨[_,_],⟨_,_,rfl,Yb .i64 n,_,rfl,rdBool _⟩,rfl⟩
theorem TO{r:Int×Bool}(h:Jl M [.int .i64,.err] r v):∃e:Value,v=.tuple #[.int .i64 r.1,e]/\m3 e=Ta/\nn e=r.2:=by
 obtain⟨us,⟨n,m,rfl,f,i,rfl,b⟩,rfl⟩:=h;rw[W0 rfl]at f b;have k:n=.int .i64 r.1:=by simpa[Rd]using f
 subst k;have b:∃v,[i]=[v]/\((r.2=Ta/\v=.nilIface)\/(r.2=Tb/\∃t u,v=.iface t u)):=b;obtain⟨v,c,l⟩:=b;have c:i=v:=by simpa using c
 subst c;rcases l with⟨e,rfl⟩|⟨e,t,u,rfl⟩;exact⟨_,rfl,rfl,e.symm⟩;exact⟨_,rfl,rfl,e.symm⟩
theorem Ot(gl:Fr)(n0:Bool×Bt×Int)(R:(Int×Bool)->Prop) (H:PC Tp gl 105 [Arg.mk (.pair .bool (.pair .str (.int .i64))) (n0.1,(n0.2.1,n0.2.2))] [.bool] (λB:Bool=>((bif (bif (!B)then Ta else(decide ((n0.2.2:Int)<0)))then Ta else(decide ((zaa .i64 (((n0.2.1).size:Int)+n0.2.2):Int)>19)))=Ta->R (0,Tb)) /\ ((bif (bif (!B)then Ta else(decide ((n0.2.2:Int)<0)))then Ta else(decide ((zaa .i64 (((n0.2.1).size:Int)+n0.2.2):Int)>19)))=Tb->PC Tp gl 234 [Arg.mk .str (⟨#[48]⟩:Bt),Arg.mk (.int .i64) n0.2.2] [.str] (λi:Bt=>Wm ((n0.2.1).size+(i).size) /\ ∀m:Bt->Prop,(∀f:Bt,((((f:Bt).toList==((⟨#[]⟩:Bt):Bt).toList)=Ta->R (0,Ta)) /\ (((f:Bt).toList==((⟨#[]⟩:Bt):Bt).toList)=Tb->PC Tp gl 235 [Arg.mk .str f,Arg.mk (.int .i64) 10,Arg.mk (.int .i64) 64] [.int .i64,.err] (λl:Int×Bool=>((!l.2)=Ta->R (0,Tb)) /\ ((!l.2)=Tb->R (l.1,Ta)))))->m f)->(n0.1=Ta->Wm (((⟨#[45]⟩:Bt)).size+(n0.2.1++i).size) /\ m ((⟨#[45]⟩:Bt)++(n0.2.1++i))) /\ (n0.1=Tb->m (n0.2.1++i)))))):
    PC Tp gl 175 [Arg.mk (.pair .bool (.pair .str (.int .i64))) n0] [.int .i64,.bool] R:=by
  intro h M vs F ag ha
  match vs,ha with
  |[u],⟨L,_⟩=>
  have L:RdV M (.pair .bool (.pair .str (.int .i64))) n0 u:=L;rw[Im L];apply PX.of;apply TX n0.1 n0.2.1 n0.2.2;intro h1;obtain⟨S,_,D⟩:=wq (g:=h1) rfl;clear_value h1;refine⟨_,_,_,D.ld (cs:=[.bool n0.1,.string n0.2.1,.int .i64 n0.2.2]),?_⟩;refine H.go (vs:=[.agg #[.bool n0.1,.string n0.2.1,.int .i64 n0.2.2]]) F (ag.keep S) (zi (a:=Arg.mk (.pair .bool (.pair .str (.int .i64))) (n0.1,(n0.2.1,n0.2.2))) (AL _ _ _) zq) λw h6 U r q b hr=>?_;obtain⟨O,E⟩:=hr;have p:=D.ofKeep q.keep;have C:Later h M h6 U:=(Later.same ag S).trans q;refine⟨r,dK b,n0.2.2,λ_=>p.cellAdd (o:=0) (k:=2) rfl,n0.2.1,λ_=>p.cellAdd (o:=0) (k:=1) rfl,n0.2.2,λ_=>p.cellAdd (o:=0) (k:=2) rfl,λN=>⟨U,(0,Tb),C,vM _ _,O N⟩,λN=>?_⟩;refine⟨_,p.cellAdd (o:=0) (k:=1) rfl,_,p.cellAdd (o:=0) (k:=2) rfl,?_⟩;refine(E N).go (vs:=[.string ⟨#[48]⟩,.int .i64 n0.2.2]) (F.trans q.le) q.ag (zi (a:=Arg.mk .str (⟨#[48]⟩:Bt)) (rdStr _) (zi (a:=Arg.mk (.int .i64) n0.2.2) (Yb _ _) zq)) λw y P r2 n b Q=>?_;obtain⟨hf,Z⟩:=Q;refine⟨r2,mZ b,hf,n.keep.get _ p.lt,?_⟩;intro I z;have c:=C.trans n;obtain⟨J,G⟩:=Z (λs=>I s y) λs ⟨a1,a2⟩=>z s y ⟨λe=>⟨P,(0,Ta),c,vM _ _,a1 e⟩,λe=>by refine(a2 e).go (vs:=[.string s,.int .i64 10,.int .i64 64]) (F.trans c.le) c.ag (zi (a:=Arg.mk .str s) (rdStr _) (zi (a:=Arg.mk (.int .i64) 10) (Yb _ _) (zi (a:=Arg.mk (.int .i64) 64) (Yb _ _) zq))) λw aa A r5 t b x=>?_;obtain⟨V,rfl,hi,hn⟩:=TO b;refine⟨_,V,rfl,hi,λY=>⟨A,(0,Tb),c.trans t,vM _ _,x.1 (by grind)⟩,λY=>⟨A,(r5.1,Ta),c.trans t,vM _ _,x.2 (by grind)⟩⟩⟩;exact⟨n0.1,((D.ofKeep q.keep).ofKeep n.keep).cellAdd (o:=0) (k:=0) rfl,J,G⟩
theorem XN{r:(Bool×Bt×Int)×Int}(h:Jl M [.pair .bool (.pair .str (.int .i64)),.int .i64] r v):v=.tuple #[.agg #[.bool r.1.1,.string r.1.2.1,.int .i64 r.1.2.2],.int .i64 r.2]:=by
 obtain⟨us,⟨k,f,rfl,e,c,rfl,b⟩,rfl⟩:=h;rw[Im e];rw[W0 rfl]at b;have i:c=.int .i64 r.2:=by simpa[Rd]using b
 rw[i];rfl
theorem qtb(a:Bool)(s:Bt)(i:Int)(b:Bool):Jl M [.pair .bool (.pair .str (.int .i64)),.bool] ((a,s,i),b) (.tuple #[.agg #[.bool a,.string s,.int .i64 i],.bool b]):=⟨[_,_],⟨_,_,rfl,AL a s i,_,rfl,rdBool _⟩,rfl⟩
theorem JV{b:Nat}(B:Blk g b cs)(m:cs.size=3){x:Bool}{s:Bt}{i:Int}{t:TypeId}(e:qo Tp t=Ta)(hz:ya Tp t=3){K:zc->Prop}(f:∀g',(∀j,j≠b->g'[j]?=g[j]?)->g'.size=g.size->Blk g' b #[.bool x,.string s,.int .i64 i]->K g'):
  XRunU Tp (zag t (.pointer (Tc ⟨b,0,Td⟩)) (.agg #[.bool x,.string s,.int .i64 i])) g K:=by
 refine Qz (vs:=[.bool x,.string s,.int .i64 i]) e B rfl hz (by simp_all) (λu c=>?_) λg' l k h=>f g' h k (by simp_all[Kv]);simp at c;rcases c with rfl|rfl|rfl <;> rfl
set_option maxHeartbeats 1000000 in
theorem zkr(gl:Fr)(n:Bt)(R:((Bool×Bt×Int)×Bool)->Prop) (H:PC Tp gl 107 [Arg.mk .str n] [.pair .bool (.pair .str (.int .i64)),.int .i64] (λb:(Bool×Bt×Int)×Int=>∃C:Bt->Prop,(((b.2:Int)==0)=Ta->PC Tp gl 63 [Arg.mk (.pair .bool (.pair .str (.int .i64))) (b.1.1,(b.1.2.1,b.1.2.2))] [.str] C) /\ ∀D:Bt,(((b.2:Int)==0)=Ta->C D)->R ((b.1.1,(b.1.2.1,b.1.2.2)),bif ((b.2:Int)==0)then((D:Bt).toList==(n:Bt).toList)else Tb))):
    PC Tp gl 102 [Arg.mk .str n] [.pair .bool (.pair .str (.int .i64)),.bool] R:=by
  intro h M vs Z ag ha
  match vs,ha with
  |[u],⟨O,_⟩=>
  have O:RdV M .str n u:=O;rw[Za O];apply PX.of;apply U5 n;intro h1;obtain⟨k1,z1,b1⟩:=wq (g:=h1) rfl;clear_value h1;have L1:Later h M h1 M:=Later.same ag k1;refine H.go (vs:=[.string n]) Z L1.ag (zi (a:=Arg.mk .str n) (rdStr _) zq) λw q U r y l hr=>?_;obtain⟨J,hJ,hR⟩:=hr;rw[XN l];refine⟨_,_,_,_,rfl,?_⟩;have z3:=y.keep.size;refine JV (cs:=#[.bool Tb,.string ⟨#[]⟩,.int .i64 0]) (Blk.new _ _ _) rfl (by kernel_rfl) (by kernel_rfl) λp f9 z9 F=>?_;rw[zau]at z9;have k9:Keep q.size q p:=⟨by omega,λj Q=>(f9 j (by omega)).trans ((Keep.push q _ (zaf _)).get j Q)⟩;have G:Later h M p U:=(L1.trans y).trans (Later.same y.ag k9);have A:U h.size=Td:=by
    rw[y.old h.size (by omega)];cases e:M h.size with
    |none=>rfl
    |some c=>have:=ag.lt e;omega
  have V:Blk p h.size #[.bool Tb,.string ⟨#[]⟩,.int .i64 0]:=(b1.ofKeep y.keep).ofKeep k9;refine⟨r.1.1,r.1.2.1,r.1.2.2,F.ld (cs:=[.bool r.1.1,.string r.1.2.1,.int .i64 r.1.2.2]),?_⟩;intro Y ab aa N S;have fin:∀(g:zc) (Mg:Fr) (x:Bt),Later h M g Mg->Mg h.size=Td->(∃cs,Blk g h.size cs/\cs.size=3)->(((r.2:Int)==0)=Ta->J x) ->
      XRunU Tp (zag 78 (.pointer (Tc ⟨zax h,0,Td⟩)) (.agg #[.bool r.1.1,.string r.1.2.1,.int .i64 r.1.2.2])) g (λg'=>Y (bif ((r.2:Int)==0)then((x:Bt).toList==(n:Bt).toList)else Tb) g'):=λg Mg x L o ⟨cs,B,hc⟩ k=>
    JV B hc (by kernel_rfl) (by kernel_rfl) λg' f z B'=>⟨_,_,_,B'.ld (cs:=[.bool r.1.1,.string r.1.2.1,.int .i64 r.1.2.2]),Mg,((r.1.1,(r.1.2.1,r.1.2.2)),_),⟨⟨by have:=L.keep.size;omega,λj Q=>(f j (by omega)).trans (L.keep.get j Q)⟩,L.le,L.old,λc cc e=>by obtain⟨T,m,e2⟩:=L.ag c cc e;grind⟩,qtb _ _ _ _,hR x k⟩
  have P:∀(g:zc) (Mg:Fr) (x:Bt),Later h M g Mg->Mg h.size=Td->(∃cs,Blk g h.size cs/\cs.size=3)->(((r.2:Int)==0)=Ta->J x)->g[q.size]?=p[q.size]?->N x g:=λg Mg x L o B k s=>⟨⟨s,⟨s,fin g Mg x L o B k⟩,fin g Mg x L o B k⟩,fin g Mg x L o B k⟩;let E:Value->zc->Prop:=λv g=>∃x:Bt,v=.string x/\(∃Mg,Later h M g Mg/\Mg h.size=Td/\(∃cs,Blk g h.size cs/\cs.size=3)/\g[q.size]?=p[q.size]?)/\(((r.2:Int)==0)=Ta->J x);have call:((r.2:Int)==0)=Ta->XC Tp 63 #[.agg #[.bool r.1.1,.string r.1.2.1,.int .i64 r.1.2.2]] p (λv g=>∃x:Bt,v=.string x/\E (.string x) g):=λe=>
    (hJ e).go (vs:=[.agg #[.bool r.1.1,.string r.1.2.1,.int .i64 r.1.2.2]]) (Z.trans G.le) G.ag (zi (a:=Arg.mk (.pair .bool (.pair .str (.int .i64))) (r.1.1,(r.1.2.1,r.1.2.2))) (AL _ _ _) zq) λw g Mg x I l k=>
      ⟨x,mZ l,x,rfl,⟨Mg,G.trans I,by rw[I.old h.size V.lt];exact A,⟨_,V.ofKeep I.keep,rfl⟩,I.keep.get _ F.lt⟩,λ_=>k⟩
  have i:((r.2:Int)==0)=Tb->∃x:Bt,E (.string x) p:=λe=>⟨⟨#[]⟩,⟨#[]⟩,rfl,⟨U,G,A,⟨_,V,rfl⟩,rfl⟩,λe'=>by simp_all⟩;have t:S r.1.1 r.1.2.1 r.1.2.2 p:=⟨E,call,i,λ_ v g ⟨x,e,_⟩=>⟨x,e⟩,λx g ⟨x',e,⟨Mg,L,o,B,s⟩,k⟩=>by injection e with e;subst e;grind⟩;refine⟨⟨_,_,_,λ_=>F.ld (cs:=[.bool r.1.1,.string r.1.2.1,.int .i64 r.1.2.2]),rfl,⟨E,call,i,λ_ v g ⟨x,e,_⟩=>⟨x,e⟩,λx g ⟨x',e,⟨Mg,L,o,B,s⟩,k⟩=>?_⟩,rfl,t⟩,rfl,_,_,_,λ_=>F.ld (cs:=[.bool r.1.1,.string r.1.2.1,.int .i64 r.1.2.2]),rfl,t⟩;injection e with e;subst e;exact⟨s,⟨s,P g Mg x L o B k s⟩,fin g Mg x L o B k⟩
theorem GA{r:Bt×Bool}(h:Jl M [.str,.bool] r v):v=.tuple #[.string r.1,.bool r.2]:=by
 obtain⟨us,⟨k,f,rfl,e,c,rfl,b⟩,rfl⟩:=h;rw[Za e];rw[W0 rfl]at b;have i:c=.bool r.2:=by simpa[Rd]using b
 rw[i];rfl
theorem FB{r:Bt×Bt×Bool}(h:Jl M [.str,.str,.bool] r v):v=.tuple #[.string r.1,.string r.2.1,.bool r.2.2]:=by
 obtain⟨us,⟨m,k,rfl,i,n,e,rfl,c,l,rfl,b⟩,rfl⟩:=h;rw[Za i,Za c];rw[W0 rfl]at b;have f:l=.bool r.2.2:=by simpa[Rd]using b
 rw[f];rfl
abbrev N5:=Bool×Bool×Bt×Bt×Bt
def wL(g:zc)(b:Nat)(n:N5):Prop:=Blk g b #[.bool n.1,.bool n.2.1,.string n.2.2.1,.string n.2.2.2.1,.string n.2.2.2.2]
structure St5 (h:zc) (M:Fr) (g:zc) (Mg:Fr) (n:N5):Prop where
 L:Later h M g Mg
 no:Mg h.size=Td
 B:wL g h.size n
theorem St5.call{M Mg b:Fr}{n:N5}(S:St5 h M g Mg n)(L:Later g Mg g' b):St5 h M g' b n:=⟨S.L.trans L,by rw[L.old h.size (Blk.lt S.B)];exact S.no,Blk.ofKeep S.B L.keep⟩
theorem St5.put{n b:N5}(S:St5 h M g Mg n)(f:∀j,j≠h.size->g'[j]?=g[j]?)(z:g'.size=g.size)(B:wL g' h.size b):St5 h M g' Mg b:= ⟨⟨⟨by have:=S.L.keep.size;omega,λj i=>(f j (by omega)).trans (S.L.keep.get j i)⟩,S.L.le,S.L.old,λc k e=>by obtain⟨T,m,l⟩:=S.L.ag c k e;grind [no]⟩,S.no,B⟩
theorem NM(n:N5)(b:Bool):Jl M [.pair .bool (.pair .bool (.pair .str (.pair .str .str))),.bool] (n,b) (.tuple #[.agg #[.bool n.1,.bool n.2.1,.string n.2.2.1,.string n.2.2.2.1,.string n.2.2.2.2],.bool b]):=by refine⟨[_,_],⟨_,_,rfl,?_,_,rfl,rdBool _⟩,rfl⟩;unfold RdV;simp only[gO,if_true];exact⟨[_,_,_,_,_],rfl,[_],[_,_,_,_],rfl,rfl,[_],[_,_,_],rfl,rfl,[_],[_,_],rfl,rfl,[_],[_],rfl,rfl,rfl⟩
set_option maxHeartbeats 1000000 in
theorem U6(gl:Fr)(s0:Bt)(R:((Bool×Bool×Bt×Bt×Bt)×Bool)->Prop) (H:PC Tp gl 237 [Arg.mk .str s0,Arg.mk .str (⟨#[45]⟩:Bt)] [.str,.bool] (λY:Bt×Bool=>PC Tp gl 238 [Arg.mk .str Y.1,Arg.mk .str (⟨#[101,69]⟩:Bt)] [.str,.str,.bool] (λV:Bt×Bt×Bool=>∀az:Bt->Bool->Bool->Bt->Bt->Bt->Prop,(∀x:Bt,∀E:Bool,∀D:Bool,∀ar:Bt,∀au:Bt,∀aA:Bt,(PC Tp gl 238 [Arg.mk .str V.1,Arg.mk .str (⟨#[46]⟩:Bt)] [.str,.str,.bool] (λk:Bt×Bt×Bool=>PC Tp gl 176 [Arg.mk .str k.1] [.bool] (λJ:Bool=>∃aj:Bool->Prop,(((!(!J))&&k.2.2)=Ta->PC Tp gl 176 [Arg.mk .str k.2.1] [.bool] aj)/\∀Q:Bool,(((!(!J))&&k.2.2)=Ta->aj Q)->((bif (!J)then Ta else(bif k.2.2 then(!Q)else Tb))=Ta->R ((E,(D,(k.1,(k.2.1,x)))),Tb))/\((bif (!J)then Ta else(bif k.2.2 then(!Q)else Tb))=Tb->((!((k.1:Bt).toList==((⟨#[48]⟩:Bt):Bt).toList))=Ta->(0<=(0:Int)/\(0:Int)<((k.1).size:Int)))/\R ((E,(D,(k.1,(k.2.1,x)))),bif ((k.1:Bt).toList==((⟨#[48]⟩:Bt):Bt).toList)then Ta else((qj k.1 (0:Int).toNat:Int) != 48))))))->az x E D ar au aA)->(V.2.2=Ta->PC Tp gl 237 [Arg.mk .str V.2.1,Arg.mk .str (⟨#[45]⟩:Bt)] [.str,.bool] (λp:Bt×Bool=>∀U:Bt->Bool->Bool->Bt->Bt->Bt->Prop,(∀m:Bt,∀y:Bool,∀A:Bool,∀t:Bt,∀z:Bt,∀C:Bt,(PC Tp gl 176 [Arg.mk .str m] [.bool] (λae:Bool=>((!ae)=Ta->R ((y,(A,(t,(z,C)))),Tb))/\((!ae)=Tb->az m y A t z C)))->U m y A t z C)->((!p.2)=Ta->PC Tp gl 239 [Arg.mk .str p.1,Arg.mk .str (⟨#[43]⟩:Bt)] [.str] (λaL:Bt=>U aL Y.2 p.2 (⟨#[]⟩:Bt) (⟨#[]⟩:Bt) (⟨#[]⟩:Bt)))/\((!p.2)=Tb->U p.1 Y.2 p.2 (⟨#[]⟩:Bt) (⟨#[]⟩:Bt) (⟨#[]⟩:Bt))))/\(V.2.2=Tb->az V.2.1 Y.2 Tb (⟨#[]⟩:Bt) (⟨#[]⟩:Bt) (⟨#[]⟩:Bt))))):
  PC Tp gl 178 [Arg.mk .str s0] [.pair .bool (.pair .bool (.pair .str (.pair .str .str))),.bool] R:=by
 intro h M vs hM ag ha
 match vs,ha with
 |[u],⟨hu,_⟩=>
 have hu:RdV M .str s0 u:=hu;rw[Za hu];apply PX.of;apply Oz s0;intro h1;have k1:Keep h.size h h1:=Keep.push _ _ (zaf _);have b1:wL h1 h.size (Tb,Tb,⟨#[]⟩,⟨#[]⟩,⟨#[]⟩):=Blk.new _ _ _;have L1:Later h M h1 M:=Later.same ag k1;have bF:M h.size=Td:=by
  cases e:M h.size with
  |none=>rfl
  |some c=>have:=ag.lt e;omega
 clear_value h1;have s1:St5 h M h1 M (Tb,Tb,⟨#[]⟩,⟨#[]⟩,⟨#[]⟩):=⟨L1,bF,b1⟩;refine H.go (vs:=[.string s0,.string ⟨#[45]⟩]) hM L1.ag (zi (a:=Arg.mk .str s0) (rdStr _) (zi (a:=Arg.mk .str (⟨#[45]⟩:Bt)) (rdStr _) zq)) λw h3 M3 r1 L3 i H2=>?_;rw[GA i];refine⟨_,_,rfl,?_⟩;have S3:=s1.call L3;have fin:∀(g:zc) (Mg:Fr) (n:N5) (b:Bool),St5 h M g Mg n->R (n,b)->XRunU Tp (zag 188 (.pointer (Tc ⟨zax h,0,Td⟩)) (.agg #[.bool n.1,.bool n.2.1,.string n.2.2.1,.string n.2.2.2.1,.string n.2.2.2.2])) g (λak=>∃ai:Bool,∃af:Bool,∃an:Bt,∃am:Bt,∃ah:Bt,zd ak ⟨zax h,0,Td⟩ 0 [.bool ai,.bool af,.string an,.string am,.string ah]/\∃(M':Fr) (r:gQ [.pair .bool (.pair .bool (.pair .str (.pair .str .str))),.bool]),Later h M ak M'/\Jl M' [.pair .bool (.pair .bool (.pair .str (.pair .str .str))),.bool] r (.tuple #[.agg #[.bool ai,.bool af,.string an,.string am,.string ah],.bool b])/\R r):=λg Mg n b S hR=>
  Qz (o:=0) (vs:=[.bool n.1,.bool n.2.1,.string n.2.2.1,.string n.2.2.2.1,.string n.2.2.2.2]) (by kernel_rfl) S.B rfl (by kernel_rfl) (zaf _) (λu hu=>by simp at hu;rcases hu with rfl|rfl|rfl|rfl|rfl <;> rfl) λg' q1 q2 q3=>
   have S':St5 h M g' Mg n:=S.put q3 q2 (by rw[Kv (by rfl)]at q1;exact q1)
   ⟨_,_,_,_,_,Blk.ld (cs:=[.bool n.1,.bool n.2.1,.string n.2.2.1,.string n.2.2.2.1,.string n.2.2.2.2]) S'.B,Mg,(n,b),S'.L,NM n b,hR⟩
 rw[show zae ⟨zax h,0,Td⟩ 0=⟨h.size,0,Td⟩from rfl];refine j5 (by kernel_rfl) (by kernel_rfl) S3.B (o:=0) (by simp) rfl λh6 B6 z6 f6=>?_;have S6:St5 h M h6 M3 (r1.2,Tb,⟨#[]⟩,⟨#[]⟩,⟨#[]⟩):=S3.put f6 z6 B6;refine H2.go (vs:=[.string r1.1,.string ⟨#[101,69]⟩]) (hM.trans L3.le) S6.L.ag (zi (a:=Arg.mk .str r1.1) (rdStr _) (zi (a:=Arg.mk .str (⟨#[101,69]⟩:Bt)) (rdStr _) zq)) λw h8 M8 r2 L8 i H3=>?_;rw[FB i];refine⟨_,_,_,rfl,?_⟩;have S8:=S6.call L8;intro bh aO;have aU:Fr.le gl M8:=hM.trans S8.L.le;have N:∀{g:zc} {Mg:Fr} {n:N5},St5 h M g Mg n->Fr.le gl Mg:=λS=>hM.trans S.L.le;have aS:∀{Mg:Fr} (s:Bt),RdV Mg .str s (.string s):=λs=>rdStr s;obtain⟨c1,c2⟩:=H3 (λf x0 G x2 x3 x4=>∀g Mg,St5 h M g Mg (x0,G,x2,x3,x4)->bh f g) λf x0 G x2 x3 x4 P g Mg S=>aO f g (by rw[show zae ⟨zax h,0,Td⟩ 4=⟨h.size,4,Td⟩from rfl];refine j5 (by kernel_rfl) (by kernel_rfl) S.B (o:=4) (by simp) rfl λaQ bH bA aV=>?_;have ap:St5 h M aQ Mg (x0,G,x2,x3,f):=S.put aV bA bH;refine P.go (vs:=[.string r2.1,.string ⟨#[46]⟩]) (N ap) ap.L.ag (zi (a:=Arg.mk .str r2.1) (rdStr _) (zi (a:=Arg.mk .str (⟨#[46]⟩:Bt)) (rdStr _) zq)) λw bQ aG l bi i P2=>?_;rw[FB i];refine⟨_,_,_,rfl,?_⟩;have aN:=ap.call bi;rw[show zae ⟨zax h,0,Td⟩ 2=⟨h.size,2,Td⟩from rfl,show zae ⟨zax h,0,Td⟩ 3=⟨h.size,3,Td⟩from rfl];refine j5 (by kernel_rfl) (by kernel_rfl) aN.B (o:=2) (by simp) rfl λa6 aY bq aP=>?_;have aE:St5 h M a6 aG (x0,G,l.1,x3,f):=aN.put aP bq aY;refine j5 (by kernel_rfl) (by kernel_rfl) aE.B (o:=3) (by simp) rfl λbG aT aZ bB=>?_;have ax:St5 h M bG aG (x0,G,l.1,l.2.1,f):=aE.put bB aZ aT;refine P2.go (vs:=[.string l.1]) (N ax) ax.L.ag (zi (a:=Arg.mk .str l.1) (rdStr _) zq) λw bJ a7 aC ba i P3=>?_;obtain⟨bC,hJ,hE⟩:=P3;have Z:=ax.call ba;refine⟨aC,dK i,λv g'=>∃b,v=.bool b/\(∃ab,St5 h M g' ab (x0,G,l.1,l.2.1,f))/\(((!(!aC))&&l.2.2)=Ta->bC b),λI=>(hJ I).go (vs:=[.string l.2.1]) (N Z) Z.L.ag (zi (a:=Arg.mk .str l.2.1) (rdStr _) zq) λw bM bg b a8 i hb=>⟨b,dK i,b,rfl,⟨bg,Z.call a8⟩,λ_=>hb⟩,λI=>⟨Tb,Tb,rfl,⟨a7,Z⟩,λe=>by rw[I]at e;exact nomatch e⟩,λ_ v g' ⟨b,e,_⟩=>⟨b,e⟩,λb g' ⟨b',e,⟨ab,S'⟩,hb⟩=>?_⟩;injection e with e;subst e;obtain⟨e1,e2⟩:=hE b hb;refine⟨λI=>⟨_,_,_,_,_,Blk.ld (cs:=[.bool x0,.bool G,.string l.1,.string l.2.1,.string f]) S'.B,fin g' ab (x0,G,l.1,l.2.1,f) Tb S' (e1 I)⟩,λI=>?_⟩;obtain⟨e3,e4⟩:=e2 I;refine⟨_,_,_,_,_,Blk.ld (cs:=[.bool x0,.bool G,.string l.1,.string l.2.1,.string f]) S'.B,?_⟩;intro bO bP bN br;have F:=fin g' ab (x0,G,l.1,l.2.1,f) _ S' e4;have bo:=XRunU.mono F λh' q=>(⟨e3,q⟩:br h');repeat' first|exact rfl|exact e3|exact F|exact bo|refine⟨?_,?_⟩);refine⟨λhx=>?_,λhx=>c2 hx h8 M8 S8⟩;refine(c1 hx).go (vs:=[.string r2.2.1,.string ⟨#[45]⟩]) aU S8.L.ag (zi (a:=Arg.mk .str r2.2.1) (rdStr _) (zi (a:=Arg.mk .str (⟨#[45]⟩:Bt)) (rdStr _) zq)) λw bL aI aa bI i H4=>?_;rw[GA i];refine⟨_,_,rfl,?_⟩;have aF:=S8.call bI;rw[show zae ⟨zax h,0,Td⟩ 1=⟨h.size,1,Td⟩from rfl];refine j5 (by kernel_rfl) (by kernel_rfl) aF.B (o:=1) (by simp) rfl λaM bz bE be=>?_;have O:St5 h M aM aI (r1.2,aa.2,⟨#[]⟩,⟨#[]⟩,⟨#[]⟩):=aF.put be bE bz;intro a1 aJ;obtain⟨d1,d2⟩:=H4 (λf x0 G x2 x3 x4=>∀g Mg,St5 h M g Mg (x0,G,x2,x3,x4)->a1 f g) λf x0 G x2 x3 x4 P g Mg S=>aJ f g (P.go (vs:=[.string f]) (N S) S.L.ag (zi (a:=Arg.mk .str f) (rdStr _) zq) λw aH aB bD ay i he=>⟨bD,dK i,λI=>⟨_,_,_,_,_,Blk.ld (cs:=[.bool x0,.bool G,.string x2,.string x3,.string x4]) (S.call ay).B,fin aH aB (x0,G,x2,x3,x4) Tb (S.call ay) (he.1 I)⟩,λI=>he.2 I aH aB (S.call ay)⟩);refine⟨aa.2,Blk.cell O.B (o:=1) rfl,λI=>(d1 I).go (vs:=[.string aa.1,.string ⟨#[43]⟩]) (N O) O.L.ag (zi (a:=Arg.mk .str aa.1) (rdStr _) (zi (a:=Arg.mk .str (⟨#[43]⟩:Bt)) (rdStr _) zq)) λw bm bj bn bu i hk=>⟨bn,mZ i,hk bm bj (O.call bu)⟩,λI=>d2 I aM aI O⟩
end
end Go.X
end
section
namespace Go.X
open Go Go.Lib
section
variable {n k:Nat} {l s:Bs}
theorem ZV{c:UInt8}(b:n<256):c=zcj n↔c.toNat=n:=by constructor;simp_all;intro h;rw[<-h];simp
theorem Yl(c:UInt8):∀l:Bs,-1<=indexByte l c/\(0<=indexByte l c↔c∈l)
 |[]=>by simp[indexByte]
 |b::l=>by have e:=Yl c l;unfold indexByte;grind
theorem Ls(u:Nat):(decDigits u).length<=u+1:=by rw[decDigits];split;simp;rename_i h;have:=Ls (u / 10);simp;omega
theorem itoa_len(n:Int):(itoa n).length<=n.natAbs+2:=by unfold itoa;grind [Ls]
theorem Fp(l:Bs)(c:UInt8):hasPrefix l [c]=(l.head?==Tc c):=by
 cases l with
 |nil=>rfl
 |cons b t=>simp[hasPrefix,List.isPrefixOf];grind
theorem Hj(l:Bs)(c:UInt8):trimPrefix l [c]=if l.head?==Tc c then l.tail else l:=by unfold trimPrefix;rw[Fp];split <;> simp
theorem IE(l:Bs)(c:UInt8):zz (l++[c])=10*zz l+(c.toNat-48):=by simp[zz,List.foldl_append]
theorem FU(b:k<l.length):zz (l.take (k+1))=10*zz (l.take k)+(l[k].toNat-48):=by rw[zar b,IE]
theorem Hz{p:UInt8->Bool}(h:l.all p=Ta)(k:Nat):(l.take k).all p=Ta:=by grind
theorem FD(h:l.all yq=Ta)(b:k<l.length):48<=l[k].toNat/\l[k].toNat<=57:=by have:=zas.1 h _ (zay b);simpa[yq]using this
theorem FZ:∀(n:Nat) (l:Bs),l.length=n->l.all yq=Ta->zz l<10 ^ n
 |0,l,h,_=>by have:l=[]:=zbb h;subst this;simp[zz]
 |n+1,l,h,hd=>by
  have b:l=l.take (n+1):=by rw[<-h,zbw]
  rw[b,FU (by omega)];have h1:=FZ n (l.take n) (by simp;omega) (Hz hd n);grind [FD]
theorem sH(b:l.length<=n)(h:l.all yq=Ta):zz l<10 ^ n:= zdj (FZ _ l rfl h) (Nat.pow_le_pow_right (by omega) b)
theorem uP(h:gN l=Ta):l.all yq=Ta:=by unfold gN at h;simp_all
theorem Ds{p q:UInt8->Bool}(h:l.all p=Ta):(l.dropWhile q).all p=Ta:=by rw[zas]at h ⊢;exact λx b=>h x ((List.dropWhile_sublist q).mem b)
theorem Zz(l:Bs)(q:UInt8->Bool):(l.dropWhile q).length<=l.length:=(List.dropWhile_sublist q).length_le
theorem Kw{q:UInt8->Bool}:∀c,(l.dropWhile q).head?=Tc c->q c=Tb:=by
 induction l with
 |nil=>simp
 |cons b t e=>intro c h;rw[List.dropWhile_cons]at h;grind
theorem HW(h:l.all yq=Ta)(f:l.dropWhile (· == 48)≠[]):gN (Qm l)=Ta/\(Qm l).length<=(l.dropWhile (· == 48)).length/\((Qm l).head? != Tc 48)=Ta/\((Qm l).getLast? != Tc 48)=Ta:=by
 unfold Qm;obtain⟨c,t,i⟩:=zb3 f;have n:(c==48)=Tb:=by have:=Kw (l:=l) (q:=(· == 48)) c (by rw[i];rfl);simpa using this
 have key:∀(t:Bs),∃u,((c::t).reverse.dropWhile (· == 48)).reverse=c::u:=by
  intro t;rw[List.reverse_cons];have k:∀(r:Bs),∃u,(r++[c]).dropWhile (· == 48)=u++[c]:=by
   intro r;induction r with
   |nil=>simp_all
   |cons b r m=>grind [List.dropWhile_cons]
  obtain⟨u,e⟩:=k t.reverse;exact⟨u.reverse,by rw[e];simp⟩
 rw[i];obtain⟨u,e⟩:=key t;refine⟨?_,?_,?_,?_⟩;rw[gN,Bool.and_eq_true_iff];grind [Ds];rw[List.length_reverse];refine zbx (Zz _ _) ?_;simp;simp_all;grind [Kw]
theorem R7(h:l.all yq=Ta)(b:l.dropWhile (· == 48)≠[])(k:l.length<=1000)(neg:Bool)(e:Int):yg (neg,Qm l,e)=(decide (-1000000<=e)&&decide (e<=1000000)):=by
 obtain⟨h1,f,n,i⟩:=HW h b;have m:=Zz l (· == 48);have c:(Qm l).isEmpty=Tb:=by rw[gN]at h1;have:=(Bool.and_eq_true_iff.1 h1).2;simpa using this
 unfold yg mV;grind
theorem zy8{x:Lit}(h:mB s=Tc x):gN x.whole=Ta/\x.rest.all yq=Ta/\x.exp.all yq=Ta:=by
 obtain⟨b,rfl⟩:=D8 h;unfold my at b;simp only[zan]at b;obtain⟨⟨⟨h1,c⟩,e⟩,f⟩:=b;refine⟨c,?_,?_⟩;show(Jo s).2.1.all yq=Ta;cases hp:(Jo s).2.2 with
 |true=>simp_all[uP]
 |false=>rw[show(Jo s).2.1=[]from(Al hp).2];rfl
 show(if(gK s).2.2 then jD s else []).all yq=Ta;grind [uP]
theorem xA(p:UInt8->Bool)(l:Bs):(cutAt p l).1.length+(cutAt p l).2.1.length<=l.length:=by
 induction l with
 |nil=>simp[cutAt]
 |cons c t b=>unfold cutAt;grind
theorem IB{x:Lit}(h:mB s=Tc x):x.whole.length+x.rest.length+x.exp.length<=s.length:=by
 obtain⟨b,rfl⟩:=D8 h;have h1:(lS s).length<=s.length:=by unfold lS;split <;> simp
 have e:=xA sq (lS s);have i:=xA uU (gK s).1;have c:(jD s).length<=(gK s).2.1.length:=by unfold jD;split;simp;split <;> simp
 have f:(if(gK s).2.2 then jD s else []).length<=(gK s).2.1.length:=by split;exact c;simp
 show(Jo s).1.length+(Jo s).2.1.length+(if(gK s).2.2 then jD s else []).length<=s.length;unfold Jo;unfold gK at *;omega
end
end Go.X
end
section
namespace Go.X
section
variable {gl:Fr} {l s:Bs}
theorem IA(c:UInt8):(((c.toNat:Int)).toNat).toUInt8=c:=by simp
theorem Ll{l sep:Bs}{p:UInt8->Bool}(o:∀c,p c=Ta↔c∈sep)(q:l.length<=4611686018427387904){R:Bt×Bt×Bool->Prop}(h:R (bl (cutAt p l).1,bl (cutAt p l).2.1,(cutAt p l).2.2)):
  PC Tp gl 238 [Arg.mk .str (bl l),Arg.mk .str (bl sep)] [.str,.str,.bool] R:=by
 apply Ut;simp only[zu,xt,Ql];refine⟨λi=>∃k:Nat,i=k/\k<=l.length/\∀j (f:j<l.length),j<k->p l[j]=Tb,λi=>l.length-i.toNat,⟨0,rfl,by omega,λj _ h=>by omega⟩,?_⟩;rintro i ⟨k,rfl,u,r⟩;refine⟨λn=>?_,λn=>?_⟩;have b:k<l.length:=by simpa using n
 simp only[zao,Ai b];refine⟨by omega,BV ?_⟩;rw[IA,yo];have t:=(Yl l[k] sep).2;rw[Ze b q];refine⟨λm=>⟨by omega,by omega,?_⟩,λm=>⟨⟨k+1,rfl,by omega,λj f s=>?_⟩,by simp;omega⟩⟩;have e:p l[k]=Ta:=(o _).2 (t.1 (by simpa using m));rw[G4 b (λj f=>r j (by omega) f) e]at h;simp only[zao,Int.toNat_zero,zc2,Nat.sub_zero];simp_all[zcn];grind;grind [En,zcf]
theorem KR{c:UInt8}{R:Bt×Bool->Prop}(h:R (bl (if l.head?==Tc c then l.tail else l),l.head?==Tc c)):PC Tp gl 237 [Arg.mk .str (bl l),Arg.mk .str (bl [c])] [.str,.bool] R:=by refine ZR ?_;rw[yo,yo,Hj,Fp];exact h
theorem QK{c:UInt8}{R:Bt->Prop}(h:R (bl (if l.head?==Tc c then l.tail else l))):PC Tp gl 239 [Arg.mk .str (bl l),Arg.mk .str (bl [c])] [.str] R:=by refine Rn ?_;rw[yo,yo,Hj];exact h
theorem Da{R:Bt->Prop}(h:R (bl (l.dropWhile (· == 48)))):PC Tp gl 179 [Arg.mk .str (bl l),Arg.mk .str (bl [48])] [.str] R:=by refine zy1 (c:=48) (by decide) ?_;rw[yo];exact h
theorem RP(b:l.length<=4611686018427387904){R:Bt->Prop}(h:R (bl (l.reverse.dropWhile (· == 48)).reverse)):PC Tp gl 180 [Arg.mk .str (bl l),Arg.mk .str (bl [48])] [.str] R:=by refine zvu (c:=48) (by decide) (by rw[zu];omega) ?_;rw[yo];exact h
theorem Nh(S:s.length<=4611686018427387904){R:(Bool×Bool×Bt×Bt×Bt)×Bool->Prop} (h1:my s=Ta->R (((lx s).neg,(lx s).low,bl (lx s).whole,bl (lx s).rest,bl (lx s).exp),Ta)) (E:my s=Tb->∀a b c d e,R ((a,b,bl c,bl d,bl e),Tb)):
  PC Tp gl 178 [Arg.mk .str (bl s)] [.pair .bool (.pair .bool (.pair .str (.pair .str .str))),.bool] R:=by
 apply U6;refine KR (c:=45) ?_;dsimp only;have U:(lS s).length<=s.length:=by unfold lS;split <;> simp
 have H:=xA sq (lS s);refine Ll (l:=lS s) (sep:=[101,69]) (p:=sq) (λc=>by simp[sq]) (by omega) ?_;dsimp only;have L:(gK s).1.length+(gK s).2.1.length<=(lS s).length:=H;have o:∀(e:Bs) (low:Bool),((gK s).2.2=Ta->gN (jD s)=Ta/\low=m7 s/\e=jD s)->((gK s).2.2=Tb->low=Tb/\e=[]) ->
   PC Tp gl 238 [Arg.mk .str (bl (gK s).1),Arg.mk .str (bl [46])] [.str,.str,.bool] (λf:Bt×Bt×Bool=>PC Tp gl 176 [Arg.mk .str f.1] [.bool] (λi:Bool=>∃q:Bool->Prop,(((!(!i))&&f.2.2)=Ta->PC Tp gl 176 [Arg.mk .str f.2.1] [.bool] q) /\ ∀m:Bool,(((!(!i))&&f.2.2)=Ta->q m)->((bif (!i)then Ta else(bif f.2.2 then(!m)else Tb))=Ta->R ((s.head?==Tc 45,(low,(f.1,(f.2.1,bl e)))),Tb)) /\ ((bif (!i)then Ta else(bif f.2.2 then(!m)else Tb))=Tb->((!((f.1:Bt).toList==((⟨#[48]⟩:Bt):Bt).toList))=Ta->(0<=(0:Int)/\(0:Int)<((f.1).size:Int))) /\ R ((s.head?==Tc 45,(low,(f.1,(f.2.1,bl e)))),bif ((f.1:Bt).toList==((⟨#[48]⟩:Bt):Bt).toList)then Ta else((qj f.1 (0:Int).toNat:Int) != 48))))):=by
  intro e low Q k2;have A:(!(gK s).2.2||gN (jD s))=Ta/\m7 s=low/\(if(gK s).2.2 then jD s else [])=e:=by
   cases u:(gK s).2.2 with
   |true=>simp_all
   |false=>obtain⟨a,b⟩:=k2 u;exact⟨rfl,by unfold m7;rw[u,a];rfl,by simp[b]⟩
  refine Ll (l:=(gK s).1) (sep:=[46]) (p:=uU) (λc=>by simp[uU]) (by omega) ?_;refine tJ ⟨λx=>gN (Jo s).2.1=x,λ_=>tJ rfl,λy G=>?_⟩;dsimp only;simp only[show(⟨#[48]⟩:Bt)=bl [48]from rfl,ke,zu,xt];change (_->gN (Jo s).2.1=y)at G;show((bif (!gN (Jo s).1)then Ta else(bif (Jo s).2.2 then(!y)else Tb))=Ta->R ((s.head?==Tc 45,(low,(bl (Jo s).1,(bl (Jo s).2.1,bl e)))),Tb)) /\ ((bif (!gN (Jo s).1)then Ta else(bif (Jo s).2.2 then(!y)else Tb))=Tb->((!decide ((Jo s).1=[48]))=Ta->(0<=(0:Int)/\(0:Int)<((Jo s).1.length:Int))) /\ R ((s.head?==Tc 45,(low,(bl (Jo s).1,(bl (Jo s).2.1,bl e)))),bif decide ((Jo s).1=[48])then Ta else(((((Jo s).1[(0:Int).toNat]?).getD 0).toNat:Int) != 48)));have P:gN (Jo s).1=Ta->(Jo s).2.2=Ta->gN (Jo s).2.1=y:=λa b=>G (by show((!(!gN (Jo s).1))&&(Jo s).2.2)=Ta;rw[a,b];rfl);refine⟨λr=>E ?_ _ _ _ _ _,λr=>⟨λ_=>?_,?_⟩⟩;unfold my;grind;all_goals
   have B:gN (Jo s).1=Ta:=by
    cases B:gN (Jo s).1 with
    |true=>rfl
    |false=>simp_all
   have O:=Et B
  omega;have M:(!(Jo s).2.2||gN (Jo s).2.1)=Ta:=by
   cases hw:(Jo s).2.2 with
   |false=>rfl
   |true=>simp_all
  have J:(bif decide ((Jo s).1=[48])then Ta else(((((Jo s).1[(0:Int).toNat]?).getD 0).toNat:Int) != 48))=((Jo s).1==[48]||(Jo s).1.head? != Tc 48):=by rw[show(0:Int).toNat=0 from rfl,KI O,Bool.cond_true_left,za7];simp
  have w:my s=((Jo s).1==[48]||(Jo s).1.head? != Tc 48):=by unfold my;rw[A.1,B,M];simp
  rw[J];cases ho:((Jo s).1==[48]||(Jo s).1.head? != Tc 48)with
  |true=>have:=h1 (w.trans ho);unfold lx at this;simp_all
  |false=>grind
 intro K F;refine⟨λu=>?_,λu=>?_⟩;have t:(gK s).2.2=Ta:=u;refine KR (c:=45) (l:=(gK s).2.1) ?_;dsimp only;intro I C;have step:∀low e,low=m7 s->e=jD s->I (bl e) (s.head?==Tc 45) low (bl []) (bl []) (bl []):=by intro low e z D;refine C _ _ _ _ _ _ (tJ ⟨λr=>?_,λr=>?_⟩);refine E ?_ _ _ [] [] [];unfold my;grind;refine F _ _ _ _ _ _ (o e low (λ_=>⟨by grind,z,D⟩) λh=>by grind)
 have n:m7 s=((gK s).2.1.head?==Tc 45):=by unfold m7;rw[t];rfl
 refine⟨λr=>?_,λr=>?_⟩;have k:((gK s).2.1.head?==Tc 45)=Tb:=by simpa using r
 rw[k];refine QK (c:=43) ?_;simp only[zcc,if_false];refine step Tb _ (by rw[n,k]) ?_;unfold jD;grind;have k:((gK s).2.1.head?==Tc 45)=Ta:=by simpa using r
 rw[k];simp only[if_true];refine step Ta _ (by rw[n,k]) ?_;unfold jD;grind;have t:(gK s).2.2=Tb:=u;have N:(gK s).2.1=[]:=(Al t).2;have:=o [] Tb (λh=>by grind) λ_=>⟨rfl,rfl⟩;show K (bl (gK s).2.1) _ _ _ _ _;rw[N];exact F _ _ _ _ _ _ this
theorem Uh{α β γ δ:Type}{B:α->β->γ->δ->Prop}{c:Bool}{a b:α}{x:β}{y:γ}{z:δ}(h:∀e,e=(bif c then a else b)->B e x y z):∀K:α->β->γ->δ->Prop,(∀e x y z,B e x y z->K e x y z)->(c=Ta->K a x y z)/\(c=Tb->K b x y z):= λK i=>⟨λf=>i _ _ _ _ (h _ (by subst f;rfl)),λf=>i _ _ _ _ (h _ (by subst f;rfl))⟩
theorem im{n:Int}(h:-4611686018427387904<=n/\n<=4611686018427387904):zaa .i64 n=n:=wrap64 (by omega) (by omega)
set_option maxHeartbeats 1000000 in
theorem sN(Z:s.length<=1152921504606846976){R:(Bool×Bt×Int)×Int->Prop}(h:R (ix (zw s).1,(zw s).2)):PC Tp gl 107 [Arg.mk .str (bl s)] [tN,.int .i64] R:=by
 apply Mu;refine Nh (by omega) (λm=>?_) (λm a b c d e=>?_);rotate_left;refine Da ⟨λ_=>?_,λq=>by cases q⟩;have:mB s=Td:=by unfold mB;simp[m]
 unfold zw at h;simp_all;have f:mB s=Tc (lx s):=by unfold mB;simp[m]
 have G:=IB f;obtain⟨N,J,H⟩:=zy8 f;unfold zw at h;rw[f]at h;simp only at h;generalize lx s=x at *;refine Da ⟨λq=>(by cases q),λ_=>?_⟩;simp only[zu];rw[im (by omega)];refine⟨λq=>?_,λq=>?_⟩;grind;rw[za (by grind)]at h;refine⟨λt=>?_,λt=>?_⟩;grind;rw[za (by grind)]at h;have I:x.whole.length+x.rest.length<=1000:=by simp at q;omega
 have S:x.exp.all yq=Ta:=H;generalize P:x.exp.dropWhile (· == 48)=E at *;have o:E.all yq=Ta:=by rw[<-P];exact Ds H
 have A:E.length<=9:=by simp at t;omega
 have Q:zz E<10 ^ 9:=sH A o;refine⟨λe _ _ _ p=>p.1=bl E/\p.2<=E.length/\e=(zz (E.take p.2):Int),λ_ _ _ _ p=>E.length-p.2,⟨rfl,by omega,by simp[zz]⟩,?_⟩;rintro e b1 b2 b3 ⟨_,p⟩ ⟨rfl,O,rfl⟩;simp only at O ⊢;rw[sF,uc];refine⟨λw=>⟨w,?_⟩,λw=>?_⟩;have i:p<E.length:=by simpa using w
 have Y:=FD o i;have D:E.drop p=E[p]::E.drop (p+1):=za9 i;rw[oU E p i,D,qQ (by omega)];have U:=sH (n:=9) (l:=E.take p) (by simp;omega) (Hz o p);rw[mY (by omega) (by omega),im (n:=10*_) (by omega),im (n:=(_:Int)-48) (by omega),im (by omega)];simp only;refine⟨⟨trivial,by omega,?_⟩,by omega⟩;rw[FU i];omega;have i:¬p<E.length:=by simpa using w
 have y:p=E.length:=by omega
 subst y;rw[zbw];apply Uh;intro r z;refine⟨by unfold Wm;omega,?_⟩;rw[rj];refine Da ?_;rw[show(⟨#[]⟩:Bt)=bl []from rfl];simp only[ke];have F:(x.whole++x.rest).all yq=Ta:=by rw[zei,uP N,J];rfl
 refine⟨λu=>?_,λu=>?_⟩;simp_all;have k:(x.whole++x.rest).dropWhile (· == 48)≠[]:=by simpa using u
 rw[za k]at h;have C:=Zz (x.whole++x.rest) (· == 48);rw[zat]at C;refine RP (by omega) ?_;have M:=(HW F k).2.1;have L:=R7 F k (by simp_all);simp only[zu,show((List.dropWhile (λx=>x==48) (x.whole++x.rest)).reverse.dropWhile (λx=>x==48)).reverse=Qm (x.whole++x.rest)from rfl];have B:r=if x.low then-(zz E:Int)else(zz E:Int):=by rw[z];cases x.low <;> simp;exact im (by omega)
 have V:-1000000000<=r/\r<=1000000000:=by rw[B];split <;> omega
 rw[im (n:=r-_) (by omega),im (n:=r-_+_) (by omega),im (by omega)];refine r8 (n:=(x.neg,Qm (x.whole++x.rest),r-(x.rest.length:Int)+(((x.whole++x.rest).dropWhile (· == 48)).length:Int)-((Qm (x.whole++x.rest)).length:Int))) (by grind) ?_;grind
end
section
theorem V6(b:Bt)(c:Sl)(t:Int)(h:zc)(R:Value->zc->Prop) (H:let d:=h.push (.cells #[.string b,aK c] 114);∃e f,zd d ⟨h.size,0,Td⟩ 0 [.string e,aK f]/\∃g,zf d (zae ⟨h.size,0,Td⟩ 1)=Tc (aK g)/\∃i,(g.a=Tc i/\0<=t/\t<g.len)/\∃j k,zd d (zae (i.add (t.toNat*7)) 3) 0 [iV j,iV k]/\XC Tp 149 #[.agg #[.string e,aK f],.agg #[iV j,iV k]] d (λl m=>∃n,l=.string n/\XC Tp 126 #[.string n] m (λo p=>∃q r s,o=.tuple #[.string q,iV r,iV s]/\R (.string q) p))):
  XC Tp 150 #[.agg #[.string b,.slice c.a c.len c.cap],.int .i64 t] h R:=
 XF ⟨[(1,8000)],[],[]⟩ [.tmp 4] 22 Tryz.func150 H
end
section
variable {gl:Fr}
theorem um{a b:Bs}(h:a.length+b.length<=4611686018427387904):Wm ((bl a).size+(bl b).size):=by unfold Wm;rw[zu,zu];omega
theorem yQ(o:rY gl){n:Nm}(r:n.2.1.length<=4611686018427387904){R:Bt->Prop}(h:R (bl (j0 n))):PC Tp gl 63 [Arg.mk tN (ix n)] [.str] R:=by
 apply Va;refine r8 r ⟨λf=>?_,λf=>?_⟩;have:yg n=Tb:=by simpa using f
 have e:j0 n=[]:=by unfold j0;simp[this]
 grind;have i:yg n=Ta:=by simpa using f
 obtain⟨u,p,l⟩:=C9 i;unfold j0 at h;rw[zb i]at h;simp only[show(⟨#[]⟩:Bt)=bl []from rfl,ke];refine⟨λc=>?_,λc=>?_⟩;simp_all;rw[za (by simpa using c)]at h;intro K s;have key:∀t:Bs,t=(if n.1 then [45]else [])++n.2.1->K (bl t):=by
  intro t k;have q:t.length<=1001:=by rw[k];split <;> simp <;> omega
  rw[<-k]at h;refine s _ ⟨λb=>?_,λb=>?_⟩;rw[za (by simpa using b)]at h;have m:=Go.X.itoa_len n.2.2;refine Af o (by omega) (by omega) ?_;grind [um,rj];simp_all
 refine⟨λb=>⟨um (a:=[45]) (by simp;omega),?_⟩,λb=>?_⟩;simp_all[rj];simp_all
theorem Ou(f:rY gl){n:Int}(h1:-9223372036854775808<=n)(e:n<=9223372036854775807){R:Bool×Bt×Int->Prop}(h:R (ix (zw (Lib.itoa n)).1)):PC Tp gl 64 [Arg.mk (.int .i64) n] [tN] R:=by
 apply ZF;refine Af f h1 e (sN ?_ h);have:=Go.X.itoa_len n;have c:∀u:Nat,u<10 ^ 20->(Lib.decDigits u).length<=20:=by
  have:∀(k u:Nat),u<10 ^ (k+1)->(Lib.decDigits u).length<=k+1:=by
   intro k;induction k with
   |zero=>intro u b;rw[Lib.decDigits,dif_pos (by simpa using b)];simp
   |succ k i=>intro u b;rw[Lib.decDigits];grind
  exact this 19
 have:(Lib.itoa n).length<=21:=by unfold Lib.itoa;split;grind;grind
 omega
end
section
theorem Io{c:UInt8}{n:Int}(d:UInt8)(b:n=(d.toNat:Int)):((c.toNat:Int) != n)=!(c==d):=by subst b;rw[za7];simp only[bne_iff_ne,ne_eq,Int.natCast_inj,zd4,beq_eq_false_iff_ne];exact⟨λh e=>h (by rw[e]),λh e=>h (zdo.1 e)⟩
end
section
theorem Na{n:Int}(h1:0<=n)(c:n<256):zaa .u8 n=n:=by
 unfold zaa;have e:(2:Int) ^ zem .u8=256:=by decide
 simp only[e];have b:ze1 .u8=Tb:=rfl;grind
end
end Go.X
end
section
namespace Go.X
open Go Go.Proofs Go.Shelf Go.RowKit
section
def Ui:Go.Shelf.Ren:=⟨fun|196=>232|259=>281|n=>n,fun|9=>9|4=>4|3=>3|5=>5|12=>12|119=>264|0=>0|46=>244|139=>267|138=>266|53=>272|n=>n,fun|3=>0|4=>1|n=>n⟩
theorem SU:Go.Proofs.Lays.n196 Tp Ui:=by constructor <;> intros <;> kernel_rfl
open Go.RowKit Go.Lib in
theorem Vp(s:Bt)(w:World)(b:s.size<=9223372036854775807)(c:Lib.Utf8Tabs 0 1 w): Calls Tp 232 #[.string s] w λe w'=>e=.returned (.bool (Lib.validD s.data.toList))/\Below w.heap.size w w':=Any.utf8_ValidString SU s w b c
end
end Go.X
end
section
namespace Go.X
section
variable {l:Bs}
theorem oL{n:Int}{k:Nat}(b:n=(k:Int)):(bl l).extract n.toNat ((l.length:Int)).toNat=bl (l.drop k):=by subst b;rw[zao,zao,Ql,zcn (by simp)]
theorem JQ(l:Bs):Lib.validD l=gL l:=by
 by_cases h:l=[];subst h;rw[yB];rfl;rw[Lib.validD_step l h,vA h,Lib.decodeL_N,JQ (l.drop _)];have e:jW (dec l)=decide ((dec l).1=65533/\(dec l).2=1):=by unfold jW;rw[Bool.decide_and];rfl
 rw[e];by_cases c:(dec l).1=65533/\(dec l).2=1;rw[zD c];exact zb c;rw[zF c];exact za c
termination_by l.length
decreasing_by
 have h1:=Y7 l;have h2:0<l.length:=zbo.2 h;unfold dec at h1;simp only[zb2];omega
theorem Vd{gl:Fr}(c:Tabs gl)(e:l.length<=4611686018427387904){R:Bool->Prop}(h:R (gL l)):PC Tp gl 232 [Arg.mk .str (bl l)] [.bool] R:= PC.of_scal rfl (λ_=>v6 _) (by rw[<-JQ]at h;exact h) λw b=>Vp (bl l) w (by rw[zu];omega) (c.at b)
end
end Go.X
end
section
namespace Go.X
open Go Go.Lib
section
theorem Pg(l:Bs)(a:Nat):l.foldl (λn c=>10*n+(c.toNat-48)) a=a*10 ^ l.length+zz l:=by
 induction l generalizing a with
 |nil=>simp[zz]
 |cons c t b=>simp only[List.foldl_cons,zbi,zz];grind
theorem zQ(a b:Bs):zz (a++b)=zz a*10 ^ b.length+zz b:=by rw[zz,List.foldl_append,Pg];rfl
theorem zvz(n:Nat):zz (zd6 n 48)=0:=by
 induction n with
 |zero=>rfl
 |succ n b=>rw[List.replicate_succ];exact b
theorem Ej:∀(l:Bs) (b:Nat),l.all yq=Ta->b*10 ^ l.length+zz l<10 ^ 19->parseUintM (2 ^ 64-1) b l=.ok (b*10 ^ l.length+zz l)
 |[],b,_,_=>by simp[parseUintM,zz]
 |c::t,b,hd,hl=>by
  rw[zcx,zan]at hd
  have i:48<=c.toNat/\c.toNat<=57:=by simpa[yq]using hd.1
  have e:zz (c::t)=(c.toNat-48)*10 ^ t.length+zz t:=by
   have:=zQ [c] t
   rw[List.singleton_append]at this
   rw[this];simp[zz]
  have f:(b*10+(c.toNat-48))*10 ^ t.length+zz t=b*10 ^ (c::t).length+zz (c::t):=by
   rw[e,zbi,Nat.pow_succ,zc5,Nat.mul_assoc,Nat.mul_comm 10 (10 ^ t.length)];omega
  have h:1<=10 ^ t.length:=Nat.one_le_pow _ _ (by decide)
  have k:b*10+(c.toNat-48)<=b*10 ^ (c::t).length+zz (c::t):=by
   rw[<-f]
   calc b*10+(c.toNat-48)=(b*10+(c.toNat-48))*1:=by omega
    _<=(b*10+(c.toNat-48))*10 ^ t.length:=Nat.mul_le_mul_left _ h
    _<=_:=by omega
  rw[parseUintM,zb i,za (by omega),za (by omega),Ej t _ hd.2 (by omega),f]
def lp(n:Nm):Bs:=n.2.1++zd6 n.2.2.toNat 48
theorem UH(n:Nm):zz (lp n)=zz n.2.1*10 ^ n.2.2.toNat:=by rw[lp,zQ,zvz,List.length_replicate,zen]
theorem TI{n:Nm}(h:yg n=Ta):n.2.1.all yq=Ta:=by unfold yg mV at h;rcases zcw _ _ ▸ h with h|h;simp_all;simp only[zan]at h;exact uP h.1.1.1.1.1
theorem TY{n:Nm}(h:yg n=Ta):(lp n).all yq=Ta:=by rw[lp,zei,TI h,zcq,zas];intro x b;rw[List.mem_replicate]at b;rw[b.2];rfl
theorem qah{l:Bs}(neg:Bool)(b:l.all yq=Ta)(h:l.length<=19)(e:l≠[]):
  parseIntB 64 ((if neg then [45]else [])++l)=if neg then(if zz l<=9223372036854775808 then .ok (-(zz l:Int))else .range)else(if zz l<=9223372036854775807 then .ok (zz l:Int)else .range):=by
 have i:zz l<10 ^ 19:=sH h b;have f:=Ej l 0 b (by omega);rw[Nat.zero_mul,za5]at f;cases neg with
 |true=>simp only[if_true,List.singleton_append];unfold parseIntB;simp only[show(45:UInt8).toNat=45 from rfl,or_true,if_true];unfold parseUintB;grind
 |false=>
  simp only[zcc,if_false,zco];obtain⟨c,t,rfl⟩:=zb3 e;have k:48<=c.toNat/\c.toNat<=57:=by rw[zcx,zan]at b;simpa[yq]using b.1
  unfold parseIntB;simp only;rw[za (by omega)];unfold parseUintB;grind
end
section
variable {v x:Tr} {l:List Tr} {k:Nat}
mutual
def bR:Tr->Nat | .mk _ _ _ xs=>1+Z0 xs
def Z0:List Tr->Nat | []=>0|x::l=>bR x+Z0 l
end
mutual
def bK:Tr->Nat | .mk _ _ _ xs=>Jp xs+1
def Jp:List Tr->Nat | []=>0|x::l=>max (bK x) (Jp l)
end
mutual
def j7(p:Tr->Bool):Tr->Bool | .mk k s ks xs=>p (.mk k s ks xs)&&lE p xs
def lE(p:Tr->Bool):List Tr->Bool | []=>Ta|x::l=>j7 p x&&lE p l
end
mutual
def iE(m:Nat):Tr->Prop | .mk _ s ks xs=>(s.size<=m/\ks.length<=m/\∀k∈ks,k.size<=m)/\i6 m xs
def i6(m:Nat):List Tr->Prop | []=>True|x::l=>iE m x/\i6 m l
end
theorem Y9(v:Tr):bR v=1+Z0 v.items:=by cases v;rw[bR]
theorem W8(v:Tr):bK v=Jp v.items+1:=by cases v;rw[bK]
theorem y9(p:Tr->Bool)(v:Tr):j7 p v=(p v&&lE p v.items):=by cases v;rw[j7]
theorem mw(m:Nat)(v:Tr):iE m v↔(v.text.size<=m/\v.keys.length<=m/\∀k∈v.keys,k.size<=m)/\i6 m v.items:=by cases v;rw[iE]
theorem ov{m:Nat}:∀{l:List Tr},i6 m l↔∀x∈l,iE m x
 |[]=>by simp[i6]
 |x::l=>by rw[i6,ov];simp
theorem YK{m:Nat}(h:iE m v)(b:x∈v.items):iE m x:=ov.1 ((mw m v).1 h).2 x b
theorem j8(p:Tr->Bool):∀l:List Tr,lE p l=l.all (j7 p)
 |[]=>rfl
 |x::l=>by rw[lE,j8 p l];rfl
theorem CJ:∀a b:List Tr,Z0 (a++b)=Z0 a+Z0 b
 |[],b=>by simp[Z0]
 |x::l,b=>by rw[zby,Z0,Z0,CJ l b];omega
theorem I5:∀a b:List Tr,Jp (a++b)=max (Jp a) (Jp b)
 |[],b=>by simp[Jp]
 |x::l,b=>by rw[zby,Jp,Jp,I5 l b];omega
theorem Fa{x:Tr}:∀{l:List Tr},x∈l->bR x<=Z0 l
 |y::l,h=>by rw[Z0];rcases zah.1 h with rfl|h;omega;have:=Fa h;omega
theorem yl(h:x∈v.items):bR x<bR v:=by have:=Fa h;rw[Y9 v];omega
theorem J4:∀l:List Tr,l.length<=Z0 l
 |[]=>by simp[Z0]
 |x::l=>by have:=J4 l;rw[Z0,zbi,Y9];omega
theorem Ja(v:Tr):0<bR v:=by rw[Y9];omega
theorem Ow(b:k<l.length):Z0 (l.take (k+1))=Z0 (l.take k)+bR l[k]:=by rw[zar b,CJ];simp[Z0]
theorem RH(b:k<l.length):Jp (l.take (k+1))=max (Jp (l.take k)) (bK l[k]):=by rw[zar b,I5];simp[Jp]
mutual
theorem qnv:∀v:Tr,bK v<=bR v
 |.mk _ _ _ xs=>by rw[bK,bR];have:=xB xs;omega
theorem xB:∀l:List Tr,Jp l<=Z0 l
 |[]=>by simp[Jp]
 |x::l=>by rw[Jp,Z0];have:=qnv x;have:=xB l;omega
end
def xn(ks:List Bt):Bool:=ks.all (λk=>gL (lb k))&&decide ks.Nodup
def iy(s:Bs):Nm×Bool:=((zw s).1,(zw s).2==0&&decide (j0 (zw s).1=s))
def AE(s:Bs):Bool:=(iy s).2&&(oD (iy s).1).2&&decide (0<=(oD (iy s).1).1)
def zh(v:Tr):Bool:=
 if v.kind=1 then lb v.text==[]&&v.keys.isEmpty&&v.items.isEmpty
 else if v.kind=2 then(lb v.text==[116,114,117,101]||lb v.text==[102,97,108,115,101])&&v.keys.isEmpty&&v.items.isEmpty
 else if v.kind=3 then(iy (lb v.text)).2&&v.keys.isEmpty&&v.items.isEmpty
 else if v.kind=4 then gL (lb v.text)&&v.keys.isEmpty&&v.items.isEmpty
 else if v.kind=5 then lb v.text==[]&&v.keys.isEmpty
 else if v.kind=6 then xn v.keys&&decide (v.keys.length=v.items.length)&&lb v.text==[]
 else if v.kind=7 then AE (lb v.text)&&v.keys.isEmpty&&v.items.isEmpty
 else Tb
def Z1(v:Tr):Bool:=decide (bR v<=4096)&&decide (bK v<=32)
def jw(v:Tr):Bool:=Z1 v&&j7 zh v
def zy(v:Tr):Bool:=Z1 v&&j7 (λx=>decide (x.kind≠7)&&zh x) v
structure Sm (v:Tr):Prop where
 sz:bR v<=1000000000000
 tx:iE 1048576 v
theorem Sm.item(h:Sm v)(b:x∈v.items):Sm x:=⟨by have:=yl b;have:=h.sz;omega,YK h.tx b⟩
theorem Sm.text(h:Sm v):(lb v.text).length<=1048576:=by rw[qB];exact((mw _ v).1 h.tx).1.1
theorem Sm.key(h:Sm v){k:Bt}(b:k∈v.keys):(lb k).length<=1048576:=by rw[qB];exact((mw _ v).1 h.tx).1.2.2 k b
theorem Sm.keys(h:Sm v):v.keys.length<=1048576:=((mw _ v).1 h.tx).1.2.1
theorem Sm.items(h:Sm v):v.items.length<=1000000000000:=by have:=J4 v.items;have:=h.sz;rw[Y9]at this;omega
end
end Go.X
end
section
namespace Go.X
section
variable {gl:Fr} {l:Bs} {R:Bool -> Prop}
theorem Fu(r:Tabs gl)(x:l.length<=4611686018427387904){R:Int×Bool->Prop}(h:∀k,R (k,gL l)):PC Tp gl 174 [Arg.mk .str (bl l)] [.int .i64,.bool] R:=by
 apply PY;refine Vd r x ⟨λs=>?_,λs=>?_⟩;simp_all;refine⟨λp=>p.1=bl l/\p.2<=l.length/\gL (l.drop p.2)=Tb,λp=>l.length-p.2,⟨rfl,by omega,by simpa using s⟩,?_⟩;rintro⟨_,p⟩ ⟨rfl,u,f⟩;simp only at u f ⊢;rw[sF,uc];refine⟨λi=>⟨i,i,λy=>?_,λy=>⟨?_,?_⟩⟩,λi=>?_⟩;have c:p<l.length:=by simpa using i
 have b:l.drop p≠[]:=λe=>by simp_all;omega
 have m:jW (dec (l.drop p))=Tb:=by
  unfold jW;have:¬(dec (l.drop p)).1=65533:=λe=>by simp_all
  simp[this]
 rw[vA b,m]at f;simp only[zcc,if_false,zdb]at f;rw[oU l p c];have w:=Y7 (l.drop p);have n:=xM b;grind;simp_all[zu];have c:p<l.length:=by simpa using i
 have b:l.drop p≠[]:=λe=>by simp_all;omega
 rw[zu,oL (k:=p) rfl];refine E2 r ?_;have q:(bl (l.drop p)).size≠0:=by rw[zu];simp;omega
 have t:Lib.decodeGo (bl (l.drop p))=dec (l.drop p):=by unfold Lib.decodeGo;rw[za q,vH,yo,zc2]
 rw[t];refine⟨λo=>?_,λo=>?_⟩;simp_all;have m:jW (dec (l.drop p))=Tb:=by
  unfold jW;have:¬(dec (l.drop p)).2=1:=λe=>by simp_all
  simp[this]
 rw[vA b,m]at f;simp only[zcc,if_false,zdb]at f;rw[oU l p c];have w:=Y7 (l.drop p);have n:=xM b;grind;simp_all[zci,yB]
theorem Mb(b:Tabs gl)(c:l.length<=4611686018427387904)(h:R (gL l)):PC Tp gl 113 [Arg.mk .str (bl l)] [.bool] R:=by apply Vb;exact Fu b c λk=>h
theorem D9(b:Tabs gl)(c:l.length<=4611686018427387904)(h:R (gL l)):PC Tp gl 103 [Arg.mk .str (bl l)] [.bool] R:=by apply Rz;exact Fu b c λk=>h
structure GL (gl:Fr):Prop where
 tabs:Tabs gl
 pow:rY gl
 max:FV gl
 err:vf gl
theorem Zn(s:Bs)(h:s.length<=1152921504606846976):(zw s).1.2.1.length<=4611686018427387904:=by
 unfold zw;split;simp;rename_i x c;have h1:=IB c;split;simp;split;simp;simp only;generalize (if x.low=Ta then-(zz (x.exp.dropWhile (· == 48)):Int)else zz (x.exp.dropWhile (· == 48)))=e;split;simp;rename_i b;have f:(Qm (x.whole++x.rest)).length<=(x.whole++x.rest).length:=by unfold Qm;rw[List.length_reverse];refine zbx (Zz _ _) ?_;rw[List.length_reverse];exact Zz _ _
 grind
theorem Jb(f:GL gl){s:Bs}(b:s.length<=1152921504606846976){R:(Bool×Bt×Int)×Bool->Prop}(h:R (ix (iy s).1,(iy s).2)):PC Tp gl 102 [Arg.mk .str (bl s)] [tN,.bool] R:=by
 apply zkr;refine sN b ?_;refine⟨λt=>t=bl (j0 (zw s).1),λ_=>yQ f.pow (Zn s b) rfl,λr c=>?_⟩;have e:(bif ((zw s).2==0)then(r.toList==(bl s).toList)else Tb)=(iy s).2:=by
  unfold iy;cases hc:((zw s).2==0)with
  |false=>rfl
  |true=>rw[c hc,zH,ke];rfl
 simp only at e ⊢;rw[e];exact h
theorem MK(n:Nat):Lib.repeatL [48] n=zd6 n 48:=by
 induction n with
 |zero=>rfl
 |succ n b=>rw[Lib.repeatL,b];rfl
theorem EB(x:GL gl){n:Nm}(B:n.2.1.length<=4611686018427387904){R:Int×Bool->Prop}(h:R (oD n)):PC Tp gl 175 [Arg.mk tN (ix n)] [.int .i64,.bool] R:=by
 apply Ot;refine r8 B ?_;unfold oD at h;cases hr:yg n with
 |false=>rw[hr]at h;exact⟨λ_=>by simpa using h,λl=>by simp at l⟩
 |true=>
  obtain⟨C,A,z⟩:=C9 hr;rw[hr]at h;simp only[zcq]at h;simp only[zu];rw[im (by omega)];refine⟨λl=>?_,λl=>?_⟩;grind;have u:0<=n.2.2/\(n.2.1.length:Int)+n.2.2<=19:=by simp at l;omega
  rw[zb (by simp;omega)]at h;rw[<-UH]at h;obtain⟨e,r⟩:∃e:Nat,n.2.2=(e:Int):=⟨n.2.2.toNat,by omega⟩;show PC Tp gl 234 [Arg.mk .str (bl [48]),Arg.mk (.int .i64) n.2.2] [.str] _;rw[r];refine SX (by omega) (by rw[zu];simp;omega) ?_;rw[yo,MK,rj];have i:n.2.1++zd6 e 48=lp n:=by rw[lp,r,zao]
  have k:(lp n).length<=19:=by rw[<-i];simp;omega
  have p:=TY hr;rw[i];refine⟨um (a:=n.2.1) (by grind),?_⟩;rw[show(⟨#[]⟩:Bt)=bl []from rfl,show(⟨#[45]⟩:Bt)=bl [45]from rfl];simp only[rj];intro K y;have key:∀t:Bs,t=(if n.1 then [45]else [])++lp n->K (bl t):=by
   intro t c;refine y _ ⟨λhz=>?_,λhz=>?_⟩;have o:t=[]:=by have:=ke t [];rw[this]at hz;simpa using hz
   rw[o]at c;have f:n.1=Tb:=by cases hb:n.1 <;> simp[hb]at c;rfl
   have b:lp n=[]:=by simp[f]at c;exact c
   rw[f,b]at h;exact h;have w:t≠[]:=by intro e;rw[e,ke]at hz;simp at hz
   refine LR x.err (by grind [zu]) ?_;rw[yo,c];have b:lp n≠[]:=by
    intro q;cases hb:n.1 with
    |false=>simp_all
    |true=>
     have s:n.2.1=[]:=by rw[lp]at q;exact(List.append_eq_nil_iff.1 q).1
     have:=R4 hr s;unfold mV at this;simp_all
   unfold xX;rw[qah n.1 p k b];grind
  refine⟨λm=>⟨um (a:=[45]) (by simp;omega),?_⟩,λm=>?_⟩;simp_all;simp_all
end
end Go.X
end
section
namespace Go.Proofs.YtjkbohnbckpmdaaGreatDoor
open Go Go.X Go.ChangeShapes Go.WideShapes Go.ChangeAt Go.RowKit Go.Lib
open Go.ChangeMaps (open_string shut_string)
set_option linter.all false
section
variable {H:Type} {g:Nat} {t:TypeId}
theorem Tryz.own:ownKnob za3.godebug=none:=by kernel_rfl
theorem Tryz.laidOut:laidOutB za3=true:=by kernel_rfl
theorem x6{enc:TypeId×Value->H}{a:Assume}{C:Checked}{os:Os}{f:FuncId}{fn:Func}{s:ChangeSpec}{o:List PathCond}{apart m h l:Bool}{X:World->Array Value->Prop} (L:∀(w w':World) (args:Array Value),w.heap=w'.heap->X w args->X w' args) (own:ownKnob C.prog.godebug=none) (n:os.Started) (q:C.prog.inits.idxOf? f=none) (G:C.prog.funcs[f]?=some fn) (p:∃(w:World) (b:Tape) (i:Input),w.os=os/\(w.forCall b i).Shaped C.prog/\i.vars=[]/\Input.okWide C.prog (w.forCall b i) .any w.heap.size f i /\ ((s.pre enc C.prog fn o apart (w.forCall b i).memory i.args/\X (w.forCall b i).memory i.args)/\sizedMet enc C.prog fn (OpenSpec.ofChange s) apart (w.forCall b i).memory i.args)/\a.holds C.prog (lone (Frame.enter C.prog f i.args .normal) [] (w.forCall b i))) (k:∀(W:World) (base:Nat) (args:Array Value) (z y:List (DataW H)) (c:List MemPlace),(∀(j:Nat) t v,fn.params[j]?=some t->args[j]?=some v->Value.okWide C.prog W .any base t v) -> DataW.Whole enc C.prog fn.params.toList s.vars apart W args.toList z y c -> (DataW.weightsEach C.prog (fn.params.toList++s.plain.varTypes C.prog) (z++y)).all (·<=reachBytes)=true -> X W args->W.ShapedOpen C.prog -> Calls C.prog f args W λe I=>∃v,e=.returned v/\s.post enc C.prog fn apart m h l W args v I):
  ReturnsInHanded a C os f .any (λw args=>(s.pre enc C.prog fn o apart w args/\X w args)/\sizedMet enc C.prog fn (OpenSpec.ofChange s) apart w args) (s.post enc C.prog fn apart m h l):=by
 refine returnsInHanded_of_calls own n q p ?_;intro w b i _ E _ D x A;obtain⟨_,_,_,F,u,_,_,_,_,r⟩:=D;have e:F=fn:=za6 (u.symm.trans G);subst e;obtain⟨⟨⟨z,y,c,J,P⟩,N⟩,hz⟩:=x;have B:=DataW.Whole.of_heap (w':=w.forCall b i) (by rfl) J;refine(k (w.forCall b i) w.heap.size i.args z y c r B (hz.weights J) (L _ _ _ (by rfl) N) E).mono λe I ⟨v,O,M⟩=>?_;subst O;exact ChangeSpec.post_blind M
theorem JP{P:Program}{W:World}{n:String}{k:IntKind}{o:List Int}{t e:TypeId}{m:Nat}(q:P.globalNamed n=some g)(s:(P.globals[g]?).map (·.type)=some t)(u:P.underlying t=some (.array m e))(w:P.underlying e=some (.int k))
  (c:P.cellsOf e=1) (l:P.cellsOf t=m) (h:VarReads P W n (tabData k o)):∃cs:Array Value,Fz W g=some cs/\cs.toList=o.map λz=>zez k z:=by
 obtain⟨g',t',cs,fuel,p,i,f,b,r⟩:=h;obtain rfl:=za6 (q.symm.trans i);obtain rfl:=za6 (s.symm.trans f);exact⟨cs,Fz.var q b,cells_of_tab u w c l r⟩
theorem MD{W : World}(h : VarReads Tryz.prog W "unicode/utf8.first" Pinned.utf8First): ∃ cs : Array Value, Fz W 0 = some cs ∧ ∀ c, c < 256 → cs[c]? = some (.int .u8 (Lib.firstT c)) := by rw[Pinned.utf8First_eq]at h;obtain⟨cs,h1,h2⟩:=JP (g:=0) (t:=264) (e:=5) (m:=256) (by kernel_rfl) (by kernel_rfl) (by kernel_rfl) (by kernel_rfl) (by kernel_rfl) (by kernel_rfl) h;refine⟨cs,h1,λc hc=>?_⟩;rw[<-Array.getElem?_toList,h2];simp[firstTab,hc]
theorem Uc{W : World}(h : VarReads Tryz.prog W "unicode/utf8.acceptRanges" acceptData): ∃ cs : Array Value, Fz W 1 = some cs ∧ ∀ i, i < 16 → cs[2 * i]? = some (.int .u8 (Lib.accLo i)) ∧ cs[2 * i + 1]? = some (.int .u8 (Lib.accHi i)) := by
 obtain⟨g,t,cs,fuel,p,hg,hty,hvar,hd⟩:=h;obtain rfl := Option.some.inj ((show Tryz.prog.globalNamed "unicode/utf8.acceptRanges" = some 1 by kernel_rfl).symm.trans hg);obtain rfl:=Option.some.inj ((show(Tryz.prog.globals[1]?).map (·.type)=some 267 by kernel_rfl).symm.trans hty);refine⟨cs,Fz.var hg hvar,λi hi=>?_⟩;obtain⟨fuel',d,q,hdi,he⟩:=array_elem (show Tryz.prog.underlying 267=some (.array 16 266)by kernel_rfl) hd i hi;simp only[List.getElem?_map,List.getElem?_range hi,Option.map_some,Option.some.injEq]at hdi;subst hdi;have hc:Tryz.prog.cellsOf 266=2:=by kernel_rfl
 have c5:za3.cellsOf 5=1:=by kernel_rfl
 have u5:za3.underlying 5=some (.int .u8):=by kernel_rfl
 rw[hc]at he;have hcs:=ints_of_struct Tryz.underlying266 (λj f hj=>by
  match j,hj with
  |0,hj=>simp at hj;subst hj;exact⟨u5,rfl,c5⟩
  |1,hj=>simp at hj;subst hj;exact⟨u5,rfl,c5⟩
  |j+2,hj=>simp at hj) (by rw[hc];rfl) he
 have e0:=congrArg (·[0]?) hcs;have e1:=congrArg (·[1]?) hcs;simp only[zba,zbs]at e0 e1;constructor;rw[<-zb7];simpa[Nat.mul_comm]using e0;rw[<-zb7];simpa[Nat.mul_comm]using e1
theorem qnw{W : World}{d : DataW Unit}(hd : d = tabData .u64 Lib.pow10Tab)(h : VarReads Tryz.prog W "internal/strconv.uint64pow10" d): rY (Fz W) := by subst hd;obtain⟨cs,h1,h2⟩:=JP (g:=3) (t:=313) (e:=272) (m:=20) (by kernel_rfl) (by kernel_rfl) (by kernel_rfl) (by kernel_rfl) (by kernel_rfl) (by kernel_rfl) h;exact⟨_,cs,by kernel_rfl,h1,by rw[<-h2]⟩
theorem GG{W:World}{n:String}{ms:Array (String×TypeId)}{o:String}{d:DataW Unit}(k:za3.globalNamed n=some g)(r:(za3.globals[g]?).map (·.type)=some t)(q:za3.underlying t=some (.interface ms))(h:VarReads za3 W n (.iface o d)):
  ∃(cs:Array Value) (e:Value),Fz W g=some cs/\cs[0]?=some e/\(e=.nilIface\/∃m s,e=.iface m s):=by
 obtain⟨g',t',cs,fuel,p,i,c,b,l⟩:=h;obtain rfl:=za6 (k.symm.trans i);obtain rfl:=za6 (r.symm.trans c);obtain⟨w,u,v,f,_,_⟩:=iface_of_trod q l;exact⟨cs,.iface u v,Fz.var k b,by rw[<-zb7,f];rfl,.inr ⟨u,v,rfl⟩⟩
theorem LJ{W:World}(h:W.ShapedOpen za3):FV (Fz W):=by obtain⟨m,f⟩:=cell_of_shapedOpen_int (P:=za3) (g:=2) (t:=3) (zero:=#[.int .i64 0]) (k:=.i64) h (by decide +kernel) (by kernel_rfl) rfl (by kernel_rfl) (by kernel_rfl) (by kernel_rfl);obtain⟨b,o,c,e,h1,i⟩:=Fz.cell f;cases e;exact⟨c,m,h1,i⟩
def jI:List (String×DataW Unit):=Rows.schemaOrdersRow.laid
theorem BY{W:World}(h:laidMetH za3 jI W)(f:W.ShapedOpen za3):GL (Fz W):=by
 have c:laidMet za3 jI W:=by rw[MakeChecks.laidMetH_plain _ _ _ (by kernel_rfl)]at h;exact h
 have b:∀(i:Nat) (n:String) (d:DataW Unit),jI[i]?=some (n,d)->VarReads za3 W n d:=λi n d e=>Go.Lib.laidMet.reads c (zbv e);exact {
  tabs:=⟨MD (b 6 _ _ rfl),Uc (by
   have e:(Rows.laid_unicode_utf8_acceptRanges:DataW Unit)=acceptData:=by kernel_rfl
   rw[<-e];exact b 3 _ _ rfl)⟩
  pow:=qnw (by kernel_rfl) (b 2 _ _ rfl)
  max:=LJ f
  err:=⟨GG (g:=4) (t:=90) (by kernel_rfl) (by kernel_rfl) Tryz.underlying90 (b 5 _ _ rfl),GG (g:=5) (t:=90) (by kernel_rfl) (by kernel_rfl) Tryz.underlying90 (b 4 _ _ rfl)⟩ }
noncomputable def sh(os:Os):World:=World.laidAll za3 os jI
theorem CG(os:Os)(args:Array Value):((sh os).forCall (λ_ _=>0) ⟨#[],args,[]⟩).Shaped za3:=World.shaped_of_ZipB (by kernel_rfl) (by kernel_rfl)
theorem CY(os:Os)(args:Array Value):laidMetH za3 jI ((sh os).forCall (λ_ _=>0) ⟨#[],args,[]⟩).memory:=by rw[MakeChecks.laidMetH_plain _ _ _ (by kernel_rfl)];exact laidMet_laidAll _ (by kernel_rfl) (by kernel_rfl)
theorem oo{enc:TypeId×Value->H}{W:World}{sp:Nat->Bool}{held:Bool}(fuel:Nat)(cs:List Value)(x:DataW H×List MemPlace)(h:DataW.trod enc za3 W 0 sp held fuel 25 cs=some x)(b:nw za3 25 x.1):∃t:Tr,Rd (Fz W) .tree t cs:= Oi (tk:=3) (ts:=9) (tss:=22) (tvs:=23) Tryz.underlying25 (by kernel_rfl) ⟨rfl,rfl,rfl,rfl,rfl,rfl,rfl,rfl⟩ (by kernel_rfl) (by kernel_rfl) (by kernel_rfl) (by kernel_rfl) (by kernel_rfl) (by kernel_rfl) (by kernel_rfl) (by kernel_rfl) (by decide +kernel) (by decide +kernel) fuel cs x h b
theorem nN{ts:List TypeId}{b:List (DataW H)}(h:(DataW.weightsEach za3 ts b).all (·<=reachBytes)=true){j:Nat}{d:DataW H}(e:ts[j]?=some t)(c:b[j]?=some d):nw za3 t d:=λn f=>by have:=zas.1 h n (DataW.weights_mem_each e c n f);simpa using this
end
end Go.Proofs.YtjkbohnbckpmdaaGreatDoor
end
section
namespace Go.X
section
variable {gl:Fr} {R:Bool -> Prop}
theorem qkk(c:GL gl){s:Bs}(b:s.length<=1152921504606846976)(h:R (AE s)):PC Tp gl 104 [Arg.mk .str (bl s)] [.bool] R:=by apply VI;refine Jb c b (EB c (n:=(iy s).1) (Zn s b) ?_);simp only[Bool.cond_false_right];exact h
theorem xb(v:Tr):Tr.mk v.kind v.text v.keys v.items=v:=by cases v;rfl
theorem tj{l:List Tr}{k:Nat}(h:k<l.length):l[((k:Int)).toNat]?=Tc l[k]:=by simp
theorem Gf{gl:Fr}(v:Tr)(r:bR v<=1000000000000){R:Int->Prop}(h:R (bR v:Int)):PC Tp gl 47 [Arg.mk .tree v] [.int .i64] R:=by
 apply MP;have e:=J4 v.items;have o:=Y9 v;refine⟨λn i=>∃k:Nat,i=k/\k<=v.items.length/\n=((1+Z0 (v.items.take k):Nat):Int),λ_ i=>v.items.length-i.toNat,⟨0,rfl,by omega,by simp[Z0]⟩,?_⟩;rintro n i ⟨k,rfl,q,rfl⟩;refine⟨λc=>?_,λc=>?_⟩;have b:k<v.items.length:=by simp at c;omega
 refine⟨v.items[k],⟨by omega,tj b⟩,?_⟩;rw[xb];have l:v.items[k]∈v.items:=zay b;have f:=yl l;have m:Z0 (v.items.take (k+1))<=Z0 v.items:=by have:=CJ (v.items.take (k+1)) (v.items.drop (k+1));rw[zce]at this;omega
 have p:=Ow b;refine Gf (v.items[k]) (by omega) ?_;rw[Ze b (by omega),im (by omega)];grind;grind
termination_by bR v
theorem oZ{gl:Fr}(v:Tr)(s:bR v<=1000000000000){R:Int->Prop}(h:R (bK v:Int)):PC Tp gl 26 [Arg.mk .tree v] [.int .i64] R:=by
 apply YH;have e:=J4 v.items;have p:=Y9 v;have f:=xB v.items;have o:=W8 v;refine⟨λn i=>∃k:Nat,i=k/\k<=v.items.length/\n=((Jp (v.items.take k):Nat):Int),λ_ i=>v.items.length-i.toNat,⟨0,rfl,by omega,by simp[Jp]⟩,?_⟩;rintro n i ⟨k,rfl,r,rfl⟩;refine⟨λc=>?_,λc=>?_⟩;have b:k<v.items.length:=by simp at c;omega
 refine⟨v.items[k],⟨by omega,tj b⟩,?_⟩;rw[xb];have m:v.items[k]∈v.items:=zay b;have l:=yl m;have q:=RH b;refine oZ (v.items[k]) (by omega) ?_;rw[Ze b (by omega)];refine⟨⟨k+1,rfl,by omega,?_⟩,by grind⟩;omega;grind [im]
termination_by bR v
theorem Lq{v:Tr}(b:Sm v)(h:R (Z1 v)):PC Tp gl 59 [Arg.mk .tree v] [.bool] R:=by
 apply zor;rw[xb];refine Gf v b.sz ⟨λr=>r=(bK v:Int),λ_=>oZ v b.sz rfl,λr c=>?_⟩;have e:(bif decide ((bR v:Int)<=4096)then decide (r<=32)else Tb)=Z1 v:=by
  unfold Z1;cases hc:decide ((bR v:Int)<=4096)with
  |false=>grind
  |true=>grind
 rw[e];exact h
end
section
theorem ML(w:Sl)(x:Int)(h:zc)(R:Value->zc->Prop) (H:let b:=h.push (.map #[] 0);∃(c:Int->zc->Prop) (d:Int->zc->Nat),c 0 b/\∀e:Int,∀f:zc,c e f->((decide (e<w.len)=Ta->∃g,(w.a=Tc g/\0<=e/\e<w.len)/\∃i,zf f (g.add (e.toNat*1))=Tc (.string i)/\∃j,QExec Tp (zd1 105 (.map (Tc h.size)) (.string i) Tb) f (.bool j)/\∃k:Value->zc->Prop,((!j)=Ta->XC Tp 103 #[.string i] f (λl m=>∃n,l=.bool n/\k (.bool n) m))/\((!j)=Tb->∃o,k (.bool o) f)/\((!j)=Ta->∀p q,k p q->∃r,p=.bool r)/\∀s:Bool,∀t,k (.bool s) t->((bif j then Ta else(!s))=Ta->R (.bool Tb) t)/\((bif j then Ta else(!s))=Tb->XRunU Tp (zc7 105 (.map (Tc h.size)) (.string i) (.bool Ta)) t (λu=>(c (zaa .i64 (e+1)) u/\d (zaa .i64 (e+1)) u<d e f))))/\(decide (e<w.len)=Tb->R (.bool ((w.len:Int)==x)) f))):
  XC Tp 101 #[.slice w.a w.len w.cap,.int .i64 x] h R:=
 XF ⟨[],[(3,[(13,.one (.int .i64))])],[]⟩ [.tmp 4] 32 Tryz.func101 H
theorem wu(k:Sl)(f:FuncId)(e:Array Value)(i:Array Value)(h:zc)(R:Value->zc->Prop) (H:XC Tp 173 #[aK k,.func (.func f) e i] h (λb c=>∃d,b=iV d/\R (.bool (decide (d>=0))) c)):
  XC Tp 99 #[.slice k.a k.len k.cap,.func (.func f) e i] h R:=
 XF ⟨[],[],[]⟩ [.tmp 4] 9 Tryz.func99 H
theorem xe(p:Sl)(o:FuncId)(q:Array Value)(r:Array Value)(h:zc)(R:Value->zc->Prop) (H:∃(b:Int->zc->Prop) (c:Int->zc->Nat),b 0 h/\∀d:Int,∀e:zc,b d e->((decide (d<p.len)=Ta->∃f,(p.a=Tc f/\0<=d/\d<p.len)/\∃g i j k,zd e (f.add (d.toNat*4)) 0 (tL g i j k)/\zo Tp o=Ta/\XC Tp o (q++#[tA g i j k]++r) e (λl m=>∃n,l=.bool n/\(n=Ta->R (iV d) m)/\(n=Tb->(b (zaa .i64 (d+1)) m/\c (zaa .i64 (d+1)) m<c d e))))/\(decide (d<p.len)=Tb->R (iV (-1)) e))):
  XC Tp 173 #[.slice p.a p.len p.cap,.func (.func o) q r] h R:=
 XF ⟨[],[(2,[(8,.one (.int .i64))])],[]⟩ [.tmp 4] 19 Tryz.func173 H
theorem U1(b:Int)(c:Bt)(d:Sl)(e:Sl)(p:Addr)(h:zc)(R:Value->zc->Prop) (H:let f:=h.push (.cells #[iV b,.string c,aK d,aK e] 25);∃g i j k,zd f ⟨h.size,0,Td⟩ 0 (tL g i j k)/\∃l:Value,zf f p=Tc l/\XC Tp 60 #[tA g i j k,l] f (λm n=>∃o,m=.bool o/\R (.bool (!o)) n)):
  XC Tp 100 #[.agg #[.int .i64 b,.string c,.slice d.a d.len d.cap,.slice e.a e.len e.cap],.pointer (Tc p)] h R:=
 XF ⟨[],[],[]⟩ [.tmp 3] 8 Tryz.func100 H
theorem zo6(b:Int)(c:Bt)(d:Sl)(e:Sl)(E:FuncId)(D:Array Value)(F:Array Value)(h:zc)(R:Value->zc->Prop) (H:let f:=h.push (.cells #[iV b,.string c,aK d,aK e] 25);let g:=f.push (.cells #[.func (.func E) D F] 36);∃i:Value,zf g ⟨f.size,0,Td⟩=Tc i/\∃j k l m,zd g ⟨h.size,0,Td⟩ 0 (tL j k l m)/\po Tp i #[tA j k l m] (λn o=>XC Tp n o g (λp q=>∃r,p=.bool r/\∃s,(r=Ta->zf q (zae ⟨h.size,0,Td⟩ 3)=Tc (aK s))/\∃t:Value->zc->Prop,(r=Ta->XC Tp 99 #[aK s,.func (.func 100) #[] #[.pointer (Tc ⟨f.size,0,Td⟩)]] q (λu v=>∃w,u=.bool w/\t (.bool w) v))/\(r=Tb->∃x,t (.bool x) q)/\(r=Ta->∀y z,t y z->∃A,y=.bool A)/\∀B:Bool,∀C,t (.bool B) C->R (.bool (bif r then(!B)else Tb)) C))):
  XC Tp 60 #[.agg #[.int .i64 b,.string c,.slice d.a d.len d.cap,.slice e.a e.len e.cap],.func (.func E) D F] h R:=
 XF ⟨[],[],[]⟩ [.tmp 4] 15 Tryz.func60 H
theorem zsl(b:Int)(c:Bt)(d:Sl)(e:Sl)(h:zc)(R:Value->zc->Prop) (H:let f:=h.push (.cells #[iV b,.string c,aK d,aK e] 25);∃g i j k,zd f ⟨h.size,0,Td⟩ 0 (tL g i j k)/\XC Tp 59 #[tA g i j k] f (λl m=>∃n,l=.bool n/\∃o p q r,(n=Ta->zd m ⟨h.size,0,Td⟩ 0 (tL o p q r))/\∃s:Value->zc->Prop,(n=Ta->XC Tp 60 #[tA o p q r,.func (.func 62) #[] #[]] m (λt u=>∃v,t=.bool v/\s (.bool v) u))/\(n=Tb->∃w,s (.bool w) m)/\(n=Ta->∀x y,s x y->∃z,x=.bool z)/\∀A:Bool,∀B,s (.bool A) B->R (.bool (bif n then A else Tb)) B)):
  XC Tp 65 #[.agg #[.int .i64 b,.string c,.slice d.a d.len d.cap,.slice e.a e.len e.cap]] h R:=
 XF ⟨[],[],[]⟩ [.tmp 2] 9 Tryz.func65 H
theorem xu(k:Sl)(f:FuncId)(e:Array Value)(i:Array Value)(h:zc)(R:Value->zc->Prop) (H:XC Tp 184 #[aK k,.func (.func f) e i] h (λb c=>∃d,b=iV d/\R (.bool (decide (d>=0))) c)):
  XC Tp 111 #[.slice k.a k.len k.cap,.func (.func f) e i] h R:=
 XF ⟨[],[],[]⟩ [.tmp 4] 9 Tryz.func111 H
theorem Z2(m:Sl)(l:FuncId)(n:Array Value)(o:Array Value)(h:zc)(R:Value->zc->Prop) (H:∃(b:Int->zc->Prop) (c:Int->zc->Nat),b 0 h/\∀d:Int,∀e:zc,b d e->((decide (d<m.len)=Ta->∃f,(m.a=Tc f/\0<=d/\d<m.len)/\∃g,zf e (f.add (d.toNat*1))=Tc (.string g)/\zo Tp l=Ta/\XC Tp l (n++#[.string g]++o) e (λi j=>∃k,i=.bool k/\(k=Ta->R (iV d) j)/\(k=Tb->(b (zaa .i64 (d+1)) j/\c (zaa .i64 (d+1)) j<c d e))))/\(decide (d<m.len)=Tb->R (iV (-1)) e))):
  XC Tp 184 #[.slice m.a m.len m.cap,.func (.func l) n o] h R:=
 XF ⟨[],[(2,[(8,.one (.int .i64))])],[]⟩ [.tmp 4] 19 Tryz.func184 H
theorem Vm(e:Bt)(h:zc)(R:Value->zc->Prop) (H:XC Tp 113 #[.string e] h (λa b=>∃c,a=.bool c/\R (.bool (!c)) b)):
  XC Tp 112 #[.string e] h R:=
 XF ⟨[],[],[]⟩ [.tmp 2] 6 Tryz.func112 H
theorem zkt(m:Sl)(h:zc)(R:Value->zc->Prop) (H:∃b:Value->zc->Prop,(decide ((m.len:Int)<=64)=Ta->XC Tp 111 #[aK m,.func (.func 112) #[] #[]] h (λc d=>∃e,c=.bool e/\b (.bool e) d))/\(decide ((m.len:Int)<=64)=Tb->∃f,b (.bool f) h)/\(decide ((m.len:Int)<=64)=Ta->∀g i,b g i->∃j,g=.bool j)/\∀k:Bool,∀l,b (.bool k) l->R (.bool (bif (decide ((m.len:Int)<=64))then(!k)else Tb)) l):
  XC Tp 67 #[.slice m.a m.len m.cap] h R:=
 XF ⟨[],[],[]⟩ [.tmp 2] 11 Tryz.func67 H
theorem Of(b:Int)(c:Bt)(d:Sl)(e:Sl)(h:zc)(R:Value->zc->Prop) (H:let f:=h.push (.cells #[iV b,.string c,aK d,aK e] 25);let g:=f.push (.cells tC 25);∃i,zf g (zae ⟨h.size,0,Td⟩ 2)=Tc (aK i)/\∃j,zf g (zae ⟨h.size,0,Td⟩ 3)=Tc (aK j)/\XC Tp 84 #[aK i] g (λk l=>∃m,k=aK m/\(l)[((zae ⟨h.size,0,Td⟩ 3):Addr).block]?=(g)[((zae ⟨h.size,0,Td⟩ 3):Addr).block]?/\XC Tp 187 #[aK j] l (λn o=>∃p,n=aK p/\XRunU Tp (zag 22 (.pointer (Tc (zae ⟨h.size,0,Td⟩ 2))) (aK m)) o (λq=>XRunU Tp (zag 23 (.pointer (Tc (zae ⟨h.size,0,Td⟩ 3))) (aK p)) q (λr=>∃s,zf r (zae ⟨h.size,0,Td⟩ 3)=Tc (aK s)/\∃(t:Int->zc->Prop) (u:Int->zc->Nat),t 0 r/\∀v:Int,∀w:zc,t v w->((decide (v<s.len)=Ta->∃x,(s.a=Tc x/\0<=v/\v<s.len)/\∃y z A B,zd w (x.add (v.toNat*4)) 0 (tL y z A B)/\let C:=w.push (.cells tC 25);XRunU Tp (zag 25 (.pointer (Tc ⟨w.size,0,Td⟩)) (tA y z A B)) C (λD=>∃E,zf D (zae ⟨h.size,0,Td⟩ 3)=Tc (aK E)/\∃F G I J,zd D ⟨w.size,0,Td⟩ 0 (tL F G I J)/\XC Tp 115 #[tA F G I J] D (λL M=>∃N O P Q,L=tA N O P Q/\∃S,(E.a=Tc S/\0<=v/\v<E.len)/\(M)[((zae ⟨h.size,0,Td⟩ 3):Addr).block]?=(D)[((zae ⟨h.size,0,Td⟩ 3):Addr).block]?/\XRunU Tp (zag 25 (.pointer (Tc (S.add (v.toNat*4)))) (tA N O P Q)) M (λT=>(t (zaa .i64 (v+1)) T/\u (zaa .i64 (v+1)) T<u v w)))))/\(decide (v<s.len)=Tb->∃U V W X,zd w ⟨h.size,0,Td⟩ 0 (tL U V W X)/\XRunU Tp (zag 25 (.pointer (Tc ⟨f.size,0,Td⟩)) (tA U V W X)) w (λY=>∃Z aa ab ac,zd Y ⟨f.size,0,Td⟩ 0 (tL Z aa ab ac)/\R (tA Z aa ab ac) Y)))))))):
  XC Tp 115 #[.agg #[.int .i64 b,.string c,.slice d.a d.len d.cap,.slice e.a e.len e.cap]] h R:=
 XF ⟨[(1,8000),(5,8000)],[(3,[(16,.one (.int .i64))])],[]⟩ [.cell 2 25] 29 Tryz.func115 H
theorem Yd(f:Sl)(h:zc)(R:Value->zc->Prop) (H:(f.a.isNone=Ta->R (.slice Td 0 0) h)/\(f.a.isNone=Tb->let b:=h.push (.cells #[] 9);Qa Tp (zav #[22,22] 22 #[.slice (Tc ⟨h.size,0,Td⟩) 0 0,aK f]) b (λc d=>∃e,c=aK e/\R (aK e) d))):
  XC Tp 84 #[.slice f.a f.len f.cap] h R:=
 XF ⟨[],[],[]⟩ [.tmp 2] 8 Tryz.func84 H
theorem Zf(f:Sl)(h:zc)(R:Value->zc->Prop) (H:(f.a.isNone=Ta->R (.slice Td 0 0) h)/\(f.a.isNone=Tb->let b:=h.push (.cells #[] 25);Qa Tp (zav #[23,23] 23 #[.slice (Tc ⟨h.size,0,Td⟩) 0 0,aK f]) b (λc d=>∃e,c=aK e/\R (aK e) d))):
  XC Tp 187 #[.slice f.a f.len f.cap] h R:=
 XF ⟨[],[],[]⟩ [.tmp 2] 8 Tryz.func187 H
theorem zsm(b:Int)(c:Bt)(d:Sl)(e:Sl)(h:zc)(R:Value->zc->Prop) (H:let f:=h.push (.cells #[iV b,.string c,aK d,aK e] 25);let g:=f.push (.cells tC 25);∃i j k l,zd g ⟨h.size,0,Td⟩ 0 (tL i j k l)/\XC Tp 65 #[tA i j k l] g (λm n=>∃o,m=.bool o/\((!o)=Ta->XRunU Tp (zag 25 (.pointer (Tc ⟨f.size,0,Td⟩)) (tZ)) n (λp=>∃q r s t,zd p ⟨f.size,0,Td⟩ 0 (tL q r s t)/\R (tA q r s t) p))/\((!o)=Tb->∃u v w x,zd n ⟨h.size,0,Td⟩ 0 (tL u v w x)/\XC Tp 115 #[tA u v w x] n (λy z=>∃A B C D,y=tA A B C D/\XRunU Tp (zag 25 (.pointer (Tc ⟨f.size,0,Td⟩)) (tA A B C D)) z (λE=>∃F G I J,zd E ⟨f.size,0,Td⟩ 0 (tL F G I J)/\R (tA F G I J) E))))):
  XC Tp 69 #[.agg #[.int .i64 b,.string c,.slice d.a d.len d.cap,.slice e.a e.len e.cap]] h R:=
 XF ⟨[],[],[]⟩ [.cell 2 25] 9 Tryz.func69 H
theorem OG(b:Int)(c:Bt)(d:Sl)(e:Sl)(i:Sl)(h:zc)(R:Value->zc->Prop) (H:let f:=h.push (.cells #[iV b,.string c,aK d,aK e] 25);let g:=f.push (.cells #[aK i] 22);R (.func (.func 185) #[] #[.pointer (Tc ⟨f.size,0,Td⟩),.pointer (Tc ⟨h.size,0,Td⟩)]) g):
  XC Tp 114 #[.agg #[.int .i64 b,.string c,.slice d.a d.len d.cap,.slice e.a e.len e.cap],.slice i.a i.len i.cap] h R:=
 XF ⟨[],[],[]⟩ [.tmp 4] 6 Tryz.func114 H
end
section
variable {gl M:Fr} {F:FuncId} {A C:Array Value} {h:zc} {s:Sl}
theorem JE:MapT Tp 105 9 4 (.bool Tb):=⟨by kernel_rfl,by kernel_rfl,⟨Tryz.t4,by kernel_rfl,by kernel_rfl⟩⟩
set_option maxHeartbeats 1000000 in
theorem qfn(hg:GL gl){ks:List Bt}{n:Int}(hk:∀k∈ks,(lb k).length<=1048576){R:Bool->Prop}(h:R (xn ks&&decide ((ks.length:Int)=n))):PC Tp gl 101 [Arg.mk (.row .str) ks,Arg.mk (.int .i64) n] [.bool] R:=by
 intro o M vs hM ag ha
 match vs,ha with
 |[u,w],⟨h1,h2,_⟩=>
  obtain⟨s,rfl,P⟩:=oC h1;have hw:=jq h2;subst hw;have P:Rd M (.row .str) ks [aK s]:=P;obtain⟨ab,am,aj⟩:=rowLen P;apply PX.of;apply ML s n;intro g0;have kg:Keep o.size o g0:=Keep.push _ _ (zaf _);have sg:g0.size=o.size+1:=zau _;have mg:MapAt g0 o.size []:=MapAt.new o;clear_value g0;refine⟨λi N=>∃k:Nat,i=k/\k<=ks.length/\o.size<N.size/\(∃L,Later o M N L/\L o.size=Td)/\(∃l,MapAt N o.size l/\∀x,jE l x (.bool Tb)=.bool (decide (x∈ks.take k)))/\xn (ks.take k)=Ta,λi _=>ks.length-i.toNat,⟨0,rfl,by omega,by omega,⟨M,Later.same ag kg,ag.none (zaf _)⟩,⟨[],mg,λx=>rfl⟩,by simp[xn]⟩,?_⟩;rintro i N ⟨k,rfl,ah,A,⟨L,z,J⟩,⟨l,B,D⟩,F⟩;refine⟨λV=>?_,λV=>?_⟩;have q:k<ks.length:=by simp at V;omega
  have Y:=Rd.mono z.le P;refine mJ z.ag Y q rfl rfl ?_;have E:=Xs JE B ks[k] Tb;rw[D]at E;refine⟨decide (ks[k]∈ks.take k),E,?_⟩;have f:=D9 hg.tabs (l:=lb ks[k]) (R:=λb=>b=gL (lb ks[k])) (by grind) rfl;rw[jL]at f;generalize hd:decide (ks[k]∈ks.take k)=d;refine⟨λv C=>∃b,v=.bool b/\(d=Tb->b=gL (lb ks[k]))/\o.size<C.size/\(∃y,Later o M C y/\y o.size=Td)/\MapAt C o.size l,λhn=>?_,λhn=>⟨Ta,Ta,rfl,λe=>(by simp_all),A,⟨L,z,J⟩,B⟩,λ_ v C ⟨b,e,_⟩=>⟨b,e⟩,?_⟩;refine f.go (vs:=[.string ks[k]]) (hM.trans z.le) z.ag (zi (rdStr _) zq) λv C y r t H Q=>⟨r,dK H,r,rfl,λ_=>Q,by have:=t.keep.size;omega,⟨y,z.trans t,by rw[t.old _ A,J]⟩,B.keep (t.keep.get _ A)⟩;rintro b C ⟨b',e,hb,ae,⟨y,t,U⟩,Z⟩;cases e;have I:ks.take (k+1)=ks.take k++[ks[k]]:=zar q;have aa:xn (ks.take (k+1))=(!d&&gL (lb ks[k])):=by
   have p:=F;unfold xn at p ⊢;rw[zan,zA]at p;rw[I,zei,p.1,<-hd];have:decide (List.take k ks++[ks[k]]).Nodup=!decide (ks[k]∈ks.take k):=by rw[za7];simp only[zA,zd4,decide_eq_false_iff_not,zc6];constructor;grind;grind
   rw[this];simp[Bool.and_comm]
  refine⟨λO=>?_,λO=>?_⟩;refine⟨y,_,t,Y5.2 (rdBool _),?_⟩;have hf:xn (ks.take (k+1))=Tb:=by
   rw[aa];cases d with
   |true=>rfl
   |false=>simp_all
  have ak:xn ks=Tb:=by
   cases hks:xn ks with
   |false=>rfl
   |true=>unfold xn at hks hf;grind
  simp_all;have G:d=Tb:=by cases d with
   |true=>simp at O
   |false=>rfl
  have ai:gL (lb ks[k])=Ta:=by rw[<-hb G];rw[G]at O;simpa using O
  refine K9 JE Z ks[k] (.bool Ta) λh6 m6 s6 o6=>?_;rw[Ze q (by omega)];refine⟨⟨k+1,rfl,by omega,by omega,⟨y,⟨⟨by omega,λi hi=>by rw[o6 i (by omega)];exact t.keep.get i hi⟩,t.le,t.old,?_⟩,U⟩,⟨_,m6,λx=>?_⟩,by simp_all⟩,by grind⟩;intro b c e;have af:b≠o.size:=λe2=>by simp_all
  obtain⟨T,m,e'⟩:=t.ag b c e;simp_all;unfold jE;rw[Li,I];by_cases S:ks[k]=x;simp_all;rw[za S];have:=D x;unfold jE at this;grind;have q:k=ks.length:=by simp at V;omega
  subst q;rw[zbw]at F;refine⟨L,_,z,Y5.2 (rdBool _),?_⟩;grind
def EO(gl:Fr)(F:FuncId)(A C:Array Value)(h:zc)(M:Fr)(t:Ty)(x:El t)(b:Bool):Prop:=
 zo Tp F=Ta/\∀h' M' u,Later h M h' M'->RdV M' t x u->PX Tp F (A++#[u]++C) h' M' [.bool] (λr=>r=b)
theorem sy(ag:AgM M h){xs:List Tr}(w:Rd M (.row .tree) xs [aK s]){p:Tr->Bool}(o:∀x∈xs,EO gl F A C h M .tree x (p x)):
  PX Tp 99 #[aK s,.func (.func F) A C] h M [.bool] (λr=>r=xs.any p):=by
 apply PX.of;apply wu s F A C;apply xe s F A C;obtain⟨u,I,B⟩:=rowLen w;refine⟨λi m=>∃k:Nat,i=k/\k<=xs.length/\(∃l,Later h M m l)/\(xs.take k).any p=Tb,λi _=>xs.length-i.toNat,⟨0,rfl,by omega,⟨M,Later.refl ag⟩,by simp⟩,?_⟩;rintro i m ⟨k,rfl,J,⟨l,e⟩,c⟩;refine⟨λn=>?_,λn=>?_⟩;have b:k<xs.length:=by simp at n;omega
 obtain⟨a,sk,si,E,z,G,H⟩:=lF e.ag (Rd.mono e.le w) b;refine⟨a,⟨E,by omega,by omega⟩,xs[k].kind,xs[k].text,sk,si,by rw[zao];exact z,(o _ (zay b)).1,?_⟩;refine((o _ (zay b)).2 m l _ e (zn G H)).go λv L q r t f y=>⟨r,dK f,λD=>?_,λD=>?_⟩;refine⟨(k:Int),rfl,q,_,e.trans t,Y5.2 (rdBool _),?_⟩;grind;rw[Ze b (by omega)];refine⟨⟨k+1,rfl,by omega,⟨q,e.trans t⟩,?_⟩,by grind⟩;rw[zar b,List.any_append,c];simp_all;have b:k=xs.length:=by simp at n;omega
 subst b;rw[zbw]at c;refine⟨-1,rfl,l,_,e,Y5.2 (rdBool _),?_⟩;rw[c];rfl
theorem ZQ(ag:AgM M h){xs:List Bt}(o:Rd M (.row .str) xs [aK s]){p:Bt->Bool}(t:∀x∈xs,EO gl F A C h M .str x (p x)):
  PX Tp 111 #[aK s,.func (.func F) A C] h M [.bool] (λr=>r=xs.any p):=by
 apply PX.of;apply xu s F A C;apply Z2 s F A C;obtain⟨q,D,B⟩:=rowLen o;refine⟨λi m=>∃k:Nat,i=k/\k<=xs.length/\(∃l,Later h M m l)/\(xs.take k).any p=Tb,λi _=>xs.length-i.toNat,⟨0,rfl,by omega,⟨M,Later.refl ag⟩,by simp⟩,?_⟩;rintro i m ⟨k,rfl,E,⟨l,e⟩,c⟩;refine⟨λn=>?_,λn=>?_⟩;have b:k<xs.length:=by simp at n;omega
 refine mJ e.ag (Rd.mono e.le o) b rfl rfl ⟨(t _ (zay b)).1,?_⟩;refine((t _ (zay b)).2 m l _ e (rdStr _)).go λv G u r w f y=>⟨r,dK f,λz=>?_,λz=>?_⟩;refine⟨(k:Int),rfl,u,_,e.trans w,Y5.2 (rdBool _),?_⟩;grind;rw[Ze b (by omega)];refine⟨⟨k+1,rfl,by omega,⟨u,e.trans w⟩,?_⟩,by grind⟩;rw[zar b,List.any_append,c];simp_all;have b:k=xs.length:=by simp at n;omega
 subst b;rw[zbw]at c;refine⟨-1,rfl,l,_,e,Y5.2 (rdBool _),?_⟩;rw[c];rfl
end
section
variable {l:List Bt} {gl:Fr} {v:Tr} {R:Bool -> Prop} {F:FuncId}
theorem WC:decide (((l.length:Nat):Int)>0)=!l.isEmpty:=by cases l <;> simp
theorem ZG{l:List Tr}:decide (((l.length:Nat):Int)>0)=!l.isEmpty:=by cases l <;> simp
theorem JU(s:Bt):(s.toList==(⟨#[]⟩:Bt).toList)=(lb s==[]):=by have:=ke (lb s) [];rw[jL]at this;grind
theorem IY(s:Bt)(l:Bs):(s.toList==(bl l).toList)=(lb s==l):=by have:=ke (lb s) l;rw[jL]at this;grind
theorem jH{k n:Int}:(k==n)=decide (k=n):=by grind
set_option maxHeartbeats 1000000 in
theorem JO(i:GL gl)(B:Sm v)(h:R (zh v)):PC Tp gl 62 [Arg.mk .tree v] [.bool] R:=by
 apply YA;have o:(lb v.text).length<=1152921504606846976:=by have:=B.text;omega
 have key:∀b,b=zh v->R b:=λb E=>by grind
 have D:=Jb i (s:=lb v.text) (R:=λr=>R r.2\/v.kind≠3) o;have f:=D9 i.tabs (l:=lb v.text) (R:=λr=>r=gL (lb v.text)) (by omega) rfl;have m:=qkk i (s:=lb v.text) (R:=λr=>r=AE (lb v.text)) o rfl;have n:=Jb i (s:=lb v.text) (R:=λr=>r.2=(iy (lb v.text)).2) o rfl;rw[jL]at f m n;simp only[jH,WC,ZG,show(⟨#[116,114,117,101]⟩:Bt)=bl [116,114,117,101]from rfl,show(⟨#[102,97,108,115,101]⟩:Bt)=bl [102,97,108,115,101]from rfl,IY];unfold zh at key;refine⟨λx=>key _ ?_,λx=>⟨λt=>?_,λt=>⟨λA=>key _ ?_,λA=>?_⟩⟩⟩;grind;have c:v.kind=6:=by simpa using t
 refine qfn i (λk q=>B.key q) (key _ ?_);simp only[c];grind;grind;have p:v.kind≠5:=by simpa using x
 have c:v.kind≠6:=by simpa using t
 have e:v.keys.isEmpty=Ta/\v.items.isEmpty=Ta:=by cases q:v.keys.isEmpty <;> cases hi:v.items.isEmpty <;> simp[q,hi]at A ⊢
 simp only[p,c,if_false,e.1,e.2,zed]at key;refine⟨λh1=>key _ ?_,λh1=>⟨λC=>key _ ?_,λC=>⟨λz=>?_,λz=>⟨λu=>?_,λu=>⟨λw=>?_,λw=>key _ ?_⟩⟩⟩⟩⟩;grind;grind;have:v.kind=3:=by simpa using z
 exact n.mono λr y=>key _ (by grind);have:v.kind=4:=by simpa using u
 exact f.mono λr y=>key _ (by grind);have:v.kind=7:=by simpa using w
 exact m.mono λr y=>key _ (by grind);simp_all
theorem A7{k:Nat}(h:k<l.length):l[((k:Int)).toNat]?=Tc l[k]:=by simp
theorem Pb(hF:zo Tp F=Ta){p:Tr->Bool}(hp:∀x,Sm x->PC Tp gl F [Arg.mk .tree x] [.bool] (λr=>r=p x))(n:Nat):∀(v:Tr),bR v<=n->Sm v->∀{h:zc} {M:Fr} {u:Value},Fr.le gl M->AgM M h->RdV M .tree v u ->
  PX Tp 60 #[u,.func (.func F) #[] #[]] h M [.bool] (λr=>r=j7 p v):=by
 induction n with
 |zero=>intro v hn;have:=Ja v;omega
 |succ n ih=>
 intro v hn hv h M u hM ag hu;have U:=hu;obtain⟨sk,si,rfl,rk,ri⟩:=yj hu;apply PX.of;apply zo6 v.kind v.text sk si F #[] #[];intro h1 m;have L1:Later h M h1 M:=Later.push ag _;have f:Later h1 M m (Mx M h1.size #[.func (.func F) #[] #[]]):=Later.frz L1.ag _ _;have s1:h1.size=h.size+1:=zau _;have s2:m.size=h1.size+1:=zau _;have t:zd m ⟨h.size,0,Td⟩ 0 [.int .i64 v.kind,.string v.text,aK sk,aK si]:=vQ (h':=m) (by have:=f.keep;rw[s1]at this;exact this);have Z:∀h':zc,Keep m.size m h'->zf h' (zae ⟨h.size,0,Td⟩ 3)=Tc (aK si):=λh' k=>by refine WH (h:=h) (T:=25) (cs:=[.int .i64 v.kind,.string v.text,aK sk,aK si]) ?_ rfl;have:=f.keep.trans k (by omega);rw[s1]at this;exact this
 have q:zf m ⟨h1.size,0,Td⟩=Tc (.func (.func F) #[] #[]):=f.ag.cell (Y6 _ _ _) rfl;have S:(Mx M h1.size #[.func (.func F) #[] #[]]) h1.size=Tc #[.func (.func F) #[] #[]]:=Y6 _ _ _;have D:=L1.trans f;clear_value h1 m;generalize (Mx M h1.size #[.func (.func F) #[] #[]])=M2 at *;refine⟨_,q,v.kind,v.text,sk,si,t,hF,?_⟩;refine(hp v hv).go (vs:=[.agg #[.int .i64 v.kind,.string v.text,aK sk,aK si]]) (hM.trans D.le) D.ag (zi (RdV.mono D.le U) zq) λw h3 N r B y hr=>?_;refine⟨r,dK y,si,λ_=>Z h3 B.keep,?_⟩;have i:=D.trans B;refine⟨λw C=>∃b,w=.bool b/\(r=Ta->b=!(lE p v.items))/\∃A,Later h M C A,λae=>?_,λab=>⟨Ta,Ta,rfl,λe=>(by simp_all),N,i⟩,λ_ w C ⟨b,e,_⟩=>⟨b,e⟩,?_⟩;have V:Rd N (.row .tree) v.items [aK si]:=Rd.mono i.le ri;have O:N h1.size=Tc #[.func (.func F) #[] #[]]:=B.le _ _ S;refine(sy (gl:=gl) B.ag V (p:=λx=>!(j7 p x)) λx hx=>⟨by kernel_rfl,λh' M' u' E P=>?_⟩).go λw C A b G o Y=>⟨b,dK o,b,rfl,λ_=>?_,A,i.trans G⟩;have af:=yl hx;obtain⟨c,l,rfl,I,H⟩:=yj P;apply PX.of;show XC Tp 100 #[.agg #[.int .i64 x.kind,.string x.text,aK c,aK l],.pointer (Tc ⟨h1.size,0,Td⟩)] h' _;apply U1 x.kind x.text c l;intro z;have L:Later h' M' z M':=Later.push E.ag _;have J:zd z ⟨h'.size,0,Td⟩ 0 [.int .i64 x.kind,.string x.text,aK c,aK l]:=vQ (Keep.refl _ _);have aa:zf z ⟨h1.size,0,Td⟩=Tc (.func (.func F) #[] #[]):=L.ag.cell (E.le _ _ O) rfl;clear_value z;refine⟨x.kind,x.text,c,l,J,_,aa,?_⟩;refine(ih x (by omega) (hv.item hx) (h:=z) (M:=M') ((hM.trans i.le).trans E.le) L.ag (zn I H)).go λw h5 M5 b L5 s Q=>⟨b,dK s,M5,_,L.trans L5,Y5.2 (rdBool _),by rw[Q]⟩;rw[Y,j8,za7];simp;rintro b C ⟨b',e,hb,A,G⟩;cases e;refine⟨A,_,G,Y5.2 (rdBool _),?_⟩;grind [y9]
theorem Hr(i:zo Tp F=Ta){p:Tr->Bool}(b:∀x,Sm x->PC Tp gl F [Arg.mk .tree x] [.bool] (λr=>r=p x))(v:Tr)(c:Sm v){h:zc}{M:Fr}{u:Value}(e:Fr.le gl M)(ag:AgM M h)(f:RdV M .tree v u): PX Tp 60 #[u,.func (.func F) #[] #[]] h M [.bool] (λr=>r=j7 p v):=Pb i b (bR v) v (zaf _) c e ag f
theorem oq(D:GL gl)(B:Sm v)(O:R (jw v)):PC Tp gl 65 [Arg.mk .tree v] [.bool] R:=by
 intro h M vs A ag N
 match vs,N with
 |[u],⟨n,_⟩=>have n:RdV M .tree v u:=n;have m:=n;obtain⟨sk,si,rfl,S,Y⟩:=yj n;apply PX.of;apply zsl v.kind v.text sk si;intro h1;have o:Later h M h1 M:=Later.push ag _;have s1:h1.size=h.size+1:=zau _;have f:∀h':zc,Keep h1.size h1 h'->zd h' ⟨h.size,0,Td⟩ 0 [.int .i64 v.kind,.string v.text,aK sk,aK si]:=λh' k=>vQ (h':=h') (by rw[s1]at k;exact k);clear_value h1;refine⟨v.kind,v.text,sk,si,f h1 (Keep.refl _ _),?_⟩;have s:PC Tp gl 59 [Arg.mk .tree v] [.bool] (λr=>r=Z1 v):=Lq B rfl;refine s.go (vs:=[.agg #[.int .i64 v.kind,.string v.text,aK sk,aK si]]) (A.trans o.le) o.ag (zi (RdV.mono o.le m) zq) λw C M2 r t l U=>?_;refine⟨r,dK l,v.kind,v.text,sk,si,λ_=>f C t.keep,?_⟩;have c:=o.trans t;refine⟨λw q=>∃b,w=.bool b/\(r=Ta->b=j7 zh v)/\∃z,Later h M q z,λL=>?_,λI=>⟨Ta,Ta,rfl,λe=>(by simp_all),M2,c⟩,λ_ w q ⟨b,e,_⟩=>⟨b,e⟩,?_⟩;refine(Hr (F:=62) (by kernel_rfl) (p:=zh) (λx J=>JO D J rfl) v B (A.trans c.le) t.ag (RdV.mono c.le m)).go λw V G b E i y=>⟨b,dK i,b,rfl,λ_=>y,G,c.trans E⟩;rintro b q ⟨P,e,Q,z,H⟩;cases e;refine⟨z,_,H,Y5.2 (rdBool _),?_⟩;unfold jw at O;grind
end
section
theorem MG(gl:Fr)(c:Tr)(R:Bool->Prop) (H:∃a:Bool->Prop,((c.kind != 7)=Ta->PC Tp gl 62 [Arg.mk .tree (Tr.mk c.kind c.text c.keys c.items)] [.bool] a)/\∀b:Bool,((c.kind != 7)=Ta->a b)->R (bif (c.kind != 7)then b else Tb)):
  PC Tp gl 61 [Arg.mk .tree c] [.bool] R:=
 PF ⟨[],[],[],[]⟩ [.tmp 2] 10 Tryz.func61 H
end
section
theorem WS(b:Int)(c:Bt)(d:Sl)(e:Sl)(h:zc)(R:Value->zc->Prop) (H:let f:=h.push (.cells #[iV b,.string c,aK d,aK e] 25);let g:=f.push (.cells tC 25);∃i j k l,zd g ⟨h.size,0,Td⟩ 0 (tL i j k l)/\XC Tp 65 #[tA i j k l] g (λm n=>∃o,m=.bool o/\((!o)=Ta->XRunU Tp (zag 25 (.pointer (Tc ⟨f.size,0,Td⟩)) (tZ)) n (λp=>∃q r s t,zd p ⟨f.size,0,Td⟩ 0 (tL q r s t)/\R (tA q r s t) p))/\((!o)=Tb->∃u v w x,zd n ⟨h.size,0,Td⟩ 0 (tL u v w x)/\XC Tp 66 #[tA u v w x] n (λy z=>∃A B C D,y=tA A B C D/\XRunU Tp (zag 25 (.pointer (Tc ⟨f.size,0,Td⟩)) (tA A B C D)) z (λE=>∃F G I J,zd E ⟨f.size,0,Td⟩ 0 (tL F G I J)/\R (tA F G I J) E))))):
  XC Tp 31 #[.agg #[.int .i64 b,.string c,.slice d.a d.len d.cap,.slice e.a e.len e.cap]] h R:=
 XF ⟨[],[],[]⟩ [.cell 2 25] 9 Tryz.func31 H
theorem S0(b:Int)(c:Bt)(d:Sl)(e:Sl)(h:zc)(R:Value->zc->Prop) (H:let f:=h.push (.cells #[iV b,.string c,aK d,aK e] 25);let g:=f.push (.cells tC 25);∃i,zf g (zae ⟨h.size,0,Td⟩ 0)=Tc (iV i)/\∃j,zf g (zae ⟨h.size,0,Td⟩ 1)=Tc (.string j)/\let k:=g.push (.cells tC 25);XRunU Tp (zag 25 (.pointer (Tc ⟨g.size,0,Td⟩)) (.agg #[iV i,.string j,.slice Td 0 0,.slice Td 0 0])) k (λl=>∃m,zf l (zae ⟨h.size,0,Td⟩ 0)=Tc (iV m)/\((m != 6)=Ta->∃n,zf l (zae ⟨h.size,0,Td⟩ 3)=Tc (aK n)/\∃(o:Int->zc->Prop) (p:Int->zc->Nat),o 0 l/\∀q:Int,∀r:zc,o q r->((decide (q<n.len)=Ta->∃s,(n.a=Tc s/\0<=q/\q<n.len)/\∃t u v w,zd r (s.add (q.toNat*4)) 0 (tL t u v w)/\let x:=r.push (.cells tC 25);XRunU Tp (zag 25 (.pointer (Tc ⟨r.size,0,Td⟩)) (tA t u v w)) x (λy=>∃z,zf y (zae ⟨g.size,0,Td⟩ 3)=Tc (aK z)/\∃A B C D,zd y ⟨r.size,0,Td⟩ 0 (tL A B C D)/\XC Tp 66 #[tA A B C D] y (λE F=>∃G I J L,E=tA G I J L/\(F)[((zae ⟨g.size,0,Td⟩ 3):Addr).block]?=(y)[((zae ⟨g.size,0,Td⟩ 3):Addr).block]?/\let M:=F.push (.cells #[iV G,.string I,aK J,aK L] 25);(M)[((zae ⟨g.size,0,Td⟩ 3):Addr).block]?=(y)[((zae ⟨g.size,0,Td⟩ 3):Addr).block]?/\Qa Tp (zav #[23,23] 23 #[aK z,.slice (Tc ⟨F.size,0,Td⟩) 1 1]) M (λN O=>∃P,N=aK P/\XRunU Tp (zag 23 (.pointer (Tc (zae ⟨g.size,0,Td⟩ 3))) (aK P)) O (λQ=>(o (zaa .i64 (q+1)) Q/\p (zaa .i64 (q+1)) Q<p q r))))))/\(decide (q<n.len)=Tb->∃S T U V,zd r ⟨g.size,0,Td⟩ 0 (tL S T U V)/\XRunU Tp (zag 25 (.pointer (Tc ⟨f.size,0,Td⟩)) (tA S T U V)) r (λW=>∃X Y Z aa,zd W ⟨f.size,0,Td⟩ 0 (tL X Y Z aa)/\R (tA X Y Z aa) W))))/\((m != 6)=Tb->∃ab ac ad ae,zd l ⟨h.size,0,Td⟩ 0 (tL ab ac ad ae)/\XC Tp 108 #[tA ab ac ad ae] l (λaf ag=>∃ah:Option Nat,af=.map ah/\XC Tp 110 #[.map ah] ag (λai aj=>∃ak:Value,ai=ak/\XC Tp 109 #[ak] aj (λal am=>∃an,al=aK an/\XRunU Tp (zag 22 (.pointer (Tc (zae ⟨g.size,0,Td⟩ 2))) (aK an)) am (λao=>∃ap,zf ao (zae ⟨g.size,0,Td⟩ 2)=Tc (aK ap)/\∃(aq:Int->zc->Prop) (ar:Int->zc->Nat),aq 0 ao/\∀au:Int,∀av:zc,aq au av->((decide (au<ap.len)=Ta->∃aw,(ap.a=Tc aw/\0<=au/\au<ap.len)/\∃ax,zf av (aw.add (au.toNat*1))=Tc (.string ax)/\∃ay,zf av (zae ⟨g.size,0,Td⟩ 3)=Tc (aK ay)/\∃az aA aB aC,QExec Tp (zd1 137 (.map ah) (.string ax) Tb) av (tA az aA aB aC)/\(av)[((zae ⟨g.size,0,Td⟩ 3):Addr).block]?=(av)[((zae ⟨g.size,0,Td⟩ 3):Addr).block]?/\XC Tp 66 #[tA az aA aB aC] av (λaD aE=>∃aF aG aH aI,aD=tA aF aG aH aI/\(aE)[((zae ⟨g.size,0,Td⟩ 3):Addr).block]?=(av)[((zae ⟨g.size,0,Td⟩ 3):Addr).block]?/\let aJ:=aE.push (.cells #[iV aF,.string aG,aK aH,aK aI] 25);(aJ)[((zae ⟨g.size,0,Td⟩ 3):Addr).block]?=(av)[((zae ⟨g.size,0,Td⟩ 3):Addr).block]?/\Qa Tp (zav #[23,23] 23 #[aK ay,.slice (Tc ⟨aE.size,0,Td⟩) 1 1]) aJ (λaL aM=>∃aN,aL=aK aN/\XRunU Tp (zag 23 (.pointer (Tc (zae ⟨g.size,0,Td⟩ 3))) (aK aN)) aM (λaO=>(aq (zaa .i64 (au+1)) aO/\ar (zaa .i64 (au+1)) aO<ar au av)))))/\(decide (au<ap.len)=Tb->∃aP aQ aS aT,zd av ⟨g.size,0,Td⟩ 0 (tL aP aQ aS aT)/\XRunU Tp (zag 25 (.pointer (Tc ⟨f.size,0,Td⟩)) (tA aP aQ aS aT)) av (λaU=>∃aV aW aX aY,zd aU ⟨f.size,0,Td⟩ 0 (tL aV aW aX aY)/\R (tA aV aW aX aY) aU)))))))))):
  XC Tp 66 #[.agg #[.int .i64 b,.string c,.slice d.a d.len d.cap,.slice e.a e.len e.cap]] h R:=
 XF ⟨[(6,8000),(14,8000)],[(4,[(20,.one (.int .i64))]),(12,[(42,.one (.int .i64))])],[]⟩ [.cell 2 25] 57 Tryz.func66 H
theorem TR(b:Int)(c:Bt)(d:Sl)(e:Sl)(h:zc)(R:Value->zc->Prop) (H:let f:=h.push (.cells #[iV b,.string c,aK d,aK e] 25);∃g,zf f (zae ⟨h.size,0,Td⟩ 2)=Tc (aK g)/\let i:=f.push (.map #[] 0);∃j,zf i (zae ⟨h.size,0,Td⟩ 2)=Tc (aK j)/\∃(k:Int->zc->Prop) (l:Int->zc->Nat),k 0 i/\∀m:Int,∀n:zc,k m n->((decide (m<j.len)=Ta->∃o,(j.a=Tc o/\0<=m/\m<j.len)/\∃p,zf n (o.add (m.toNat*1))=Tc (.string p)/\∃q,zf n (zae ⟨h.size,0,Td⟩ 3)=Tc (aK q)/\∃r,(q.a=Tc r/\0<=m/\m<q.len)/\∃s t u v,zd n (r.add (m.toNat*4)) 0 (tL s t u v)/\XRunU Tp (zc7 137 (.map (Tc f.size)) (.string p) (tA s t u v)) n (λw=>(k (zaa .i64 (m+1)) w/\l (zaa .i64 (m+1)) w<l m n)))/\(decide (m<j.len)=Tb->R (.map (Tc f.size)) n))):
  XC Tp 108 #[.agg #[.int .i64 b,.string c,.slice d.a d.len d.cap,.slice e.a e.len e.cap]] h R:=
 XF ⟨[],[(3,[(13,.one (.int .i64))])],[]⟩ [.tmp 2] 27 Tryz.func108 H
theorem Oe(b:Int)(c:Bt)(d:Sl)(e:Sl)(h:zc)(R:Value->zc->Prop) (H:let f:=h.push (.cells #[iV b,.string c,aK d,aK e] 25);∃g i j k,zd f ⟨h.size,0,Td⟩ 0 (tL g i j k)/\XC Tp 59 #[tA g i j k] f (λl m=>∃n,l=.bool n/\∃o p q r,(n=Ta->zd m ⟨h.size,0,Td⟩ 0 (tL o p q r))/\∃s:Value->zc->Prop,(n=Ta->XC Tp 60 #[tA o p q r,.func (.func 61) #[] #[]] m (λt u=>∃v,t=.bool v/\s (.bool v) u))/\(n=Tb->∃w,s (.bool w) m)/\(n=Ta->∀x y,s x y->∃z,x=.bool z)/\∀A:Bool,∀B,s (.bool A) B->R (.bool (bif n then A else Tb)) B)):
  XC Tp 25 #[.agg #[.int .i64 b,.string c,.slice d.a d.len d.cap,.slice e.a e.len e.cap]] h R:=
 XF ⟨[],[],[]⟩ [.tmp 2] 9 Tryz.func25 H
end
section
variable {gl:Fr} {v:Tr} {R:Bool -> Prop}
theorem Ve(f:GL gl)(i:Sm v)(h:R (decide (v.kind≠7)&&zh v)):PC Tp gl 61 [Arg.mk .tree v] [.bool] R:=by
 apply MG;simp only[xb];refine⟨λb=>b=zh v,λ_=>JO f i rfl,λb c=>?_⟩;cases hk:(v.kind != 7)with
 |false=>
  have e:v.kind=7:=by simpa using hk
  have:(decide (v.kind≠7)&&zh v)=Tb:=by simp[e]
  rw[this]at h;simpa[hk]using h
 |true=>
  have e:v.kind≠7:=by simpa using hk
  have c:=c hk;subst c;have:(decide (v.kind≠7)&&zh v)=zh v:=by simp[e]
  rw[this]at h;simpa[hk]using h
theorem vu(H:GL gl)(D:Sm v)(q:R (zy v)):PC Tp gl 25 [Arg.mk .tree v] [.bool] R:=by
 intro h M vs C ag Q
 match vs,Q with
 |[u],⟨o,_⟩=>
  have o:RdV M .tree v u:=o;have n:=o;obtain⟨sk,si,rfl,U,Y⟩:=yj o;apply PX.of;apply Oe v.kind v.text sk si;intro h1;have s:Later h M h1 M:=Later.push ag _;have s1:h1.size=h.size+1:=zau _;have f:∀h':zc,Keep h1.size h1 h'->zd h' ⟨h.size,0,Td⟩ 0 [.int .i64 v.kind,.string v.text,aK sk,aK si]:=λh' k=>vQ (h':=h') (by rw[s1]at k;exact k);clear_value h1;refine⟨v.kind,v.text,sk,si,f h1 (Keep.refl _ _),?_⟩;have y:PC Tp gl 59 [Arg.mk .tree v] [.bool] (λr=>r=Z1 v):=Lq D rfl;refine y.go (vs:=[.agg #[.int .i64 v.kind,.string v.text,aK sk,aK si]]) (C.trans s.le) s.ag (zi (RdV.mono s.le n) zq) λw E M2 r z l N=>?_;refine⟨r,dK l,v.kind,v.text,sk,si,λ_=>f E z.keep,?_⟩;have c:=s.trans z;refine⟨λw t=>∃b,w=.bool b/\(r=Ta->b=j7 (λx=>decide (x.kind≠7)&&zh x) v)/\∃B,Later h M t B,λP=>?_,λm=>⟨Ta,Ta,rfl,λe=>(by rw[e]at m;cases m),M2,c⟩,λ_ w t ⟨b,e,_⟩=>⟨b,e⟩,?_⟩;refine(Hr (F:=61) (by kernel_rfl) (p:=λx=>decide (x.kind≠7)&&zh x) (λx O=>Ve H O rfl) v D (C.trans c.le) z.ag (RdV.mono c.le n)).go λw V J b I i A=>⟨b,dK i,b,rfl,λ_=>A,J,c.trans I⟩;rintro b t ⟨S,e,G,B,L⟩;cases e;refine⟨B,_,L,Y5.2 (rdBool _),?_⟩;unfold zy at q;rw[<-N]at q;cases r with
  |false=>exact q
  |true=>rw[zH,G rfl];exact q
end
section
variable {h:zc} {e:TypeId} {M:Fr} {s:Sl} {K:Value -> zc -> Prop} {cs:Array Value} {k:Nat} {vs:List Value}
theorem elemStr:ElemT Tp 22 9 (.string ⟨#[]⟩) 1 16:=⟨by kernel_rfl,⟨Tryz.t9,by kernel_rfl,by kernel_rfl,by kernel_rfl,by kernel_rfl⟩,rfl,by omega⟩
theorem Br:ElemT Tp 23 25 (.agg #[.int .i64 0,.string ⟨#[]⟩,.slice Td 0 0,.slice Td 0 0]) 4 72:=⟨by kernel_rfl,⟨Tryz.t25,by kernel_rfl,by kernel_rfl,by kernel_rfl,by kernel_rfl⟩,rfl,by omega⟩
theorem Gp{h h':zc}{sz:Nat}(k:Keep (h.size+1) (h.push (.cells #[] e)) h')(base:Nat)(b:base<=h.size):Owns h' base e sz ⟨Tc ⟨h.size,0,Td⟩,0,0⟩ []:=by refine⟨by simp,.inr ⟨h.size,0,#[],rfl,b,?_,zaf _,zbn _,by simp,by simp⟩⟩;show h'[h.size]?=_;rw[k.get _ (by omega)];simp
theorem Rs(ag:AgM M h){ks:List Bt}(q:Rd M (.row .str) ks [aK s])(D:ks.length*16<=140737488355328)
  (r:∀(s':Sl) (h':zc),Keep h.size h h'->s'.len=ks.length->Owns h' h.size 9 1 s' (ks.map za1)->K (aK s') h'):XC Tp 84 #[aK s] h K:=by
 obtain⟨c,z,u⟩:=rowLen q;obtain⟨s2,e,_,_,cells,A,l⟩:=Rd.rowC ag q;simp only[aK,zbg]at e;have f:s2.a=s.a:=e.1.symm;have:=CZ A;subst this;rw[f]at l;apply Yd s;refine⟨λw=>?_,λw=>?_⟩;have k:ks=[]:=by rcases l with h0|⟨b,o,x,_⟩;simpa using h0;simp_all
 subst k;exact r ⟨Td,0,0⟩ h (Keep.refl _ _) rfl (Owns.nil _ _ _ _);intro g;obtain⟨m,F,_⟩:=wq (g:=g) rfl;have t:Owns g h.size 9 1 ⟨Tc ⟨h.size,0,Td⟩,0,0⟩ []:=Gp (Keep.refl _ _) _ (zaf _);clear_value g;refine Zk elemStr t (src:=⟨s.a,s.len,s.cap⟩) (news:=ks.map za1) (n:=h.size) (l.keep m) (by simp[c]) (by simp[Value.oneCell']) (by grind) (by grind) (by omega) λs' h' x e y E C=>⟨s',rfl,r s' h' ?_ (by grind) (by simpa using e)⟩;refine⟨by omega,λi hi=>(y i (by omega) λp B=>?_).trans (m.get i hi)⟩;grind
theorem WY(ag:AgM M h){xs:List Tr}(t:Rd M (.row .tree) xs [aK s])(E:xs.length*72<=140737488355328)
  (u:∀(s':Sl) (h':zc) (cells:List Value),Keep h.size h h'->s'.len=xs.length->Owns h' h.size 25 4 s' cells->RowC M .tree xs cells->K (aK s') h'):XC Tp 187 #[aK s] h K:=by
 obtain⟨e,B,x⟩:=rowLen t;obtain⟨s2,k,_,_,cells,f,q⟩:=Rd.rowC ag t;simp only[aK,zbg]at k;have l:s2.a=s.a:=k.1.symm;rw[l]at q;have c:cells.length=xs.length*4:=f.1;apply Zf s;refine⟨λy=>?_,λy=>?_⟩;have m:cells=[]:=by rcases q with h0|⟨b,o,z,_⟩;exact h0;simp_all
 subst m;have:xs.length=0:=by simp at c;omega
 exact u ⟨Td,0,0⟩ h [] (Keep.refl _ _) (by simp[this]) (Owns.nil _ _ _ _) f;intro g;obtain⟨r,G,_⟩:=wq (g:=g) rfl;have w:Owns g h.size 25 4 ⟨Tc ⟨h.size,0,Td⟩,0,0⟩ []:=Gp (Keep.refl _ _) _ (zaf _);clear_value g;refine Zk Br w (src:=⟨s.a,s.len,s.cap⟩) (news:=cells) (n:=h.size) (q.keep r) (by rw[c,e]) f.one (by grind) (by grind) (by omega) λs' h' z k A F D=>⟨s',rfl,u s' h' cells ?_ (by grind) (by simpa using k) f⟩;refine⟨by omega,λi hi=>(A i (by omega) λp C=>?_).trans (r.get i hi)⟩;grind
theorem Owns.blk{base:Nat}{sz:Nat}{cells:List Value}(H:Owns h base e sz s cells):(s.len=0/\cells=[]/\s.cap=0)\/∃b cs,s.a=Tc ⟨b,0,Td⟩/\base<=b/\Blk h b cs/\s.cap*sz<=cs.size/\cut cs 0 (s.len*sz)=cells/\s.len<=s.cap:=by rcases H.2 with⟨f,h0⟩|⟨g,cap,c,f,k,l,i,n,m,o⟩;left;have:=H.1;simp_all;right;simp only[zbg]at f;refine⟨g,c,f.1,k,⟨e,l⟩,?_,by unfold cut;simp_all,by omega⟩;simp_all
theorem YJ{n i k:Nat}(h:i+k<=n):(List.drop i (cut cs 0 n)).take k=cut cs i k:=by unfold cut;rw[zc2,List.drop_take,List.take_take,zeg (by omega)]
theorem sJ{h:zc}{b:Nat}{cs:Array Value}(H:Blk h b cs):∀{vs:List Value} {o i:Nat},cut cs (o+i) vs.length=vs->zd h ⟨b,o,Td⟩ i vs
 |[],_,_,_=>trivial
 |v::vs,o,i,e=>by
  unfold cut at e;have c:o+i<cs.toList.length:=by rcases zbf (o+i) cs.toList.length with f|f;exact f;grind
  rw[za9 c,zbi,zdf]at e;injection e with e1 e2;refine⟨?_,sJ H (i:=i+1) e2⟩;refine H.cellAdd ?_;grind
theorem wZ:cut vs.toArray 0 vs.length=vs:=by unfold cut;simp
theorem Kq:qo Tp 25=Ta:=by kernel_rfl
theorem Gr:ya Tp 25=4:=by kernel_rfl
theorem Ij:qo Tp 22=Ta:=by kernel_rfl
theorem JL:ya Tp 22=1:=by kernel_rfl
theorem Vw:qo Tp 23=Ta:=by kernel_rfl
theorem OK:ya Tp 23=1:=by kernel_rfl
def zx(k:Int)(s:Bt)(sk si:Sl):List Value:=[.int .i64 k,.string s,aK sk,aK si]
theorem Dk(k:Int)(s:Bt)(sk si:Sl):∀u∈zx k s sk si,u.oneCell'=Ta:=by intro u b;simp[zx]at b;rcases b with rfl|rfl|rfl|rfl <;> simp[Value.oneCell',aK]
theorem EX(k:Int)(s:Bt)(sk si:Sl):(Value.agg #[.int .i64 k,.string s,aK sk,aK si]).cells.toList=zx k s sk si:=rfl
theorem ue(h:cs.size=vs.length):upd cs 0 vs=vs.toArray:=by unfold upd;simp_all
theorem xf{b:Nat}(H:Blk h b cs)(e:cs.size=4)(k:Int)(s:Bt)(sk si:Sl){K:zc->Prop}
  (i:∀h':zc,Blk h' b (zx k s sk si).toArray->h'.size=h.size->(∀j,j≠b->h'[j]?=h[j]?)->K h'):XRunU Tp (zag 25 (.pointer (Tc ⟨b,0,Td⟩)) (.agg #[.int .i64 k,.string s,.slice sk.a sk.len sk.cap,.slice si.a si.len si.cap])) h K:=
 Qz (vs:=zx k s sk si) Kq H (EX k s sk si) Gr (by rw[e];exact zaf _) (Dk k s sk si) λh' c l f=>i h' (by rw[ue (by rw[e];rfl)]at c;exact c) l f
theorem Dh{b:Nat->List Nat}{k x:Nat}:x∈(zbk k).flatMap b↔∃j,j<k/\x∈b j:=by simp
structure CI (h2 h':zc) (M:Fr) (v:Tr) (b1 b2:Nat) (s1 s2:Sl) (bk bb:List Nat) (b:Nat) (cs:Array Value) (bf:Nat->List Nat) (k:Nat):Prop where
 ag:AgM M h'
 box1:Blk h' b1 (zx v.kind v.text s1 s2).toArray
 box2:∃c2:Array Value,Blk h' b2 c2/\c2.size=4
 keys:OKeys h' v.keys bk s1
 hz:(v.items=[]/\bb=[]/\s2.cap=0)\/(bb=[b]/\s2.a=Tc ⟨b,0,Td⟩/\Blk h' b cs/\s2.cap*4<=cs.size)
 did:∀i (hx:i<v.items.length),i<k->OT h' v.items[i] (bf i) (cut cs (i*4) 4)
 todo:∀i (hx:i<v.items.length),k<=i->RdV M .tree v.items[i] (.agg (cut cs (i*4) 4).toArray)
 nd:(bk++(bb++(zbk k).flatMap bf)).Nodup
 big:∀x∈bk++(bb++(zbk k).flatMap bf),h2.size<=x
set_option maxHeartbeats 4000000 in
theorem qfq(n:Nat):∀(v:Tr),bR v<=n->Sm v->∀{h:zc} {M:Fr} {u:Value},AgM M h->RdV M .tree v u ->
  XC Tp 115 #[u] h λw h'=>Keep h.size h h'/\∃bs sk si,w=.agg #[.int .i64 v.kind,.string v.text,aK sk,aK si]/\OT h' v bs (zx v.kind v.text sk si)/\∀b∈bs,h.size<=b:=by
 induction n with
 |zero=>intro v hn;have:=Ja v;omega
 |succ n ih=>
 intro v hn hv h M u ag hu;obtain⟨sk,si,rfl,rk,ri⟩:=yj hu;have aV:=hv.items;have aT:=hv.keys;apply Of v.kind v.text sk si;intro h1 B;have kh:Keep h.size h B:=(Keep.push h (.cells (zx v.kind v.text sk si).toArray 25) (zaf _)).trans (Keep.push h1 _ (zaf _)) (by grind);have s1:h1.size=h.size+1:=zau _;have s2:B.size=h1.size+1:=zau _;have b1:Blk B h.size (zx v.kind v.text sk si).toArray:=by have:Blk h1 h.size (zx v.kind v.text sk si).toArray:=Blk.new _ _ _;exact this.ofKeep (Keep.push _ _ (zaf _))
 have b2:Blk B h1.size (zx 0 ⟨#[]⟩ ⟨Td,0,0⟩ ⟨Td,0,0⟩).toArray:=Blk.new _ _ _;clear_value h1 B;have U:=ag.keep kh;refine⟨sk,b1.cellAdd (o:=0) (k:=2) rfl,si,b1.cellAdd (o:=0) (k:=3) rfl,?_⟩;refine Rs U rk (by omega) λs h3 Q l3 o3=>⟨s,rfl,Q.get _ (by grind [qe]),?_⟩;have aG:=U.keep Q;refine WY aG ri (by omega) λc2 h4 cells k4 l4 o4 rc=>⟨c2,rfl,?_⟩;have ai:=(b1.ofKeep Q).ofKeep k4;have aa:=(b2.ofKeep Q).ofKeep k4;have z3:=Q.size;have z4:=k4.size;rw[show zae ⟨h.size,0,Td⟩ 2=⟨h.size,2,Td⟩from qe _ _ _,show zae ⟨h.size,0,Td⟩ 3=⟨h.size,3,Td⟩from qe _ _ _];refine Qz (vs:=[aK s]) Ij ai rfl JL (by simp[zx]) (by simp[Value.oneCell',aK]) λh5 ah z5 f5=>?_;refine Qz (vs:=[aK c2]) Vw ah rfl OK (by simp[zx,upd]) (by simp[Value.oneCell',aK]) λh6 C z6 f6=>?_;have az:upd (upd (zx v.kind v.text sk si).toArray 2 [aK s]) 3 [aK c2]=(zx v.kind v.text s c2).toArray:=by simp[upd,zx]
 rw[az]at C;have A:∀j,j≠h.size->h6[j]?=h4[j]?:=λj t=>(f6 j t).trans (f5 j t);refine⟨c2,C.cell (o:=3) rfl,?_⟩;have am:Keep h.size h h6:=⟨by omega,λi hi=>by rw[A i (by omega),k4.get i (by omega),Q.get i (by omega)];exact kh.get i hi⟩;obtain⟨bk,F,aL,aM,aJ⟩:∃bk,OKeys h6 v.keys bk s/\bk.Nodup/\(∀x∈bk,B.size<=x)/\(∀x∈bk,x<h3.size):=by rcases Owns.blk o3 with⟨h0,S,P⟩|⟨b,cs,L,e2,e3,e4,e5,e6⟩;exact⟨[],⟨l3,by omega,by omega,.inl ⟨by simpa using S,rfl,P⟩⟩,zeo,by simp,by simp⟩;refine⟨[b],⟨l3,by omega,by omega,.inr ⟨b,cs,rfl,L,(e3.ofKeep k4).keep (A b (by omega)),by omega,by simp_all⟩⟩,by simp,by simpa using e2,by simpa using e3.lt⟩
 obtain⟨bb,b,cs,ab,p,N,aI,aj⟩:∃(bb:List Nat) (b:Nat) (cs:Array Value),v.items.length<=c2.cap/\((v.items=[]/\bb=[]/\c2.cap=0)\/(bb=[b]/\c2.a=Tc ⟨b,0,Td⟩/\Blk h6 b cs/\c2.cap*4<=cs.size))/\(∀i,i<v.items.length->cut cs (i*4) 4=(cells.drop (i*4)).take 4)/\bb.Nodup/\∀x∈bb,h3.size<=x:=by
  rcases Owns.blk o4 with⟨h0,S,P⟩|⟨b,cs,L,e2,e3,e4,e5,e6⟩;have:v.items.length=0:=by omega
  exact⟨[],0,#[],by omega,.inl ⟨zbb this,rfl,P⟩,λi hi=>by omega,zeo,by simp⟩;refine⟨[b],b,cs,by omega,.inr ⟨rfl,L,e3.keep (A b (by omega)),e4⟩,λi hi=>?_,by simp,by simpa using e2⟩;grind [YJ]
 have af:CI B h6 M v h.size h1.size s c2 bk bb b cs (λ_=>[]) 0:={
  ag:=ag.keep am,box1:=C,box2:=⟨_,aa.keep (A _ (by omega)),rfl⟩,keys:=F,hz:=p,did:=λi _ hi=>by omega
  todo:=λi f _=>by rw[N i f];have:=rc.2 i f;unfold RdV;simp only[gO,if_true];exact⟨_,rfl,this⟩
  nd:=by grind
  big:=by grind }
 refine⟨λi h'=>∃(k:Nat) (cs:Array Value) (z:Nat->List Nat),i=(k:Int)/\k<=v.items.length/\Keep h.size h h'/\B.size<=h'.size/\CI B h' M v h.size h1.size s c2 bk bb b cs z k,λi _=>v.items.length-i.toNat,⟨0,cs,_,rfl,by omega,am,by omega,af⟩,?_⟩;clear af N p F C ah ai aa A f5 f6 o3 o4 rc;rintro i h7 ⟨k,cs,z,rfl,hk,k7,z7,I⟩;refine⟨λS=>?_,λS=>?_⟩;have r:k<v.items.length:=by simp at S;omega
 rcases I.hz with⟨h0,_⟩|⟨p,L,hb,au⟩;rw[h0]at r;simp at r;have N:v.items.length*4<=cs.size:=by omega
 have aH:=I.todo k r (zaf _);obtain⟨tk,ti,q,rtk,rti⟩:=yj aH;have V:cut cs (k*4) 4=zx v.items[k].kind v.items[k].text tk ti:=by injection q with q;exact congrArg Array.toList q
 refine⟨⟨b,0,Td⟩,⟨L,by omega,by omega⟩,v.items[k].kind,v.items[k].text,tk,ti,?_,?_⟩;rw[qe,zao,za5];exact sJ hb (vs:=zx v.items[k].kind v.items[k].text tk ti) (o:=k*4) (i:=0) V;intro h8;obtain⟨k8,z8,b8⟩:=wq (g:=h8) rfl;clear_value h8;refine xf b8 rfl _ _ _ _ λh9 b9 z9 f9=>?_;have k9:Keep h7.size h7 h9:=⟨by omega,λj t=>by rw[f9 j (by omega)];exact k8.get j t⟩;have box1:=I.box1.ofKeep k9;refine⟨c2,box1.cell (o:=3) rfl,v.items[k].kind,v.items[k].text,tk,ti,sJ b9 (vs:=zx v.items[k].kind v.items[k].text tk ti) (o:=0) (i:=0) wZ,?_⟩;have hm:v.items[k]∈v.items:=zay r;have aP:=yl hm;refine(ih v.items[k] (by omega) (hv.item hm) (I.ag.keep k9) (zn rtk rti)).mono ?_;rintro w h10 ⟨D,bs,dk,di,rfl,ot,aN⟩;refine⟨v.items[k].kind,v.items[k].text,dk,di,rfl,⟨b,0,Td⟩,⟨L,by omega,by omega⟩,D.get _ box1.lt,?_⟩;have an:=(hb.ofKeep k9).ofKeep D;have aO:=D.size;rw[qe,zao,za5];refine Qz (vs:=zx v.items[k].kind v.items[k].text dk di) Kq an (EX _ _ _ _) Gr (by show k*4+4<=cs.size;omega) (Dk _ _ _ _) λaA ay aZ ae=>?_;have ak:Keep h7.size h7 h10:=k9.trans D (by omega);have aS:=hb.lt;have fr:∀x,x≠b->x<h7.size->aA[x]?=h7[x]?:=λx f hl=>by rw[ae x f];exact ak.get x hl
 have ar:∀x∈bk++(bb++(zbk k).flatMap z),B.size<=x:=I.big;have aj:B.size<=b:=ar b (by rw[p];simp);have Z:=I.nd;rw[zc6]at Z;obtain⟨aQ,Y,aB⟩:=Z;rw[zc6]at Y;obtain⟨aY,aU,aC⟩:=Y;have J:∀x∈bk++(bb++(zbk k).flatMap z),x<h7.size:=by intro x f;rw[zaz,zaz]at f;rcases f with f|f|f;obtain⟨_,_,_,q4⟩:=I.keys;rcases q4 with⟨_,rfl,_⟩|⟨b',cs',rfl,_,e,_⟩;cases f;simp at f;subst f;exact e.lt;grind;obtain⟨j,t,f⟩:=Dh.1 f;exact(I.did j (by omega) t).lt x f
 have F:∀x∈bk,x≠b:=λx f e=>aB x f b (by rw[p];simp) e;have ax:∀j,j<k->∀x∈z j,x≠b:=λj t x f e=>aC b (by rw[p];simp) x (Dh.2 ⟨j,t,f⟩) e.symm;have ap:∀x∈bs,x≠b:=λx f e=>by grind
 have G:(zbk (k+1)).flatMap (λj=>if j=k then bs else z j)=(zbk k).flatMap z++bs:=by
  rw[List.range_succ,List.flatMap_append];congr 1;have:∀(l:List Nat),(∀x∈l,x<k)->l.flatMap (λj=>if j=k then bs else z j)=l.flatMap z:=by
   intro l;induction l with
   |nil=>intro _;rfl
   |cons a l aF=>intro hl;rw[zb0,zb0,za (by have:=hl a (by simp);omega),aF λx f=>hl x (by simp[f])]
  exact this _ λx f=>by simpa using f
  simp
 rw[Ze r (by omega)];refine⟨⟨k+1,upd cs (k*4) (zx v.items[k].kind v.items[k].text dk di),λj=>if j=k then bs else z j,rfl,by omega,⟨by omega,λx f=>by rw[fr x (by omega) (by omega)];exact k7.get x f⟩,by omega,{
  ag:=λx c e=>?_,box1:=I.box1.keep (fr _ (by omega) (by omega)),box2:=?_,keys:=I.keys.frame λx f=>fr x (F x f) (J x (by simp[f])),hz:=.inr ⟨p,L,ay,by rw[xW (by show k*4+4<=cs.size;omega)];exact au⟩,did:=?_,todo:=?_,nd:=?_,big:=?_ }⟩,by simp;omega⟩
 have f:=ag.lt e;obtain⟨T,m,e'⟩:=I.ag x c e;grind;obtain⟨q,E,O⟩:=I.box2;exact⟨q,E.keep (fr _ (by omega) E.lt),O⟩;intro j t aE;by_cases H:j=k;subst H;simp only[if_true];have:=Rb (cs:=cs) (o:=j*4) (vs:=zx v.items[j].kind v.items[j].text dk di) (by show j*4+4<=cs.size;omega);rw[show(zx v.items[j].kind v.items[j].text dk di).length=4 from rfl]at this;rw[this];exact ot.frame λx f=>ae x (ap x f);simp only[H,if_false];rw[II (by show k*4+4<=cs.size;omega) (by left;omega)];exact(I.did j t (by omega)).frame λx f=>fr x (ax j (by omega) x f) (J x (by rw[zaz,zaz];exact .inr (.inr (Dh.2 ⟨j,by omega,f⟩))));intro j t aE;rw[II (by show k*4+4<=cs.size;omega) (by right;show k*4+4<=j*4;omega)];exact I.todo j t (by omega);rw[G,<-zcb,<-zcb,zc6];refine⟨by grind,ot.nodup,λx f y hy e=>?_⟩;grind;intro x f;rw[G,<-zcb,<-zcb,zaz]at f;grind;have r:k=v.items.length:=by simp at S;omega
 subst r;refine⟨v.kind,v.text,s,c2,sJ I.box1 (vs:=zx v.kind v.text s c2) (o:=0) (i:=0) wZ,?_⟩;obtain⟨q,E,O⟩:=I.box2;refine xf E O _ _ _ _ λh8 b8 z8 f8=>?_;refine⟨v.kind,v.text,s,c2,sJ b8 (vs:=zx v.kind v.text s c2) (o:=0) (i:=0) wZ,⟨by omega,λx f=>by rw[f8 x (by omega)];exact k7.get x f⟩,_,s,c2,rfl,?_,λx f=>by have:=I.big x f;omega⟩;have ot:OT h7 (.mk v.kind v.text v.keys v.items) (bk++(bb++(zbk v.items.length).flatMap z)) (zx v.kind v.text s c2):=by exact OT.mk (b:=b) (cs:=cs) I.keys ⟨l4,by omega,ab⟩ I.hz (λi f=>I.did i f f) I.nd
 rw[xb]at ot;exact ot.frame λx f=>f8 x (by have:=I.big x f;omega)
end
section
theorem zsq(b:Int)(c:Bt)(d:Sl)(e:Sl)(f:Int)(g:Bt)(i:Sl)(j:Sl)(h:zc)(R:Value->zc->Prop) (H:let k:=h.push (.cells #[iV b,.string c,aK d,aK e] 25);let l:=k.push (.cells #[iV f,.string g,aK i,aK j] 25);∀m:Bool->zc->Prop,(∀n:Bool,∀o:zc,((n=Ta->R (.bool Tb) o)/\(n=Tb->∃p,zf o (zae ⟨h.size,0,Td⟩ 0)=Tc (iV p)/\((p != 6)=Ta->∃q,zf o (zae ⟨h.size,0,Td⟩ 3)=Tc (aK q)/\∃r,zf o (zae ⟨k.size,0,Td⟩ 3)=Tc (aK r)/\XC Tp 324 #[aK q,aK r,.func (.func 265) #[] #[]] o (λs t=>∃u,s=.bool u/\R (.bool u) t))/\((p != 6)=Tb->∃v w x y,zd o ⟨h.size,0,Td⟩ 0 (tL v w x y)/\∃z A B C,zd o ⟨k.size,0,Td⟩ 0 (tL z A B C)/\XC Tp 108 #[tA v w x y] o (λD E=>∃F:Option Nat,D=.map F/\(E)[(⟨k.size,0,Td⟩:Addr).block]?=(o)[(⟨k.size,0,Td⟩:Addr).block]?/\XC Tp 108 #[tA z A B C] E (λG I=>∃J:Option Nat,G=.map J/\XC Tp 325 #[.map F,.map J,.func (.func 265) #[] #[]] I (λL M=>∃N,L=.bool N/\R (.bool N) M))))))->m n o)->∃O,zf l (zae ⟨h.size,0,Td⟩ 0)=Tc (iV O)/\∃P,zf l (zae ⟨k.size,0,Td⟩ 0)=Tc (iV P)/\((O != P)=Ta->m (O != P) l)/\((O != P)=Tb->∃Q,zf l (zae ⟨h.size,0,Td⟩ 1)=Tc (.string Q)/\∃S,zf l (zae ⟨k.size,0,Td⟩ 1)=Tc (.string S)/\((!(Q.toList==S.toList))=Ta->m (!(Q.toList==S.toList)) l)/\((!(Q.toList==S.toList))=Tb->∃T,zf l (zae ⟨h.size,0,Td⟩ 3)=Tc (aK T)/\∃U,zf l (zae ⟨k.size,0,Td⟩ 3)=Tc (aK U)/\m ((T.len:Int) != (U.len:Int)) l))):
  XC Tp 265 #[.agg #[.int .i64 b,.string c,.slice d.a d.len d.cap,.slice e.a e.len e.cap],.agg #[.int .i64 f,.string g,.slice i.a i.len i.cap,.slice j.a j.len j.cap]] h R:=
 XF ⟨[(7,8000)],[],[(4,[(5,.one (.bool))])]⟩ [.tmp 4] 37 Tryz.func265 H
theorem yh(F:Sl)(G:Sl)(I:FuncId)(J:Array Value)(L:Array Value)(h:zc)(R:Value->zc->Prop) (H:(((F.len:Int) != (G.len:Int))=Ta->R (.bool Tb) h)/\(((F.len:Int) != (G.len:Int))=Tb->∃(b:Int->zc->Prop) (c:Int->zc->Nat),b 0 h/\∀d:Int,∀e:zc,b d e->((decide (d<F.len)=Ta->∃f,(F.a=Tc f/\0<=d/\d<F.len)/\∃g i j k,zd e (f.add (d.toNat*4)) 0 (tL g i j k)/\let l:=e.push (.cells tC 25);XRunU Tp (zag 25 (.pointer (Tc ⟨e.size,0,Td⟩)) (tA g i j k)) l (λm=>∃n,(G.a=Tc n/\0<=d/\d<G.len)/\∃o p q r,zd m (n.add (d.toNat*4)) 0 (tL o p q r)/\let s:=m.push (.cells tC 25);XRunU Tp (zag 25 (.pointer (Tc ⟨m.size,0,Td⟩)) (tA o p q r)) s (λt=>∃u v w x,zd t ⟨e.size,0,Td⟩ 0 (tL u v w x)/\∃y z A B,zd t ⟨m.size,0,Td⟩ 0 (tL y z A B)/\zo Tp I=Ta/\XC Tp I (J++#[tA u v w x,tA y z A B]++L) t (λC D=>∃E,C=.bool E/\((!E)=Ta->R (.bool Tb) D)/\((!E)=Tb->(b (zaa .i64 (d+1)) D/\c (zaa .i64 (d+1)) D<c d e))))))/\(decide (d<F.len)=Tb->R (.bool Ta) e)))):
  XC Tp 324 #[.slice F.a F.len F.cap,.slice G.a G.len G.cap,.func (.func I) J L] h R:=
 XF ⟨[],[(4,[(17,.one (.int .i64))])],[]⟩ [.tmp 6] 32 Tryz.func324 H
theorem qd(aI:Option Nat)(aH:Option Nat)(aE:FuncId)(aG:Array Value)(aF:Array Value)(h:zc)(R:Value->zc->Prop) (H:∃b,QExec Tp (zda #[137] 3 #[.map aI]) h (iV b)/\∃c,QExec Tp (zda #[137] 3 #[.map aH]) h (iV c)/\((b != c)=Ta->R (.bool Tb) h)/\((b != c)=Tb->Qa Tp (zet 137 (.map aI)) h (λd e=>∃f:Option Addr,d=.pointer f/\∃(g:zc->Prop) (i:zc->Nat),g e/\∀j:zc,g j->(Qa Tp (zep (.pointer f) Tb 0) j (λk l=>(k=.tuple #[.bool Tb]/\(Tb=Ta->Qa Tp (zeu (.pointer f)) l (λm n=>∃o p:Value,m=.tuple #[o,p]/\let q:=n.push (.cells tC 25);XRunU Tp (zag 25 (.pointer (Tc ⟨n.size,0,Td⟩)) p) q (λr=>∃s t u v w,QExec Tp (zd1 137 (.map aH) o Ta) r (.tuple #[tA s t u v,.bool w])/\let x:=r.push (.cells tC 25);XRunU Tp (zag 25 (.pointer (Tc ⟨r.size,0,Td⟩)) (tA s t u v)) x (λy=>∃z A B C,((!(!w))=Ta->zd y ⟨n.size,0,Td⟩ 0 (tL z A B C))/\∃D E F G,((!(!w))=Ta->zd y ⟨r.size,0,Td⟩ 0 (tL D E F G))/\∃I:Value->zc->Prop,((!(!w))=Ta->zo Tp aE=Ta/\XC Tp aE (aG++#[tA z A B C,tA D E F G]++aF) y (λJ L=>∃M,J=.bool M/\I (.bool M) L))/\((!(!w))=Tb->∃N,I (.bool N) y)/\((!(!w))=Ta->∀O P,I O P->∃Q,O=.bool Q)/\∀S:Bool,∀T,I (.bool S) T->((bif (!w)then Ta else(!S))=Ta->R (.bool Tb) T)/\((bif (!w)then Ta else(!S))=Tb->(g T/\i T<i j))))))/\(Tb=Tb->R (.bool Ta) l))\/∃U V:Value,k=.tuple #[.bool Ta,U,V]/\(Ta=Ta->Qa Tp (zeu (.pointer f)) l (λW X=>∃Y Z:Value,W=.tuple #[Y,Z]/\let aa:=X.push (.cells tC 25);XRunU Tp (zag 25 (.pointer (Tc ⟨X.size,0,Td⟩)) Z) aa (λab=>∃ac ad ae af ag,QExec Tp (zd1 137 (.map aH) Y Ta) ab (.tuple #[tA ac ad ae af,.bool ag])/\let ah:=ab.push (.cells tC 25);XRunU Tp (zag 25 (.pointer (Tc ⟨ab.size,0,Td⟩)) (tA ac ad ae af)) ah (λai=>∃aj ak al am,((!(!ag))=Ta->zd ai ⟨X.size,0,Td⟩ 0 (tL aj ak al am))/\∃an ao ap aq,((!(!ag))=Ta->zd ai ⟨ab.size,0,Td⟩ 0 (tL an ao ap aq))/\∃ar:Value->zc->Prop,((!(!ag))=Ta->zo Tp aE=Ta/\XC Tp aE (aG++#[tA aj ak al am,tA an ao ap aq]++aF) ai (λau av=>∃aw,au=.bool aw/\ar (.bool aw) av))/\((!(!ag))=Tb->∃ax,ar (.bool ax) ai)/\((!(!ag))=Ta->∀ay az,ar ay az->∃aA,ay=.bool aA)/\∀aB:Bool,∀aC,ar (.bool aB) aC->((bif (!ag)then Ta else(!aB))=Ta->R (.bool Tb) aC)/\((bif (!ag)then Ta else(!aB))=Tb->(g aC/\i aC<i j))))))/\(Ta=Tb->R (.bool Ta) l)))))):
  XC Tp 325 #[.map aI,.map aH,.func (.func aE) aG aF] h R:=
 XF ⟨[],[(4,[])],[]⟩ [.tmp 6] 38 Tryz.func325 H
end
end Go.X
end
section
namespace Go.X
open Go Go.ChangeMaps
section
variable {h h':zc} {m r:Nat} {P:Program} {t kt et ty:TypeId} {K:Value -> zc -> Prop} {dn:List Value}
def MapW(h:zc)(m:Nat)(l:List (Value×Value)):Prop:=
 ∃c b,h[m]?=Tc (.map c b)/\c.toList.map (λe=>(e.key,e.val))=l/\(∀e∈c.toList,e.born<b)/\(c.toList.map (·.born)).Nodup
theorem MapW.keep{l:List (Value×Value)}(H:MapW h m l)(k:h'[m]?=h[m]?):MapW h' m l:=by obtain⟨b,c,h1,e⟩:=H;exact⟨b,c,k.trans h1,e⟩
theorem MapW.lt{l:List (Value×Value)}(H:MapW h m l):m<h.size:=by obtain⟨b,c,h1,e⟩:=H;grind
theorem MapW.new(h:zc):MapW (h.push (.map #[] 0)) h.size []:=⟨#[],0,w8 _ _,rfl,by simp,by simp⟩
def gM(l:List (Bt×Value)):List (Value×Value):=l.map λp=>(za1 p.1,p.2)
theorem MapW.at{l:List (Bt×Value)}(H:MapW h m (gM l)):MapAt h m l:=by obtain⟨b,c,h1,e,_⟩:=H;exact⟨b,c,h1,e⟩
theorem qfr{z:Value}(T:MapT P t kt et z){l:List (Bt×Value)}(H:MapW h m (gM l))(k:Bt)(v:Value){K:zc->Prop}
  (x:∀h':zc,MapW h' m (gM (kN l k v))->h'.size=h.size->(∀i,i≠m->h'[i]?=h[i]?)->K h'):XRunU P (zc7 t (.map (Tc m)) (.string k) v) h K:=by
 have f:=H.lt;obtain⟨b,c,h1,r,M,J⟩:=H;intro B d;have C:=QExec.underlying (h:=h) T.map B d;have w:=Wr (P:=P) h1 B d;have D:=yV T.key Tb k h B d;have n:∀o:Obj,(setObj m o).run P (mk B d h)=.ok () (mk B d (h.setIfInBounds m o)):=by intro o;have:(mk B d h).heap[m]?=Tc (.map b c):=h1;simp[setObj,Sem.run,this];rfl
 unfold zc7;rcases Xr k b.toList l 0 r with⟨A,q⟩|⟨j,O,e,A,q,I,L,G,E⟩;refine⟨d,h.setIfInBounds m (.map (b.push { key:=.string k,val:=v,born:=c }) (c+1)),?_,x _ ⟨b.push { key:=.string k,val:=v,born:=c },c+1,by simp[f],?_,?_,?_⟩ (by simp) (λi hi=>by grind)⟩;rw[Sem.run_bind,C];simp only[Result.andThen_ok,Sem.run_bind,w,D];rw[Qj T.key k b.toList Td h q B d];simp_all;rw[wX A];unfold gM at r ⊢;simp[r];grind;grind;have y:j<b.size:=by have:=(za0.1 q).1;simpa using this
 have u:((b.modify j λe=>{ e with key:=.string k,val:=v }).toList.map (·.born))=b.toList.map (·.born):=by apply zbt;intro i;simp only[Array.toList_modify,zbu,zck];by_cases F:j=i;simp_all;simp_all
 refine⟨d,_,?_,x (h.setIfInBounds m (.map (b.modify j λe=>{ e with key:=.string k,val:=v }) c)) ⟨b.modify j λe=>{ e with key:=.string k,val:=v },c,by simp[f],?_,?_,?_⟩ (by simp) (λi hi=>by grind)⟩;rw[Sem.run_bind,C];simp only[Result.andThen_ok,Sem.run_bind,w,D];rw[Qj T.key k b.toList _ h G B d];simp only[Result.andThen_ok,za5];have p:((b[j]?).map (·.key)).getD (.string k)=.string k:=by
  have:b[j]?=Tc e:=by simpa using q
  rw[this];exact I
 rw[p];have N:zej (.string k) (.string k)=pure (.string k):=by unfold zej;rw[zb (by show(k==k)=Ta;simp)]
 simp_all;have:=E v;unfold gM;grind;intro e' s;have:e'.born∈((b.modify j λe=>{ e with key:=.string k,val:=v }).toList.map (·.born)):=zb1.2 ⟨e',s,rfl⟩;grind;simp_all
def MapIt(h:zc)(r m:Nat)(l:List (Value×Value))(dn:List Value):Prop:=
 ∃k f b i c,h[r]?=Tc (.mapIter (Tc m) b i c)/\h[m]?=Tc (.map k f)/\k.toList.map (λe=>(e.key,e.val))=l/\(∀e∈k.toList,e.born<b)/\b<=c/\b<=f/\(k.toList.map (·.born)).Nodup /\
  ∀e∈k.toList,i.contains e.born=Ta↔e.key∈dn
theorem MapIt.keep{l:List (Value×Value)}(H:MapIt h r m l dn)(i:h'[r]?=h[r]?)(k2:h'[m]?=h[m]?):MapIt h' r m l dn:=by obtain⟨n,e,b,f,c,h1,k,o⟩:=H;exact⟨n,e,b,f,c,i.trans h1,k2.trans k,o⟩
def GX(h:zc)(r m:Nat)(k v:Value):Prop:=
 ∃(i:Array MapEntry) (b c:Nat) (f:Array Nat) (e:MapEntry),h[r]?=Tc (.mapIter (Tc m) c (f.push e.born) b)/\h[m]?=Tc (.map i b)/\e∈i.toList/\(i.toList.map (·.born)).Nodup/\e.key=k/\e.val=v
theorem KE(q:P.underlying t=Tc (.map kt et)){l:List (Value×Value)}(H:MapW h m l)
  (r:∀h',h'.size=h.size+1->Keep h.size h h'->MapIt h' h.size m l []->K (.pointer (Tc ⟨h.size,0,Td⟩)) h'):Qa P (zet t (.map (Tc m))) h K:=by
 have b:=H.lt;obtain⟨k,c,h1,f,o,i⟩:=H;intro B d;have n:=QExec.underlying (h:=h) q B d;have p:=Wr (P:=P) h1 B d;refine⟨.pointer (Tc ⟨h.size,0,Td⟩),d,h.push (.mapIter (Tc m) c #[] c),?_,r _ (by simp) (Keep.push _ _ (zaf _)) ⟨k,c,c,#[],c,w8 _ _,?_,f,o,zaf _,zaf _,i,λe s=>by simp⟩⟩;unfold zet;rw[Sem.run_bind,n];simp only[Result.andThen_ok,Sem.run_bind,p,Sem.run_pure];rfl;grind
theorem RF{c:List MapEntry}(h:(c.map (·.born)).Nodup){a b:MapEntry}(f:a∈c)(k:b∈c)(e:a.born=b.born):a=b:=by
 induction c with
 |nil=>cases f
 |cons x c i=>grind
theorem Mo{c:List MapEntry}(h:(c.map (·.key)).Nodup){a b:MapEntry}(f:a∈c)(k:b∈c)(e:a.key=b.key):a=b:=by
 induction c with
 |nil=>cases f
 |cons x c i=>grind
def leftN(h:zc)(r m:Nat):Nat:=match h[r]?,h[m]? with
 |some (.mapIter _ _ seen _),Tc (.map es _)=>(es.toList.filter λe=>!seen.contains e.born).length
 |_,_=>0
theorem leftN.keep(b:h'[r]?=h[r]?)(k2:h'[m]?=h[m]?):leftN h' r m=leftN h r m:=by unfold leftN;rw[b,k2]
theorem D6{α:Type}{p q:α->Bool}(h:∀x,p x=Ta->q x=Ta):∀l:List α,(l.filter p).length<=(l.filter q).length
 |[]=>zaf _
 |x::l=>by have:=D6 h l;grind
theorem filter_lt{α:Type}{p q:α->Bool}(h:∀x,p x=Ta->q x=Ta){e:α}(h1:p e=Tb)(c:q e=Ta):∀l:List α,e∈l->(l.filter p).length<(l.filter q).length
 |[],b=>by cases b
 |x::l,b=>by rw[zc4,zc4];rcases zah.1 b with rfl|b;have:=D6 h l;grind;have:=filter_lt h h1 c l b;grind
theorem Em{l:List (Value×Value)}(H:MapIt h r m l dn)(Y:(l.map (·.1)).Nodup)(F:r≠m) (w:(∀p∈l,p.1∈dn)->K (.tuple #[.bool Tb]) h) (t:∀k v,(k,v)∈l->k∉dn->∀h',MapIt h' r m l (k::dn)->GX h' r m k v->h'.size=h.size->(∀j,j≠r->h'[j]?=h[j]?)->leftN h' r m<leftN h r m->K (.tuple #[.bool Ta,k,v]) h'):
  Qa P (zep (.pointer (Tc ⟨r,0,Td⟩)) Tb ty) h K:=by
 obtain⟨o,b,f,i,c,h1,A,D,I,U,N,G,J⟩:=H;intro B d;have S:(o.toList.map (·.key)).Nodup:=by
  have e:o.toList.map (·.key)=l.map (·.1):=by rw[<-D,zb6];rfl
  rw[e];exact Y
 rcases run_next_at (P:=P) (mk B d h) ty r m f c i o b h1 A I U with⟨O,z⟩|⟨e,L,w1,Q,z⟩;refine⟨_,d,h,z,w λp M=>?_⟩;rw[<-D]at M;obtain⟨x,u,rfl⟩:=zb1.1 M;refine(J x u).1 ?_;have:leftOf o i=#[]:=Array.eq_empty_of_size_eq_zero O;unfold leftOf at this;simp_all;have n:e∈o.toList/\i.contains e.born=Tb:=by unfold leftOf at L;simpa using L
 have V:r<h.size:=(zai.1 h1).1;have y:∃C,setBlock w1 r (.mapIter (Tc m) f (i.push e.born) b)=mk B C (h.setIfInBounds r (.mapIter (Tc m) f (i.push e.born) b)):=by rcases Q with rfl|rfl;exact⟨d,rfl⟩;exact⟨d+1,rfl⟩
 obtain⟨C,E⟩:=y;rw[E]at z;have q:(h.setIfInBounds r (.mapIter (Tc m) f (i.push e.born) b))[m]?=Tc (.map o b):=by rw[zcs F];exact A
 have s:(h.setIfInBounds r (.mapIter (Tc m) f (i.push e.born) b))[r]?=Tc (.mapIter (Tc m) f (i.push e.born) b):=by simp[V]
 refine⟨_,C,_,z,t e.key e.val (by grind) (λhm=>?_) _ ⟨o,b,f,i.push e.born,b,s,q,D,I,N,N,G,λx u=>?_⟩ ⟨o,b,f,i,e,s,q,n.1,G,rfl,rfl⟩ (by simp) (λj Z=>by grind) ?_⟩;grind;rw[zah,<-J x u];simp only[Array.contains_eq_mem,Array.mem_push,zA];constructor;rintro(h|h);exact .inr h;exact .inl (by rw[RF G u n.1 h]);rintro(h|h);exact .inr (by rw[Mo S u n.1 h]);exact .inl h;unfold leftN;rw[s,q,h1,A];refine filter_lt (e:=e) (λx u=>?_) ?_ ?_ _ n.1;simp_all;simp;grind
theorem JW{k v:Value}(H:GX h r m k v)(o:K (.tuple #[k,v]) h):Qa P (zeu (.pointer (Tc ⟨r,0,Td⟩))) h K:=by obtain⟨n,c,b,f,e,h1,i,p,l,rfl,rfl⟩:=H;intro B d;exact⟨_,d,h,run_entry_at (P:=P) (mk B d h) r m b f n c e h1 i p l,o⟩
theorem IX(k:P.underlying t=Tc (.map kt et)){l:List (Value×Value)}(H:MapW h m l):QExec P (zda #[t] ty #[.map (Tc m)]) h (.int .i64 (l.length:Int)):=by
 obtain⟨f,c,h1,e,_⟩:=H;intro B d;have i:=QExec.underlying (h:=h) k B d;have n:=Wr (P:=P) h1 B d;have b:l.length=f.size:=by rw[<-e];simp
 simp[zda,i,n,goInt,b]
end
end Go.X
end
section
namespace Go.X
open Go Go.X Go.Proofs Go.Lib
section
theorem mapVal:MapT Tp 137 9 25 (.agg #[.int .i64 0,.string ⟨#[]⟩,.slice Td 0 0,.slice Td 0 0]):=⟨by kernel_rfl,by kernel_rfl,⟨Tryz.t25,by kernel_rfl,by kernel_rfl⟩⟩
theorem DY(k:Bt):∀(ks:List Bt) (us:List Value) (i:Nat),ks.length=us.length->(idxFromS ks k i=-1/\gR (ks.zip us) k=Td)\/∃j u,idxFromS ks k i=((i+j:Nat):Int)/\us[j]?=Tc u/\gR (ks.zip us) k=Tc u
 |[],[],_,_=>.inl ⟨rfl,rfl⟩
 |z::ks,u::us,i,h=>by unfold idxFromS;rw[zb8,gR];by_cases hz:z=k;grind;rw[za hz,za hz];rcases DY k ks us (i+1) (by simpa using h)with h1|⟨j,w,h1,b,c⟩;grind;exact .inr ⟨j+1,w,by omega,by simpa using b,c⟩
 |[],_::_,_,h=>by simp at h
 |_::_,[],_,h=>by simp at h
theorem WZ{l:List (Bt×Value)}{k:Bt}(h:k∉l.map (·.1)):gR l k=Td:=by
 induction l with
 |nil=>rfl
 |cons p l b=>simp only[zbh,zah,not_or]at h;rw[gR,za (λe=>h.1 e.symm),b h.2]
theorem NW{α β:Type}{xs:List α}{ys:List β}{k:Nat}(b:k<xs.length){u:β}(c:ys.length=k):(xs.take (k+1)).zip (ys++[u])=(xs.take k).zip ys++[(xs[k],u)]:=by rw[zar b,List.zip_append (by simp;omega)];rfl
set_option maxHeartbeats 1000000 in
theorem yP{v:Tr}(Q:v.keys.Nodup)(hl:v.keys.length=v.items.length)(hi:v.items.length<=1000000000000){h:zc}{M:Fr}{u:Value}(ag:AgM M h)(N:RdV M .tree v u){K:Value->zc->Prop} (hK:∀(h':zc) (m:Nat) (us:List Value),Keep h.size h h'->h.size<=m->us.length=v.items.length->(∀i (h1:i<v.items.length) (l:i<us.length),RdV M .tree v.items[i] us[i])->MapW h' m (gM (v.keys.zip us))->K (.map (Tc m)) h'):
  XC Tp 108 #[u] h K:=by
 obtain⟨sk,si,rfl,A,D⟩:=yj N;obtain⟨lk,_,_⟩:=rowLen A;obtain⟨li,_,_⟩:=rowLen D;apply TR v.kind v.text sk si;intro h1;obtain⟨E,z1,y⟩:=wq (g:=h1) rfl;clear_value h1;refine⟨sk,y.cellAdd (by rfl),?_⟩;intro b;have z:Keep h1.size h1 b:=Keep.push _ _ (zaf _);have H:MapW b h1.size []:=MapW.new _;have z3:b.size=h1.size+1:=zau _;clear_value b;have b3:=y.ofKeep z;have I:Keep h.size h b:=E.trans z (by omega);refine⟨sk,b3.cellAdd (by rfl),λx g=>∃(k:Nat) (us:List Value),x=(k:Int)/\k<=v.items.length/\us.length=k/\g.size=b.size/\(∀j,j≠h1.size->g[j]?=b[j]?)/\(∀i (h1:i<v.items.length) (l:i<us.length),RdV M .tree v.items[i] us[i])/\MapW g h1.size (gM ((v.keys.take k).zip us)),λx _=>v.items.length-x.toNat,⟨0,[],rfl,zbn _,rfl,rfl,λ_ _=>rfl,λi _ l=>by simp at l,by simpa[gM]using H⟩,?_⟩;rintro x g ⟨k,us,rfl,Z,n,Y,s,hr,J⟩;have F:Keep h.size h g:=⟨by omega,λj q=>by rw[s j (by omega)];exact I.get j q⟩;have agg:=ag.keep F;refine⟨λw=>?_,λw=>?_⟩;have f:k<v.keys.length:=by rw[lk]at w;simp at w;omega
 have p:k<v.items.length:=by omega
 refine mJ agg A f rfl rfl ?_;have L:Blk g h.size (zx v.kind v.text sk si).toArray:=b3.keep (s _ (by omega));obtain⟨a,B,C,V,t,G,S⟩:=lF agg D p;refine⟨si,L.cellAdd (by rfl),a,⟨V,by omega,by omega⟩,v.items[k].kind,v.items[k].text,B,C,?_,?_⟩;rw[zao];exact t;refine qfr mapVal J v.keys[k] _ λg' o O r=>?_;rw[Ze p (by omega)];refine⟨⟨k+1,us++[.agg #[.int .i64 v.items[k].kind,.string v.items[k].text,aK B,aK C]],rfl,by omega,by simp;omega,by omega,λj q=>(r j q).trans (s j q),λi h1 l=>?_,?_⟩,by grind⟩;rw[List.getElem_append];split;grind;rename_i b;have:i=k:=by simp at l;omega
 subst this;simp only[n,Nat.sub_self,List.getElem_cons_zero];exact zn G S;rw[NW f n];have c:gR ((v.keys.take k).zip us) v.keys[k]=Td:=WZ λU=>by
  rw[List.map_fst_zip (by simp;omega)]at U;have P:=Q;have e:v.keys=v.keys.take k++v.keys[k]::v.keys.drop (k+1):=by rw[<-za9 f,zce]
  grind
 rw[wX c]at o;exact o;grind
end
end Go.X
end
section
namespace Go.X
section
theorem Tz(gl:Fr)(a0:Tr)(f:Tr)(R:Bool->Prop) (H:PC Tp gl 65 [Arg.mk .tree (Tr.mk a0.kind a0.text a0.keys a0.items)] [.bool] (λa:Bool=>∃b:Bool->Prop,(a=Ta->PC Tp gl 65 [Arg.mk .tree (Tr.mk f.kind f.text f.keys f.items)] [.bool] b)/\∀c:Bool,(a=Ta->b c)->∃d:Bool->Prop,((bif a then c else Tb)=Ta->PC Tp gl 265 [Arg.mk .tree (Tr.mk a0.kind a0.text a0.keys a0.items),Arg.mk .tree (Tr.mk f.kind f.text f.keys f.items)] [.bool] d)/\∀e:Bool,((bif a then c else Tb)=Ta->d e)->R (bif (bif a then c else Tb)then e else Tb))):
  PC Tp gl 198 [Arg.mk .tree a0,Arg.mk .tree f] [.bool] R:=
 PF ⟨[],[],[],[]⟩ [.tmp 4] 16 Tryz.func198 H
end
end Go.X
end
section
namespace Go.X
open Go Go.Lib
section
mutual
def iJ:Tr->Nat | .mk _ _ ks xs=>1+ks.length+iA xs
def iA:List Tr->Nat | []=>0|x::l=>iJ x+iA l
end
theorem VU(v:Tr):iJ v=1+v.keys.length+iA v.items:=by cases v;rw[iJ]
theorem Ec:∀a b:List Tr,iA (a++b)=iA a+iA b
 |[],b=>by simp[iA]
 |x::l,b=>by rw[zby,iA,iA,Ec l b];omega
theorem qaw{l:List Tr}{k:Nat}(b:k<l.length):iA (l.take (k+1))=iA (l.take k)+iJ l[k]:=by rw[zar b,Ec];simp[iA]
mutual
theorem nt:∀v:Tr,bR v<=iJ v
 |.mk k s ks xs=>by rw[bR,iJ];have:=Gb xs;omega
theorem Gb:∀l:List Tr,Z0 l<=iA l
 |[]=>by simp[Z0,iA]
 |x::l=>by rw[Z0,iA];have:=nt x;have:=Gb l;omega
end
mutual
def lL:Tr->Prop | .mk _ s ks xs=>(s.size<=2048/\∀k∈ks,k.size<=1024)/\nj xs
def nj:List Tr->Prop | []=>True|x::l=>lL x/\nj l
end
theorem qn6(v:Tr):lL v↔(v.text.size<=2048/\∀k∈v.keys,k.size<=1024)/\nj v.items:=by cases v;rw[lL]
theorem Gl:∀{l:List Tr},nj l↔∀x∈l,lL x
 |[]=>by simp[nj]
 |x::l=>by rw[nj,Gl];simp
mutual
theorem Ig:∀(v:Tr),iJ v<=1000000->lL v->iE 1048576 v
 |.mk k s ks xs,h,g=>by rw[iJ]at h;rw[lL]at g;rw[iE];exact⟨⟨by omega,by omega,λk b=>by grind⟩,JK xs (by omega) g.2⟩
theorem JK:∀(l:List Tr),iA l<=1000000->nj l->i6 1048576 l
 |[],_,_=>by rw[i6];trivial
 |x::l,h,g=>by rw[iA]at h;rw[nj]at g;rw[i6];exact⟨Ig x (by omega) g.1,JK l (by omega) g.2⟩
end
theorem Sm.few{v:Tr}(h:iJ v<=1000000)(g:lL v):Sm v:=⟨by have:=nt v;omega,Ig v h g⟩
def kE(l:List Bt):Bool:=decide (l.length<=64)&&l.all λs=>gL (lb s)
end
section
variable {α:Type}
structure IsCmp {α:Type} (c:α->α->Int):Prop where
 rng:∀a b,c a b=-1\/c a b=0\/c a b=1
 eq0:∀a b,c a b=0↔a=b
 swap:∀a b,c b a=-c a b
 tr:∀a b d,c a b<=0->c b d<=0->c a d<=0
def hC{α:Type}(c:α->α->Int):List α->List α->Int
 |[],[]=>0
 |[],_::_=>-1
 |_::_,[]=>1
 |a::l,b::m=>if c a b=0 then hC c l m else c a b
theorem Ik{c:α->α->Int}(H:IsCmp c):IsCmp (hC c) where
 rng:=by
  intro a;induction a with
  |nil=>intro b;cases b <;> simp[hC]
  |cons x a ih=>
   intro b;cases b with
   |nil=>simp[hC]
   |cons y b=>rw[hC];by_cases h:c x y=0;simp_all;rw[za h];exact H.rng x y
 eq0:=by
  intro a;induction a with
  |nil=>intro b;cases b <;> simp[hC]
  |cons x a ih=>
   intro b;cases b with
   |nil=>simp[hC]
   |cons y b=>rw[hC,zcg,<-H.eq0 x y];grind
 swap:=by
  intro a;induction a with
  |nil=>intro b;cases b <;> simp[hC]
  |cons x a ih=>
   intro b;cases b with
   |nil=>simp[hC]
   |cons y b=>rw[hC,hC,H.swap x y];grind
 tr:=by
  intro a;induction a with
  |nil=>intro b d h1 h2;cases d <;> simp[hC]
  |cons x a ih=>
   intro b d h1 h2;cases b with
   |nil=>simp[hC]at h1
   |cons y b=>
    cases d with
    |nil=>simp[hC]at h2
    |cons z d=>rw[hC]at h1 h2 ⊢;by_cases hxy:c x y=0;have:=(H.eq0 x y).1 hxy;grind;rw[za hxy]at h1;by_cases hyz:c y z=0;have:=(H.eq0 y z).1 hyz;simp_all;rw[za hyz]at h2;have h3:=H.tr x y z h1 h2;by_cases hxz:c x z=0;have:=(H.eq0 x z).1 hxz;subst this;have:=H.swap x y;omega;omega
theorem Pm{c:α->α->Int}(H:IsCmp c)(p x y:List α):hC c (p++x) (p++y)=hC c x y:=by
 induction p with
 |nil=>rfl
 |cons a p b=>rw[zby,zby,hC,zb ((H.eq0 a a).2 rfl),b]
def lj(a b:UInt8):Int:=if a.toNat<b.toNat then -1 else if a.toNat=b.toNat then 0 else 1
theorem cmpU_is:IsCmp lj where
 rng:=λa b=>by unfold lj;omega
 eq0:=λa b=>by unfold lj;rw[<-zdo];omega
 swap:=λa b=>by unfold lj;omega
 tr:=λa b d=>by unfold lj;omega
def gZ:Bs->Bs->Int:=hC lj
theorem cmpS_is:IsCmp gZ:=Ik cmpU_is
theorem KS:∀a b:Bs,zdg a b=decide (gZ a b=-1)
 |[],[]=>by simp[zdg,gZ,hC]
 |[],_::_=>by simp[zdg,gZ,hC]
 |_::_,[]=>by simp[zdg,gZ,hC]
 |a::l,b::m=>by
  have c:=KS l m;unfold gZ at c ⊢;rw[hC,zdg,c];by_cases h:a<b;have:lj a b=-1:=by unfold lj;rw[zb (UInt8.lt_iff_toNat_lt.1 h)]
  simp[h,this];by_cases f:a=b;subst f;simp[(cmpU_is.eq0 a a).2 rfl,h];have:lj a b=1:=by unfold lj;rw[za (λe=>h (UInt8.lt_iff_toNat_lt.2 e)),za (λe=>f (zdo.1 e))]
  grind
def cmpL:List Bs->List Bs->Int:=hC gZ
theorem cmpL_is:IsCmp cmpL:=Ik cmpS_is
theorem Re{a b:List Bs}{k:Nat}(h:a.take k=b.take k):cmpL a b=cmpL (a.drop k) (b.drop k):=by have:=Pm cmpS_is (a.take k) (a.drop k) (b.drop k);rw[zce,h,zce]at this;exact this
end
section
variable {l:Bs}
def nS(l:Bs):Prop:=∀c∈l,c.toNat<128
theorem Hh(cs:Bs):∀l:Bs,containsAny l cs=l.any λc=>cs.contains c
 |[]=>by simp[containsAny,indexAny]
 |c::l=>by have e:=Hh cs l;have b:=indexAny_ge cs l;rw[List.any_cons,<-e];unfold containsAny;rw[indexAny];grind
theorem Hx:∀(l:Bs) (b:Nat),l.all yq=Ta->b*10 ^ l.length+zz l<10 ^ 18->parseUint10 b l=.ok (b*10 ^ l.length+zz l)
 |[],b,_,_=>by simp[parseUint10,zz]
 |c::t,b,hd,hl=>by
  rw[zcx,zan]at hd
  have i:48<=c.toNat/\c.toNat<=57:=by simpa[yq]using hd.1
  have e:zz (c::t)=(c.toNat-48)*10 ^ t.length+zz t:=by
   have:=zQ [c] t
   rw[List.singleton_append]at this
   rw[this];simp[zz]
  have f:(b*10+(c.toNat-48))*10 ^ t.length+zz t=b*10 ^ (c::t).length+zz (c::t):=by
   rw[e,zbi,Nat.pow_succ,zc5,Nat.mul_assoc,Nat.mul_comm 10 (10 ^ t.length)];omega
  have h:1<=10 ^ t.length:=Nat.one_le_pow _ _ (by decide)
  have k:b*10+(c.toNat-48)<=b*10 ^ (c::t).length+zz (c::t):=by
   rw[<-f]
   calc b*10+(c.toNat-48)=(b*10+(c.toNat-48))*1:=by omega
    _<=(b*10+(c.toNat-48))*10 ^ t.length:=Nat.mul_le_mul_left _ h
    _<=_:=by omega
  rw[parseUint10,zb i,za (by omega),za (by omega),Hx t _ hd.2 (by omega),f]
theorem A9:∀(l:Bs) (b:Nat),l.all yq=Tb->∀v,parseUint10 b l≠.ok v
 |[],b,h,v=>by simp at h
 |c::t,b,h,v=>by
  rw[parseUint10];by_cases e:48<=c.toNat/\c.toNat<=57;have f:yq c=Ta:=by simp[yq,e]
  rw[zcx,f,zcq]at h;rw[zb e];by_cases h1:1844674407370955162<=b;simp_all;rw[za h1];by_cases i:18446744073709551616<=b*10+(c.toNat-48);simp_all;rw[za i];exact A9 t _ h v;grind
theorem T8(b:l.all yq=Ta)(e:l≠[])(h:l.length<=9):atoiAll l=.ok (zz l:Int):=by
 have i:zz l<10 ^ 9:=sH h b;have f:=Hx l 0 b (by omega);rw[Nat.zero_mul,za5]at f;obtain⟨c,t,rfl⟩:=zb3 e;have k:48<=c.toNat/\c.toNat<=57:=by rw[zcx,zan]at b;simpa[yq]using b.1
 unfold atoiAll;simp only;rw[za (by omega)];unfold parseMag;grind
theorem T7(b:l.all yq=Tb)(e:∀c,l.head?=Tc c->c.toNat≠43/\c.toNat≠45)(v:Int):atoiAll l≠.ok v:=by
 cases l with
 |nil=>simp at b
 |cons c t=>have f:=e c rfl;unfold atoiAll;simp only;rw[za (by omega)];unfold parseMag;rw[za (by simp)];grind [A9]
theorem qkp(h:¬nS l)(v:Int):atoiAll l≠.ok v:=by
 have i:∀m:Bs,¬nS m->∀u,parseMag m≠.ok u:=by intro m f u;unfold parseMag;split;simp;apply A9;rw[Bool.eq_false_iff];intro b;apply f;intro c e;rw[zas]at b;have:=b c e;simp[yq]at this;omega
 cases l with
 |nil=>exact absurd (λc e=>by cases e) h
 |cons c t=>
  unfold atoiAll;simp only;have f:¬nS (if c.toNat=43\/c.toNat=45 then t else c::t):=by split;rename_i e;intro k;apply h;intro d b;rcases zah.1 b with rfl|b;omega;exact k d b;exact h
  grind
def i9(l:Bs):Int×Bool:=if l.length<1\/9<l.length\/(1<l.length/\l.head?=Tc 48)then(0,Tb)else if l.all yq then((zz l:Int),Ta)else(0,Tb)
theorem Rp(h:(i9 l).2=Ta):0<=(i9 l).1/\(i9 l).1<1000000000:=by unfold i9 at h ⊢;split;omega;rename_i c;rw[za c]at h;split;rename_i b;have:zz l<10 ^ 9:=sH (by omega) b;omega;omega
end
section
variable {v:Tr} {s:Bt} {k:Nat}
theorem oV(x:Bt):∀(l:List Bt) (i:Nat),(idxFromS l x i=-1/\x∉l)\/∃k:Nat,idxFromS l x i=((i+k:Nat):Int)/\k<l.length/\l[k]?=Tc x
 |[],i=>.inl ⟨rfl,by simp⟩
 |z::l,i=>by unfold idxFromS;by_cases h:z=x;rw[zb h];exact .inr ⟨0,rfl,by simp,by simp[h]⟩;rw[za h];rcases oV x l (i+1)with⟨h1,b⟩|⟨k,h1,b,c⟩;grind;exact .inr ⟨k+1,by omega,by simp;omega,by simpa using c⟩
def Ym(v:Tr)(s:Bt):Int:=if v.kind=6 then idxOfS v.keys s else if v.kind=5 then(if(i9 (lb s)).2=Ta/\(i9 (lb s)).1<v.items.length then(i9 (lb s)).1 else -1)else -1
theorem GK(c:zh v=Ta)(s:Bt):Ym v s=-1\/∃k:Nat,Ym v s=k/\k<v.items.length:=by
 unfold Ym;by_cases b:v.kind=6;rw[zb b];have h:v.keys.length=v.items.length:=by unfold zh at c;simp[b]at c;exact c.1.2
 rcases oV s v.keys 0 with⟨h1,_⟩|⟨k,h1,i,_⟩;exact .inl h1;exact .inr ⟨k,by unfold idxOfS;rw[h1];simp,by omega⟩;rw[za b];by_cases f:v.kind=5;rw[zb f];by_cases e:(i9 (lb s)).2=Ta/\(i9 (lb s)).1<v.items.length;rw[zb e];have:=Rp e.1;exact .inr ⟨(i9 (lb s)).1.toNat,by omega,by omega⟩;grind;omega
def j9:Tr->List Bt->List (Nat×Tr)
 |_,[]=>[]
 |v,s::p=>if 0<=Ym v s then(match v.items[(Ym v s).toNat]? with
  |some x=>((Ym v s).toNat,x)::j9 x p
  |none=>[])else []
def lastT(v:Tr)(l:List (Nat×Tr)):Tr:=(l.getLast?.map (·.2)).getD v
theorem IM(v:Tr)(q:Nat×Tr)(l:List (Nat×Tr)):lastT v (q::l)=lastT q.2 l:=by unfold lastT;grind
theorem E6:∀(v:Tr) (p:List Bt),(j9 v p).length<=p.length
 |_,[]=>by simp[j9]
 |v,s::p=>by unfold j9;split;split;rename_i x _;have:=E6 x p;simp;omega;simp;simp
theorem C3{p:List Bt}(h:Ym v s<0):j9 v (s::p)=[]:=by unfold j9;grind
theorem wH{p:List Bt}(h:Ym v s=k)(b:k<v.items.length):j9 v (s::p)=(k,v.items[k])::j9 v.items[k] p:=by rw[j9,zb (by omega),h,zao,zaj b]
def Qo(v:Tr)(p:List Bt):Option Tr:=if(j9 v p).length=p.length then Tc (lastT v (j9 v p))else Td
theorem CN(v:Tr):Qo v []=Tc v:=rfl
theorem MR{p:List Bt}(h:Ym v s<0):Qo v (s::p)=Td:=by unfold Qo;rw[C3 h];simp
theorem HO{p:List Bt}(h:Ym v s=k)(b:k<v.items.length):Qo v (s::p)=Qo v.items[k] p:=by unfold Qo;rw[wH h b,IM];simp
theorem zk{q:Tr->Bool}{v x:Tr}(h:j7 q v=Ta)(b:x∈v.items):j7 q x=Ta:=by rw[y9,zan,j8,zas]at h;exact h.2 x b
theorem ye{q:Tr->Bool}(h:j7 q v=Ta):q v=Ta:=by rw[y9,zan]at h;exact h.1
end
end Go.X
end
section
namespace Go.X
open Go Go.RowKit
section
theorem XI{n:Nat}{c:Nat->List Nat}:((zbk n).flatMap c).Nodup↔(∀i,i<n->(c i).Nodup)/\∀i j,i<j->j<n->∀x∈c i,∀y∈c j,x≠y:=by unfold List.Nodup;rw[List.pairwise_flatMap,List.pairwise_iff_getElem];constructor;rintro⟨h1,f⟩;refine⟨λi hi=>h1 i (by simpa using hi),λi j b e=>?_⟩;have:=f i j (by simp;omega) (by simpa using e) b;simpa using this;rintro⟨h1,f⟩;refine⟨λi hi=>h1 i (by simpa using hi),λi j hi e b=>?_⟩;simp at hi e;simpa using f i j b e
end
end Go.X
end
section
namespace Go.X
open Go Go.Lib
section
def zT:Tr:=.mk 0 ⟨#[]⟩ [] []
def p6(v:Tr)(p:List Bt):Tr×Bool:=if jw v&&kE p then(match Qo v p with
 |some x=>(x,Ta)
 |none=>(zT,Tb))else(zT,Tb)
end
section
theorem ZK{c:UInt8}(h:yq c=Ta):48<=c.toNat/\c.toNat<=57:=by simpa[yq]using h
theorem Ez{x:Bt}{l:List Bt}{k:Nat}(h:idxOfS l x=(k:Int)):l[k]?=Tc x:=by rcases oV x l 0 with⟨h1,_⟩|⟨j,h1,b,c⟩;unfold idxOfS at h;omega;unfold idxOfS at h;grind
end
end Go.X
end
section
namespace Go.X
open Go Go.RowKit
section
variable {h:zc} {v:Tr} {sk si:Sl} {bk bb:List Nat} {b n i k:Nat} {cs:Array Value} {cw:List Value}
structure OTp (h:zc) (v:Tr) (sk si:Sl) (bk bb:List Nat) (b:Nat) (cs:Array Value) (bf:Nat->List Nat):Prop where
 keys:OKeys h v.keys bk sk
 hn:si.len=v.items.length/\v.items.length<=140737488355328/\v.items.length<=si.cap
 hz:(v.items=[]/\bb=[]/\si.cap=0)\/(bb=[b]/\si.a=Tc ⟨b,0,Td⟩/\Blk h b cs/\si.cap*4<=cs.size)
 hi:∀i (hx:i<v.items.length),OT h v.items[i] (bf i) (cut cs (i*4) 4)
 nk:bk.Nodup
 d1:∀c∈bk,c∉bb
 d2:∀c∈bk,∀i,i<v.items.length->c∉bf i
 d3:∀c∈bb,∀i,i<v.items.length->c∉bf i
 d4:∀i j,i<v.items.length->j<v.items.length->i≠j->∀c∈bf i,c∉bf j
def Yi(v:Tr)(sk si:Sl):List Value:=[.int .i64 v.kind,.string v.text,aK sk,aK si]
theorem OTp.ot{m:Nat->List Nat}(H:OTp h v sk si bk bb b cs m):OT h v (bk++(bb++(zbk v.items.length).flatMap m)) (Yi v sk si):=by obtain⟨k,s,ks,xs⟩:=v;refine OT.mk (b:=b) (cs:=cs) H.keys H.hn H.hz H.hi ?_;rw[zc6];refine⟨H.nk,?_,λx f y c e=>?_⟩;rw[zc6];refine⟨?_,XI.2 ⟨λi hi=>(H.hi i hi).nodup,λi j l n x f y c e=>?_⟩,λx f y c e=>?_⟩;rcases H.hz with⟨_,e,_⟩|⟨e,_⟩;simp_all;rw[e];simp;subst e;exact H.d4 i j (Nat.lt_trans l n) n (by omega) x f c;subst e;obtain⟨i,hi,c⟩:=zb5.1 c;exact H.d3 x f i (by simpa using hi) c;subst e;rcases zaz.1 c with c|c;exact H.d1 x f c;obtain⟨i,hi,c⟩:=zb5.1 c;exact H.d2 x f i (by simpa using hi) c
theorem YN{b:Nat->List Nat}{n c:Nat}:c∈bk++(bb++(zbk n).flatMap b)↔c∈bk\/c∈bb\/∃i,i<n/\c∈b i:=by simp
theorem AO(h:i+4<=n):cut cs i 4=((cut cs 0 n).drop i).take 4:=by unfold cut;rw[zc2,List.drop_take,List.take_take,zeg (by omega)]
theorem ZN{α:Type}{xs:List α}{w:α}(b:k<=xs.length)(h:i<(xs.take k++w::xs.drop k).length):
  (i<k/\∃h':i<xs.length,(xs.take k++w::xs.drop k)[i]=xs[i])\/(i=k/\(xs.take k++w::xs.drop k)[i]=w)\/(k<i/\∃h':i-1<xs.length,(xs.take k++w::xs.drop k)[i]=xs[i-1]):=by
 grind
theorem Px{c cw:List Value}(h:c.length=n*4)(b:cw.length=4)(f:k<=n):
  (∀i,i<k->((c.take (k*4)++cw++c.drop (k*4)).drop (i*4)).take 4=(c.drop (i*4)).take 4)/\((c.take (k*4)++cw++c.drop (k*4)).drop (k*4)).take 4=cw/\∀i,k<i->((c.take (k*4)++cw++c.drop (k*4)).drop (i*4)).take 4=(c.drop ((i-1)*4)).take 4:=by
 have e:(c.take (k*4)).length=k*4:=by rw[zcr];omega
 refine⟨λi hi=>?_,?_,λi hi=>?_⟩;apply zbt;intro j;rw[zba,zba];grind;simp_all;rw[List.drop_append,zci (by grind),zco,zat,e,b,zdb];congr 2;omega
theorem OTp.ins{h h':zc}{q:Nat->List Nat}(H:OTp h v sk si bk bb b cs q)(G:k<=v.items.length){w:Tr}{bw:List Nat}(ow:OT h' w bw cw) (J:∀i,i<v.items.length->∀c∈q i,h'[c]?=h[c]?) {p:Sl} {s:Nat} {cs':Array Value} (e1:p.a=Tc ⟨s,0,Td⟩) (Q:Blk h' s cs') (e3:p.len=v.items.length+1) (e4:v.items.length+1<=p.cap) (L:p.cap*4<=cs'.size) (e6:v.items.length+1<=140737488355328) (P:cut cs' 0 ((v.items.length+1)*4)=(cut cs 0 (v.items.length*4)).take (k*4)++cw++(cut cs 0 (v.items.length*4)).drop (k*4)) (ab:∀i,i<v.items.length->s∉q i) (B:s∉bw) (I:∀c∈bw,∀i,i<v.items.length->c∉q i) {x:List Bt} {z:Sl} {o:List Nat} (ok:OKeys h' x o z) (nk:o.Nodup) (O:s∉o) (M:∀c∈o,∀i,i<v.items.length->c∉q i) (aa:∀c∈o,c∉bw):
  OTp h' (.mk v.kind v.text x (v.items.take k++w::v.items.drop k)) z p o [s] s cs' (λi=>if i<k then q i else if i=k then bw else q (i-1)):=by
 have l:(v.items.take k++w::v.items.drop k).length=v.items.length+1:=by simp;omega
 have E:∀i (C:i<v.items.length),(cut cs 0 (v.items.length*4)).length=v.items.length*4:=by intro i C;rcases H.hz with⟨h0,_⟩|⟨_,_,_,Z⟩;simp_all;unfold cut;simp;have:=H.hn.2.2;omega
 have A:(cut cs 0 (v.items.length*4)).length=v.items.length*4:=by
  by_cases h0:0<v.items.length;exact E 0 h0;have:v.items.length=0:=by omega
  rw[this];unfold cut;simp
 have F:cw.length=4:=ow.len;obtain⟨S,c2,Y⟩:=Px A F G;have y:∀i,i<v.items.length+1->∀c,c∈(if i<k then q i else if i=k then bw else q (i-1))->(∃j,j<v.items.length/\c∈q j)\/c∈bw:=by intro i hi c m;split at m;grind;split at m;grind;exact .inl ⟨i-1,by omega,m⟩
 refine⟨ok,⟨by simp_all,by simp_all,by simp_all⟩,.inr ⟨rfl,e1,Q,L⟩,λi C=>?_,nk,λc m f=>?_,λc m i hi f=>?_,λc m i hi f=>?_,λi j hi D N c m f=>?_⟩;have t:i<(v.items.take k++w::v.items.drop k).length:=C;have U:i<v.items.length+1:=by rw[<-l];exact t
 rw[AO (n:=(v.items.length+1)*4) (by omega),P];show OT h' (v.items.take k++w::v.items.drop k)[i] _ _;rcases ZN G t with⟨hi,u,e⟩|⟨hi,e⟩|⟨hi,u,e⟩;rw[e,zb hi,S i hi,<-AO (by omega)];exact(H.hi i u).frame (J i u);simp_all;rw[e,za (by omega),za (by omega),Y i hi,<-AO (by omega)];exact(H.hi (i-1) u).frame (J (i-1) u);simp_all;have r:i<v.items.length+1:=by rw[<-l];exact hi
 rcases y i r c f with⟨j,D,f⟩|f;simp_all;grind;have r:i<v.items.length+1:=by rw[<-l];exact hi
 simp at m;subst m;rcases y i r c f with⟨j,D,f⟩|f;grind;exact B f
 ·have r:i<v.items.length+1:=by rw[<-l];exact hi
  have V:j<v.items.length+1:=by rw[<-l];exact D
  try simp only at m f
  split at m;split at f;grind [d4];split at f;grind;exact H.d4 i (j-1) (by omega) (by omega) (by omega) c m f;split at m;split at f;grind;split at f;omega;exact I c m (j-1) (by omega) f;split at f;exact H.d4 (i-1) j (by omega) (by omega) (by omega) c m f;split at f;exact I c f (i-1) (by omega) m;exact H.d4 (i-1) (j-1) (by omega) (by omega) (by omega) c m f
end
end Go.X
end
section
namespace Go.X
open Go Go.Lib
section
def kq(p:List Bt):List Bt:=p.take (p.length-1)
mutual
def zj:Tr->Tr->Bool
 |.mk k s ks xs,b=>decide (k=b.kind)&&(decide (s=b.text)&&(decide (xs.length=b.items.length)&&(if k=6 then om ks xs b else oA xs b.items)))
def oA:List Tr->List Tr->Bool
 |[],[]=>Ta
 |x::l,y::m=>zj x y&&oA l m
 |_,_=>Tb
def om:List Bt->List Tr->Tr->Bool
 |_,[],_=>Ta
 |[],_::_,_=>Tb
 |k::ks,x::xs,b=>(match b.items[(idxOfS b.keys k).toNat]? with
  |some y=>decide (0<=idxOfS b.keys k)&&zj x y
  |none=>Tb)&&om ks xs b
end
theorem Ee{v:Tr}(h:zh v=Ta)(b:v.kind=6):v.keys.length=v.items.length:=by unfold zh at h;simp_all
end
section
theorem Lj{v:Tr}(h:jw v=Ta):j7 zh v=Ta:=by unfold jw at h;simp_all
end
section
def kP(b:List Bt)(ys:List Tr)(q:Tr->Tr->Bool)(k:Bt)(x:Tr):Bool:=match ys[(idxOfS b k).toNat]? with
 |some y=>decide (0<=idxOfS b k)&&q x y
 |none=>Tb
theorem Cw(b:Tr):∀(ks:List Bt) (xs:List Tr),ks.length=xs.length->om ks xs b=(ks.zip xs).all λp=>kP b.keys b.items zj p.1 p.2
 |[],[],_=>by simp[om]
 |k::ks,x::xs,h=>by rw[om,Cw b ks xs (by simpa using h)];rfl
 |[],_::_,h=>by simp at h
 |_::_,[],h=>by simp at h
theorem Be:∀(xs ys:List Tr),xs.length=ys.length->oA xs ys=(xs.zip ys).all λp=>zj p.1 p.2
 |[],[],_=>by simp[oA]
 |x::xs,y::ys,h=>by rw[oA,Be xs ys (by simpa using h)];rfl
 |[],_::_,h=>by simp at h
 |_::_,[],h=>by simp at h
theorem qC(a b:Tr):zj a b=(decide (a.kind=b.kind)&&(decide (a.text=b.text)&&(decide (a.items.length=b.items.length)&&(if a.kind=6 then om a.keys a.items b else oA a.items b.items)))):=by cases a;rw[zj]
theorem D4:∀{l:List Tr} {y:Tr},y∈l->bK y<=Jp l
 |z::l,y,b=>by rw[Jp];rcases zah.1 b with rfl|b;omega;have:=D4 b;omega
end
end Go.X
end
section
namespace Go.X
open Go Go.X Go.Proofs Go.Lib
section
variable {gl M:Fr} {F:FuncId} {xs ys:List Tr} {h:zc}
theorem qa4(hF:zo Tp F=Ta){q:Tr->Tr->Bool}(hp:∀x∈xs,∀y∈ys,PC Tp gl F [Arg.mk .tree x,Arg.mk .tree y] [.bool] (λr=>r=q x y)){s1 s2:Sl}(hM:Fr.le gl M)(ag:AgM M h) (r1:Rd M (.row .tree) xs [aK s1]) (r2:Rd M (.row .tree) ys [aK s2]):
  PX Tp 324 #[aK s1,aK s2,.func (.func F) #[] #[]] h M [.bool] (λr=>r=(decide (xs.length=ys.length)&&(xs.zip ys).all λp=>q p.1 p.2)):=by
 obtain⟨l1,n1,_⟩:=rowLen r1;obtain⟨l2,n2,_⟩:=rowLen r2;apply PX.of;apply yh s1 s2 F #[] #[];refine⟨λP=>⟨M,_,Later.refl ag,Y5.2 (rdBool _),?_⟩,λP=>?_⟩;grind;have ar:xs.length=ys.length:=by rw[l1,l2]at P;simp at P;omega
 refine⟨λi g=>∃(k:Nat) (M':Fr),i=(k:Int)/\k<=xs.length/\Later h M g M'/\((xs.zip ys).take k).all (λp=>q p.1 p.2)=Ta,λi _=>xs.length-i.toNat,⟨0,M,rfl,zbn _,Later.refl ag,by simp⟩,?_⟩;rintro i g ⟨k,M',rfl,hk,L,ai⟩;refine⟨λs=>?_,λs=>?_⟩;have e:k<xs.length:=by rw[l1]at s;simp at s;omega
 have B:k<ys.length:=by omega
 obtain⟨a,A,o,ea,Q,t1,t2⟩:=lF L.ag (r1.mono L.le) e;refine⟨a,⟨ea,by omega,by omega⟩,xs[k].kind,xs[k].text,A,o,by rw[zao];exact Q,?_⟩;intro u;obtain⟨ae,ak,ab⟩:=wq (g:=u) rfl;clear_value u;refine xf ab rfl _ _ _ _ λah V ax O=>?_;have G:Keep g.size g ah:=⟨by omega,λj S=>by rw[O j (by omega)];exact ae.get j S⟩;have l:=L.ag.keep G;obtain⟨a2,I,J,U,n,t3,t4⟩:=lF l (r2.mono L.le) B;refine⟨a2,⟨U,by omega,by omega⟩,ys[k].kind,ys[k].text,I,J,by rw[zao];exact n,?_⟩;intro C;obtain⟨H,an,Z⟩:=wq (g:=C) rfl;clear_value C;refine xf Z rfl _ _ _ _ λc aa ap E=>?_;have m:Blk c g.size (zx xs[k].kind xs[k].text A o).toArray:=(V.ofKeep H).keep (E _ (by omega));have af:Keep g.size g c:=⟨by omega,λj S=>by rw[E j (by omega),H.get j (by omega)];exact G.get j S⟩;have b:Later h M c M':=L.trans (Later.same L.ag af);refine⟨xs[k].kind,xs[k].text,A,o,m.ld (cs:=zx xs[k].kind xs[k].text A o),ys[k].kind,ys[k].text,I,J,aa.ld (cs:=zx ys[k].kind ys[k].text I J),hF,?_⟩;have f:=(hp xs[k] (zay e) ys[k] (zay B)).px (h:=c) (M:=M') (vs:=[.agg #[.int .i64 xs[k].kind,.string xs[k].text,aK A,aK o],.agg #[.int .i64 ys[k].kind,.string ys[k].text,aK I,aK J]]) (hM.trans b.le) b.ag (zi (zn t1 t2) (zi (zn t3 t4) zq));refine f.go λw au z r D t hr=>?_;have hr:r=q xs[k] ys[k]:=hr;subst hr;have aj:(xs.zip ys).take (k+1)=(xs.zip ys).take k++[(xs[k],ys[k])]:=by rw[zar (by simp;omega)];simp
 refine⟨q xs[k] ys[k],dK t,λhf=>⟨z,_,b.trans D,Y5.2 (rdBool _),?_⟩,λht=>?_⟩;have N:q xs[k] ys[k]=Tb:=by simpa using hf
 have:(xs.zip ys).all (λp=>q p.1 p.2)=Tb:=by rw[List.all_eq_false];exact⟨(xs[k],ys[k]),zd8.2 ⟨k,by simp;omega,by simp⟩,by simp[N]⟩
 simp_all;have am:q xs[k] ys[k]=Ta:=by simpa using ht
 rw[Ze e (by omega)];refine⟨⟨k+1,z,rfl,e,b.trans D,?_⟩,by grind⟩;simp_all;have Y:k=xs.length:=by rw[l1]at s;simp at s;omega
 subst Y;refine⟨M',_,L,Y5.2 (rdBool _),?_⟩;simp_all[zcn]
theorem Ms{l:List Bt}(h:l.Nodup){i j:Nat}(hi:i<l.length)(b:j<l.length)(e:l[i]=l[j]):i=j:=by unfold List.Nodup at h;rw[List.pairwise_iff_getElem]at h;grind
theorem Pa(ks:List Bt)(us:List Value)(h:ks.length=us.length):(gM (ks.zip us)).map (·.1)=ks.map za1:=by
 unfold gM;rw[zb6];have:(ks.zip us).map (λp=>za1 p.1)=(ks.zip us).unzip.1.map za1:=by simp
 show(ks.zip us).map (λp=>za1 p.1)=_;rw[this,List.unzip_zip h]
theorem qa6{ks:List Bt}(h:ks.Nodup):(ks.map za1).Nodup:=by grind
set_option maxHeartbeats 2000000 in
theorem MS(hF:zo Tp F=Ta){q:Tr->Tr->Bool}{f m:List Bt}{t s:List Value}(aI:f.Nodup)(la:f.length=xs.length)(ba:m.length=ys.length)(aZ:t.length=xs.length)(a6:s.length=ys.length)(aS:xs.length<=1000000000000/\ys.length<=1000000000000) (hp:∀x∈xs,∀y∈ys,PC Tp gl F [Arg.mk .tree x,Arg.mk .tree y] [.bool] (λr=>r=q x y)) {z m2:Nat} (hM:Fr.le gl M) (ag:AgM M h) (w1:MapW h z (gM (f.zip t))) (w2:MapW h m2 (gM (m.zip s))) (ra:∀i (h1:i<xs.length) (h2:i<t.length),RdV M .tree xs[i] t[i]) (rb:∀i (h1:i<ys.length) (h2:i<s.length),RdV M .tree ys[i] s[i]):
  PX Tp 325 #[.map (Tc z),.map (Tc m2),.func (.func F) #[] #[]] h M [.bool] (λr=>r=(decide (xs.length=ys.length)&&(f.zip xs).all λp=>kP m ys q p.1 p.2)):=by
 apply PX.of;apply qd (Tc z) (Tc m2) F #[] #[];have L1:(gM (f.zip t)).length=xs.length:=by unfold gM;simp;omega
 have B:(gM (m.zip s)).length=ys.length:=by unfold gM;simp;omega
 have I:=IX (P:=Tp) (ty:=3) mapVal.map w1;have H:=IX (P:=Tp) (ty:=3) mapVal.map w2;rw[L1]at I;rw[B]at H;refine⟨xs.length,I,ys.length,H,λhx=>⟨M,_,Later.refl ag,Y5.2 (rdBool _),?_⟩,λhx=>?_⟩;grind;have a8:xs.length=ys.length:=by simp at hx;omega
 have aP:=w1.lt;have af:=w2.lt;have aO:((gM (f.zip t)).map (·.1)).Nodup:=by rw[Pa _ _ (by omega)];exact qa6 aI
 refine KE mapVal.map w1 λh4 z4 k4 aN=>⟨Tc ⟨h.size,0,Td⟩,rfl,?_⟩;refine⟨λg=>∃dn M',MapIt g h.size z (gM (f.zip t)) dn/\Later h M g M'/\h.size<g.size/\∀i (h1:i<f.length) (h2:i<xs.length),za1 f[i]∈dn->kP m ys q f[i] xs[i]=Ta,λg=>leftN g h.size z,⟨[],M,aN,Later.same ag k4,by omega,λi _ _ hm=>by cases hm⟩,?_⟩;rintro g ⟨dn,M',it,L,zg,aC⟩;have kg:=L.keep;refine Em it aO (by omega) (λY=>.inl ⟨rfl,(λhc=>by cases hc),λ_=>⟨M',_,L,Y5.2 (rdBool _),?_⟩⟩) λk u am hk E aL ax z1 f1 Z=>.inr ⟨k,u,rfl,λ_=>?_,λhc=>by cases hc⟩;have aT:((f.zip xs).all λp=>kP m ys q p.1 p.2)=Ta:=by rw[zas];intro p N;obtain⟨i,hi,e⟩:=zcf N;rw[List.length_zip,Nat.lt_min]at hi;have:=aC i hi.1 hi.2 (Y (.string f[i],t[i]) (by unfold gM;refine zb1.2 ⟨(f[i],t[i]),zd8.2 ⟨i,by simp;omega,by simp⟩,rfl⟩));rw[<-e];simpa using this
 simp_all
 ·obtain⟨i,aY,az,ek,eu⟩:∃i,∃(h1:i<f.length) (h2:i<t.length),k=.string f[i]/\u=t[i]:=by unfold gM at am;obtain⟨p,N,e⟩:=zb1.1 am;obtain⟨i,hi,e2⟩:=zcf N;grind
  subst ek;subst eu;have U:i<xs.length:=by omega
  have ah:Keep h.size h E:=⟨by omega,λj O=>by rw[f1 j (by omega)];exact kg.get j O⟩;have an:AgM M' E:=λb c e=>by obtain⟨T,mm,e2⟩:=L.ag b c e;by_cases hb:b=h.size;subst hb;obtain⟨_,_,_,_,_,e3,_⟩:=it;simp_all;simp_all
  refine JW ax ⟨_,_,rfl,?_⟩;intro ak;obtain⟨aH,aV,aG⟩:=wq (g:=ak) rfl;clear_value ak;obtain⟨ck,ci,eu,t1,t2⟩:=yj (ra i U az);rw[eu];refine xf aG rfl _ _ _ _ λai aF aU aA=>?_;have J:Keep E.size E ai:=⟨by omega,λj O=>by rw[aA j (by omega)];exact aH.get j O⟩;have aQ:=an.keep J;have aB:MapW ai m2 (gM (m.zip s)):=w2.keep ((J.get _ (by omega)).trans (ah.get _ af));have n:=Xs mapVal aB.at f[i] Ta;simp only[if_true]at n;obtain⟨y,G,D,hget,t3,t4,hm1⟩:∃(y:Tr) (G D:Sl),jE (m.zip s) f[i] (.agg #[.int .i64 0,.string ⟨#[]⟩,.slice Td 0 0,.slice Td 0 0])=.agg #[.int .i64 y.kind,.string y.text,aK G,aK D]/\RdV M .tree y (.agg #[.int .i64 y.kind,.string y.text,aK G,aK D]) /\
    ((gR (m.zip s) f[i]).isSome=Ta->y∈ys)/\kP m ys q f[i] xs[i]=((gR (m.zip s) f[i]).isSome&&q xs[i] y):=by
   rcases DY f[i] m s 0 (by omega)with⟨E,C⟩|⟨j,w,E,C,g3⟩;refine⟨zT,⟨Td,0,0⟩,⟨Td,0,0⟩,by unfold jE;rw[C];rfl,?_,?_,?_⟩;refine zn (v:=zT) ?_ ?_;exact⟨_,rfl,Td,0,rfl,⟨by simp[zT],by simp[zT]⟩,.inl rfl⟩;exact⟨_,rfl,Td,0,rfl,⟨by simp[zT],by simp[zT]⟩,.inl rfl⟩;simp_all;rw[C];unfold kP idxOfS;grind;obtain⟨O,ej⟩:=za0.1 C;have ar:j<ys.length:=by omega
   have hr:=rb j ar O;rw[ej]at hr;obtain⟨G,D,ew,t3,t4⟩:=yj hr;refine⟨ys[j],G,D,by unfold jE;grind,by simp_all,λ_=>zay ar,?_⟩;rw[g3];unfold kP idxOfS;simp_all
  rw[hget]at n;refine⟨y.kind,y.text,G,D,(gR (m.zip s) f[i]).isSome,n,?_⟩;intro ap;obtain⟨ae,a7,aJ⟩:=wq (g:=ap) rfl;clear_value ap;refine xf aJ rfl _ _ _ _ λl aE a1 aa=>?_;have ab:Blk l E.size (zx xs[i].kind xs[i].text ck ci).toArray:=(aF.ofKeep ae).keep (aa _ (by omega));have o:Keep E.size E l:=⟨by omega,λj O=>by rw[aa j (by omega),ae.get j (by omega)];exact J.get j O⟩;have au:Keep h.size h l:=ah.trans o (by omega);have A:Later h M l M':=⟨au,L.le,L.old,an.keep o⟩;have V:MapIt l h.size z (gM (f.zip t)) (.string f[i]::dn):=aL.keep (o.get _ (by omega)) (o.get _ (by omega));have S:leftN l h.size z<leftN g h.size z:=by rw[leftN.keep (o.get h.size (by omega)) (o.get z (by omega))];exact Z
  refine⟨xs[i].kind,xs[i].text,ck,ci,λ_=>ab.ld (cs:=zx xs[i].kind xs[i].text ck ci),y.kind,y.text,G,D,λ_=>aE.ld (cs:=zx y.kind y.text G D),?_⟩;have aM:kP m ys q f[i] xs[i]=Tb->((f.zip xs).all λp=>kP m ys q p.1 p.2)=Tb:=λhf=>by rw[List.all_eq_false];exact⟨(f[i],xs[i]),zd8.2 ⟨i,by simp;omega,by simp⟩,by simp[hf]⟩
  refine⟨λw C=>∃b M2,w=.bool b/\Later l M' C M2/\((gR (m.zip s) f[i]).isSome=Ta->b=q xs[i] y),λhs=>⟨hF,?_⟩,λhs=>⟨Ta,Ta,M',rfl,Later.refl A.ag,λhc=>by simp_all⟩,λ_ w C ⟨b,_,e,_⟩=>⟨b,e⟩,?_⟩;have ay:(gR (m.zip s) f[i]).isSome=Ta:=by simpa using hs
  have Q:=(hp xs[i] (zay U) y (t4 ay)).px (h:=l) (M:=M') (vs:=[.agg #[.int .i64 xs[i].kind,.string xs[i].text,aK ck,aK ci],.agg #[.int .i64 y.kind,.string y.text,aK G,aK D]]) (hM.trans A.le) A.ag (zi (RdV.mono L.le (zn t1 t2)) (zi (RdV.mono L.le t3) zq));exact Q.go λw C M2 r B aj hr=>⟨r,dK aj,r,M2,rfl,B,λ_=>hr⟩;rintro b C ⟨b',M2,e,B,hb⟩;cases e;refine⟨λhf=>⟨M2,_,A.trans B,Y5.2 (rdBool _),?_⟩,λht=>⟨⟨_,M2,V.keep (B.keep.get _ (by omega)) (B.keep.get _ (by omega)),A.trans B,by have:=B.keep.size;omega,λi2 h1 h2 hm=>?_⟩,?_⟩⟩;grind;rcases zah.1 hm with e|hm;grind [Ms];grind;show leftN C h.size z<leftN g h.size z;rw[leftN.keep (B.keep.get h.size (by omega)) (B.keep.get z (by omega))];exact S
end
end Go.X
end
