/- A part of the proof: nothing is stated here for its own sake. -/
import Derived.Test.YtjkbohnbckpmdaaGreatDoorPnB
import Derived.ProofKit
import Derived.OpenShut
import Derived.ShutString
import Derived.Shelf.Strings.Trim
import Derived.Shelf.Small.Bits
import Derived.Shelf.Small.Wraps
import Derived.Shelf.Strings.BuilderRune
import Derived.Shelf.Utf8.AppendRune
import Derived.Shelf.Utf8.AppendRunePlain
import Derived.Shelf.Strconv.Itoa3
import Derived.Shelf.Strconv.AtoiErr
import Derived.Shelf.Strconv.ErrVarAll
import Derived.Shelf.Strconv.ErrVarParseInt
import Derived.Shelf.Pu.ParseUintPublic10
import Derived.Shelf.Sort.Plain
import Derived.Shelf.Strings.IndexAnyAll
import Derived.Shelf.Strings.Repeat
import Derived.Shelf.Unicode.DecodeLast
import Derived.Shelf.Strings.BuilderCap
import Derived.Shelf.Slices.Turned
import Derived.Shelf.Slices.Clone
import Derived.Shelf.Slices.SearchI
import Derived.Shelf.Slices.In.SortNone
import Derived.Shelf.SlicesE.Clone
import Derived.Shelf.Utf8.RuneCount
import Derived.Shelf.Strings.Shaped
import Derived.Shelf.Strings.SplitShaped
import Derived.Shelf.Strings.Explode
import Derived.Shelf.Unicode.ValidAny
import Derived.Test.YtjkbohnbckpmdaaGreatDoorTie
import Derived.Test.YtjkbohnbckpmdaaGreatDoorCards
import Derived.PinnedBridge
import Derived.Lay
import Derived.HandedShaped
open _root_.Go.Addr renaming add->YK
open _root_.Array renaming getElem?_append_left->zbs,getElem?_toList->zav,size->ZK,size_push->ZI
open _root_.Bool renaming and_eq_true->ZE,and_true->zbp,cond_false_right->zbg,cond_true_left->zby,eq_iff_iff->ZR,false_eq_true->zaz,not_eq_true'->zcg,or_eq_false_iff->zcv,or_eq_true->zbb,true_and->zao
open _root_.Go.Builtin renaming append_->YY,len_->zb5
open _root_.ByteArray renaming empty->zc1
open _root_.Go.Instr renaming entry->zde,lookup->zcm,mapUpdate->zbz,next->zc9,range->zdd,storeAt->YN
open _root_.Int renaming toNat_natCast->YO
open _root_.Go.IntKind renaming bits->zc6,i64->zat,signed->zdm,wrap->YJ
open _root_.List renaming all_append->zbq,all_cons->zbo,all_eq_true->ZJ,all_nil->zdj,cons_append->zaq,drop_drop->zbt,drop_eq_getElem_cons->ZM,drop_eq_nil_of_le->zac,drop_length->zbm,drop_zero->za5,eq_nil_of_length_eq_zero->zaa,exists_cons_of_ne_nil->za3,ext_getElem?->zap,getD_eq_getElem?_getD->zbv,getElem?_drop->zan,getElem?_eq_getElem->YR,getElem?_eq_some_iff->ZH,getElem?_map->zai,getElem?_take->ZQ,getElem_mem->YW,getElem_of_mem->zbx,length->zam,length_append->ZC,length_cons->ZV,length_drop->zab,length_map->ZA,length_nil->zb7,length_pos_iff->ZX,mem_append->ZG,mem_append_left->YZ,mem_append_right->ZL,mem_cons->YS,mem_flatMap->zbf,mem_map->za6,mem_of_getElem?->zbd,mem_range->zbc,mem_singleton->zaf,nil_append->zba,range->zak,replicate->zct,take_append_drop->zax,take_length->ZO,take_of_length_le->zag,take_succ_eq_append_getElem->YP
open _root_.Nat renaming add_mul->zb0,add_zero->zco,le_mul_of_pos_right->zb6,le_refl->YM,le_trans->zaj,lt_of_lt_of_le->zcc,sub_zero->zc7,zero_add->ZP
open _root_.Go.Op renaming bytesLess->zbi
open _root_.Option renaming bind_some->zbl
open _root_.Option.some renaming inj->ZS,injEq->YL
open _root_.Go.Proofs.Tryz renaming prog->ZW
open _root_.UInt8 renaming ofNat->zas,toNat_inj->zb8
open _root_.Go.Utf8 renaming decode->zci
open _root_.Go.Value renaming int->zdk,string->ZD
set_option linter.all false
set_option maxRecDepth 100000
namespace Go.X
end Go.X
namespace Go.Proofs
end Go.Proofs
open Go Go.X Go.Proofs
open _root_.Bool renaming true->Ta,false->Tb
open _root_.Option renaming some->Tc,none->Td
section
namespace Go.X
open Go Go.ChangeShapes Go.WideShapes Go.RowKit
set_option linter.all false
section
variable {a:Addr} {cs:List Value} {fuel:Nat} {t e:TypeId} {P:Program}
def Fz(W:World):Fr:=λb=>match W.heap[b]? with|some (.cells cs _ _)=>some cs|_=>none
theorem Fz.ag(W:World):AgM (Fz W) W.heap:=by intro b c e;unfold Fz at e;split at e;rename_i cs T m f;cases e;exact⟨T,m,f⟩;cases e
theorem Fz.cell{W:World}{v:Value}(h:W.cell? a=some v):∃b o c,a=⟨b,o,none⟩/\Fz W b=some c/\c[o]?=some v:=by
 obtain⟨b,o,sp⟩:=a;unfold World.cell? at h;split at h;rename_i c T m e;cases sp with
 |some x=>simp at h
 |none=>refine⟨b,o,c,rfl,?_,by simpa using h⟩;unfold Fz;change W.heap[b]?=_ at e;rw[e]
 cases h
theorem Fz.cells{W:World}{n:Nat}(h:W.cells? 0 a n=some cs)(t:0<n):∃b o c,a=⟨b,o,none⟩/\Fz W b=some c/\cut c o n=cs:=by
 obtain⟨_,u,p⟩:=World.cells?_some h;have h0:=p 0 t;rw[YR (by omega)]at h0;obtain⟨b,o,c,e,l,_⟩:=Fz.cell h0;obtain⟨r,m,sp⟩:=a;rw[show YK ⟨r,m,sp⟩ 0=⟨r,m,sp⟩from rfl]at e;cases e;refine⟨b,o,c,rfl,l,?_⟩;have f:∀i,i<n->c[o+i]?=cs[i]?:=λi hi=>by have h1:=p i hi;rw[YR (by omega)]at h1 ⊢;obtain⟨b2,w,c2,q,k,s⟩:=Fz.cell h1;rw[zw]at q;cases q;rw[l]at k;cases k;exact s
 unfold cut;apply zap;intro i;by_cases hi:i<n;rw[ZQ,if_pos hi,zan,<-f i hi];simp;rw[ZQ,if_neg hi,List.getElem?_eq_none (by omega)]
theorem Ov{α:Type}{Q:Nat->α->Prop}(n:Nat)(h:∀i,i<n->∃z,Q i z):∃xs:List α,xs.length=n/\∀i (hi:i<xs.length),Q i xs[i]:=by refine⟨List.ofFn λi:Fin n=>Classical.choose (h i i.2),by simp,λi hi=>?_⟩;rw[List.getElem_ofFn];exact Classical.choose_spec (h i (by simpa using hi))
section
variable {H : Type} {enc : TypeId × Value -> H} {P : Program} {W : World} {sp : Nat -> Bool} {held : Bool}
def lH(P:Program)(t:TypeId)(d:DataW H):Prop:=∀n∈d.weights P t,n<=reachBytes
theorem Ge{e:TypeId}{y:DataW H}:∀{l:List (DataW H)},y∈l->∀n∈y.weights P e,n∈DataW.weightsAll P e l
 |x::l,b,n,hn=>by unfold DataW.weightsAll;rcases YS.1 b with rfl|b;exact YZ _ hn;exact ZL _ (Ge b n hn)
theorem Ei{T : Ty}{x : DataW H × List MemPlace}(ht : P.underlying t = some (.slice e))(hz : P.cellsOf e = sz T)(hp : 0 < sz T)(hby : 0 < P.bytesOf e) (hel : ∀ n, n < fuel -> ∀ cs y, DataW.trod enc P W 0 sp held n e cs = some y -> lH P e y.1 -> ∃ z : El T, Rd (Fz W) T z cs)
    (h : DataW.trod enc P W 0 sp held fuel t cs = some x) (hw : lH P t x.1) : ∃ xs : List (El T), Rd (Fz W) (.row T) xs cs := by
  rcases DataW.trod_slice ht h with ⟨rfl, _⟩ | ⟨a, len, cap, elems, rest, n, rfl, rfl, hx, _, hlc, hcap, hlen, hi, _, _⟩;exact ⟨[], _, rfl, none, 0, rfl, ⟨by simp, by simp⟩, .inl rfl⟩
  · have hwt : ∀ m, m = (elems.length + rest.length) * P.bytesOf e \/ m ∈ DataW.weightsAll P e (elems.map (·.1)) -> m <= reachBytes := λm hm => hw m (by rw [hx];unfold DataW.weights;rw [ht];simp only [YS, ZG, ZA];rcases hm with hm | hm;exact .inl hm;exact .inr (.inl hm));have hmax : len <= 140737488355328 := by
      have h1 := hwt _ (.inl rfl);have h2 : elems.length + rest.length <= (elems.length + rest.length) * P.bytesOf e := zb6 _ hby;have h3 : reachBytes <= 140737488355328 := by decide
      omega
    have key : ∀ i, i < len -> ∃ z : El T, ∃ b o c, a.add (i * sz T) = ⟨b, o, none⟩ /\ Fz W b = some c /\ Rd (Fz W) T z (cut c o (sz T)) := λi hil => by have h1 := hi i hil;rw [YR (by omega), Option.bind_eq_some_iff] at h1;obtain ⟨cc, h2, h3⟩ := h1;rw [hz] at h2;obtain ⟨b, o, c, e1, e2, e3⟩ := Fz.cells h2 hp;obtain ⟨z, hz⟩ := hel n (by omega) _ _ h3 λm hm => hwt m (.inr (Ge (za6.2 ⟨elems[i], YW (by omega), rfl⟩) m hm));exact ⟨z, b, o, c, e1, e2, by rw [e3]; exact hz⟩
    obtain ⟨xs, hxl, hxs⟩ := Ov len key;subst hxl;refine ⟨xs, _, rfl, some a, cap, rfl, ⟨by omega, hlc⟩, ?_⟩;by_cases h0 : xs.length = 0;exact .inl (zaa h0);obtain ⟨b, o, c, e1, e2, _⟩ := hxs 0 (by omega);obtain ⟨ab, ao, asp⟩ := a;rw [Nat.zero_mul, show YK ⟨ab, ao, asp⟩ 0 = ⟨ab, ao, asp⟩ from rfl] at e1;cases e1;refine .inr ⟨b, o, c, rfl, e2, λi hil => ?_⟩;obtain ⟨b', o', c', e1', e2', e3'⟩ := hxs i hil;rw [zw] at e1';cases e1';rw [e2] at e2'; cases e2';simpa using e3'
theorem E4{x:DataW H×List MemPlace}(b:P.underlying t=some .string)(h:DataW.trod enc P W 0 sp held fuel t cs=some x):∃s:El .str,Rd (Fz W) .str s cs:=by obtain⟨s,rfl,_,_⟩:=DataW.trod_string b h;exact⟨s,rfl⟩
theorem Nu{k:IntKind}{x:DataW H×List MemPlace}(b:P.underlying t=some (.int k))(h:DataW.trod enc P W 0 sp held fuel t cs=some x):∃s:El (.int k),Rd (Fz W) (.int k) s cs:=by obtain⟨s,rfl,_,_⟩:=DataW.trod_int b h;exact⟨s,rfl⟩
theorem Ow{x:DataW H×List MemPlace}(k:P.underlying t=some (.slice e))(f:P.underlying e=some .string)(l:P.cellsOf e=1)(b:0<P.bytesOf e)
  (h:DataW.trod enc P W 0 sp held fuel t cs=some x) (c:lH P t x.1):∃xs:List ByteArray,Rd (Fz W) (.row .str) xs cs:=
 Ei (T:=.str) k l (by decide) b (λn _ cs y i _=>E4 f i) h c
theorem four{a b c d:Value}(h:cs.length=4)(h0:(cs.drop 0).take 1=[a])(h1:(cs.drop 1).take 1=[b])(e:(cs.drop 2).take 1=[c])(f:(cs.drop 3).take 1=[d]):cs=[a,b,c,d]:=by
 match cs,h with
 |[w,x,y,z],_=>simp at h0 h1 e f;subst h0;subst h1;subst e;subst f;rfl
theorem IX{c ts tss tvs tk:TypeId}{o p e i:Field}(G:P.underlying c=some (.struct #[o,p,e,i]))(E:P.cellsOf c=4) (Z:o.type=tk/\o.offset=0/\p.type=ts/\p.offset=1/\e.type=tss/\e.offset=2/\i.type=tvs/\i.offset=3) (M:P.underlying tk=some (.int .i64)) (us:P.underlying ts=some .string) (w:P.underlying tss=some (.slice ts)) (u:P.underlying tvs=some (.slice c)) (V:P.cellsOf tk=1) (cs':P.cellsOf ts=1) (q:P.cellsOf tss=1) (z:P.cellsOf tvs=1) (bs:0<P.bytesOf ts) (bv:0<P.bytesOf c):
  ∀(fuel:Nat) (cs:List Value) (x:DataW H×List MemPlace),DataW.trod enc P W 0 sp held fuel c cs=some x->lH P c x.1->∃t:Tr,Rd (Fz W) .tree t cs:=by
 intro fuel;induction fuel using Nat.strongRecOn with
 |_ fuel ih=>intro cs x h hw;obtain⟨xs,n,rfl,hx,hl,r,b⟩:=DataW.trod_struct G h;have l:∀(j:Nat) (f:Field) (J:j<xs.length),(#[o,p,e,i]:Array Field)[j]?=some f->lH P f.type (xs[j]).1:=λj f J hf m I=>hw m (by rw[hx];unfold DataW.weights;rw[G];exact DataW.weights_mem_each (j:=j) (t:=f.type) (d:=(xs[j]).1) (by rw[zai,zav,hf];rfl) (by rw[zai,YR J];rfl) m I);obtain⟨a0,o0,a1,Y,a2,S,D,o3⟩:=Z;have g0:=b 0 o rfl;have F:=b 1 p rfl;have C:=b 2 e rfl;have L:=b 3 i rfl;have B:xs.length=4:=r;rw[a0,o0,V,YR (by omega)]at g0;rw[a1,Y,cs',YR (by omega)]at F;rw[a2,S,q,YR (by omega)]at C;rw[D,o3,z,YR (by omega)]at L;obtain⟨k,N⟩:=Nu M g0;obtain⟨s,e1⟩:=E4 us F;obtain⟨ks,U⟩:=Ow w us cs' bs C (by have:=l 2 e (by omega) rfl;rw[a2]at this;exact this);obtain⟨is,e3⟩:=Ei (T:=.tree) u E (by decide) bv (λm I cs y hy A=>ih m (by omega) cs y hy A) L (by have:=l 3 i (by omega) rfl;rw[D]at this;exact this);obtain⟨vk,q2,O⟩:=U;obtain⟨vi,Q,h3⟩:=e3;have:=four (hl.trans E) N e1 q2 Q;subst this;exact⟨.mk k s ks is,TrRd.of ⟨vk,rfl,O⟩ ⟨vi,rfl,h3⟩⟩
end
theorem TF{f:FuncId}{W:World}{args:List Arg}{vs:Array Value}(H:PC P (Fz W) f args [.bool] (λr=>r=true))(i:Y1 (Fz W) args vs.toList):
  Calls P f vs W λe w'=>e=.returned (.bool true)/\Below W.heap.size W w':=by
 have c:=H W.heap (Fz W) vs.toList (Fr.le.refl _) (Fz.ag W) i;rw[Array.toArray_toList]at c;refine(c W W.drawn).mono ?_;rintro e w' ⟨v,l,h',rfl,rfl,k,M',r,_,_,_,h,b⟩;have b:r=true:=b;subst b;rw[eP h];exact⟨rfl,rfl,rfl,rfl,k.size,k.get⟩
theorem BB{M:Fr}{t:Tr}{cs:Array Value}(h:Rd M .tree t cs.toList):RdV M .tree t (.agg cs):=by unfold RdV;simp only[fe,if_true];exact⟨cs.toList,by simp,h⟩
theorem Fz.var{W:World}{n:String}{g:Nat}{cs:Array Value}(b:P.globalNamed n=some g)(h:W.var? P n=some cs):Fz W g=some cs:=by unfold World.var? at h;rw[b]at h;exact h
end
end Go.X
end
section
namespace Go.Proofs
section
theorem Tryz.mixed:ZW.follows .mixedOrders=true:=by kernel_rfl
noncomputable abbrev Tp:= ZW
end
end Go.Proofs
end
section
namespace Go.X
section
theorem PF{gl:Fr}{args:List Arg}{f:FuncId}{fn:Func}{rt:List Ty}{R:fi rt->Prop}{F:Prop}(pl:PlanA)(rs:List ResultVar)(n:Nat)(b:ZW.funcs[f]?=Tc fn)(H:F)(h:Yc fn=Ta:=by kernel_rfl)(c:fn.results.toList=rs:=by kernel_rfl)(i:fn.ntmps=n:=by kernel_rfl)(k:Nat.ble args.length n=Ta:=by kernel_rfl)(e:F=WA Tp gl 25 n pl (codeOf fn) [] (uW Tp rs rt R) (lC 0 args) []:=by kernel_rfl):PC Tp gl f args rt R:=KF Tryz.mixed gl 25 pl args b h c i k H e
theorem T8(gl:Fr)(f:Tr)(e:Int)(R:Bool->Prop) (H:PC Tp gl 80 [Arg.mk .tree (Tr.mk f.kind f.text f.keys f.items),Arg.mk (.int .i64) e,Arg.mk (.int .i64) 0] [.int .i64] (λa:Int=>∃b:Bool->Prop,(decide (a>=0)=Ta->PC Tp gl 81 [Arg.mk .tree (Tr.mk f.kind f.text f.keys f.items)] [.bool] b)/\∀c:Bool,(decide (a>=0)=Ta->b c)->R (bif (decide (a>=0))then c else Tb))):
  PC Tp gl 39 [Arg.mk .tree f,Arg.mk (.int .i64) e] [.bool] R:=
 PF ⟨[],[],[],[]⟩ [.tmp 4] 15 Tryz.func39 H
theorem R0(gl:Fr)(a0:Tr)(b1:Tr)(R:Bool->Prop) (H:((bif (bif (bif (a0.kind != b1.kind)then Ta else(!(a0.text.toList==b1.text.toList)))then Ta else((a0.keys.length:Int) != (b1.keys.length:Int)))then Ta else((a0.items.length:Int) != (b1.items.length:Int)))=Ta->R Tb)/\((bif (bif (bif (a0.kind != b1.kind)then Ta else(!(a0.text.toList==b1.text.toList)))then Ta else((a0.keys.length:Int) != (b1.keys.length:Int)))then Ta else((a0.items.length:Int) != (b1.items.length:Int)))=Tb->∃(a:Int->Prop) (b:Int->Nat),a 0/\∀c:Int,a c->((decide (c<a0.keys.length)=Ta->∃d,(0<=c/\a0.keys[c.toNat]?=Tc d)/\∃e,(0<=c/\b1.keys[c.toNat]?=Tc e)/\((!(d.toList==e.toList))=Ta->R Tb)/\((!(d.toList==e.toList))=Tb->(a (YJ .i64 (c+1))/\b (YJ .i64 (c+1))<b c)))/\(decide (c<a0.keys.length)=Tb->∃(f:Int->Prop) (g:Int->Nat),f 0/\∀i:Int,f i->((decide (i<a0.items.length)=Ta->∃j,(0<=i/\a0.items[i.toNat]?=Tc j)/\∃k,(0<=i/\b1.items[i.toNat]?=Tc k)/\PC Tp gl 24 [Arg.mk .tree (Tr.mk j.kind j.text j.keys j.items),Arg.mk .tree (Tr.mk k.kind k.text k.keys k.items)] [.bool] (λl:Bool=>((!l)=Ta->R Tb)/\((!l)=Tb->(f (YJ .i64 (i+1))/\g (YJ .i64 (i+1))<g i))))/\(decide (i<a0.items.length)=Tb->R Ta)))))):
  PC Tp gl 24 [Arg.mk .tree a0,Arg.mk .tree b1] [.bool] R:=
 PF ⟨[(11,10)],[],[(4,⟨[(5,.one (.dat (.int .i64)))],[],[2,3],[100320]⟩),(9,⟨[(6,.one (.dat (.int .i64)))],[],[2,3],[100384]⟩)],[]⟩ [.tmp 4] 76 Tryz.func24 H
theorem QA(gl:Fr)(n0:Int)(R:Tr->Prop) (H:PC Tp gl 64 [Arg.mk (.int .i64) n0] [.pair .bool (.pair .str (.int .i64))] (λa:Bool×Bt×Int=>PC Tp gl 63 [Arg.mk (.pair .bool (.pair .str (.int .i64))) (a.1,(a.2.1,a.2.2))] [.str] (λb:Bt=>R (Tr.mk 3 b [] [])))):
  PC Tp gl 30 [Arg.mk (.int .i64) n0] [.tree] R:=
 PF ⟨[],[],[],[]⟩ [.cell 2 25] 7 Tryz.func30 H
theorem T7(gl:Fr)(k:Tr)(i:Int)(h:Int)(R:Int->Prop) (H:(decide (h>60)=Ta->R (-1))/\(decide (h>60)=Tb->∃(a:Int->Int->Prop) (b:Int->Int->Nat),a (YJ .i64 ((YJ .i64 (i-1))-(k.keys.length:Int))) 0/\∀c d:Int,a c d->(((bif (decide (d<k.items.length))then(decide (c>=0))else Tb)=Ta->∃e,(0<=d/\k.items[d.toNat]?=Tc e)/\PC Tp gl 80 [Arg.mk .tree (Tr.mk e.kind e.text e.keys e.items),Arg.mk (.int .i64) c,Arg.mk (.int .i64) (YJ .i64 (h+1))] [.int .i64] (λf:Int=>(a f (YJ .i64 (d+1))/\b f (YJ .i64 (d+1))<b c d)))/\((bif (decide (d<k.items.length))then(decide (c>=0))else Tb)=Tb->R c)))):
  PC Tp gl 80 [Arg.mk .tree k,Arg.mk (.int .i64) i,Arg.mk (.int .i64) h] [.int .i64] R:=
 PF ⟨[],[],[(5,⟨[(1,.one (.dat (.int .i64))),(7,.one (.dat (.int .i64)))],[],[3],[100064,100448]⟩)],[]⟩ [.tmp 6] 37 Tryz.func80 H
theorem QE(gl:Fr)(h:Tr)(R:Bool->Prop) (H:(decide ((h.text.size:Int)>2048)=Ta->R Tb)/\(decide ((h.text.size:Int)>2048)=Tb->∃(a:Int->Prop) (b:Int->Nat),a 0/\∀c:Int,a c->((decide (c<h.keys.length)=Ta->∃d,(0<=c/\h.keys[c.toNat]?=Tc d)/\(decide ((d.size:Int)>1024)=Ta->R Tb)/\(decide ((d.size:Int)>1024)=Tb->(a (YJ .i64 (c+1))/\b (YJ .i64 (c+1))<b c)))/\(decide (c<h.keys.length)=Tb->∃(e:Int->Prop) (f:Int->Nat),e 0/\∀g:Int,e g->((decide (g<h.items.length)=Ta->∃i,(0<=g/\h.items[g.toNat]?=Tc i)/\PC Tp gl 81 [Arg.mk .tree (Tr.mk i.kind i.text i.keys i.items)] [.bool] (λj:Bool=>((!j)=Ta->R Tb)/\((!j)=Tb->(e (YJ .i64 (g+1))/\f (YJ .i64 (g+1))<f g))))/\(decide (g<h.items.length)=Tb->R Ta)))))):
  PC Tp gl 81 [Arg.mk .tree h] [.bool] R:=
 PF ⟨[],[],[(4,⟨[(3,.one (.dat (.int .i64)))],[],[1],[100192]⟩),(9,⟨[(4,.one (.dat (.int .i64)))],[],[1],[100256]⟩)],[]⟩ [.tmp 2] 39 Tryz.func81 H
theorem UA(gl:Fr)(f:Tr)(R:Bool->Prop) (H:PC Tp gl 92 [Arg.mk .tree (Tr.mk f.kind f.text f.keys f.items)] [.int .i64] (λa:Int=>∃b:Int->Prop,(decide (a<=4096)=Ta->PC Tp gl 93 [Arg.mk .tree (Tr.mk f.kind f.text f.keys f.items)] [.int .i64] b)/\∀c:Int,(decide (a<=4096)=Ta->b c)->∃d:Bool->Prop,((bif (decide (a<=4096))then(decide (c<=32))else Tb)=Ta->PC Tp gl 94 [Arg.mk .tree (Tr.mk f.kind f.text f.keys f.items),Arg.mk .bool Ta] [.bool] d)/\∀e:Bool,((bif (decide (a<=4096))then(decide (c<=32))else Tb)=Ta->d e)->R (bif (bif (decide (a<=4096))then(decide (c<=32))else Tb)then e else Tb))):
  PC Tp gl 139 [Arg.mk .tree f] [.bool] R:=
 PF ⟨[],[],[],[]⟩ [.tmp 2] 15 Tryz.func139 H
theorem P6(gl:Fr)(f:Bt)(R:(Int×Bool)->Prop) (H:∃(a:Int->Prop) (b:Int->Nat),a 0/\∀c:Int,a c->((decide (c<f.size)=Ta->PC Tp gl 268 [Arg.mk .str f,Arg.mk (.int .i64) c] [.bool] (λd:Bool=>((!d)=Ta->R (c,Tb))/\((!d)=Tb->PC Tp gl 269 [Arg.mk .str f,Arg.mk (.int .i64) c] [.int .i32,.int .i64] (λe:Int×Int=>(a (YJ .i64 (c+e.2))/\b (YJ .i64 (c+e.2))<b c)))))/\(decide (c<f.size)=Tb->R ((f.size:Int),Ta)))):
  PC Tp gl 205 [Arg.mk .str f] [.int .i64,.bool] R:=
 PF ⟨[],[],[(2,⟨[(4,.one (.dat (.int .i64)))],[],[],[100256]⟩)],[]⟩ [.tmp 2,.tmp 3] 29 Tryz.func205 H
theorem Nk(gl:Fr)(n0:Bool×Bt×Int)(R:Bt->Prop) (H:PC Tp gl 105 [Arg.mk (.pair .bool (.pair .str (.int .i64))) (n0.1,(n0.2.1,n0.2.2))] [.bool] (λa:Bool=>((!a)=Ta->R (⟨#[]⟩:Bt))/\((!a)=Tb->((n0.2.1.toList==(⟨#[]⟩:Bt).toList)=Ta->R (⟨#[48]⟩:Bt))/\((n0.2.1.toList==(⟨#[]⟩:Bt).toList)=Tb->∀b:Bt->Prop,(∀c:Bt,(((n0.2.2 != 0)=Ta->PC Tp gl 106 [Arg.mk (.int .i64) n0.2.2] [.str] (λd:Bt=>jq (((⟨#[101]⟩:Bt)).size+d.size)/\jq (c.size+((⟨#[101]⟩:Bt)++d).size)/\R (c++((⟨#[101]⟩:Bt)++d))))/\((n0.2.2 != 0)=Tb->R c))->b c)->(n0.1=Ta->jq (((⟨#[45]⟩:Bt)).size+n0.2.1.size)/\b ((⟨#[45]⟩:Bt)++n0.2.1))/\(n0.1=Tb->b n0.2.1))))):
  PC Tp gl 63 [Arg.mk (.pair .bool (.pair .str (.int .i64))) n0] [.str] R:=
 PF ⟨[],[],[],[(8,⟨[(3,.one (.dat .str))],[],[1],[100192]⟩)]⟩ [.tmp 2] 26 Tryz.func63 H
theorem QB(gl:Fr)(n0:Int)(R:(Bool×Bt×Int)->Prop) (H:PC Tp gl 106 [Arg.mk (.int .i64) n0] [.str] (λa:Bt=>PC Tp gl 107 [Arg.mk .str a] [.pair .bool (.pair .str (.int .i64)),.int .i64] (λb:(Bool×Bt×Int)×Int=>R (b.1.1,(b.1.2.1,b.1.2.2))))):
  PC Tp gl 64 [Arg.mk (.int .i64) n0] [.pair .bool (.pair .str (.int .i64))] R:=
 PF ⟨[],[],[],[]⟩ [.cell 2 78] 12 Tryz.func64 H
theorem WY(gl:Fr)(f:Bt)(R:(Int×Bool)->Prop) (H:PC Tp gl 232 [Arg.mk .str f] [.bool] (λa:Bool=>(a=Ta->R ((f.size:Int),Ta))/\(a=Tb->∃(b:(Bt×Nat)->Prop) (c:(Bt×Nat)->Nat),b (f,0)/\∀e:Bt×Nat,b e->(((fA e.1 e.2)=Ta->(fA e.1 e.2)=Ta/\(fA e.1 e.2)=Ta/\(((gF e.1 e.2:Int) != 65533)=Ta->(b (e.1,fL e.1 e.2)/\c (e.1,fL e.1 e.2)<c e))/\(((gF e.1 e.2:Int) != 65533)=Tb->(0<=(e.2:Int)/\(e.2:Int)<=(f.size:Int)/\(f.size:Int)<=(f.size:Int))/\PC Tp gl 233 [Arg.mk .str (f.extract (e.2:Int).toNat (f.size:Int).toNat)] [.int .i32,.int .i64] (λd:Int×Int=>((d.2==1)=Ta->R ((e.2:Int),Tb))/\((d.2==1)=Tb->(b (e.1,fL e.1 e.2)/\c (e.1,fL e.1 e.2)<c e)))))/\((fA e.1 e.2)=Tb->R ((f.size:Int),Ta)))))):
  PC Tp gl 174 [Arg.mk .str f] [.int .i64,.bool] R:=
 PF ⟨[],[],[(4,⟨[],[(13,[.dat .iter])],[],[1000832]⟩)],[]⟩ [.tmp 2,.tmp 3] 32 Tryz.func174 H
theorem TJ(gl:Fr)(e:Tr)(R:Bool->Prop) (H:PC Tp gl 47 [Arg.mk .tree (Tr.mk e.kind e.text e.keys e.items)] [.int .i64] (λa:Int=>∃b:Int->Prop,(decide (a<=4096)=Ta->PC Tp gl 26 [Arg.mk .tree (Tr.mk e.kind e.text e.keys e.items)] [.int .i64] b)/\∀c:Int,(decide (a<=4096)=Ta->b c)->R (bif (decide (a<=4096))then(decide (c<=32))else Tb))):
  PC Tp gl 59 [Arg.mk .tree e] [.bool] R:=
 PF ⟨[],[],[],[]⟩ [.tmp 2] 11 Tryz.func59 H
theorem Sx(gl:Fr)(e:Tr)(R:Bool->Prop) (H:((e.kind==5)=Ta->R (bif (!(decide ((e.keys.length:Int)>0)))then(e.text.toList==(⟨#[]⟩:Bt).toList)else Tb))/\((e.kind==5)=Tb->((e.kind==6)=Ta->PC Tp gl 101 [Arg.mk (.row .str) e.keys,Arg.mk (.int .i64) (e.items.length:Int)] [.bool] (λa:Bool=>R (bif a then(e.text.toList==(⟨#[]⟩:Bt).toList)else Tb)))/\((e.kind==6)=Tb->((bif (decide ((e.keys.length:Int)>0))then Ta else(decide ((e.items.length:Int)>0)))=Ta->R Tb)/\((bif (decide ((e.keys.length:Int)>0))then Ta else(decide ((e.items.length:Int)>0)))=Tb->((e.kind==1)=Ta->R (e.text.toList==(⟨#[]⟩:Bt).toList))/\((e.kind==1)=Tb->((e.kind==2)=Ta->R (bif (e.text.toList==(⟨#[116,114,117,101]⟩:Bt).toList)then Ta else(e.text.toList==(⟨#[102,97,108,115,101]⟩:Bt).toList)))/\((e.kind==2)=Tb->((e.kind==3)=Ta->PC Tp gl 102 [Arg.mk .str e.text] [.pair .bool (.pair .str (.int .i64)),.bool] (λb:(Bool×Bt×Int)×Bool=>R b.2))/\((e.kind==3)=Tb->((e.kind==4)=Ta->PC Tp gl 103 [Arg.mk .str e.text] [.bool] (λc:Bool=>R c))/\((e.kind==4)=Tb->((e.kind==7)=Ta->PC Tp gl 104 [Arg.mk .str e.text] [.bool] (λd:Bool=>R d))/\((e.kind==7)=Tb->R Tb))))))))):
  PC Tp gl 62 [Arg.mk .tree e] [.bool] R:=
 PF ⟨[],[],[],[]⟩ [.tmp 2] 79 Tryz.func62 H
theorem XN(gl:Fr)(h:Tr)(R:Int->Prop) (H:∃(a:Int->Int->Prop) (b:Int->Int->Nat),a 1 0/\∀c d:Int,a c d->((decide (d<h.items.length)=Ta->∃e,(0<=d/\h.items[d.toNat]?=Tc e)/\PC Tp gl 92 [Arg.mk .tree (Tr.mk e.kind e.text e.keys e.items)] [.int .i64] (λf:Int=>(a (YJ .i64 (c+f)) (YJ .i64 (d+1))/\b (YJ .i64 (c+f)) (YJ .i64 (d+1))<b c d)))/\(decide (d<h.items.length)=Tb->R c))):
  PC Tp gl 92 [Arg.mk .tree h] [.int .i64] R:=
 PF ⟨[],[],[(3,⟨[(3,.one (.dat (.int .i64))),(4,.one (.dat (.int .i64)))],[],[1],[100192,100256]⟩)],[]⟩ [.tmp 2] 21 Tryz.func92 H
theorem UH(gl:Fr)(h:Tr)(R:Int->Prop) (H:∃(a:Int->Int->Prop) (b:Int->Int->Nat),a 0 0/\∀c d:Int,a c d->((decide (d<h.items.length)=Ta->∃e,(0<=d/\h.items[d.toNat]?=Tc e)/\PC Tp gl 93 [Arg.mk .tree (Tr.mk e.kind e.text e.keys e.items)] [.int .i64] (λf:Int=>(a (if c<f then f else c) (YJ .i64 (d+1))/\b (if c<f then f else c) (YJ .i64 (d+1))<b c d)))/\(decide (d<h.items.length)=Tb->R (YJ .i64 (c+1))))):
  PC Tp gl 93 [Arg.mk .tree h] [.int .i64] R:=
 PF ⟨[],[],[(3,⟨[(3,.one (.dat (.int .i64))),(4,.one (.dat (.int .i64)))],[],[1],[100192,100256]⟩)],[]⟩ [.tmp 2] 22 Tryz.func93 H
theorem MQ(gl:Fr)(i:Tr)(h:Bool)(R:Bool->Prop) (H:PC Tp gl 162 [Arg.mk .tree (Tr.mk i.kind i.text i.keys i.items)] [.bool] (λa:Bool=>((bif (!a)then Ta else(bif (i.kind==7)then(!h)else Tb))=Ta->R Tb)/\((bif (!a)then Ta else(bif (i.kind==7)then(!h)else Tb))=Tb->∃(b:Int->Prop) (c:Int->Nat),b 0/\∀d:Int,b d->((decide (d<i.items.length)=Ta->∃e,(0<=d/\i.items[d.toNat]?=Tc e)/\PC Tp gl 94 [Arg.mk .tree (Tr.mk e.kind e.text e.keys e.items),Arg.mk .bool h] [.bool] (λf:Bool=>((!f)=Ta->R Tb)/\((!f)=Tb->(b (YJ .i64 (d+1))/\c (YJ .i64 (d+1))<c d))))/\(decide (d<i.items.length)=Tb->R Ta))))):
  PC Tp gl 94 [Arg.mk .tree i,Arg.mk .bool h] [.bool] R:=
 PF ⟨[],[],[(5,⟨[(6,.one (.dat (.int .i64)))],[],[2],[100384]⟩)],[]⟩ [.tmp 4] 37 Tryz.func94 H
theorem YD(gl:Fr)(c:Bt)(b:Int)(R:Bool->Prop) (H:PC Tp gl 269 [Arg.mk .str c,Arg.mk (.int .i64) b] [.int .i32,.int .i64] (λa:Int×Int=>R (bif (decide (a.2>0))then(!(bif (a.1==65533)then(a.2==1)else Tb))else Tb))):
  PC Tp gl 268 [Arg.mk .str c,Arg.mk (.int .i64) b] [.bool] R:=
 PF ⟨[],[],[],[]⟩ [.tmp 4] 24 Tryz.func268 H
theorem XW(gl:Fr)(m:Bt)(h:Int)(R:(Int×Int)->Prop) (H:((bif (decide (h<0))then Ta else(decide (h>=m.size)))=Ta->R (0,0))/\((bif (decide (h<0))then Ta else(decide (h>=m.size)))=Tb->(0<=h/\h<m.size)/\PC Tp gl 327 [Arg.mk (.int .i64) (YJ .i64 (zf m h.toNat))] [.int .i64] (λa:Int=>((bif (a==0)then Ta else(decide (a>(YJ .i64 ((m.size:Int)-h)))))=Ta->R (65533,1))/\((bif (a==0)then Ta else(decide (a>(YJ .i64 ((m.size:Int)-h)))))=Tb->(0<=h/\h<m.size)/\∀b:Int->Prop,(∀c:Int,(∀d:Int->Prop,(∀e:Int,(∀f:Int->Prop,(∀g:Int,(∃(i:Int->Int->Prop) (j:Int->Int->Nat),i g 1/\∀k l:Int,i k l->((decide (l<a)=Ta->(0<=(YJ .i64 (h+l))/\(YJ .i64 (h+l))<(m.size:Int))/\((bif (decide ((YJ .i64 (zf m (YJ .i64 (h+l):Int).toNat))<128))then Ta else(decide ((YJ .i64 (zf m (YJ .i64 (h+l):Int).toNat))>191)))=Ta->R (65533,1))/\((bif (decide ((YJ .i64 (zf m (YJ .i64 (h+l):Int).toNat))<128))then Ta else(decide ((YJ .i64 (zf m (YJ .i64 (h+l):Int).toNat))>191)))=Tb->(i (YJ .i64 ((YJ .i64 ((YJ .i64 (64*k))+(YJ .i64 (zf m (YJ .i64 (h+l)).toNat))))-128)) (YJ .i64 (l+1))/\j (YJ .i64 ((YJ .i64 ((YJ .i64 (64*k))+(YJ .i64 (zf m (YJ .i64 (h+l)).toNat))))-128)) (YJ .i64 (l+1))<j k l)))/\(decide (l<a)=Tb->((bif (bif (bif (bif (a==3)then(decide (k<2048))else Tb)then Ta else(bif (a==4)then(decide (k<65536))else Tb))then Ta else(decide (k>1114111)))then Ta else(bif (decide (k>=55296))then(decide (k<57344))else Tb))=Ta->R (65533,1))/\((bif (bif (bif (bif (a==3)then(decide (k<2048))else Tb)then Ta else(bif (a==4)then(decide (k<65536))else Tb))then Ta else(decide (k>1114111)))then Ta else(bif (decide (k>=55296))then(decide (k<57344))else Tb))=Tb->R (YJ .i32 k,a)))))->f g)->((a==4)=Ta->f (YJ .i64 (e-240)))/\((a==4)=Tb->f e))->d e)->((a==3)=Ta->d (YJ .i64 (c-224)))/\((a==3)=Tb->d c))->b c)->((a==2)=Ta->b (YJ .i64 ((YJ .i64 (zf m h.toNat))-192)))/\((a==2)=Tb->b (YJ .i64 (zf m h.toNat))))))):
  PC Tp gl 269 [Arg.mk .str m,Arg.mk (.int .i64) h] [.int .i32,.int .i64] R:=
 PF ⟨[],[],[(14,⟨[(7,.one (.dat (.int .i64))),(8,.one (.dat (.int .i64)))],[],[],[100448,100512]⟩)],[(9,⟨[(7,.one (.dat (.int .i64)))],[],[],[100448]⟩),(11,⟨[(7,.one (.dat (.int .i64)))],[],[],[100448]⟩),(13,⟨[(7,.one (.dat (.int .i64)))],[],[],[100448]⟩)]⟩ [.tmp 4,.tmp 5] 100 Tryz.func269 H
theorem Vd(gl:Fr)(n0:Bool×Bt×Int)(R:Bool->Prop) (H:(((n0.1==Tb)&&((n0.2.1.toList==(⟨#[]⟩:Bt).toList)&&((n0.2.2==0)&&Ta)))=Ta->R Ta)/\(((n0.1==Tb)&&((n0.2.1.toList==(⟨#[]⟩:Bt).toList)&&((n0.2.2==0)&&Ta)))=Tb->PC Tp gl 176 [Arg.mk .str n0.2.1] [.bool] (λa:Bool=>((!a)=Ta->((!a)=Ta->R Tb)/\((!a)=Tb->R (bif (decide (n0.2.2>=(-1000000)))then(decide (n0.2.2<=1000000))else Tb)))/\((!a)=Tb->(decide ((n0.2.1.size:Int)>1000)=Ta->(decide ((n0.2.1.size:Int)>1000)=Ta->R Tb)/\(decide ((n0.2.1.size:Int)>1000)=Tb->R (bif (decide (n0.2.2>=(-1000000)))then(decide (n0.2.2<=1000000))else Tb)))/\(decide ((n0.2.1.size:Int)>1000)=Tb->(0<=(0:Int)/\(0:Int)<(n0.2.1.size:Int))/\(((zf n0.2.1 (0:Int).toNat:Int)==48)=Ta->(((zf n0.2.1 (0:Int).toNat:Int)==48)=Ta->R Tb)/\(((zf n0.2.1 (0:Int).toNat:Int)==48)=Tb->R (bif (decide (n0.2.2>=(-1000000)))then(decide (n0.2.2<=1000000))else Tb)))/\(((zf n0.2.1 (0:Int).toNat:Int)==48)=Tb->(0<=(YJ .i64 ((n0.2.1.size:Int)-1))/\(YJ .i64 ((n0.2.1.size:Int)-1))<(n0.2.1.size:Int))/\(((zf n0.2.1 (YJ .i64 ((n0.2.1.size:Int)-1)).toNat:Int)==48)=Ta->R Tb)/\(((zf n0.2.1 (YJ .i64 ((n0.2.1.size:Int)-1)).toNat:Int)==48)=Tb->R (bif (decide (n0.2.2>=(-1000000)))then(decide (n0.2.2<=1000000))else Tb)))))))):
  PC Tp gl 105 [Arg.mk (.pair .bool (.pair .str (.int .i64))) n0] [.bool] R:=
 PF ⟨[],[],[],[]⟩ [.tmp 2] 34 Tryz.func105 H
theorem SB(gl:Fr)(r:Bt)(R:((Bool×Bt×Int)×Int)->Prop) (H:PC Tp gl 178 [Arg.mk .str r] [.pair .bool (.pair .bool (.pair .str (.pair .str .str))),.bool] (λa:(Bool×Bool×Bt×Bt×Bt)×Bool=>PC Tp gl 179 [Arg.mk .str a.1.2.2.2.2,Arg.mk .str (⟨#[48]⟩:Bt)] [.str] (λb:Bt=>((!a.2)=Ta->R ((Tb,((⟨#[]⟩:Bt),0)),2))/\((!a.2)=Tb->((decide ((YJ .i64 ((a.1.2.2.1.size:Int)+(a.1.2.2.2.1.size:Int)))>1000))=Ta->R ((Tb,((⟨#[]⟩:Bt),0)),3))/\((decide ((YJ .i64 ((a.1.2.2.1.size:Int)+(a.1.2.2.2.1.size:Int)))>1000))=Tb->(decide ((b.size:Int)>9)=Ta->R ((Tb,((⟨#[]⟩:Bt),0)),4))/\(decide ((b.size:Int)>9)=Tb->∃(c:Int->Bool->Bt->Int->(Bt×Nat)->Prop) (d:Int->Bool->Bt->Int->(Bt×Nat)->Nat),c 0 Tb (⟨#[]⟩:Bt) 0 (b,0)/\∀e:Int,∀m:Bool,∀l:Bt,∀n:Int,∀h:Bt×Nat,c e m l n h->(((fA h.1 h.2)=Ta->(fA h.1 h.2)=Ta/\(c (YJ .i64 ((YJ .i64 (10*e))+(YJ .i64 (YJ .i32 ((gF h.1 h.2)-48))))) m l n (h.1,fL h.1 h.2)/\d (YJ .i64 ((YJ .i64 (10*e))+(YJ .i64 (YJ .i32 ((gF h.1 h.2)-48))))) m l n (h.1,fL h.1 h.2)<d e m l n h))/\((fA h.1 h.2)=Tb->∀f:Int->Bool->Bt->Int->Prop,(∀g:Int,∀o:Bool,∀q:Bt,∀p:Int,(jq (a.1.2.2.1.size+a.1.2.2.2.1.size)/\PC Tp gl 179 [Arg.mk .str (a.1.2.2.1++a.1.2.2.2.1),Arg.mk .str (⟨#[48]⟩:Bt)] [.str] (λi:Bt=>((i.toList==(⟨#[]⟩:Bt).toList)=Ta->R ((Tb,((⟨#[]⟩:Bt),0)),0))/\((i.toList==(⟨#[]⟩:Bt).toList)=Tb->PC Tp gl 180 [Arg.mk .str i,Arg.mk .str (⟨#[48]⟩:Bt)] [.str] (λj:Bt=>PC Tp gl 105 [Arg.mk (.pair .bool (.pair .str (.int .i64))) (a.1.1,(j,YJ .i64 ((YJ .i64 ((YJ .i64 (g-(a.1.2.2.2.1.size:Int)))+(i.size:Int)))-(j.size:Int))))] [.bool] (λk:Bool=>((!k)=Ta->R ((Tb,((⟨#[]⟩:Bt),0)),4))/\((!k)=Tb->R ((a.1.1,(j,YJ .i64 ((YJ .i64 ((YJ .i64 (g-(a.1.2.2.2.1.size:Int)))+(i.size:Int)))-(j.size:Int)))),0)))))))->f g o q p)->(a.1.2.1=Ta->f (YJ .i64 (0-e)) m l n)/\(a.1.2.1=Tb->f e m l n))))))))):
  PC Tp gl 107 [Arg.mk .str r] [.pair .bool (.pair .str (.int .i64)),.int .i64] R:=
 PF ⟨[],[],[(11,⟨[(7,.one (.dat (.int .i64)))],[(2,[.dat .bool,.dat .str,.dat (.int .i64)]),(41,[.dat .iter])],[4],[100448,1000128,1000129,1000130,1002624]⟩)],[(16,⟨[(7,.one (.dat (.int .i64)))],[(2,[.dat .bool,.dat .str,.dat (.int .i64)])],[4],[100448,1000128,1000129,1000130]⟩)]⟩ [.cell 2 78,.tmp 3] 86 Tryz.func107 H
theorem Od(gl:Fr)(h:Tr)(R:Int->Prop) (H:∃(a:Int->Int->Prop) (b:Int->Int->Nat),a 1 0/\∀c d:Int,a c d->((decide (d<h.items.length)=Ta->∃e,(0<=d/\h.items[d.toNat]?=Tc e)/\PC Tp gl 47 [Arg.mk .tree (Tr.mk e.kind e.text e.keys e.items)] [.int .i64] (λf:Int=>(a (YJ .i64 (c+f)) (YJ .i64 (d+1))/\b (YJ .i64 (c+f)) (YJ .i64 (d+1))<b c d)))/\(decide (d<h.items.length)=Tb->R c))):
  PC Tp gl 47 [Arg.mk .tree h] [.int .i64] R:=
 PF ⟨[],[],[(3,⟨[(3,.one (.dat (.int .i64))),(9,.one (.dat (.int .i64)))],[],[],[100192,100576]⟩)],[]⟩ [.tmp 2] 19 Tryz.func47 H
theorem XT(gl:Fr)(h:Tr)(R:Int->Prop) (H:∃(a:Int->Int->Prop) (b:Int->Int->Nat),a 0 0/\∀c d:Int,a c d->((decide (d<h.items.length)=Ta->∃e,(0<=d/\h.items[d.toNat]?=Tc e)/\PC Tp gl 26 [Arg.mk .tree (Tr.mk e.kind e.text e.keys e.items)] [.int .i64] (λf:Int=>(a (if c<f then f else c) (YJ .i64 (d+1))/\b (if c<f then f else c) (YJ .i64 (d+1))<b c d)))/\(decide (d<h.items.length)=Tb->R (YJ .i64 (c+1))))):
  PC Tp gl 26 [Arg.mk .tree h] [.int .i64] R:=
 PF ⟨[],[],[(3,⟨[(3,.one (.dat (.int .i64))),(9,.one (.dat (.int .i64)))],[],[],[100192,100576]⟩)],[]⟩ [.tmp 2] 20 Tryz.func26 H
theorem KR(gl:Fr)(b:Bt)(R:Bool->Prop) (H:PC Tp gl 174 [Arg.mk .str b] [.int .i64,.bool] (λa:Int×Bool=>R a.2)):
  PC Tp gl 103 [Arg.mk .str b] [.bool] R:=
 PF ⟨[],[],[],[]⟩ [.tmp 2] 11 Tryz.func103 H
theorem Lb(gl:Fr)(c:Bt)(R:Bool->Prop) (H:PC Tp gl 102 [Arg.mk .str c] [.pair .bool (.pair .str (.int .i64)),.bool] (λa:(Bool×Bt×Int)×Bool=>PC Tp gl 175 [Arg.mk (.pair .bool (.pair .str (.int .i64))) (a.1.1,(a.1.2.1,a.1.2.2))] [.int .i64,.bool] (λb:Int×Bool=>R (bif (bif a.2 then b.2 else Tb)then(decide (b.1>=0))else Tb)))):
  PC Tp gl 104 [Arg.mk .str c] [.bool] R:=
 PF ⟨[],[],[],[]⟩ [.tmp 2] 25 Tryz.func104 H
theorem U0(gl:Fr)(h:Tr)(R:Bool->Prop) (H:((bif (bif (h.kind != 6)then(decide ((h.keys.length:Int)>0))else Tb)then Ta else(bif (bif (h.kind != 6)then(h.kind != 5)else Tb)then(decide ((h.items.length:Int)>0))else Tb))=Ta->R Tb)/\((bif (bif (h.kind != 6)then(decide ((h.keys.length:Int)>0))else Tb)then Ta else(bif (bif (h.kind != 6)then(h.kind != 5)else Tb)then(decide ((h.items.length:Int)>0))else Tb))=Tb->∀a:Bool->Prop,(∀b:Bool,((b=Ta->R (h.text.toList==(⟨#[]⟩:Bt).toList))/\(b=Tb->((h.kind==2)=Ta->R (bif (h.text.toList==(⟨#[116,114,117,101]⟩:Bt).toList)then Ta else(h.text.toList==(⟨#[102,97,108,115,101]⟩:Bt).toList)))/\((h.kind==2)=Tb->((h.kind==3)=Ta->PC Tp gl 224 [Arg.mk .str h.text] [.pair .bool (.pair .str (.int .i64)),.bool] (λc:(Bool×Bt×Int)×Bool=>R c.2))/\((h.kind==3)=Tb->((h.kind==4)=Ta->PC Tp gl 225 [Arg.mk .str h.text] [.bool] (λd:Bool=>R d))/\((h.kind==4)=Tb->((h.kind==7)=Ta->PC Tp gl 224 [Arg.mk .str h.text] [.pair .bool (.pair .str (.int .i64)),.bool] (λe:(Bool×Bt×Int)×Bool=>PC Tp gl 226 [Arg.mk (.pair .bool (.pair .str (.int .i64))) (e.1.1,(e.1.2.1,e.1.2.2))] [.int .i64,.bool] (λf:Int×Bool=>R (bif (bif e.2 then f.2 else Tb)then(decide (f.1>=0))else Tb))))/\((h.kind==7)=Tb->((h.kind==6)=Ta->∃(g:Int->Prop) (i:Int->Nat),g 0/\∀j:Int,g j->((decide (j<h.keys.length)=Ta->∃k,(0<=j/\h.keys[j.toNat]?=Tc k)/\PC Tp gl 225 [Arg.mk .str k] [.bool] (λl:Bool=>((!l)=Ta->R Tb)/\((!l)=Tb->∃(m:Int->Prop) (n:Int->Nat),m 0/\∀o:Int,m o->((decide (o<j)=Ta->∃p,(0<=o/\h.keys[o.toNat]?=Tc p)/\∃q,(0<=j/\h.keys[j.toNat]?=Tc q)/\((p.toList==q.toList)=Ta->R Tb)/\((p.toList==q.toList)=Tb->(m (YJ .i64 (o+1))/\n (YJ .i64 (o+1))<n o)))/\(decide (o<j)=Tb->(g (YJ .i64 (j+1))/\i (YJ .i64 (j+1))<i j))))))/\(decide (j<h.keys.length)=Tb->R (bif (h.text.toList==(⟨#[]⟩:Bt).toList)then((h.keys.length:Int)==(h.items.length:Int))else Tb))))/\((h.kind==6)=Tb->R Tb)))))))->a b)->((h.kind==1)=Ta->a (h.kind==1))/\((h.kind==1)=Tb->a (h.kind==5)))):
  PC Tp gl 162 [Arg.mk .tree h] [.bool] R:=
 PF ⟨[],[],[(20,⟨[(9,.one (.dat (.int .i64)))],[],[1],[100576]⟩),(26,⟨[(11,.one (.dat (.int .i64)))],[],[],[100704]⟩)],[(6,⟨[(39,.one (.dat .bool))],[],[1],[102496]⟩)]⟩ [.tmp 2] 135 Tryz.func162 H
theorem S7(gl:Fr)(b:Int)(R:Int->Prop) (H:(decide (b<128)=Ta->R 1)/\(decide (b<128)=Tb->((bif (decide (b>=194))then(decide (b<=223))else Tb)=Ta->R 2)/\((bif (decide (b>=194))then(decide (b<=223))else Tb)=Tb->((bif (decide (b>=224))then(decide (b<=239))else Tb)=Ta->R 3)/\((bif (decide (b>=224))then(decide (b<=239))else Tb)=Tb->((bif (decide (b>=240))then(decide (b<=244))else Tb)=Ta->R 4)/\((bif (decide (b>=240))then(decide (b<=244))else Tb)=Tb->R 0))))):
  PC Tp gl 327 [Arg.mk (.int .i64) b] [.int .i64] R:=
 PF ⟨[],[],[],[]⟩ [.tmp 2] 23 Tryz.func327 H
theorem MR(gl:Fr)(e:Bt)(R:Bool->Prop) (H:∃(a:(Bt×Nat)->Prop) (b:(Bt×Nat)->Nat),a (e,0)/\∀c:Bt×Nat,a c->(((fA c.1 c.2)=Ta->(fA c.1 c.2)=Ta/\((bif (decide ((gF c.1 c.2:Int)<48))then Ta else(decide ((gF c.1 c.2:Int)>57)))=Ta->R Tb)/\((bif (decide ((gF c.1 c.2:Int)<48))then Ta else(decide ((gF c.1 c.2:Int)>57)))=Tb->(a (c.1,fL c.1 c.2)/\b (c.1,fL c.1 c.2)<b c)))/\((fA c.1 c.2)=Tb->R (!(e.toList==(⟨#[]⟩:Bt).toList))))):
  PC Tp gl 176 [Arg.mk .str e] [.bool] R:=
 PF ⟨[],[],[(2,⟨[],[(6,[.dat .iter])],[],[1000384]⟩)],[]⟩ [.tmp 2] 18 Tryz.func176 H
theorem Kn(gl:Fr)(b:Bt)(R:Bool->Prop) (H:PC Tp gl 205 [Arg.mk .str b] [.int .i64,.bool] (λa:Int×Bool=>R a.2)):
  PC Tp gl 225 [Arg.mk .str b] [.bool] R:=
 PF ⟨[],[],[],[]⟩ [.tmp 2] 11 Tryz.func225 H
theorem R9(gl:Fr)(n0:Bool×Bt×Int)(R:(Int×Bool)->Prop) (H:PC Tp gl 279 [Arg.mk (.pair .bool (.pair .str (.int .i64))) (n0.1,(n0.2.1,n0.2.2))] [.bool] (λa:Bool=>((bif (bif (!a)then Ta else(decide (n0.2.2<0)))then Ta else(decide ((YJ .i64 ((n0.2.1.size:Int)+n0.2.2))>19)))=Ta->R (0,Tb))/\((bif (bif (!a)then Ta else(decide (n0.2.2<0)))then Ta else(decide ((YJ .i64 ((n0.2.1.size:Int)+n0.2.2))>19)))=Tb->∃(b:Int->Int->Prop) (c:Int->Int->Nat),b 0 0/\∀d e:Int,b d e->(((decide (e<(YJ .i64 ((n0.2.1.size:Int)+n0.2.2))))=Ta->∀f:Int->Prop,(∀g:Int,(zat=zat/\(10:Int)≠0/\((decide (d<(YJ .i64 ((YJ .i64 ((-9223372036854775808)+g)).tdiv 10))))=Ta->R (0,Tb))/\((decide (d<(YJ .i64 ((YJ .i64 ((-9223372036854775808)+g)).tdiv 10))))=Tb->(b (YJ .i64 ((YJ .i64 (10*d))-g)) (YJ .i64 (e+1))/\c (YJ .i64 ((YJ .i64 (10*d))-g)) (YJ .i64 (e+1))<c d e)))->f g)->(decide (e<n0.2.1.size)=Ta->(0<=e/\e<n0.2.1.size)/\f (YJ .i64 (YJ .u8 ((zf n0.2.1 e.toNat)-48))))/\(decide (e<n0.2.1.size)=Tb->f 0))/\((decide (e<(YJ .i64 ((n0.2.1.size:Int)+n0.2.2))))=Tb->(n0.1=Ta->R (d,Ta))/\(n0.1=Tb->((d==(-9223372036854775808))=Ta->R (0,Tb))/\((d==(-9223372036854775808))=Tb->R (YJ .i64 (0-d),Ta)))))))):
  PC Tp gl 226 [Arg.mk (.pair .bool (.pair .str (.int .i64))) n0] [.int .i64,.bool] R:=
 PF ⟨[],[],[(6,⟨[(5,.one (.dat (.int .i64))),(6,.one (.dat (.int .i64)))],[],[1],[100320,100384]⟩)],[(11,⟨[(7,.one (.dat (.int .i64)))],[],[],[100448]⟩)]⟩ [.tmp 2,.tmp 3] 63 Tryz.func226 H
theorem QJ(gl:Fr)(e:Bt)(f:Bt)(R:(Bt×Bt×Bool)->Prop) (H:∃(a:Int->Prop) (b:Int->Nat),a 0/\∀c:Int,a c->((decide (c<e.size)=Ta->(0<=c/\c<e.size)/\PC Tp gl 194 [Arg.mk .str f,Arg.mk (.int .u8) (zf e c.toNat)] [.int .i64] (λd:Int=>(decide (d>=0)=Ta->(0<=(0:Int)/\(0:Int)<=c/\c<=e.size)/\(0<=(YJ .i64 (c+1))/\(YJ .i64 (c+1))<=(e.size:Int)/\(e.size:Int)<=(e.size:Int))/\R (e.extract (0:Int).toNat c.toNat,e.extract (YJ .i64 (c+1)).toNat (e.size:Int).toNat,Ta))/\(decide (d>=0)=Tb->(a (YJ .i64 (c+1))/\b (YJ .i64 (c+1))<b c))))/\(decide (c<e.size)=Tb->R (e,(⟨#[]⟩:Bt),Tb)))):
  PC Tp gl 238 [Arg.mk .str e,Arg.mk .str f] [.str,.str,.bool] R:=
 PF ⟨[],[],[(2,⟨[(10,.one (.dat (.int .i64)))],[],[],[100640]⟩)],[]⟩ [.tmp 4,.tmp 5,.tmp 6] 28 Tryz.func238 H
theorem Lz(gl:Fr)(I:Bt)(R:((Bool×Bt×Int)×Int)->Prop) (H:PC Tp gl 280 [Arg.mk .str I] [.bool,.str,.str,.bool,.str,.bool] (λa:Bool×Bt×Bt×Bool×Bt×Bool=>((!a.2.2.2.2.2)=Ta->R ((Tb,((⟨#[]⟩:Bt),0)),2))/\((!a.2.2.2.2.2)=Tb->((decide ((YJ .i64 ((a.2.1.size:Int)+(a.2.2.1.size:Int)))>1000))=Ta->R ((Tb,((⟨#[]⟩:Bt),0)),3))/\((decide ((YJ .i64 ((a.2.1.size:Int)+(a.2.2.1.size:Int)))>1000))=Tb->∃(b:Bt->Bool->Bt->Int->Prop) (c:Bt->Bool->Bt->Int->Nat),b a.2.2.2.2.1 Tb (⟨#[]⟩:Bt) 0/\∀d:Bt,∀C:Bool,∀B:Bt,∀D:Int,b d C B D->((decide ((d.size:Int)>1)=Ta->(0<=(0:Int)/\(0:Int)<(d.size:Int)))/\((bif (decide ((d.size:Int)>1))then((zf d (0:Int).toNat:Int)==48)else Tb)=Ta->(0<=(1:Int)/\(1:Int)<=(d.size:Int)/\(d.size:Int)<=(d.size:Int))/\(b (d.extract (1:Int).toNat (d.size:Int).toNat) C B D/\c (d.extract (1:Int).toNat (d.size:Int).toNat) C B D<c d C B D))/\((bif (decide ((d.size:Int)>1))then((zf d (0:Int).toNat:Int)==48)else Tb)=Tb->(decide ((d.size:Int)>9)=Ta->R ((Tb,((⟨#[]⟩:Bt),0)),4))/\(decide ((d.size:Int)>9)=Tb->∃(e:Int->Int->Bool->Bt->Int->Prop) (f:Int->Int->Bool->Bt->Int->Nat),e 0 0 C B D/\∀g i:Int,∀u:Bool,∀w:Bt,∀t:Int,e g i u w t->((decide (i<d.size)=Ta->(0<=i/\i<d.size)/\(e (YJ .i64 ((YJ .i64 (10*g))+(YJ .i64 (YJ .u8 ((zf d i.toNat)-48))))) (YJ .i64 (i+1)) u w t/\f (YJ .i64 ((YJ .i64 (10*g))+(YJ .i64 (YJ .u8 ((zf d i.toNat)-48))))) (YJ .i64 (i+1)) u w t<f g i u w t))/\(decide (i<d.size)=Tb->∀j:Int->Bool->Bt->Int->Prop,(∀k:Int,∀G:Bool,∀F:Bt,∀E:Int,(jq (a.2.1.size+a.2.2.1.size)/\∃(l:Bt->Bool->Bt->Int->Prop) (m:Bt->Bool->Bt->Int->Nat),l (a.2.1++a.2.2.1) G F E/\∀n:Bt,∀h:Bool,∀x:Bt,∀s:Int,l n h x s->((decide ((n.size:Int)>0)=Ta->(0<=(0:Int)/\(0:Int)<(n.size:Int)))/\((bif (decide ((n.size:Int)>0))then((zf n (0:Int).toNat:Int)==48)else Tb)=Ta->(0<=(1:Int)/\(1:Int)<=(n.size:Int)/\(n.size:Int)<=(n.size:Int))/\(l (n.extract (1:Int).toNat (n.size:Int).toNat) h x s/\m (n.extract (1:Int).toNat (n.size:Int).toNat) h x s<m n h x s))/\((bif (decide ((n.size:Int)>0))then((zf n (0:Int).toNat:Int)==48)else Tb)=Tb->((n.toList==(⟨#[]⟩:Bt).toList)=Ta->R ((Tb,((⟨#[]⟩:Bt),0)),0))/\((n.toList==(⟨#[]⟩:Bt).toList)=Tb->∃(o:Int->Bt->Bool->Bt->Int->Prop) (p:Int->Bt->Bool->Bt->Int->Nat),o (YJ .i64 (k-(a.2.2.1.size:Int))) n h x s/\∀q:Int,∀r:Bt,∀y:Bool,∀A:Bt,∀z:Int,o q r y A z->((0<=(YJ .i64 ((r.size:Int)-1))/\(YJ .i64 ((r.size:Int)-1))<(r.size:Int))/\(((zf r (YJ .i64 ((r.size:Int)-1)).toNat:Int)==48)=Ta->(0<=(0:Int)/\(0:Int)<=(YJ .i64 ((r.size:Int)-1))/\(YJ .i64 ((r.size:Int)-1))<=(r.size:Int))/\(o (YJ .i64 (q+1)) (r.extract (0:Int).toNat (YJ .i64 ((r.size:Int)-1)).toNat) y A z/\p (YJ .i64 (q+1)) (r.extract (0:Int).toNat (YJ .i64 ((r.size:Int)-1)).toNat) y A z<p q r y A z))/\(((zf r (YJ .i64 ((r.size:Int)-1)).toNat:Int)==48)=Tb->((bif (decide (q<(-1000000)))then Ta else(decide (q>1000000)))=Ta->R ((Tb,((⟨#[]⟩:Bt),0)),4))/\((bif (decide (q<(-1000000)))then Ta else(decide (q>1000000)))=Tb->R ((a.1,(r,q)),0))))))))->j k G F E)->(a.2.2.2.1=Ta->j (YJ .i64 (0-g)) u w t)/\(a.2.2.2.1=Tb->j g u w t)))))))))):
  PC Tp gl 231 [Arg.mk .str I] [.pair .bool (.pair .str (.int .i64)),.int .i64] R:=
 PF ⟨[],[],[(6,⟨[(8,.one (.dat .str))],[(2,[.dat .bool,.dat .str,.dat (.int .i64)])],[],[100512,1000128,1000129,1000130]⟩),(12,⟨[(10,.one (.dat (.int .i64))),(11,.one (.dat (.int .i64)))],[(2,[.dat .bool,.dat .str,.dat (.int .i64)])],[],[100640,100704,1000128,1000129,1000130]⟩),(19,⟨[(12,.one (.dat .str))],[(2,[.dat .bool,.dat .str,.dat (.int .i64)])],[],[100768,1000128,1000129,1000130]⟩),(23,⟨[(10,.one (.dat (.int .i64))),(12,.one (.dat .str))],[(2,[.dat .bool,.dat .str,.dat (.int .i64)])],[],[100640,100768,1000128,1000129,1000130]⟩)],[(17,⟨[(10,.one (.dat (.int .i64)))],[(2,[.dat .bool,.dat .str,.dat (.int .i64)])],[],[100640,1000128,1000129,1000130]⟩)]⟩ [.cell 2 78,.tmp 3] 107 Tryz.func231 H
theorem KB(gl:Fr)(n0:Bool×Bt×Int)(R:Bt->Prop) (H:PC Tp gl 279 [Arg.mk (.pair .bool (.pair .str (.int .i64))) (n0.1,(n0.2.1,n0.2.2))] [.bool] (λa:Bool=>((!a)=Ta->R (⟨#[]⟩:Bt))/\((!a)=Tb->PC Tp gl 338 [Arg.mk (.pair .bool (.pair .str (.int .i64))) (n0.1,(n0.2.1,n0.2.2))] [.bool] (λb:Bool=>(b=Ta->R (⟨#[48]⟩:Bt))/\(b=Tb->∀c:Bt->Prop,(∀d:Bt,(((n0.2.2 != 0)=Ta->jq (d.size+((⟨#[101]⟩:Bt)).size)/\PC Tp gl 164 [Arg.mk (.int .i64) n0.2.2] [.str] (λe:Bt=>jq ((d++(⟨#[101]⟩:Bt)).size+e.size)/\R ((d++(⟨#[101]⟩:Bt))++e)))/\((n0.2.2 != 0)=Tb->R d))->c d)->(n0.1=Ta->jq (((⟨#[45]⟩:Bt)).size+n0.2.1.size)/\c ((⟨#[45]⟩:Bt)++n0.2.1))/\(n0.1=Tb->c n0.2.1)))))):
  PC Tp gl 278 [Arg.mk (.pair .bool (.pair .str (.int .i64))) n0] [.str] R:=
 PF ⟨[],[],[],[(9,⟨[(4,.one (.dat .str))],[],[1],[100256]⟩)]⟩ [.tmp 2] 27 Tryz.func278 H
theorem Oo(gl:Fr)(n0:Bool×Bt×Int)(R:Bool->Prop) (H:PC Tp gl 338 [Arg.mk (.pair .bool (.pair .str (.int .i64))) (n0.1,(n0.2.1,n0.2.2))] [.bool] (λa:Bool=>(a=Ta->R Ta)/\(a=Tb->PC Tp gl 339 [Arg.mk .str n0.2.1] [.bool] (λb:Bool=>((bif b then(decide ((n0.2.1.size:Int)<=1000))else Tb)=Ta->(0<=(0:Int)/\(0:Int)<(n0.2.1.size:Int)))/\((bif (bif b then(decide ((n0.2.1.size:Int)<=1000))else Tb)then((zf n0.2.1 (0:Int).toNat:Int) != 48)else Tb)=Ta->(0<=(YJ .i64 ((n0.2.1.size:Int)-1))/\(YJ .i64 ((n0.2.1.size:Int)-1))<(n0.2.1.size:Int)))/\R (bif (bif (bif (bif (bif b then(decide ((n0.2.1.size:Int)<=1000))else Tb)then((zf n0.2.1 (0:Int).toNat:Int) != 48)else Tb)then((zf n0.2.1 (YJ .i64 ((n0.2.1.size:Int)-1)).toNat:Int) != 48)else Tb)then(decide (n0.2.2>=(-1000000)))else Tb)then(decide (n0.2.2<=1000000))else Tb))))):
  PC Tp gl 279 [Arg.mk (.pair .bool (.pair .str (.int .i64))) n0] [.bool] R:=
 PF ⟨[],[],[],[]⟩ [.tmp 2] 42 Tryz.func279 H
theorem NH(gl:Fr)(h:Bt)(R:(Bool×Bt×Bt×Bool×Bt×Bool)->Prop) (H:(decide ((h.size:Int)>0)=Ta->(0<=(0:Int)/\(0:Int)<(h.size:Int)))/\∀a:Bt->Prop,(∀b:Bt,(∃(c:Int->Prop) (d:Int->Nat),c 0/\∀e:Int,c e->((decide (e<b.size)=Ta->(0<=e/\e<b.size))/\((bif (decide (e<b.size))then((zf b e.toNat:Int) != 101)else Tb)=Ta->(0<=e/\e<b.size))/\((bif (bif (decide (e<b.size))then((zf b e.toNat:Int) != 101)else Tb)then((zf b e.toNat:Int) != 69)else Tb)=Ta->(c (YJ .i64 (e+1))/\d (YJ .i64 (e+1))<d e))/\((bif (bif (decide (e<b.size))then((zf b e.toNat:Int) != 101)else Tb)then((zf b e.toNat:Int) != 69)else Tb)=Tb->∀f:Bt->Bool->Prop,(∀g:Bt,∀i:Bool,((0<=(0:Int)/\(0:Int)<=e/\e<=b.size)/\∃(j:Int->Prop) (k:Int->Nat),j 0/\∀l:Int,j l->(((decide (l<((b.extract (0:Int).toNat e.toNat).size:Int)))=Ta->(0<=l/\l<((b.extract (0:Int).toNat e.toNat).size:Int)))/\((bif (decide (l<((b.extract (0:Int).toNat e.toNat).size:Int)))then((zf (b.extract (0:Int).toNat e.toNat) l.toNat:Int) != 46)else Tb)=Ta->(j (YJ .i64 (l+1))/\k (YJ .i64 (l+1))<k l))/\((bif (decide (l<((b.extract (0:Int).toNat e.toNat).size:Int)))then((zf (b.extract (0:Int).toNat e.toNat) l.toNat:Int) != 46)else Tb)=Tb->(0<=(0:Int)/\(0:Int)<=l/\l<=((b.extract (0:Int).toNat e.toNat).size:Int))/\∀m:Bt->Prop,(∀n:Bt,(PC Tp gl 339 [Arg.mk .str ((b.extract (0:Int).toNat e.toNat).extract (0:Int).toNat l.toNat)] [.bool] (λo:Bool=>∃p:Bool->Prop,(o=Ta->PC Tp gl 339 [Arg.mk .str n] [.bool] p)/\∀q:Bool,(o=Ta->p q)->∃r:Bool->Prop,((bif o then q else Tb)=Ta->PC Tp gl 339 [Arg.mk .str g] [.bool] r)/\∀s:Bool,((bif o then q else Tb)=Ta->r s)->(((bif (bif o then q else Tb)then s else Tb)&&(!(((b.extract (0:Int).toNat e.toNat).extract (0:Int).toNat l.toNat:Bt).toList==(⟨#[48]⟩:Bt).toList)))=Ta->(0<=(0:Int)/\(0:Int)<(((b.extract (0:Int).toNat e.toNat).extract (0:Int).toNat l.toNat).size:Int)))/\∀t:Bt->Prop,(∀u:Bt,(R (bif (decide ((h.size:Int)>0))then((zf h (0:Int).toNat:Int)==45)else Tb,(b.extract (0:Int).toNat e.toNat).extract (0:Int).toNat l.toNat,u,i,g,bif (bif (bif o then q else Tb)then s else Tb)then(bif (((b.extract (0:Int).toNat e.toNat).extract (0:Int).toNat l.toNat:Bt).toList==(⟨#[48]⟩:Bt).toList)then Ta else((zf ((b.extract (0:Int).toNat e.toNat).extract (0:Int).toNat l.toNat) (0:Int).toNat:Int) != 48))else Tb))->t u)->((l==((b.extract (0:Int).toNat e.toNat).size:Int))=Ta->t (⟨#[]⟩:Bt))/\((l==((b.extract (0:Int).toNat e.toNat).size:Int))=Tb->t n)))->m n)->((decide (l<((b.extract (0:Int).toNat e.toNat).size:Int)))=Ta->(0<=(YJ .i64 (l+1))/\(YJ .i64 (l+1))<=((b.extract (0:Int).toNat e.toNat).size:Int)/\(((b.extract (0:Int).toNat e.toNat).size:Int):Int)<=((b.extract (0:Int).toNat e.toNat).size:Int))/\m ((b.extract (0:Int).toNat e.toNat).extract (YJ .i64 (l+1)).toNat (((b.extract (0:Int).toNat e.toNat).size:Int):Int).toNat))/\((decide (l<((b.extract (0:Int).toNat e.toNat).size:Int)))=Tb->m (⟨#[48]⟩:Bt)))))->f g i)->(decide (e<b.size)=Ta->(0<=(YJ .i64 (e+1))/\(YJ .i64 (e+1))<=(b.size:Int)/\(b.size:Int)<=(b.size:Int))/\((decide ((((b.extract (YJ .i64 (e+1)).toNat (b.size:Int).toNat).size:Int):Int)>0))=Ta->(0<=(0:Int)/\(0:Int)<((b.extract (YJ .i64 (e+1)).toNat (b.size:Int).toNat).size:Int)))/\(((!(bif (decide ((((b.extract (YJ .i64 (e+1)).toNat (b.size:Int).toNat).size:Int):Int)>0))then((zf (b.extract (YJ .i64 (e+1)).toNat (b.size:Int).toNat) (0:Int).toNat:Int)==45)else Tb))&&(decide ((((b.extract (YJ .i64 (e+1)).toNat (b.size:Int).toNat).size:Int):Int)>0)))=Ta->(0<=(0:Int)/\(0:Int)<((b.extract (YJ .i64 (e+1)).toNat (b.size:Int).toNat).size:Int)))/\((bif (bif (decide ((((b.extract (YJ .i64 (e+1)).toNat (b.size:Int).toNat).size:Int):Int)>0))then((zf (b.extract (YJ .i64 (e+1)).toNat (b.size:Int).toNat) (0:Int).toNat:Int)==45)else Tb)then Ta else(bif (decide ((((b.extract (YJ .i64 (e+1)).toNat (b.size:Int).toNat).size:Int):Int)>0))then((zf (b.extract (YJ .i64 (e+1)).toNat (b.size:Int).toNat) (0:Int).toNat:Int)==43)else Tb))=Ta->(0<=(1:Int)/\(1:Int)<=((b.extract (YJ .i64 (e+1)).toNat (b.size:Int).toNat).size:Int)/\(((b.extract (YJ .i64 (e+1)).toNat (b.size:Int).toNat).size:Int):Int)<=((b.extract (YJ .i64 (e+1)).toNat (b.size:Int).toNat).size:Int))/\f ((b.extract (YJ .i64 (e+1)).toNat (b.size:Int).toNat).extract (1:Int).toNat (((b.extract (YJ .i64 (e+1)).toNat (b.size:Int).toNat).size:Int):Int).toNat) (bif (decide ((((b.extract (YJ .i64 (e+1)).toNat (b.size:Int).toNat).size:Int):Int)>0))then((zf (b.extract (YJ .i64 (e+1)).toNat (b.size:Int).toNat) (0:Int).toNat:Int)==45)else Tb))/\((bif (bif (decide ((((b.extract (YJ .i64 (e+1)).toNat (b.size:Int).toNat).size:Int):Int)>0))then((zf (b.extract (YJ .i64 (e+1)).toNat (b.size:Int).toNat) (0:Int).toNat:Int)==45)else Tb)then Ta else(bif (decide ((((b.extract (YJ .i64 (e+1)).toNat (b.size:Int).toNat).size:Int):Int)>0))then((zf (b.extract (YJ .i64 (e+1)).toNat (b.size:Int).toNat) (0:Int).toNat:Int)==43)else Tb))=Tb->f (b.extract (YJ .i64 (e+1)).toNat (b.size:Int).toNat) (bif (decide ((((b.extract (YJ .i64 (e+1)).toNat (b.size:Int).toNat).size:Int):Int)>0))then((zf (b.extract (YJ .i64 (e+1)).toNat (b.size:Int).toNat) (0:Int).toNat:Int)==45)else Tb)))/\(decide (e<b.size)=Tb->f (⟨#[48]⟩:Bt) Tb))))->a b)->((bif (decide ((h.size:Int)>0))then((zf h (0:Int).toNat:Int)==45)else Tb)=Ta->(0<=(1:Int)/\(1:Int)<=(h.size:Int)/\(h.size:Int)<=(h.size:Int))/\a (h.extract (1:Int).toNat (h.size:Int).toNat))/\((bif (decide ((h.size:Int)>0))then((zf h (0:Int).toNat:Int)==45)else Tb)=Tb->a h)):
  PC Tp gl 280 [Arg.mk .str h] [.bool,.str,.str,.bool,.str,.bool] R:=
 PF ⟨[],[],[(5,⟨[(9,.one (.dat (.int .i64)))],[],[],[100576]⟩),(16,⟨[(9,.one (.dat (.int .i64)))],[],[],[100576]⟩)],[(4,⟨[(0,.one (.dat .str))],[],[],[100000]⟩),(14,⟨[(10,.one (.dat .str)),(11,.one (.dat .bool))],[],[],[100640,100704]⟩),(22,⟨[(13,.one (.dat .str))],[],[],[100832]⟩),(25,⟨[(13,.one (.dat .str))],[],[],[100832]⟩)]⟩ [.tmp 2,.tmp 3,.tmp 4,.tmp 5,.tmp 6,.tmp 7] 128 Tryz.func280 H
theorem SE(gl:Fr)(n0:Bool×Bt×Int)(R:Bool->Prop) (H:R ((n0.1==Tb)&&((n0.2.1.toList==(⟨#[]⟩:Bt).toList)&&((n0.2.2==0)&&Ta)))):
  PC Tp gl 338 [Arg.mk (.pair .bool (.pair .str (.int .i64))) n0] [.bool] R:=
 PF ⟨[],[],[],[]⟩ [.tmp 2] 6 Tryz.func338 H
theorem N4(gl:Fr)(e:Bt)(R:Bool->Prop) (H:∃(a:Int->Prop) (b:Int->Nat),a 0/\∀c:Int,a c->((decide (c<e.size)=Ta->(0<=c/\c<e.size)/\((!(decide ((zf e c.toNat:Int)<48)))=Ta->(0<=c/\c<e.size))/\((bif (decide ((zf e c.toNat:Int)<48))then Ta else(decide ((zf e c.toNat:Int)>57)))=Ta->R Tb)/\((bif (decide ((zf e c.toNat:Int)<48))then Ta else(decide ((zf e c.toNat:Int)>57)))=Tb->(a (YJ .i64 (c+1))/\b (YJ .i64 (c+1))<b c)))/\(decide (c<e.size)=Tb->R (decide ((e.size:Int)>0))))):
  PC Tp gl 339 [Arg.mk .str e] [.bool] R:=
 PF ⟨[],[],[(2,⟨[(3,.one (.dat (.int .i64)))],[],[],[100192]⟩)],[]⟩ [.tmp 2] 23 Tryz.func339 H
theorem JO(gl:Fr)(a0:List Bt)(b1:List Bt)(R:Bool->Prop) (H:PC Tp gl 54 [Arg.mk (.row .str) a0,Arg.mk (.row .str) b1] [.int .i64] (λa:Int=>R (a==0))):
  PC Tp gl 21 [Arg.mk (.row .str) a0,Arg.mk (.row .str) b1] [.bool] R:=
 PF ⟨[],[],[],[]⟩ [.tmp 4] 9 Tryz.func21 H
theorem NK(gl:Fr)(a0:List Bt)(b1:List Bt)(R:Int->Prop) (H:∃(a:Int->Prop) (b:Int->Nat),a 0/\∀c:Int,a c->(((bif (decide (c<a0.length))then(decide (c<b1.length))else Tb)=Ta->∃d,(0<=c/\a0[c.toNat]?=Tc d)/\∃e,(0<=c/\b1[c.toNat]?=Tc e)/\((zbi d.toList e.toList)=Ta->R (-1))/\((zbi d.toList e.toList)=Tb->∃f,(0<=c/\a0[c.toNat]?=Tc f)/\∃g,(0<=c/\b1[c.toNat]?=Tc g)/\((!(zbi f.toList g.toList||(f.toList==g.toList)))=Ta->R 1)/\((!(zbi f.toList g.toList||(f.toList==g.toList)))=Tb->(a (YJ .i64 (c+1))/\b (YJ .i64 (c+1))<b c))))/\((bif (decide (c<a0.length))then(decide (c<b1.length))else Tb)=Tb->(decide ((a0.length:Int)<(b1.length:Int))=Ta->R (-1))/\(decide ((a0.length:Int)<(b1.length:Int))=Tb->(decide ((a0.length:Int)>(b1.length:Int))=Ta->R 1)/\(decide ((a0.length:Int)>(b1.length:Int))=Tb->R 0))))):
  PC Tp gl 54 [Arg.mk (.row .str) a0,Arg.mk (.row .str) b1] [.int .i64] R:=
 PF ⟨[],[],[(2,⟨[(5,.one (.dat (.int .i64)))],[],[],[100320]⟩)],[]⟩ [.tmp 4] 46 Tryz.func54 H
end
section
abbrev bl(l:List UInt8):Bt:=⟨l.toArray⟩
abbrev lb(s:Bt):List UInt8:=s.data.toList
@[simp] theorem jg(l:List UInt8):lb (bl l)=l:=by simp[lb]
@[simp] theorem gv(s:Bt):bl (lb s)=s:=by simp
theorem oy{s t:Bt}:lb s=lb t↔s=t:=⟨λh=>by rw[<-gv s,h,gv],λh=>by rw[h]⟩
theorem iz(s:Bt):(lb s).length=s.size:=by simp
theorem Ld(s t:Bt):lb (s++t)=lb s++lb t:=by simp
theorem MD(s:Bt)(a b:Nat):lb (s.extract a b)=((lb s).drop a).take (b-a):=by cases s;simp[lb,ByteArray.data_extract,List.extract_eq_take_drop]
theorem p6(s:Bt)(i:Nat):zf s i=((((lb s)[i]?).getD 0).toNat:Int):=by cases s;simp[lb,zf]
theorem Vx(s:Bt)(i:Nat):s.get! i=((lb s)[i]?).getD 0:=by
 cases s with
 |mk d=>simp[lb,ByteArray.get!,Array.getElem!_eq_getD];rfl
theorem ja(s:Bt)(i:Nat):0<=zf s i/\zf s i<256:=by rw[p6];have:=(((lb s)[i]?).getD 0).toNat_lt;omega
def dec(l:List UInt8):Nat×Nat:=Go.Lib.decodeN l.length (l.getD 0 0).toNat (l.getD 1 0).toNat (l.getD 2 0).toNat (l.getD 3 0).toNat
theorem pq(s:Bt)(i:Nat):zci s i=dec ((lb s).drop i):=by rw[Go.Lib.decode_at,dec];simp only[Vx,zbv,zan,zab,iz,zco]
theorem Zm(l:List UInt8):1<=(dec l).2/\(dec l).2<=4:=by unfold dec Go.Lib.decodeN;grind
theorem pr{l:List UInt8}(h:l≠[]):(dec l).2<=l.length:=by have:0<l.length:=ZX.2 h;unfold dec Go.Lib.decodeN;grind
def gd(d:Nat×Nat):Bool:=d.1==65533&&d.2==1
def eW(l:List UInt8):Bool:=if h:l=[]then Ta else if gd (dec l)then Tb else eW (l.drop (dec l).2)
termination_by l.length
decreasing_by
 have h1:=Zm l;have h2:0<l.length:=ZX.2 h;grind
theorem qT:eW []=Ta:=by unfold eW;simp
theorem nW{l:List UInt8}(h:l≠[]):eW l=if gd (dec l)then Tb else eW (l.drop (dec l).2):=by rw[eW];simp[h]
theorem pN{c:UInt8}{l:List UInt8}(h:c.toNat<128):dec (c::l)=(c.toNat,1):=by simp[dec,Go.Lib.decodeN,h]
theorem WX{c:UInt8}{l:List UInt8}(h:c.toNat<128):gd (dec (c::l))=Tb:=by rw[pN h,gd];grind
theorem PP{c:UInt8}{l:List UInt8}(h:c.toNat<128):eW (c::l)=eW l:=by rw[nW (by simp),WX h,pN h];simp
end
end Go.X
end
section
namespace Go.X
open Go Go.Lib
section
abbrev Bs:=List UInt8
end
end Go.X
end
section
namespace Go.X
section
variable {n b0 b1 b2 b3:Nat} {gl:Fr} {s:Bt}
theorem ue{α:Type}{B:α->Prop}{c:Bool}{a b:α}(h:B (bif c then a else b)):∀K:α->Prop,(∀v,B v->K v)->(c=Ta->K a)/\(c=Tb->K b):= λK e=>⟨λf=>e _ (by grind),λf=>e _ (by grind)⟩
theorem SX(s:Bt)(i:Nat):YJ .i64 (zf s i)=zf s i:=by have:=ja s i;grind [wrap64]
theorem Qm{n:Int}(h1:-2147483648<=n)(c:n<=2147483647):YJ .i32 n=n:=by
 unfold YJ;have e:(2:Int) ^ zc6 .i32=4294967296:=by decide
 have e':(2:Int) ^ (zc6 .i32-1)=2147483648:=by decide
 simp only[e,e'];have b:zdm .i32=Ta:=rfl;grind
theorem V5(s:Bt)(a:Nat):dec ((lb s).drop a)=Lib.decodeN (s.size-a) (zf s a).toNat (zf s (a+1)).toNat (zf s (a+2)).toNat (zf s (a+3)).toNat:=by simp only[dec,p6,zbv,zan,zab,iz,zco,YO]
def rK(c:Int):Int:=if c<128 then 1 else if 194<=c/\c<=223 then 2 else if 224<=c/\c<=239 then 3 else if 240<=c/\c<=244 then 4 else 0
theorem IV{c:Int}{R:Int->Prop}(h:R (rK c)):PC Tp gl 327 [Arg.mk (.int .i64) c] [.int .i64] R:=by apply S7;unfold rK at h;grind
theorem rn(h:b0<128):Lib.decodeN n b0 b1 b2 b3=(b0,1):=by unfold Lib.decodeN;rw[zb h]
theorem GW(h:194<=b0/\b0<224)(h1:b1<256):Lib.decodeN n b0 b1 b2 b3=if 2<=n/\128<=b1/\b1<=191 then((b0-192)*64+(b1-128),2)else(65533,1):=by unfold Lib.decodeN;grind
theorem De(h:224<=b0/\b0<240)(h1:b1<256)(b:b2<256):Lib.decodeN n b0 b1 b2 b3=
  if 3<=n/\(128<=b1/\b1<=191)/\(128<=b2/\b2<=191)/\2048<=((b0-224)*64+(b1-128))*64+(b2-128)/\(((b0-224)*64+(b1-128))*64+(b2-128)<55296\/57344<=((b0-224)*64+(b1-128))*64+(b2-128))
  then(((b0-224)*64+(b1-128))*64+(b2-128),3)else(65533,1):=by
 unfold Lib.decodeN;grind
theorem Dc(h:240<=b0/\b0<245)(h1:b1<256)(b:b2<256)(c:b3<256):Lib.decodeN n b0 b1 b2 b3=
  if 4<=n/\(128<=b1/\b1<=191)/\(128<=b2/\b2<=191)/\(128<=b3/\b3<=191)/\65536<=(((b0-240)*64+(b1-128))*64+(b2-128))*64+(b3-128)/\(((b0-240)*64+(b1-128))*64+(b2-128))*64+(b3-128)<=1114111
  then((((b0-240)*64+(b1-128))*64+(b2-128))*64+(b3-128),4)else(65533,1):=by
 unfold Lib.decodeN;grind
def lQ(s:Bt)(b:Int):Int×Int:=if b<0\/b>=s.size then(0,0)else(((dec ((lb s).drop b.toNat)).1:Int),((dec ((lb s).drop b.toNat)).2:Int))
set_option maxHeartbeats 1000000 in
theorem zQ{k:Int}{R:Int×Int->Prop}(hs:(s.size:Int)<=4611686018427387904)(h:R (lQ s k)):PC Tp gl 269 [Arg.mk .str s,Arg.mk (.int .i64) k] [.int .i32,.int .i64] R:=by
 apply XW;unfold lQ at h;refine⟨λS=>?_,λS=>?_⟩;rw[zb (by grind)]at h;exact h
 ·have M:0<=k/\k<(s.size:Int):=by grind
  rw[za (by omega),V5]at h;refine⟨M,IV ?_⟩;obtain⟨a,rfl⟩:∃a:Nat,k=(a:Int):=⟨k.toNat,by omega⟩;simp only[YO,SX]at h ⊢;have r0:=ja s a;have r1:=ja s (a+1);have r2:=ja s (a+2);have r3:=ja s (a+3);have ix:∀i:Int,1<=i->i<=4->(YJ .i64 ((a:Int)+i))=(a:Int)+i:=λi h1 h2=>wrap64 (by omega) (by omega);have e1:((a:Int)+1).toNat=a+1:=by omega
  have e2:((a:Int)+2).toNat=a+2:=by omega
  have e3:((a:Int)+3).toNat=a+3:=by omega
  have F:YJ .i64 ((s.size:Int)-(a:Int))=(s.size:Int)-(a:Int):=wrap64 (by omega) (by omega);rw[F];generalize q:rK (zf s a)=n;unfold rK at q;generalize af:zf s a=b0 at *;refine⟨λw=>?_,λw=>⟨M,?_⟩⟩
  ·have:Lib.decodeN (s.size-a) b0.toNat (zf s (a+1)).toNat (zf s (a+2)).toNat (zf s (a+3)).toNat=(65533,1):=by
    have J:n=0\/n>(s.size:Int)-a:=by grind
    unfold Lib.decodeN;repeat' split
    all_goals first|rfl|(exfalso;split at q <;> first|omega|(split at q <;> first|omega|(split at q <;> first|omega|(split at q <;> omega))))
   rw[this]at h;exact h
  ·have J:n≠0/\n<=(s.size:Int)-a:=by grind
   apply ue;apply ue;apply ue;have t:(bif n==4 then YJ .i64 ((bif n==3 then YJ .i64 ((bif n==2 then YJ .i64 (b0-192)else b0)-224)else bif n==2 then YJ .i64 (b0-192)else b0)-240)else bif n==3 then YJ .i64 ((bif n==2 then YJ .i64 (b0-192)else b0)-224)else bif n==2 then YJ .i64 (b0-192)else b0)
     = (if n=4 then b0-240 else if n=3 then b0-224 else if n=2 then b0-192 else b0):=by
    have U:YJ .i64 (b0-192)=b0-192:=wrap64 (by omega) (by omega);have Y:YJ .i64 (b0-224)=b0-224:=wrap64 (by omega) (by omega);have V:YJ .i64 (b0-240)=b0-240:=wrap64 (by omega) (by omega);grind
   rw[t];generalize ab:(if n=4 then b0-240 else if n=3 then b0-224 else if n=2 then b0-192 else b0)=v1;have Q:0<=v1/\v1<128:=by grind
   have P:n=4->v1<=4:=by grind
   generalize y:zf s (a+1)=b1 at *;generalize x:zf s (a+2)=b2 at *;generalize z:zf s (a+3)=b3 at *;have q1:=ja s (a+1);have q2:=ja s (a+2);have q3:=ja s (a+3);rw[y]at q1;rw[x]at q2;rw[z]at q3;obtain⟨N,hN⟩:∃N:Nat,s.size-a=N:=⟨_,rfl⟩;have ae:(N:Int)=s.size-a:=by omega
   rw[hN]at h;have r:n=1\/n=2\/n=3\/n=4:=by grind
   have u:∀v:Int,(n=1->v=v1)->(n=2->(128<=b1/\b1<=191)/\v=64*v1+b1-128)->(n=3->(128<=b1/\b1<=191)/\(128<=b2/\b2<=191)/\v=64*(64*v1+b1-128)+b2-128) -> (n=4->(128<=b1/\b1<=191)/\(128<=b2/\b2<=191)/\(128<=b3/\b3<=191)/\v=64*(64*(64*v1+b1-128)+b2-128)+b3-128) ->
     (((n=3/\v<2048)\/(n=4/\v<65536)\/v>1114111\/(v>=55296/\v<57344))->R (65533,1))/\(¬((n=3/\v<2048)\/(n=4/\v<65536)\/v>1114111\/(v>=55296/\v<57344))->R (YJ .i32 v,n)):=by
    intro v k1 k2 k3 k4;rcases r with rfl|rfl|rfl|rfl;have c:b0<128:=by grind
    have:=k1 rfl;have m:v1=b0:=by grind
    rw[rn (by omega)]at h;refine⟨λo=>by omega,λ_=>?_⟩;rw[Qm (by omega) (by omega)];have e:((b0.toNat:Nat):Int)=v:=by omega
    simp only[e]at h;exact h;have c:194<=b0/\b0<224:=by grind
    obtain⟨c1,t⟩:=k2 rfl;have m:v1=b0-192:=by grind
    rw[GW (by omega) (by omega),zb (by omega)]at h;refine⟨λo=>by omega,λ_=>?_⟩;rw[Qm (by omega) (by omega)];have e:(((b0.toNat-192)*64+(b1.toNat-128):Nat):Int)=v:=by omega
    simp only[e]at h;exact h;have c:224<=b0/\b0<240:=by grind
    obtain⟨c1,c2,t⟩:=k3 rfl;have m:v1=b0-224:=by grind
    have e:((((b0.toNat-224)*64+(b1.toNat-128))*64+(b2.toNat-128):Nat):Int)=v:=by omega
    rw[De (by omega) (by omega) (by omega)]at h;refine⟨λo=>?_,λo=>?_⟩;rw[za (by omega)]at h;exact h;rw[zb (by omega)]at h;rw[Qm (by omega) (by omega)];simp only[e]at h;exact h;have c:240<=b0/\b0<245:=by grind
    obtain⟨c1,c2,c3,t⟩:=k4 rfl;have m:v1=b0-240:=by grind
    have e:(((((b0.toNat-240)*64+(b1.toNat-128))*64+(b2.toNat-128))*64+(b3.toNat-128):Nat):Int)=v:=by omega
    rw[Dc (by omega) (by omega) (by omega) (by omega)]at h;refine⟨λo=>?_,λo=>?_⟩;rw[za (by omega)]at h;exact h;rw[zb (by omega)]at h;rw[Qm (by omega) (by omega)];simp only[e]at h;exact h
   have E:∀i:Int,1<=i->i<n->((i=1/\¬(128<=b1/\b1<=191))\/(i=2/\¬(128<=b2/\b2<=191))\/(i=3/\¬(128<=b3/\b3<=191)))->R (65533,1):=by
    intro i C L o;rcases r with rfl|rfl|rfl|rfl;omega;have c:194<=b0/\b0<224:=by grind
    rw[GW (by omega) (by omega),za (by omega)]at h;exact h;have c:224<=b0/\b0<240:=by grind
    rw[De (by omega) (by omega) (by omega),za (by omega)]at h;exact h;have c:240<=b0/\b0<245:=by grind
    rw[Dc (by omega) (by omega) (by omega) (by omega),za (by omega)]at h;exact h
   clear h q t S w;refine⟨λv i=>1<=i/\i<=n/\(0<=v/\v<2097152)/\(i=1->v=v1)/\(i=2->(128<=b1/\b1<=191)/\v=64*v1+b1-128)/\(i=3->(128<=b1/\b1<=191)/\(128<=b2/\b2<=191)/\v=64*(64*v1+b1-128)+b2-128) /\ (i=4->(128<=b1/\b1<=191)/\(128<=b2/\b2<=191)/\(128<=b3/\b3<=191)/\v=64*(64*(64*v1+b1-128)+b2-128)+b3-128),λv i=>(n-i).toNat,by omega,λv i hi=>⟨λG=>?_,λG=>?_⟩⟩;have p:i<n:=by simpa using G
   obtain⟨C,L,j0,A,D,B,O⟩:=hi;rw[ix i C (by omega)];obtain⟨b,l⟩:∃b,zf s ((a:Int)+i).toNat=b:=⟨_,rfl⟩;have f:(i=1->b=b1)/\(i=2->b=b2)/\(i=3->b=b3):=by refine⟨λe=>?_,λe=>?_,λe=>?_⟩ <;> subst e;rw[<-l,e1,y];rw[<-l,e2,x];rw[<-l,e3,z]
   rw[l];have H:=ja s ((a:Int)+i).toNat;rw[l]at H;refine⟨by omega,λhq=>E i C p ?_,λhq=>?_⟩;have:b<128\/b>191:=by grind
   omega;have aa:¬(b<128\/b>191):=by grind
   have U:YJ .i64 (64*v)=64*v:=wrap64 (by omega) (by omega);have Y:YJ .i64 (64*v+b)=64*v+b:=wrap64 (by omega) (by omega);have V:YJ .i64 (64*v+b-128)=64*v+b-128:=wrap64 (by omega) (by omega);have Z:YJ .i64 (i+1)=i+1:=wrap64 (by omega) (by omega);rw[U,Y,V,Z];have I:i=1\/i=2\/i=3:=by omega
   dsimp only;refine⟨⟨by omega,by omega,?_,by omega,?_,?_,?_⟩,by omega⟩;rcases I with rfl|rfl|rfl;have:=A rfl;have:=f.1 rfl;omega;have:=D rfl;have:=f.2.1 rfl;omega;have:=B rfl;have:=f.2.2 rfl;omega;intro e;have e':i=1:=by omega
   have:=A e';have:=f.1 e';omega;intro e;have e':i=2:=by omega
   have:=D e';have:=f.2.1 e';omega;intro e;have e':i=3:=by omega
   have:=B e';have:=f.2.2 e';omega;have p:i=n:=by(have:¬i<n:=by simpa using G);omega
   subst p;obtain⟨C,L,j0,A,D,B,O⟩:=hi;obtain⟨g1,g2⟩:=u v A D B O;refine⟨λo=>g1 ?_,λo=>g2 ?_⟩;grind;grind
def tD(s:Bt)(a:Nat):Bool:=!gd (dec ((lb s).drop a))
theorem Sk{a:Nat}{R:Bool->Prop}(l:a<s.size)(f:(s.size:Int)<=4611686018427387904)(h:R (tD s a)):PC Tp gl 268 [Arg.mk .str s,Arg.mk (.int .i64) a] [.bool] R:=by
 apply YD;refine zQ f ?_;have b:=Zm ((lb s).drop a);unfold tD gd at h;have e:lQ s (a:Int)=(((dec ((lb s).drop a)).1:Int),((dec ((lb s).drop a)).2:Int)):=by unfold lQ;rw[za (by omega)];rfl
 rw[e];obtain⟨d,c⟩:∃d,dec ((lb s).drop a)=d:=⟨_,rfl⟩;rw[c]at h b ⊢;have i:decide (((d.2:Nat):Int)>0)=Ta:=by simp;omega
 have m:((((d.1:Nat):Int))==65533)=(d.1==65533):=by rw[ZR];simp;omega
 have k:((((d.2:Nat):Int))==1)=(d.2==1):=by rw[ZR];simp;omega
 simp_all
theorem Uf{R:Int×Bool->Prop}(i:(s.size:Int)<=4611686018427387904)(h:∀k,R (k,eW (lb s))):PC Tp gl 205 [Arg.mk .str s] [.int .i64,.bool] R:=by
 apply P6;refine⟨λa=>0<=a/\a<=(s.size:Int)/\eW (lb s)=eW ((lb s).drop a.toNat),λa=>((s.size:Int)-a).toNat,⟨by omega,by omega,by simp⟩,λa ⟨h0,h1,b⟩=>⟨λl=>?_,λl=>?_⟩⟩;have m:a<(s.size:Int):=by simpa using l
 obtain⟨k,rfl⟩:∃k:Nat,a=(k:Int):=⟨a.toNat,by omega⟩;simp only[YO]at b;have c:(lb s).drop k≠[]:=by intro e;have:=congrArg zam e;simp only[zab,iz,zb7]at this;omega
 rw[nW c]at b;refine Sk (by omega) i ⟨λf=>?_,λf=>?_⟩;have:gd (dec ((lb s).drop k))=Ta:=by simpa[tD]using f
 simp_all;have n:gd (dec ((lb s).drop k))=Tb:=by simpa[tD]using f
 rw[n]at b;simp only[zaz,if_false,zbt]at b;refine zQ i ?_;unfold lQ;rw[za (by omega)];simp only[YO];grind [Zm,pr,iz,wrap64];simp_all[zac,qT]
end
end Go.X
end
section
namespace Go.X
open Go Go.Proofs Go.Shelf Go.RowKit
section
def Pr:Go.Shelf.Ren:=⟨fun|161=>179|231=>240|227=>241|233=>242|235=>243|228=>293|197=>233|151=>294|260=>282|152=>351|137=>194|119=>381|224=>312|225=>311|217=>262|266=>316|n=>n,fun|9=>9|4=>4|3=>3|5=>5|117=>237|116=>236|0=>0|124=>240|105=>226|21=>21|119=>264|46=>244|139=>267|138=>266|n=>n,fun|3=>0|4=>1|n=>n⟩
theorem Sq:Go.Proofs.Lays.n161 Tp Pr:=by constructor <;> intros <;> kernel_rfl
theorem X4(s:Bt)(c:UInt8)(b:c.toNat<128)(w:World): Calls Tp 179 #[.string s,.string ⟨#[c]⟩] w λe w'=>e=.returned (.string ⟨(Lib.trimLeftB s.data.toList c).toArray⟩)/\w'=w:=Any.strings_TrimLeft_one Sq s c b w
def KS:Go.Shelf.Ren:=⟨fun|162=>180|232=>244|227=>241|234=>245|236=>246|228=>293|271=>295|151=>294|120=>352|197=>233|152=>351|260=>282|137=>194|119=>381|224=>312|225=>311|217=>262|266=>316|n=>n,fun|9=>9|4=>4|3=>3|5=>5|117=>237|116=>236|0=>0|124=>240|21=>21|105=>226|46=>244|119=>264|139=>267|138=>266|n=>n,fun|3=>0|4=>1|n=>n⟩
theorem Kw:Go.Proofs.Lays.n162 Tp KS:=by constructor <;> intros <;> kernel_rfl
theorem W5(s:Bt)(c:UInt8)(b:c.toNat<128)(w:World)(f:s.size<=9223372036854775807): Calls Tp 180 #[.string s,.string ⟨#[c]⟩] w λe w'=>e=.returned (.string ⟨(Lib.trimRightB s.data.toList c).toArray⟩)/\w'=w:=Any.strings_TrimRight_one Kw s c b w f
def Tl:Go.Shelf.Ren:=⟨fun|137=>194|217=>262|266=>316|n=>n,fun|9=>9|5=>5|3=>3|n=>n,fun|n=>n⟩
theorem JN:Go.Proofs.Lays.n137 Tp Tl:=by constructor <;> intros <;> kernel_rfl
theorem jz(s:Bt)(c:Int)(w:World): Calls Tp 194 #[.string s,.int .u8 c] w λe w'=>e=.returned (.int .i64 (Lib.indexByte s.data.toList c.toNat.toUInt8))/\w'=w:=Any.strings_IndexByte JN s c w
def SJ:Go.Shelf.Ren:=⟨fun|103=>237|210=>291|206=>123|n=>n,fun|9=>9|4=>4|24=>232|3=>3|n=>n,fun|n=>n⟩
theorem JM:Go.Proofs.Lays.n103 Tp SJ:=by constructor <;> intros <;> kernel_rfl
theorem PZ(s p:Bt)(w:World): Calls Tp 237 #[.string s,.string p] w λe w'=>e=.returned (.tuple #[.string ⟨(Lib.trimPrefix s.data.toList p.data.toList).toArray⟩,.bool (Lib.hasPrefix s.data.toList p.data.toList)])/\w'=w:=Any.strings_CutPrefix JM s p w
def Ml:Go.Shelf.Ren:=⟨fun|242=>309|278=>361|n=>n,fun|37=>86|21=>21|51=>287|4=>4|5=>5|46=>244|n=>n,fun|n=>n⟩
theorem XE:Go.Proofs.Lays.n242 Tp Ml:=by constructor <;> intros <;> kernel_rfl
theorem W6(B:Nat)(v:Value)(n:Nat)(xs:List Value)(r:Int)(f:-2147483648<=r)(i:r<=2147483647)(w:World)(b:w.ownsRow B 5 1 v n xs)(c:n+4<=140737488355328)(h:B<=w.heap.size): Calls Tp 309 #[v,.int .i32 r] w λe w'=>∃k,e=.returned k/\w'.ownsRow B 5 1 k (n+(Lib.runeCells r).length) (xs++Lib.runeCells r)/\∃o,(w.alloc o).grownBy w' v.ownBlock:=Any.utf8_AppendRune_plain XE (by kernel_rfl) B v n xs r f i w b c h
def TC:Go.Shelf.Ren:=⟨fun|171=>106|243=>177|246=>236|283=>287|284=>288|285=>289|286=>290|129=>306|317=>347|318=>348|319=>349|320=>350|337=>379|338=>380|n=>n,fun|3=>3|9=>9|2=>2|4=>4|171=>271|0=>0|53=>272|37=>86|5=>5|173=>275|212=>313|51=>287|20=>20|213=>314|46=>244|232=>340|233=>341|n=>n,fun|17=>3|18=>6|19=>7|n=>n⟩
theorem TI:Go.Proofs.LaysM.n171 Tp TC:=by repeat' first|(intros;kernel_rfl)|constructor
open Go.RowKit Go.Sort Go.Lib in
theorem O9(n : Int)(h0 : -9223372036854775808 ≤ n)(h1 : n ≤ 9223372036854775807)(w : World)(htab : Lib.TabIs Tp w "internal/strconv.uint64pow10" .u64 Lib.pow10Tab): Calls Tp 106 #[.int .i64 n] w λe w'=>e=.returned (.string ⟨(Lib.itoa n).toArray⟩)/\∃k os,w'=grow (w.drewN k) os:=Any.strconv_Itoa TI n h0 h1 w htab
def JX:Go.Shelf.Ren:=⟨fun|245=>286|279=>343|280=>344|281=>345|282=>346|316=>377|171=>106|205=>378|243=>177|246=>236|283=>287|284=>288|285=>289|286=>290|129=>306|317=>347|318=>348|319=>349|320=>350|337=>379|338=>380|n=>n,fun|9=>9|3=>3|75=>90|167=>306|4=>4|168=>309|210=>330|37=>86|0=>0|127=>149|145=>339|143=>337|2=>2|171=>271|53=>272|5=>5|173=>275|212=>313|51=>287|20=>20|213=>314|46=>244|232=>340|233=>341|80=>94|n=>n,fun|15=>4|16=>5|17=>3|18=>6|19=>7|n=>n⟩
theorem VS:Go.Proofs.LaysC.n245 Tp JX:=by repeat' first|(intros;kernel_rfl)|constructor
theorem Jz(fn s:Bt)(base b:Int)(c:Value)(w:World)(f:s.size<=281474976710656)(k:w.cell? ⟨4,0,Td⟩=Tc c)(h:c=.nilIface\/∃i l,c=.iface i l): Calls Tp 286 #[.string fn,.string s,.int .i64 base,.int .i64 b,.iface 306 (.int .i64 2)] w λe w'=>∃N,e=.returned (.iface 309 (.pointer (Tc ⟨N,0,Td⟩)))/\w.heap.size<=N/\w'.heap[N]?=Tc (.cells #[.string fn,.string s,c] 330 (0,0))/\Below w.heap.size w w':=Any.strconv_toError_syntax VS fn s base b c w f k h
def Kh:Go.Shelf.Ren:=⟨fun|321=>375|n=>n,fun|5=>5|n=>n,fun|n=>n⟩
theorem Re:Go.Proofs.Lays.n321 Tp Kh:=by constructor <;> intros <;> kernel_rfl
theorem J0(c:Int)(w:World): Calls Tp 375 #[.int .u8 c] w λe w'=>e=.returned (.int .u8 (bits .or .u8 c 32))/\w'=w:=Any.internal_strconv_lower Re c w
def WF:Go.Shelf.Ren:=⟨fun|174=>235|247=>285|245=>286|287=>342|279=>343|280=>344|281=>345|282=>346|321=>375|322=>376|316=>377|171=>106|205=>378|243=>177|246=>236|283=>287|284=>288|285=>289|286=>290|129=>306|317=>347|318=>348|319=>349|320=>350|337=>379|338=>380|n=>n,fun|9=>9|3=>3|2=>2|75=>90|85=>229|4=>4|167=>306|5=>5|53=>272|175=>307|46=>244|168=>309|37=>86|0=>0|210=>330|21=>21|127=>149|145=>339|143=>337|171=>271|173=>275|212=>313|51=>287|20=>20|213=>314|232=>340|233=>341|80=>94|n=>n,fun|15=>4|16=>5|17=>3|18=>6|19=>7|n=>n⟩
theorem Ar:Go.Proofs.LaysC.n174 Tp WF:=by repeat' first|(intros;kernel_rfl)|constructor
theorem Qo(s:Bt)(b:s.size<=9223372036854775806)(v:Int)(h:Lib.parseIntB 64 s.data.toList=.ok v)(w:World): Calls Tp 235 #[.string s,.int .i64 10,.int .i64 64] w λe w'=>e=.returned (.tuple #[.int .i64 v,.nilIface])/\(w'=w\/∃t,w'=Lib.bytesWorld w 5 t):=Any.strconv_ParseInt_10_at64_ok Ar s b v h w
theorem Zn(s:Bt)(c:s.size<=281474976710656)(h:Lib.parseIntB 64 s.data.toList=Lib.parseIntB 64 [])(b:Value)(w:World)(k:w.cell? ⟨4,0,Td⟩=Tc b)(f:b=.nilIface\/∃i l,b=.iface i l): Calls Tp 235 #[.string s,.int .i64 10,.int .i64 64] w λe w'=>∃N,e=.returned (.tuple #[.int .i64 (0),.iface 309 (.pointer (Tc ⟨N,0,Td⟩))])/\w.heap.size<=N/\w'.heap[N]?=Tc (.cells #[.string ⟨#[80,97,114,115,101,73,110,116]⟩,.string s,b] 330 (0,0))/\Below w.heap.size w w':=Any.strconv_ParseInt_10_at64_syntax Ar s c h b w k f
theorem Zt(s:Bt)(c:s.size<=281474976710656)(h:Lib.parseIntB 64 s.data.toList=.range)(b:Value)(w:World)(k:w.cell? ⟨5,0,Td⟩=Tc b)(f:b=.nilIface\/∃i l,b=.iface i l): Calls Tp 235 #[.string s,.int .i64 10,.int .i64 64] w λe w'=>∃N,e=.returned (.tuple #[.int .i64 (Lib.intSat 64 s.data.toList),.iface 309 (.pointer (Tc ⟨N,0,Td⟩))])/\w.heap.size<=N/\w'.heap[N]?=Tc (.cells #[.string ⟨#[80,97,114,115,101,73,110,116]⟩,.string s,b] 330 (0,0))/\Below w.heap.size w w':=Any.strconv_ParseInt_10_at64_range Ar s c h b w k f
def Ip:Go.Shelf.Ren:=⟨fun|99=>76|206=>123|n=>n,fun|9=>9|4=>4|3=>3|n=>n,fun|n=>n⟩
theorem Ia:Go.Proofs.Lays.n99 Tp Ip:=by constructor <;> intros <;> kernel_rfl
open Go.RowKit Go.Lib in
theorem V4(s p:Bt)(w:World): Calls Tp 76 #[.string s,.string p] w λe w'=>e=.returned (.bool (Lib.hasPrefix s.data.toList p.data.toList))/\w'=w:=Any.strings_HasPrefix Ia s p w
def Ts:Go.Shelf.Ren:=⟨fun|101=>239|208=>292|206=>123|n=>n,fun|9=>9|4=>4|3=>3|n=>n,fun|n=>n⟩
theorem YG:Go.Proofs.Lays.n101 Tp Ts:=by constructor <;> intros <;> kernel_rfl
open Go.RowKit Go.Lib in
theorem RU(s p:Bt)(w:World): Calls Tp 239 #[.string s,.string p] w λe w'=>e=.returned (.string ⟨(Lib.trimPrefix s.data.toList p.data.toList).toArray⟩)/\w'=w:=Any.strings_TrimPrefix YG s p w
def S0:Go.Shelf.Ren:=⟨fun|197=>233|260=>282|n=>n,fun|9=>9|21=>21|3=>3|4=>4|5=>5|105=>226|119=>264|0=>0|46=>244|139=>267|138=>266|n=>n,fun|3=>0|4=>1|n=>n⟩
theorem VL:Go.Proofs.Lays.n197 Tp S0:=by constructor <;> intros <;> kernel_rfl
def VD:Go.Shelf.Ren:=⟨fun|150=>307|153=>359|152=>351|226=>383|227=>241|228=>293|137=>194|119=>381|224=>312|225=>311|217=>262|266=>316|n=>n,fun|9=>9|4=>4|3=>3|5=>5|21=>21|117=>237|116=>236|0=>0|46=>244|124=>240|n=>n,fun|n=>n⟩
theorem Ko:Go.Proofs.Lays.n150 Tp VD:=by constructor <;> intros <;> kernel_rfl
open Go.RowKit Go.Lib in
theorem Yv(s c:Bt)(w:World)(k:s.size<4294967281)(i:c.size<4294967281)(h:∀(j:Nat) b,s.data.toList[j]?=Tc b->b.toNat<128)(f:∀(j:Nat) b,c.data.toList[j]?=Tc b->b.toNat<128): Calls Tp 307 #[.string s,.string c] w λe w'=>e=.returned (.bool (Lib.containsAny s.data.toList c.data.toList))/\Below w.heap.size w w':=Any.strings_ContainsAny_laid Ko (by kernel_rfl) s c w k i h f
def Fc:Go.Shelf.Ren:=⟨fun|105=>234|212=>283|99=>76|165=>266|166=>70|170=>284|169=>72|263=>340|264=>341|206=>123|240=>116|241=>326|276=>188|277=>372|n=>n,fun|9=>9|3=>3|4=>4|20=>20|0=>0|46=>244|109=>268|5=>5|72=>88|76=>91|51=>287|146=>302|53=>272|148=>304|70=>85|37=>86|75=>90|127=>149|164=>196|80=>94|n=>n,fun|n=>n⟩
theorem Kd:Go.Proofs.Lays.n105 Tp Fc:=by constructor <;> intros <;> kernel_rfl
theorem Oe:Builder.Extra Tp Fc:={
 sizeBuilder:=by kernel_rfl
 liesBuilder:=by kernel_rfl
 t5:=Tryz.underlying5
 a5:=Tryz.isAgg5
 z5:=Tryz.sizeOf5
 v5:=Tryz.zeroValue5
 infoByte:=by kernel_rfl
 cellsByte:=by kernel_rfl
 sizeByte:=by kernel_rfl
 neB5:=by decide }
open Go.RowKit Go.Lib in
theorem IJ(s:Bt)(c:Nat)(w:World)(f:c<=9223372036854775807)(b:s.size*c<=140737488355328): Calls Tp 234 #[.string s,.int .i64 c] w λe w'=>e=.returned (.string ⟨(Lib.repeatL s.data.toList c).toArray⟩)/\Below w.heap.size w w':=Any.strings_Repeat Kd Oe s c w f b
open Go.RowKit Go.Lib in
theorem Ja(s:Bt)(w:World)(b:Lib.Utf8Tabs 0 1 w): Calls Tp 233 #[.string s] w λe w'=>e=.returned (.tuple #[.int .i32 (Lib.decodeGo s).1,.int .i64 (Lib.decodeGo s).2])/\Below w.heap.size w w':=Any.utf8_DecodeRuneInString VL s w b
def VX:Go.Shelf.Ren:=⟨fun|109=>98|n=>n,fun|31=>22|9=>9|3=>3|0=>0|4=>4|n=>n,fun|n=>n⟩
theorem Fb:Go.Proofs.Lays.n109 Tp VX:=by constructor <;> intros <;> kernel_rfl
open Go.Lib in
theorem MF(b off n c:Nat)(f:List Bt)(x:Bt)(w:World)(k:n<=f.length)(h:n<=9223372036854775807)(i:∀j,j<f.length->w.cell? ⟨b,off+j,Td⟩=Tc (.string (f.getD j zc1))): Calls Tp 98 #[.slice (Tc ⟨b,off,Td⟩) n c,.string x] w λe w'=>e=.returned (.int .i64 (Lib.idxOfS (f.take n) x))/\w'=w:=Any.slices_Index_string Fb b off n c f x w k h i
open Go.Lib in
theorem Yi(a:Option Addr)(c:Nat)(x:Bt)(w:World): Calls Tp 98 #[.slice a 0 c,.string x] w λe w'=>e=.returned (.int .i64 (Lib.idxOfS [] x))/\w'=w:=Any.slices_Index_string_empty Fb a c x w
end
end Go.X
end
section
namespace Go.X
open Go Go.X Go.Proofs Go.RowKit
section
variable {gl M:Fr} {s:Bt} {R:Int -> Prop}
theorem xG{c:Int}(h:R (Lib.indexByte (lb s) c.toNat.toUInt8)):PC Tp gl 194 [Arg.mk .str s,Arg.mk (.int .u8) c] [.int .i64] R:= PC.of_same rfl (λ_=>nE _ _) h λw _=>jz s c w
theorem VQ{s p:Bt}{R:Bt×Bool->Prop}(h:R (bl (Lib.trimPrefix (lb s) (lb p)),Lib.hasPrefix (lb s) (lb p))):PC Tp gl 237 [Arg.mk .str s,Arg.mk .str p] [.str,.bool] R:= PC.of_same rfl (λM=>⟨[_,_],⟨_,_,rfl,rfl,_,rfl,rfl⟩,rfl⟩) h λw _=>PZ s p w
theorem Ib{s p:Bt}{R:Bt->Prop}(h:R (bl (Lib.trimPrefix (lb s) (lb p)))):PC Tp gl 239 [Arg.mk .str s,Arg.mk .str p] [.str] R:= PC.of_same rfl (λ_=>oP _) h λw _=>RU s p w
theorem SY{c:UInt8}(b:c.toNat<128){R:Bt->Prop}(h:R (bl (Lib.trimLeftB (lb s) c))):PC Tp gl 179 [Arg.mk .str s,Arg.mk .str ⟨#[c]⟩] [.str] R:= PC.of_same rfl (λ_=>oP _) h λw _=>X4 s c b w
theorem Oy{c:UInt8}(e:c.toNat<128)(b:s.size<=9223372036854775807){R:Bt->Prop}(h:R (bl (Lib.trimRightB (lb s) c))):PC Tp gl 180 [Arg.mk .str s,Arg.mk .str ⟨#[c]⟩] [.str] R:= PC.of_same rfl (λ_=>oP _) h λw _=>W5 s c e w b
def CC(gl:Fr):Prop:=∃(cs:Array Value) (m:Int),gl 2=Tc cs/\cs[0]?=Tc (.int .i64 m)
theorem HX(w:World)(n:Nat):Below w.heap.size w (w.drewN n):=⟨rfl,rfl,rfl,YM _,λ_ _=>rfl⟩
theorem JI{c:Nat}(e:c<=9223372036854775807)(b:s.size*c<=140737488355328){R:Bt->Prop}(h:R (bl (Lib.repeatL (lb s) c))):PC Tp gl 234 [Arg.mk .str s,Arg.mk (.int .i64) (c:Int)] [.str] R:= PC.of_scal rfl (λ_=>oP _) h λw f=>IJ s c w e b
def Tabs(gl:Fr):Prop:=(∃cs:Array Value,gl 0=Tc cs/\∀c,c<256->cs[c]?=Tc (.int .u8 (Lib.firstT c)))/\∃cs:Array Value,gl 1=Tc cs/\∀i,i<16->cs[2*i]?=Tc (.int .u8 (Lib.accLo i))/\cs[2*i+1]?=Tc (.int .u8 (Lib.accHi i))
theorem Tabs.at(h:Tabs gl){w:World}(b:AgM gl w.heap):Lib.Utf8Tabs 0 1 w:=by obtain⟨⟨c1,e,b1⟩,c2,a2,b2⟩:=h;exact⟨λc f=>b.glob e (b1 c f),λi hi=>⟨b.glob a2 (b2 i hi).1,b.glob a2 (b2 i hi).2⟩⟩
theorem CY(c:Tabs gl){R:Int×Int->Prop}(h:R ((Lib.decodeGo s).1,(Lib.decodeGo s).2)):PC Tp gl 233 [Arg.mk .str s] [.int .i32,.int .i64] R:= PC.of_scal rfl (λM=>⟨[_,_],⟨_,_,rfl,rfl,_,rfl,rfl⟩,rfl⟩) h λw b=>Ja s w (c.at b)
theorem XI(w:World)(k:Nat)(os:Array Obj):Below w.heap.size w (Go.Sort.grow (w.drewN k) os):=⟨rfl,rfl,rfl,by simp[Go.Sort.grow,World.drewN],λi hi=>by show((w.drewN k).heap++os)[i]?=_;exact zbs hi⟩
def oX(gl : Fr): Prop := ∃ b cs, Tryz.prog.globalNamed "internal/strconv.uint64pow10" = some b ∧ gl b = some cs ∧ cs = (Lib.pow10Tab.map λz => Value.int .u64 z).toArray
theorem vV(i:oX gl){n:Int}(h0:-9223372036854775808<=n)(h1:n<=9223372036854775807){R:Bt->Prop}(h:R (bl (Lib.itoa n))):PC Tp gl 106 [Arg.mk (.int .i64) n] [.str] R:=by obtain⟨b,cs,l,r,o⟩:=i;refine PC.of_scal rfl (λ_=>oP _) h λw f=>(O9 n h0 h1 w ?_).mono λe w' ⟨p,k,os,c⟩=>⟨p,c ▸ XI w k os⟩;obtain⟨T,m,q⟩:=f b cs r;unfold Lib.TabIs World.var?;rw[l];simp only[zbl,q,o]
def yB(gl:Fr):Prop:=(∃(cs:Array Value) (e:Value),gl 4=Tc cs/\cs[0]?=Tc e/\(e=.nilIface\/∃b c,e=.iface b c))/\∃(cs:Array Value) (e:Value),gl 5=Tc cs/\cs[0]?=Tc e/\(e=.nilIface\/∃b c,e=.iface b c)
theorem y3(k:IntKind)(i:Int)(t:TypeId)(u:Value):Yf M [.int k,.err] (i,Tb) (.tuple #[.int k i,.iface t u]):=⟨[_,_],⟨_,_,rfl,rfl,.iface t u,rfl,⟨_,rfl,.inr ⟨rfl,_,_,rfl⟩⟩⟩,rfl⟩
theorem DW(k:IntKind)(i:Int):Yf M [.int k,.err] (i,Ta) (.tuple #[.int k i,.nilIface]):=⟨[_,_],⟨_,_,rfl,rfl,.nilIface,rfl,⟨_,rfl,.inl ⟨rfl,rfl⟩⟩⟩,rfl⟩
def wS(l:List UInt8):Int×Bool:=match Lib.parseIntB 64 l with
 |.ok v=>(v,Ta)
 |.range=>(Lib.intSat 64 l,Tb)
 |_=>(0,Tb)
theorem QY(p:yB gl)(o:s.size<=281474976710656){R:Int×Bool->Prop}(h:R (wS (lb s))):PC Tp gl 235 [Arg.mk .str s,Arg.mk (.int .i64) 10,Arg.mk (.int .i64) 64] [.int .i64,.err] R:=by
 unfold wS at h;cases hx:Lib.parseIntB 64 (lb s)with
 |ok v=>rw[hx]at h;refine PC.of_ex rfl λw f=>(Qo s (by omega) v hx w).mono λe w' ⟨c,i⟩=>⟨_,(v,Ta),c,λM=>DW _ _,h,?_⟩;rcases i with rfl|⟨t,rfl⟩;exact Below.refl _ _;exact Lib.bytesWorld_below _ _ _
 |range=>rw[hx]at h;obtain⟨_,⟨cs,k,l,n,m⟩⟩:=p;exact PC.of_ex rfl λw f=>(Zt s o hx k w (f.glob l n) m).mono λe w' ⟨N,c,_,_,b⟩=>⟨_,(Lib.intSat 64 (lb s),Tb),c,λM=>y3 _ _ _ _,h,b⟩
 |_=>rw[hx]at h;obtain⟨⟨cs,k,l,n,m⟩,_⟩:=p;exact PC.of_ex rfl λw f=>(Zn s o hx k w (f.glob l n) m).mono λe w' ⟨N,c,_,_,b⟩=>⟨_,(0,Tb),c,λM=>y3 _ _ _ _,h,b⟩
theorem VK{s c:Bt}(i:s.size<4294967281)(k:c.size<4294967281)(f:∀(j:Nat) b,(lb s)[j]?=Tc b->b.toNat<128)(e:∀(j:Nat) b,(lb c)[j]?=Tc b->b.toNat<128){R:Bool->Prop}(h:R (Lib.containsAny (lb s) (lb c))):
  PC Tp gl 307 [Arg.mk .str s,Arg.mk .str c] [.bool] R:=
 PC.of_scal rfl (λ_=>rU _) h λw l=>Yv s c w i k f e
theorem JZ{xs:List Bt}{x:Bt}(h:R (Lib.idxOfS xs x)):PC Tp gl 98 [Arg.mk (.row .str) xs,Arg.mk .str x] [.int .i64] R:=by
 intro l M vs y ag k
 match vs,k with
 |[u,v],⟨h1,h2,_⟩=>
  have i:Rd M (.row .str) xs [u]:=by simpa[RdV,fe]using h1
  have c:v=.string x:=by simpa[RdV,fe,Rd]using h2
  subst c;obtain⟨s,rfl,f,A,cells,t,k⟩:=Rd.rowC ag i;have:=Es t;subst this;have key:∀w:World,w.heap=l->Calls Tp 98 #[aK s,.string x] w λe w'=>e=.returned (.int .i64 (Lib.idxOfS xs x))/\w'=w:=by
   intro w n;rcases k with h0|⟨b,o,q,z,r⟩;have p:xs=[]:=by simpa using h0
   subst p;have:=Yi s.a s.cap x w;simp only[aK,f];exact this;have:=MF b o s.len s.cap xs x w (by omega) (by omega) (λj m=>by have:=r j (.string (xs.getD j zc1)) (by rw[zai,YR m,zbv,YR m];rfl);rw[<-n]at this;exact this);rw[f,ZO]at this;simp only[aK,q,f];exact this
  refine XC.of_calls λB d=>(key (mk B d l) rfl).mono ?_;rintro e w' ⟨rfl,rfl⟩;exact⟨_,rfl,rfl,rfl,rfl,Keep.refl _ _,M,_,Fr.le.refl _,λ_ _=>rfl,ag,nE _ _,h⟩
end
end Go.X
end
section
namespace Go.X
open Go Go.Lib
section
theorem zh(l:Bs):(bl l).size=l.length:=by rw[<-iz,jg]
theorem qp(l:Bs)(a b:Nat):(bl l).extract a b=bl ((l.drop a).take (b-a)):=by rw[<-oy,MD,jg,jg]
theorem wn(a b:Bs):bl a++bl b=bl (a++b):=by rw[<-oy,Ld,jg,jg,jg]
theorem qq(l:Bs)(i:Nat):zf (bl l) i=((l[i]?.getD 0).toNat:Int):=by rw[p6,jg]
theorem xj(s:Bt):s.toList=lb s:=by simp[Go.Lib.toList_data]
theorem gu(a b:Bs):((bl a).toList==(bl b).toList)=decide (a=b):=by rw[xj,xj,jg,jg];grind
theorem QK{a b:Bs}:bl a=bl b↔a=b:=by simp
theorem pA(l:Bs)(p:Nat):fA (bl l) p=decide (p<l.length):=by rw[ZR];simp[fA,zh]
theorem rW(l:Bs)(p:Nat):gF (bl l) p=((dec (l.drop p)).1:Int):=by rw[gF,pq,jg]
theorem mU(l:Bs)(p:Nat)(h:p<l.length):fL (bl l) p=p+(dec (l.drop p)).2:=by
 rw[fL,pq,jg];have:Nat.blt p (bl l).size=Ta:=by simp[zh,h]
 rw[this];rfl
theorem jM{l:Bs}{i:Nat}(h:i<l.length):l[i]?.getD 0=l[i]:=by simp_all
def qy(c:UInt8):Bool:=decide (48<=c.toNat)&&decide (c.toNat<=57)
def Z4(l:Bs):Bool:=l.all qy && !l.isEmpty
abbrev Nm:=Bool×Bs×Int
abbrev eT(n:Nm):Bool×Bt×Int:=(n.1,(bl n.2.1,n.2.2))
def Qq(n:Nm):Bool:=!n.1&&(n.2.1.isEmpty&&n.2.2==0)
def zy(n:Nm):Bool:=Qq n||(Z4 n.2.1&&decide (n.2.1.length<=1000)&&n.2.1.head? != Tc 48&&n.2.1.getLast? != Tc 48&&decide (-1000000<=n.2.2)&&decide (n.2.2<=1000000))
def Qr(n:Nm):Bs:=if zy n then(if n.2.1=[]then [48]else(if n.1 then [45]else [])++n.2.1++(if n.2.2=0 then []else 101::Go.Lib.itoa n.2.2))else []
theorem W7{n:Nm}(h:zy n=Ta)(e:n.2.1=[]):Qq n=Ta:=by unfold zy at h;rcases zbb _ _ ▸ h with h|h;exact h;simp[Z4,e]at h
theorem xw{n:Nm}(h:zy n=Ta):n.2.1.length<=1000/\-1000000<=n.2.2/\n.2.2<=1000000:=by unfold zy Qq at h;grind
def cutAt(p:UInt8->Bool):Bs->Bs×Bs×Bool
 |[]=>([],[],Tb)
 |c::l=>if p c then([],l,Ta)else(c::(cutAt p l).1,(cutAt p l).2)
theorem tp{p:UInt8->Bool}:∀{l},(∀c∈l,p c=Tb)->cutAt p l=(l,[],Tb)
 |[],_=>rfl
 |c::l,h=>by unfold cutAt;rw[za (by grind),tp λc b=>h c (by simp[b])]
theorem qU{p:UInt8->Bool}:∀{l:Bs} {k:Nat} (b:k<l.length),(∀i (hi:i<k),p (l[i]'(by omega))=Tb)->p l[k]=Ta->cutAt p l=(l.take k,l.drop (k+1),Ta)
 |c::l,0,_,_,h=>by unfold cutAt;simp_all
 |c::l,k+1,b,h0,h=>by unfold cutAt;have h1:p c=Tb:=h0 0 (by omega);rw[za (by simp[h1]),qU (k:=k) (by simpa using b) (λi hi=>by grind) (by simpa using h)];simp
structure Lit where
 neg:Bool
 whole:Bs
 rest:Bs
 low:Bool
 exp:Bs
def gO(s:Bs):Bs:=if s.head?==Tc 45 then s.tail else s
def jS(c:UInt8):Bool:=c==101||c==69
def kK(c:UInt8):Bool:=c==46
def Zh(s:Bs):Bs×Bs×Bool:=cutAt jS (gO s)
def J3(s:Bs):Bool:=(Zh s).2.2&&(Zh s).2.1.head?==Tc 45
def fJ(s:Bs):Bs:=if J3 s then(Zh s).2.1.tail else if(Zh s).2.1.head?==Tc 43 then(Zh s).2.1.tail else(Zh s).2.1
def wj(s:Bs):Bs×Bs×Bool:=cutAt kK (Zh s).1
def gN(s:Bs):Bool:=(!(Zh s).2.2||Z4 (fJ s))&&Z4 (wj s).1&&(!(wj s).2.2||Z4 (wj s).2.1)&&((wj s).1==[48]||(wj s).1.head? != Tc 48)
def Jb(s:Bs):Lit:=⟨s.head?==Tc 45,(wj s).1,(wj s).2.1,J3 s,if(Zh s).2.2 then fJ s else []⟩
def J4(s:Bs):Option Lit:=if gN s then Tc (Jb s)else Td
theorem Fa{s:Bs}{x:Lit}(h:J4 s=Tc x):gN s=Ta/\x=Jb s:=by unfold J4 at h;simp_all
theorem xH{p:UInt8->Bool}:∀{l:Bs},(cutAt p l).2.2=Tb->(cutAt p l).1=l/\(cutAt p l).2.1=[]
 |[],_=>⟨rfl,rfl⟩
 |c::l,h=>by unfold cutAt at h ⊢;split;simp_all;rename_i e;rw[za e]at h;have:=xH h;simp_all
def xx(l:Bs):Bs:=((l.dropWhile (· == 48)).reverse.dropWhile (· == 48)).reverse
def zt(l:Bs):Nat:=l.foldl (λn c=>10*n+(c.toNat-48)) 0
def zo(s:Bs):Nm×Int:=match J4 s with
 |none=>((Tb,[],0),2)
 |some x=>
  if x.whole.length+x.rest.length>1000 then((Tb,[],0),3)
  else if(x.exp.dropWhile (· == 48)).length>9 then((Tb,[],0),4)
  else
   let e:Int:=if x.low then-(zt (x.exp.dropWhile (· == 48)):Int)else zt (x.exp.dropWhile (· == 48))
   let d:=(x.whole++x.rest).dropWhile (· == 48)
   let b:=xx (x.whole++x.rest)
   if d=[]then((Tb,[],0),0)
   else if -1000000<=e-x.rest.length+d.length-b.length/\e-x.rest.length+d.length-b.length<=1000000 then((x.neg,b,e-x.rest.length+d.length-b.length),0)
   else((Tb,[],0),4)
def jR(n:Nm):Int×Bool:=
 if zy n&&decide (0<=n.2.2)&&decide ((n.2.1.length:Int)+n.2.2<=19)then
  let v:Int:=if n.1 then-((zt n.2.1*10 ^ n.2.2.toNat:Nat):Int)else(zt n.2.1*10 ^ n.2.2.toNat:Nat)
  if -9223372036854775808<=v/\v<=9223372036854775807 then(v,Ta)else(0,Tb)
 else(0,Tb)
end
end Go.X
end
section
namespace Go.X
section
variable {n:Nat} {gl:Fr} {l:Bs} {R:Bool -> Prop}
theorem qd{k n:Nat}(h:k<n)(b:n<=4611686018427387904):YJ .i64 ((k:Int)+1)=((k+1:Nat):Int):=Lr (by omega)
theorem Y3(n:l.length<=4611686018427387904)(h:R (Z4 l)):PC Tp gl 339 [Arg.mk .str (bl l)] [.bool] R:=by
 apply N4;simp only[zh,qq];refine⟨λi=>∃k:Nat,i=k/\k<=l.length/\Z4 l=(Z4 l&&(l.drop k).all qy)/\(l.drop k).all qy=l.all qy,λi=>l.length-i.toNat,⟨0,rfl,by omega,by simp[Z4];grind,by simp⟩,?_⟩;rintro i ⟨k,rfl,o,-,c⟩;refine⟨λm=>?_,λm=>?_⟩;have b:k<l.length:=by simpa using m
 simp only[YO,jM b];rw[ZM b,zbo]at c;refine⟨by omega,λ_=>by omega,λe=>?_,λe=>?_⟩;have f:qy l[k]=Tb:=by unfold qy;rw[zby]at e;have:=l[k].toNat_lt;rcases zbb _ _ ▸ e with e|e <;> simp at e ⊢ <;> omega
 rw[f]at c;simp only[Bool.false_and]at c;have:Z4 l=Tb:=by simp[Z4,<-c]
 grind;have f:qy l[k]=Ta:=by unfold qy;rw[zby]at e;have:=zcv.1 e;simp at this ⊢;omega
 rw[f]at c;simp only[zao]at c;rw[qd b n];refine⟨⟨k+1,rfl,by omega,?_,c⟩,by simp;omega⟩;rw[c,Z4];simp_all;have b:k=l.length:=by(have:¬(k<l.length):=by simpa using m);omega
 subst b;rw[zbm]at c;have:Z4 l=decide ((l.length:Int)>0):=by rw[Z4,<-c];cases l <;> simp
 simp_all
theorem IP(h:l≠[]):(48<=(dec l).1/\(dec l).1<=57)->(dec l).2=1/\∃c t,l=c::t/\qy c=Ta/\(dec l).1=c.toNat:=by obtain⟨c,t,rfl⟩:=za3 h;intro b;by_cases e:c.toNat<128;rw[pN e]at b ⊢;exact⟨rfl,c,t,rfl,by simp[qy];simpa using b,rfl⟩;exfalso;unfold dec at b;have b0:((c::t).getD 0 0).toNat=c.toNat:=rfl;rw[b0]at b;have:=c.toNat_lt;have b1:=((c::t).getD 1 0).toNat_lt;have b2:=((c::t).getD 2 0).toNat_lt;have b3:=((c::t).getD 3 0).toNat_lt;generalize ((c::t).getD 1 0).toNat=x1 at *;generalize ((c::t).getD 2 0).toNat=x2 at *;generalize ((c::t).getD 3 0).toNat=x3 at *;generalize c.toNat=x0 at *;unfold Lib.decodeN at b;grind
theorem tz(h:R (Z4 l)):PC Tp gl 176 [Arg.mk .str (bl l)] [.bool] R:=by
 apply MR;refine⟨λp=>p.1=bl l/\p.2<=l.length/\(l.drop p.2).all qy=l.all qy,λp=>l.length-p.2,⟨rfl,by omega,by simp⟩,?_⟩;rintro⟨_,p⟩ ⟨rfl,q,m⟩;simp only at q m ⊢;rw[pA,rW];refine⟨λn=>⟨n,λf=>?_,λf=>?_⟩,λn=>?_⟩;all_goals first
  |have k:p<l.length:=by simpa using n
  |have k:¬p<l.length:=by simpa using n
 have i:l.drop p≠[]:=λe=>by simp_all;omega
 have o:¬(48<=(dec (l.drop p)).1/\(dec (l.drop p)).1<=57):=by rw[zby]at f;rcases zbb _ _ ▸ f with f|f <;> simp at f <;> omega
 have r:l.all qy=Tb:=by
  rw[<-m];obtain⟨c,t,e⟩:=za3 i;rw[e];cases b:qy c with
  |false=>simp[b]
  |true=>
   exfalso;apply o;have:c.toNat<128:=by simp[qy]at b;omega
   rw[e,pN this];simpa[qy]using b
 have:Z4 l=Tb:=by simp[Z4,r]
 simp_all;have i:l.drop p≠[]:=λe=>by simp_all;omega
 have o:48<=(dec (l.drop p)).1/\(dec (l.drop p)).1<=57:=by rw[zby]at f;have:=zcv.1 f;simp at this;omega
 obtain⟨h1,c,t,e,b,_⟩:=IP i o;rw[mU l p k,h1];refine⟨⟨trivial,by omega,?_⟩,by omega⟩;have s:l.drop (p+1)=t:=by rw[<-zbt,e];rfl
 simp_all;have:l.drop p=[]:=zac (by omega);rw[this]at m;have e:Z4 l=!(decide (l=[])):=by rw[Z4,<-m];cases l <;> simp
 grind [gu]
abbrev tN:Ty:=.pair .bool (.pair .str (.int .i64))
theorem He{n:Nm}(h:R (Qq n)):PC Tp gl 338 [Arg.mk tN (eT n)] [.bool] R:=by
 apply SE;simp only[show(⟨#[]⟩:Bt)=bl []from rfl,gu];have e:Qq n=((n.1==Tb)&&(decide (n.2.1=[])&&((n.2.2==0)&&Ta))):=by unfold Qq;rcases n with⟨_|_,_|⟨_,_⟩,e⟩ <;> simp
 grind
theorem tT(h:0<l.length):(((l[0]?.getD 0).toNat:Int) != 48)=(l.head? != Tc 48):=by
 cases l with
 |nil=>simp at h
 |cons c t=>rw[ZR];simp;constructor;intro h1 b;simp_all;intro h1 b;exact h1 (zb8.1 (by grind))
theorem Er(h:0<l.length):(((l[l.length-1]?.getD 0).toNat:Int) != 48)=(l.getLast? != Tc 48):=by rw[List.getLast?_eq_getElem?];rw[YR (by omega)];rw[ZR];simp;constructor;intro h1 b;simp_all;intro h1 b;exact h1 (zb8.1 (by grind))
theorem W8(h:Z4 l=Ta):0<l.length:=by
 cases l with
 |nil=>simp[Z4]at h
 |cons=>simp
theorem mb(h:0<n)(b:n<=4611686018427387904):YJ .i64 ((n:Int)-1)=((n-1:Nat):Int):=by grind [wrap64]
theorem W9{n:Nm}(f:n.2.1.length<=4611686018427387904)(h:R (zy n)):PC Tp gl 279 [Arg.mk tN (eT n)] [.bool] R:=by
 apply Oo;refine He (n:=n) ⟨λh1=>?_,λh1=>?_⟩;have:zy n=Ta:=by simp[zy,h1]
 simp_all;refine Y3 f ⟨λb=>?_,λb=>?_,?_⟩;have i:Z4 n.2.1=Ta:=by simp at b;exact b.1
 grind [W8,zh];have i:Z4 n.2.1=Ta:=by simp at b;exact b.1.1
 grind [W8,zh,mb];have e:zy n=(bif (bif (bif (bif (bif Z4 n.2.1 then(decide (((bl n.2.1).size:Int)<=1000))else Tb)then((zf (bl n.2.1) (0:Int).toNat:Int) != 48)else Tb)then((zf (bl n.2.1) (YJ .i64 (((bl n.2.1).size:Int)-1):Int).toNat:Int) != 48)else Tb)then(decide (n.2.2>=(-1000000)))else Tb)then(decide (n.2.2<=1000000))else Tb):=by
  unfold zy;rw[h1,Bool.false_or];simp only[zh,qq];cases hd:Z4 n.2.1 with
  |false=>simp
  |true=>have c:=W8 hd;rw[mb c f];simp only[YO,Int.toNat_zero,Er c,tT c,zbg,zao,zF];grind
 grind
theorem nm{n:Nm}(m:n.2.1.length<=4611686018427387904)(h:R (zy n)):PC Tp gl 105 [Arg.mk tN (eT n)] [.bool] R:=by
 apply Vd;simp only[show(⟨#[]⟩:Bt)=bl []from rfl,gu,zh,qq];have e:((n.1==Tb)&&(decide (n.2.1=[])&&((n.2.2==0)&&Ta)))=Qq n:=by unfold Qq;rcases n with⟨_|_,_|⟨_,_⟩,e⟩ <;> simp
 rw[e];refine⟨λh1=>?_,λh1=>?_⟩;have:zy n=Ta:=by simp[zy,h1]
 rw[this]at h;exact h
 ·unfold zy at h;rw[h1,Bool.false_or]at h;refine tz ⟨λk=>⟨λ_=>?_,λf=>?_⟩,λk=>⟨λf=>⟨λ_=>?_,λc=>?_⟩,λf=>⟨?_,λc=>⟨λ_=>?_,λb=>?_⟩,λc=>⟨?_,λb=>?_,λb=>?_⟩⟩⟩⟩;have:Z4 n.2.1=Tb:=by simpa using k
  rw[this]at h;simpa using h;rw[k]at f;cases f;have:decide (n.2.1.length<=1000)=Tb:=by simp at f ⊢;omega
  rw[this]at h;simpa using h;rw[f]at c;cases c;all_goals
   have o:Z4 n.2.1=Ta:=by simpa using k
   have i:=W8 o;have l:decide (n.2.1.length<=1000)=Ta:=by simp at f ⊢;omega
   have p:=tT i;have el:=Er i
  omega;have:(n.2.1.head? != Tc 48)=Tb:=by rw[<-p];simp at c ⊢;exact c
  rw[this]at h;simpa using h;rw[c]at b;cases b;rw[mb i m];omega;have:(n.2.1.getLast? != Tc 48)=Tb:=by rw[<-el];rw[mb i m]at b;simp at b ⊢;exact b
  rw[this]at h;simpa using h;have q:(n.2.1.head? != Tc 48)=Ta:=by rw[<-p];simp at c ⊢;exact c
  have r:(n.2.1.getLast? != Tc 48)=Ta:=by rw[<-el];rw[mb i m]at b;simp at b ⊢;exact b
  rw[o,l,q,r]at h;simp only[zao]at h;rw[zbg];exact h
end
section
theorem XF{vs:List Value}{f:FuncId}{fn:Func}{h:zc}{R:Value->zc->Prop}{F:Prop}(pl:Plan)(rs:List ResultVar)(n:Nat)(b:ZW.funcs[f]?=Tc fn)(H:F)(i:Yc fn=Ta:=by kernel_rfl)(c:fn.results.toList=rs:=by kernel_rfl)(k:fn.ntmps=n:=by kernel_rfl)(l:Nat.ble vs.length n=Ta:=by kernel_rfl)(e:F=W Tp n pl (codeOf fn) (rv Tp rs R) (iM 0 vs) h:=by kernel_rfl):XC Tp f vs.toArray h R:=LR Tryz.mixed pl vs b i c k l (Eq.mp e H)
theorem K9(s0:Bt)(h:zc)(R:Value->zc->Prop) (H:let a:=h.push (.cells #[.bool Tb,.bool Tb,.string (⟨#[]⟩:Bt),.string (⟨#[]⟩:Bt),.string (⟨#[]⟩:Bt)] 188);XC Tp 237 #[.string s0,.string (⟨#[45]⟩:Bt)] a (λb c=>∃d e,b=.tuple #[.string d,.bool e]/\XRunU Tp (YN 4 (.pointer (Tc (YK ⟨h.size,0,Td⟩ 0))) (.bool e)) c (λf=>XC Tp 238 #[.string d,.string (⟨#[101,69]⟩:Bt)] f (λg i=>∃j k l,g=.tuple #[.string j,.string k,.bool l]/\∀m:Bt->zc->Prop,(∀n:Bt,∀o:zc,(XRunU Tp (YN 9 (.pointer (Tc (YK ⟨h.size,0,Td⟩ 4))) (.string n)) o (λp=>XC Tp 238 #[.string j,.string (⟨#[46]⟩:Bt)] p (λq r=>∃s t u,q=.tuple #[.string s,.string t,.bool u]/\XRunU Tp (YN 9 (.pointer (Tc (YK ⟨h.size,0,Td⟩ 2))) (.string s)) r (λv=>XRunU Tp (YN 9 (.pointer (Tc (YK ⟨h.size,0,Td⟩ 3))) (.string t)) v (λw=>XC Tp 176 #[.string s] w (λx y=>∃z,x=.bool z/\∃A:Value->zc->Prop,(((!(!z))&&u)=Ta->XC Tp 176 #[.string t] y (λB C=>∃D,B=.bool D/\A (.bool D) C))/\(((!(!z))&&u)=Tb->∃E,A (.bool E) y)/\(((!(!z))&&u)=Ta->∀F G,A F G->∃I,F=.bool I)/\∀J:Bool,∀L,A (.bool J) L->((bif (!z)then Ta else(bif u then(!J)else Tb))=Ta->∃M N O P Q,zd L ⟨h.size,0,Td⟩ 0 [.bool M,.bool N,.string O,.string P,.string Q]/\XRunU Tp (YN 188 (.pointer (Tc ⟨h.size,0,Td⟩)) (.agg #[.bool M,.bool N,.string O,.string P,.string Q])) L (λS=>∃T U V W X,zd S ⟨h.size,0,Td⟩ 0 [.bool T,.bool U,.string V,.string W,.string X]/\R (.tuple #[.agg #[.bool T,.bool U,.string V,.string W,.string X],.bool Tb]) S))/\((bif (!z)then Ta else(bif u then(!J)else Tb))=Tb->∃Y Z aa ab ac,zd L ⟨h.size,0,Td⟩ 0 [.bool Y,.bool Z,.string aa,.string ab,.string ac]/\let ad:zc->Prop:=λ(ae:zc)=>(∃af ag ah ai aj,zd ae ⟨h.size,0,Td⟩ 0 [.bool af,.bool ag,.string ah,.string ai,.string aj]/\R (.tuple #[.agg #[.bool af,.bool ag,.string ah,.string ai,.string aj],.bool (bif (s.toList==(⟨#[48]⟩:Bt).toList)then Ta else((zf s (0:Int).toNat:Int) != 48))]) ae);let ak:zc->Prop:=λ(al:zc)=>(ad al);let am:zc->Prop:=λ(an:zc)=>(ak an);let ao:zc->Prop:=λ(ap:zc)=>(((!(s.toList==(⟨#[48]⟩:Bt).toList))=Ta->(0<=(0:Int)/\(0:Int)<(s.size:Int)))/\am ap);((L)[(⟨h.size,0,Td⟩:Addr).block]?=(L)[(⟨h.size,0,Td⟩:Addr).block]?/\(((!(s.toList==(⟨#[48]⟩:Bt).toList))=Ta->(0<=(0:Int)/\(0:Int)<(s.size:Int)))/\(L)[(⟨h.size,0,Td⟩:Addr).block]?=(L)[(⟨h.size,0,Td⟩:Addr).block]?/\((L)[(⟨h.size,0,Td⟩:Addr).block]?=(L)[(⟨h.size,0,Td⟩:Addr).block]?/\((L)[(⟨h.size,0,Td⟩:Addr).block]?=(L)[(⟨h.size,0,Td⟩:Addr).block]?/\XRunU Tp (YN 188 (.pointer (Tc ⟨h.size,0,Td⟩)) (.agg #[.bool Y,.bool Z,.string aa,.string ab,.string ac])) L (λaq=>ad aq))/\(XRunU Tp (YN 188 (.pointer (Tc ⟨h.size,0,Td⟩)) (.agg #[.bool Y,.bool Z,.string aa,.string ab,.string ac])) L (λar=>ak ar)))/\(XRunU Tp (YN 188 (.pointer (Tc ⟨h.size,0,Td⟩)) (.agg #[.bool Y,.bool Z,.string aa,.string ab,.string ac])) L (λau=>am au)))/\(XRunU Tp (YN 188 (.pointer (Tc ⟨h.size,0,Td⟩)) (.agg #[.bool Y,.bool Z,.string aa,.string ab,.string ac])) L (λav=>ao av)))/\(XRunU Tp (YN 188 (.pointer (Tc ⟨h.size,0,Td⟩)) (.agg #[.bool Y,.bool Z,.string aa,.string ab,.string ac])) L (λaw=>ao aw)))))))))->m n o)->(l=Ta->XC Tp 237 #[.string k,.string (⟨#[45]⟩:Bt)] i (λax ay=>∃az aA,ax=.tuple #[.string az,.bool aA]/\XRunU Tp (YN 4 (.pointer (Tc (YK ⟨h.size,0,Td⟩ 1))) (.bool aA)) ay (λaB=>∀aC:Bt->zc->Prop,(∀aD:Bt,∀aE:zc,(XC Tp 176 #[.string aD] aE (λaF aG=>∃aH,aF=.bool aH/\((!aH)=Ta->∃aI aJ aL aM aN,zd aG ⟨h.size,0,Td⟩ 0 [.bool aI,.bool aJ,.string aL,.string aM,.string aN]/\XRunU Tp (YN 188 (.pointer (Tc ⟨h.size,0,Td⟩)) (.agg #[.bool aI,.bool aJ,.string aL,.string aM,.string aN])) aG (λaO=>∃aP aQ aS aT aU,zd aO ⟨h.size,0,Td⟩ 0 [.bool aP,.bool aQ,.string aS,.string aT,.string aU]/\R (.tuple #[.agg #[.bool aP,.bool aQ,.string aS,.string aT,.string aU],.bool Tb]) aO))/\((!aH)=Tb->m aD aG)))->aC aD aE)->∃aV,ze aB (YK ⟨h.size,0,Td⟩ 1)=Tc (.bool aV)/\((!aV)=Ta->XC Tp 239 #[.string az,.string (⟨#[43]⟩:Bt)] aB (λaW aX=>∃aY,aW=.string aY/\aC aY aX))/\((!aV)=Tb->aC az aB))))/\(l=Tb->m k i))))):
  XC Tp 178 #[.string s0] h R:=
 XF ⟨[(14,8000)],[],[(9,[(4,.one (.str))]),(7,[(4,.one (.str))])]⟩ [.cell 2 188,.tmp 3] 69 Tryz.func178 H
theorem V7(s0:Bt)(h:zc)(R:Value->zc->Prop) (H:let a:=h.push (.cells #[.bool Tb,.string (⟨#[]⟩:Bt),iV 0] 78);XC Tp 107 #[.string s0] a (λb c=>∃d e f g,b=.tuple #[.agg #[.bool d,.string e,iV f],iV g]/\let i:=c.push (.cells #[.bool Tb,.string (⟨#[]⟩:Bt),iV 0] 78);XRunU Tp (YN 78 (.pointer (Tc ⟨c.size,0,Td⟩)) (.agg #[.bool d,.string e,iV f])) i (λj=>∃k l m,zd j ⟨c.size,0,Td⟩ 0 [.bool k,.string l,iV m]/\let n:Bool->zc->Prop:=λo (p:zc)=>(∃q r s,zd p ⟨h.size,0,Td⟩ 0 [.bool q,.string r,iV s]/\R (.tuple #[.agg #[.bool q,.string r,iV s],.bool o]) p);let t:Bool->zc->Prop:=λu (v:zc)=>(n (bif (g==0)then u else Tb) v);let w:Bt->zc->Prop:=λx (y:zc)=>(t (x.toList==s0.toList) y);let z:Bt->zc->Prop:=λA (B:zc)=>(((B)[(⟨c.size,0,Td⟩:Addr).block]?=(j)[(⟨c.size,0,Td⟩:Addr).block]?/\((B)[(⟨c.size,0,Td⟩:Addr).block]?=(j)[(⟨c.size,0,Td⟩:Addr).block]?/\XRunU Tp (YN 78 (.pointer (Tc ⟨h.size,0,Td⟩)) (.agg #[.bool k,.string l,iV m])) B (λC=>n (bif (g==0)then(A.toList==s0.toList)else Tb) C))/\(XRunU Tp (YN 78 (.pointer (Tc ⟨h.size,0,Td⟩)) (.agg #[.bool k,.string l,iV m])) B (λD=>t (A.toList==s0.toList) D)))/\(XRunU Tp (YN 78 (.pointer (Tc ⟨h.size,0,Td⟩)) (.agg #[.bool k,.string l,iV m])) B (λE=>w A E)));let F:Bool->Bt->Int->zc->Prop:=λG I J (L:zc)=>(∃M:Value->zc->Prop,((g==0)=Ta->XC Tp 63 #[.agg #[.bool G,.string I,iV J]] L (λN O=>∃P,N=.string P/\M (.string P) O))/\((g==0)=Tb->∃Q,M (.string Q) L)/\((g==0)=Ta->∀S T,M S T->∃U,S=.string U)/\∀V:Bt,∀W,M (.string V) W->(W)[(⟨c.size,0,Td⟩:Addr).block]?=(j)[(⟨c.size,0,Td⟩:Addr).block]?/\z V W);(∃X Y Z,((g==0)=Ta->zd j ⟨c.size,0,Td⟩ 0 [.bool X,.string Y,iV Z])/\(j)[(⟨c.size,0,Td⟩:Addr).block]?=(j)[(⟨c.size,0,Td⟩:Addr).block]?/\(∃aa:Value->zc->Prop,((g==0)=Ta->XC Tp 63 #[.agg #[.bool X,.string Y,iV Z]] j (λab ac=>∃ad,ab=.string ad/\aa (.string ad) ac))/\((g==0)=Tb->∃ae,aa (.string ae) j)/\((g==0)=Ta->∀af ag,aa af ag->∃ah,af=.string ah)/\∀ai:Bt,∀aj,aa (.string ai) aj->(aj)[(⟨c.size,0,Td⟩:Addr).block]?=(j)[(⟨c.size,0,Td⟩:Addr).block]?/\((aj)[(⟨c.size,0,Td⟩:Addr).block]?=(j)[(⟨c.size,0,Td⟩:Addr).block]?/\z ai aj)/\(XRunU Tp (YN 78 (.pointer (Tc ⟨h.size,0,Td⟩)) (.agg #[.bool k,.string l,iV m])) aj (λak=>w ai ak)))/\((j)[(⟨c.size,0,Td⟩:Addr).block]?=(j)[(⟨c.size,0,Td⟩:Addr).block]?/\F X Y Z j))/\((j)[(⟨c.size,0,Td⟩:Addr).block]?=(j)[(⟨c.size,0,Td⟩:Addr).block]?/\∃al am an,((g==0)=Ta->zd j ⟨c.size,0,Td⟩ 0 [.bool al,.string am,iV an])/\(j)[(⟨c.size,0,Td⟩:Addr).block]?=(j)[(⟨c.size,0,Td⟩:Addr).block]?/\F al am an j)))):
  XC Tp 102 #[.string s0] h R:=
 XF ⟨[(2,8000)],[],[]⟩ [.cell 2 78,.tmp 3] 20 Tryz.func102 H
theorem LG(a:Bool)(b:Bt)(c:Int)(h:zc)(R:Value->zc->Prop) (H:let d:=h.push (.cells #[.bool a,.string b,iV c] 78);∃e f g,zd d ⟨h.size,0,Td⟩ 0 [.bool e,.string f,iV g]/\XC Tp 105 #[.agg #[.bool e,.string f,iV g]] d (λi j=>∃k,i=.bool k/\∃l,((!(!k))=Ta->ze j (YK ⟨h.size,0,Td⟩ 2)=Tc (iV l))/\∃m,((!(bif (!k)then Ta else(decide (l<0))))=Ta->ze j (YK ⟨h.size,0,Td⟩ 1)=Tc (.string m))/\∃n,((!(bif (!k)then Ta else(decide (l<0))))=Ta->ze j (YK ⟨h.size,0,Td⟩ 2)=Tc (iV n))/\((bif (bif (!k)then Ta else(decide (l<0)))then Ta else(decide ((YJ .i64 ((m.size:Int)+n))>19)))=Ta->R (.tuple #[iV 0,.bool Tb]) j)/\((bif (bif (!k)then Ta else(decide (l<0)))then Ta else(decide ((YJ .i64 ((m.size:Int)+n))>19)))=Tb->∃o,ze j (YK ⟨h.size,0,Td⟩ 1)=Tc (.string o)/\∃p,ze j (YK ⟨h.size,0,Td⟩ 2)=Tc (iV p)/\XC Tp 234 #[.string (⟨#[48]⟩:Bt),iV p] j (λq r=>∃s,q=.string s/\jq (o.size+s.size)/\(r)[((YK ⟨h.size,0,Td⟩ 1):Addr).block]?=(j)[((YK ⟨h.size,0,Td⟩ 1):Addr).block]?/\∀t:Bt->zc->Prop,(∀u:Bt,∀v:zc,(((u.toList==(⟨#[]⟩:Bt).toList)=Ta->R (.tuple #[iV 0,.bool Ta]) v)/\((u.toList==(⟨#[]⟩:Bt).toList)=Tb->XC Tp 235 #[.string u,iV 10,iV 64] v (λw x=>∃y,∃z:Value,w=.tuple #[iV y,z]/\kC z=Ta/\((!kF z)=Ta->R (.tuple #[iV 0,.bool Tb]) x)/\((!kF z)=Tb->R (.tuple #[iV y,.bool Ta]) x))))->t u v)->∃A,ze r (YK ⟨h.size,0,Td⟩ 0)=Tc (.bool A)/\(A=Ta->jq (((⟨#[45]⟩:Bt)).size+(o++s).size)/\t ((⟨#[45]⟩:Bt)++(o++s)) r)/\(A=Tb->t (o++s) r))))):
  XC Tp 175 #[.agg #[.bool a,.string b,.int .i64 c]] h R:=
 XF ⟨[(3,8000)],[],[(6,[(4,.one (.str))])]⟩ [.tmp 2,.tmp 3] 44 Tryz.func175 H
end
end Go.X
end
section
namespace Go.X
open Go Go.RowKit
section
variable {h h':zc} {bs:List Nat} {v:Tr} {M:Fr} {b o:Nat} {cs:Array Value} {vs:List Value}
def OKeys(h:zc)(ks:List Bt)(bs:List Nat)(s:Sl):Prop:=
 s.len=ks.length/\ks.length<=140737488355328/\ks.length<=s.cap/\((ks=[]/\bs=[]/\s.cap=0)\/∃b cs,bs=[b]/\s.a=Tc ⟨b,0,Td⟩/\Blk h b cs/\s.cap<=cs.size/\cut cs 0 ks.length=ks.map ZD)
inductive OT (h:zc):Tr->List Nat->List Value->Prop where
 |mk {k:Int} {s:Bt} {ks:List Bt} {xs:List Tr} {sk si:Sl} {bk bb:List Nat} {b:Nat} {cs:Array Value} {bf:Nat->List Nat}
  (hk:OKeys h ks bk sk) (hn:si.len=xs.length/\xs.length<=140737488355328/\xs.length<=si.cap)
  (hz:(xs=[]/\bb=[]/\si.cap=0)\/(bb=[b]/\si.a=Tc ⟨b,0,Td⟩/\Blk h b cs/\si.cap*4<=cs.size))
  (hi:∀i (hx:i<xs.length),OT h xs[i] (bf i) (cut cs (i*4) 4))
  (hd:(bk++(bb++(zak xs.length).flatMap bf)).Nodup):
  OT h (.mk k s ks xs) (bk++(bb++(zak xs.length).flatMap bf)) [.int .i64 k,.string s,aK sk,aK si]
theorem OKeys.frame{ks:List Bt}{s:Sl}(H:OKeys h ks bs s)(c:∀b∈bs,h'[b]?=h[b]?):OKeys h' ks bs s:=by obtain⟨h1,i,l,k⟩:=H;refine⟨h1,i,l,k.imp id ?_⟩;rintro⟨b,cs,rfl,e,m,f⟩;exact⟨b,cs,rfl,e,m.keep (c b (by simp)),f⟩
theorem OT.frame{cells:List Value}(H:OT h v bs cells):(∀b∈bs,h'[b]?=h[b]?)->OT h' v bs cells:=by
 induction H with
 | @mk k s ks xs sk si bk bb b cs bf hk hn hz hi hd ih=>intro c;refine OT.mk (b:=b) (cs:=cs) (hk.frame λx e=>c x (by simp[e])) hn (hz.imp id ?_) (λi e=>ih i e λx f=>c x ?_) hd;rintro⟨rfl,l,n,m⟩;exact⟨rfl,l,n.keep (c b (by simp)),m⟩;grind
theorem OT.nodup{cells:List Value}(H:OT h v bs cells):bs.Nodup:=by cases H with|mk _ _ _ _ b=>exact b
theorem OT.lt{cells:List Value}(H:OT h v bs cells):∀b∈bs,b<h.size:=by
 induction H with
 | @mk k s ks xs sk si bk bb b cs bf hk hn hz hi hd ih=>intro x c;simp only[ZG,zbf,zbc]at c;rcases c with c|c|⟨i,h1,l⟩;obtain⟨_,_,_,f⟩:=hk;rcases f with⟨_,rfl,_⟩|⟨m,cs',rfl,_,e,_⟩;cases c;simp at c;subst c;exact e.lt;rcases hz with⟨_,rfl,_⟩|⟨rfl,_,e,_⟩;cases c;simp at c;subst c;exact e.lt;grind
theorem OT.len{cells:List Value}(H:OT h v bs cells):cells.length=4:=by cases H;rfl
theorem OT.rd{cells:List Value}(H:OT h v bs cells)(m:∀b∈bs,∀cs,Blk h b cs->M b=Tc cs):TrRd M v cells:=by
 induction H with
 | @mk k s ks xs sk si bk bb b cs bf hk hn hz hi hd ih=>
  obtain⟨p,k2,u,y⟩:=hk;have l:RowAt M (λs cs=>cs=[.string s]) 1 ks (aK sk):=by
   refine⟨sk.a,sk.cap,by rw[aK,p],⟨k2,u⟩,?_⟩;rcases y with⟨h0,_⟩|⟨n,cs',rfl,t,z,_,w⟩;exact .inl h0;refine .inr ⟨n,0,cs',t,m n (by simp) cs' z,λi c=>?_⟩;have:(cut cs' 0 ks.length)[i]?=Tc (ZD ks[i]):=by rw[w,zai,YR c];rfl
   unfold cut at this ⊢;rw[ZQ,zb c,za5]at this;have r:=(ZH.1 this).1;simp_all[ZM]
  have f:aK si=.slice si.a xs.length si.cap:=by rw[aK,hn.1]
  rw[f];refine TrRd.mk (b:=b) (o:=0) (cs:=cs) l hn.2 (hz.imp (·.1) ?_) λi c=>?_;grind;rw[ZP];exact ih i c λx q cs' e=>m x (by grind) cs' e
def MxL(M:Fr)(h:zc)(bs:List Nat):Fr:=λi=>if i∈bs then(match h[i]? with
 |some (.cells cs _ _)=>Tc cs
 |_=>Td)else M i
theorem MxL.ag{M:Fr}{h:zc}(ag:AgM M h)(bs:List Nat):AgM (MxL M h bs) h:=by intro b c e;unfold MxL at e;split at e;grind;exact ag b c e
theorem MxL.later{h0 h:zc}(ag:AgM M h0)(k:Keep h0.size h0 h)(hb:∀b∈bs,h0.size<=b):Later h0 M h (MxL M h bs) where
 keep:=k
 le:=λb c e=>by have:=ag.lt e;unfold MxL;grind
 old:=λb hlt=>by unfold MxL;grind
 ag:=MxL.ag (ag.keep k) bs
theorem MxL.at(c:b∈bs)(e:Blk h b cs):MxL M h bs b=Tc cs:=by obtain⟨T,e⟩:=e;unfold MxL;grind
theorem OT.rdv{cells:List Value}(H:OT h v bs cells):RdV (MxL M h bs) .tree v (.agg cells.toArray):=by unfold RdV;simp only[fe,if_true];exact⟨cells,rfl,H.rd λb c cs e=>MxL.at c e⟩
def upd(cs:Array Value)(o:Nat)(vs:List Value):Array Value:=(cs.toList.take o++vs++cs.toList.drop (o+vs.length)).toArray
theorem Hk(h:o+vs.length<=cs.size):(upd cs o vs).size=cs.size:=by unfold upd;simp;omega
theorem K0(h:o+vs.length<=cs.size)(q:Nat):(upd cs o vs).toList[q]?=if q<o then cs.toList[q]? else if q<o+vs.length then vs[q-o]? else cs.toList[q]?:=by unfold upd;grind
theorem yu{o n i:Nat}:(cut cs o n)[i]?=if i<n then cs.toList[o+i]? else Td:=by unfold cut;grind
theorem J5{P:Program}{t:TypeId}(hi:qj P t=Ta)(H:Blk h b cs){v:Value}(f:v.cells.toList=vs)(m:yb P t=vs.length)(k:o+vs.length<=cs.size)(h1:∀u∈vs,u.oneCell'=Ta){K:zc->Prop}
  (q:∀h':zc,Blk h' b (upd cs o vs)->h'.size=h.size->(∀j,j≠b->h'[j]?=h[j]?)->K h'):XRunU P (YN t (.pointer (Tc ⟨b,o,Td⟩)) v) h K:=by
 intro B d;obtain⟨T,e⟩:=H;have c:v.cells.size=vs.length:=by rw[<-f];simp
 obtain⟨h',l,n,i,p⟩:=Wp (P:=P) hi m e c k (by grind) B d;refine⟨d,h',l,q h' ⟨T,?_⟩ i p⟩;rw[n];unfold upd;rw[f]
theorem Blk.ofKeep(H:Blk h b cs)(k:Keep h.size h h'):Blk h' b cs:=H.keepN k H.lt
theorem Y4(ag:AgM M h)(bs:List Nat):Fr.le M (MxL M h bs):=by intro b c e;unfold MxL;split;obtain⟨T,m,e'⟩:=ag b c e;rw[e'];exact e
end
end Go.X
end
section
namespace Go.X
open Go Go.X Go.Proofs Go.Lib
section
variable {cs:Array Value} {M Mg:Fr} {v:Value} {g h g':zc}
theorem Gp{vs:List Value}(h:cs.size=vs.length):upd cs 0 vs=vs.toArray:=by unfold upd;simp_all
theorem Dr{n:Bool×Bt×Int}{u:Value}(h:RdV M (.pair .bool (.pair .str (.int .i64))) n u):u=.agg #[.bool n.1,.string n.2.1,.int .i64 n.2.2]:=by
 unfold RdV at h;simp only[fe,if_true]at h;obtain⟨cs,e,c1,c2,rfl,h1,f,i,rfl,b,c⟩:=h;have h1:c1=[.bool n.1]:=by simpa[Rd]using h1
 have b:f=[.string n.2.1]:=by simpa[Rd]using b
 have c:i=[.int .i64 n.2.2]:=by simpa[Rd]using c
 simp_all
theorem sG(a:Bool)(s:Bt)(i:Int):RdV M (.pair .bool (.pair .str (.int .i64))) (a,s,i) (.agg #[.bool a,.string s,.int .i64 i]):=by unfold RdV;simp only[fe,if_true];exact⟨[.bool a,.string s,.int .i64 i],rfl,[_],[_,_],rfl,rfl,[_],[_],rfl,rfl,rfl⟩
theorem qW(n:Int)(b:Bool):Yf M [.int .i64,.bool] (n,b) (.tuple #[.int .i64 n,.bool b]):=⟨[_,_],⟨_,_,rfl,Z2 .i64 n,_,rfl,rdBool _⟩,rfl⟩
theorem WQ{r:Int×Bool}(h:Yf M [.int .i64,.err] r v):∃e:Value,v=.tuple #[.int .i64 r.1,e]/\kC e=Ta/\kF e=r.2:=by
 obtain⟨us,⟨n,m,rfl,f,i,rfl,b⟩,rfl⟩:=h;rw[eK rfl]at f b;have k:n=.int .i64 r.1:=by simpa[Rd]using f
 subst k;have b:∃v,[i]=[v]/\((r.2=Ta/\v=.nilIface)\/(r.2=Tb/\∃t u,v=.iface t u)):=b;obtain⟨v,c,l⟩:=b;have c:i=v:=by simpa using c
 subst c;rcases l with⟨e,rfl⟩|⟨e,t,u,rfl⟩;exact⟨_,rfl,rfl,e.symm⟩;exact⟨_,rfl,rfl,e.symm⟩
theorem PI(gl:Fr)(n0:Bool×Bt×Int)(R:(Int×Bool)->Prop) (H:PC Tp gl 105 [Arg.mk (.pair .bool (.pair .str (.int .i64))) (n0.1,(n0.2.1,n0.2.2))] [.bool] (λB:Bool=>((bif (bif (!B)then Ta else(decide ((n0.2.2:Int)<0)))then Ta else(decide ((YJ .i64 (((n0.2.1).size:Int)+n0.2.2):Int)>19)))=Ta->R (0,Tb)) /\ ((bif (bif (!B)then Ta else(decide ((n0.2.2:Int)<0)))then Ta else(decide ((YJ .i64 (((n0.2.1).size:Int)+n0.2.2):Int)>19)))=Tb->PC Tp gl 234 [Arg.mk .str (⟨#[48]⟩:Bt),Arg.mk (.int .i64) n0.2.2] [.str] (λi:Bt=>jq ((n0.2.1).size+(i).size) /\ ∀m:Bt->Prop,(∀f:Bt,((((f:Bt).toList==((⟨#[]⟩:Bt):Bt).toList)=Ta->R (0,Ta)) /\ (((f:Bt).toList==((⟨#[]⟩:Bt):Bt).toList)=Tb->PC Tp gl 235 [Arg.mk .str f,Arg.mk (.int .i64) 10,Arg.mk (.int .i64) 64] [.int .i64,.err] (λl:Int×Bool=>((!l.2)=Ta->R (0,Tb)) /\ ((!l.2)=Tb->R (l.1,Ta)))))->m f)->(n0.1=Ta->jq (((⟨#[45]⟩:Bt)).size+(n0.2.1++i).size) /\ m ((⟨#[45]⟩:Bt)++(n0.2.1++i))) /\ (n0.1=Tb->m (n0.2.1++i)))))):
    PC Tp gl 175 [Arg.mk (.pair .bool (.pair .str (.int .i64))) n0] [.int .i64,.bool] R:=by
  intro h M vs E ag ha
  match vs,ha with
  |[u],⟨J,_⟩=>
  have J:RdV M (.pair .bool (.pair .str (.int .i64))) n0 u:=J;rw[Dr J];apply PX.of;apply LG n0.1 n0.2.1 n0.2.2;intro h1;obtain⟨Q,_,b1⟩:=jo (g:=h1) rfl;clear_value h1;refine⟨_,_,_,b1.ld (cs:=[.bool n0.1,.string n0.2.1,.int .i64 n0.2.2]),?_⟩;refine H.go (vs:=[.agg #[.bool n0.1,.string n0.2.1,.int .i64 n0.2.2]]) E (ag.keep Q) (zm (a:=Arg.mk (.pair .bool (.pair .str (.int .i64))) (n0.1,(n0.2.1,n0.2.2))) (sG _ _ _) zz) λw h6 S r q b hr=>?_;obtain⟨N,D⟩:=hr;have p:=b1.ofKeep q.keep;have C:Later h M h6 S:=(Later.same ag Q).trans q;refine⟨r,eP b,n0.2.2,λ_=>p.cellAdd (o:=0) (k:=2) rfl,n0.2.1,λ_=>p.cellAdd (o:=0) (k:=1) rfl,n0.2.2,λ_=>p.cellAdd (o:=0) (k:=2) rfl,λL=>⟨S,(0,Tb),C,qW _ _,N L⟩,λL=>?_⟩;refine⟨_,p.cellAdd (o:=0) (k:=1) rfl,_,p.cellAdd (o:=0) (k:=2) rfl,?_⟩;refine(D L).go (vs:=[.string ⟨#[48]⟩,.int .i64 n0.2.2]) (E.trans q.le) q.ag (zm (a:=Arg.mk .str (⟨#[48]⟩:Bt)) (rdStr _) (zm (a:=Arg.mk (.int .i64) n0.2.2) (Z2 _ _) zz)) λw y O r2 n b P=>?_;obtain⟨hf,Y⟩:=P;refine⟨r2,iP b,hf,n.keep.get _ p.lt,?_⟩;intro G z;have c:=C.trans n;obtain⟨I,F⟩:=Y (λs=>G s y) λs ⟨a1,a2⟩=>z s y ⟨λe=>⟨O,(0,Ta),c,qW _ _,a1 e⟩,λe=>by refine(a2 e).go (vs:=[.string s,.int .i64 10,.int .i64 64]) (E.trans c.le) c.ag (zm (a:=Arg.mk .str s) (rdStr _) (zm (a:=Arg.mk (.int .i64) 10) (Z2 _ _) (zm (a:=Arg.mk (.int .i64) 64) (Z2 _ _) zz))) λw aa A Z t b x=>?_;obtain⟨U,rfl,hi,hn⟩:=WQ b;refine⟨_,U,rfl,hi,λV=>⟨A,(0,Tb),c.trans t,qW _ _,x.1 (by grind)⟩,λV=>⟨A,(Z.1,Ta),c.trans t,qW _ _,x.2 (by grind)⟩⟩⟩;exact⟨n0.1,((b1.ofKeep q.keep).ofKeep n.keep).cellAdd (o:=0) (k:=0) rfl,I,F⟩
theorem EC{r:(Bool×Bt×Int)×Int}(h:Yf M [.pair .bool (.pair .str (.int .i64)),.int .i64] r v):v=.tuple #[.agg #[.bool r.1.1,.string r.1.2.1,.int .i64 r.1.2.2],.int .i64 r.2]:=by
 obtain⟨us,⟨k,f,rfl,e,c,rfl,b⟩,rfl⟩:=h;rw[Dr e];rw[eK rfl]at b;have i:c=.int .i64 r.2:=by simpa[Rd]using b
 rw[i];rfl
theorem HU(a:Bool)(s:Bt)(i:Int)(b:Bool):Yf M [.pair .bool (.pair .str (.int .i64)),.bool] ((a,s,i),b) (.tuple #[.agg #[.bool a,.string s,.int .i64 i],.bool b]):=⟨[_,_],⟨_,_,rfl,sG a s i,_,rfl,rdBool _⟩,rfl⟩
theorem qK{b:Nat}(B:Blk g b cs)(n:cs.size=3){x:Bool}{s:Bt}{i:Int}{t:TypeId}(e:qj Tp t=Ta)(l:yb Tp t=3){K:zc->Prop}(f:∀g',(∀j,j≠b->g'[j]?=g[j]?)->g'.size=g.size->Blk g' b #[.bool x,.string s,.int .i64 i]->K g'):
  XRunU Tp (YN t (.pointer (Tc ⟨b,0,Td⟩)) (.agg #[.bool x,.string s,.int .i64 i])) g K:=by
 refine J5 (vs:=[.bool x,.string s,.int .i64 i]) e B rfl l (by simp_all) (λu c=>?_) λg' m k h=>f g' h k (by simp_all[Gp]);simp at c;rcases c with rfl|rfl|rfl <;> rfl
set_option maxHeartbeats 1000000 in
theorem UR(gl:Fr)(n:Bt)(R:((Bool×Bt×Int)×Bool)->Prop) (H:PC Tp gl 107 [Arg.mk .str n] [.pair .bool (.pair .str (.int .i64)),.int .i64] (λb:(Bool×Bt×Int)×Int=>∃C:Bt->Prop,(((b.2:Int)==0)=Ta->PC Tp gl 63 [Arg.mk (.pair .bool (.pair .str (.int .i64))) (b.1.1,(b.1.2.1,b.1.2.2))] [.str] C) /\ ∀D:Bt,(((b.2:Int)==0)=Ta->C D)->R ((b.1.1,(b.1.2.1,b.1.2.2)),bif ((b.2:Int)==0)then((D:Bt).toList==(n:Bt).toList)else Tb))):
    PC Tp gl 102 [Arg.mk .str n] [.pair .bool (.pair .str (.int .i64)),.bool] R:=by
  intro h M vs Z ag ha
  match vs,ha with
  |[u],⟨O,_⟩=>
  have O:RdV M .str n u:=O;rw[xt O];apply PX.of;apply V7 n;intro h1;obtain⟨k1,z1,b1⟩:=jo (g:=h1) rfl;clear_value h1;have L1:Later h M h1 M:=Later.same ag k1;refine H.go (vs:=[.string n]) Z L1.ag (zm (a:=Arg.mk .str n) (rdStr _) zz) λw q U r y l hr=>?_;obtain⟨J,hJ,hR⟩:=hr;rw[EC l];refine⟨_,_,_,_,rfl,?_⟩;have z3:=y.keep.size;refine qK (cs:=#[.bool Tb,.string ⟨#[]⟩,.int .i64 0]) (Blk.new _ _ _) rfl (by kernel_rfl) (by kernel_rfl) λp f9 z9 F=>?_;rw[ZI]at z9;have k9:Keep q.size q p:=⟨by omega,λj Q=>(f9 j (by omega)).trans ((Keep.push q _ (YM _)).get j Q)⟩;have G:Later h M p U:=(L1.trans y).trans (Later.same y.ag k9);have A:U h.size=Td:=by
    rw[y.old h.size (by omega)];cases e:M h.size with
    |none=>rfl
    |some c=>have:=ag.lt e;omega
  have V:Blk p h.size #[.bool Tb,.string ⟨#[]⟩,.int .i64 0]:=(b1.ofKeep y.keep).ofKeep k9;refine⟨r.1.1,r.1.2.1,r.1.2.2,F.ld (cs:=[.bool r.1.1,.string r.1.2.1,.int .i64 r.1.2.2]),?_⟩;intro Y ab aa N S;have fin:∀(g:zc) (Mg:Fr) (x:Bt),Later h M g Mg->Mg h.size=Td->(∃cs,Blk g h.size cs/\cs.size=3)->(((r.2:Int)==0)=Ta->J x) ->
      XRunU Tp (YN 78 (.pointer (Tc ⟨ZK h,0,Td⟩)) (.agg #[.bool r.1.1,.string r.1.2.1,.int .i64 r.1.2.2])) g (λg'=>Y (bif ((r.2:Int)==0)then((x:Bt).toList==(n:Bt).toList)else Tb) g'):=λg Mg x L o ⟨cs,B,hc⟩ k=>
    qK B hc (by kernel_rfl) (by kernel_rfl) λg' f z B'=>⟨_,_,_,B'.ld (cs:=[.bool r.1.1,.string r.1.2.1,.int .i64 r.1.2.2]),Mg,((r.1.1,(r.1.2.1,r.1.2.2)),_),⟨⟨by have:=L.keep.size;omega,λj Q=>(f j (by omega)).trans (L.keep.get j Q)⟩,L.le,L.old,λc cc e=>by obtain⟨T,m,e2⟩:=L.ag c cc e;grind⟩,HU _ _ _ _,hR x k⟩
  have P:∀(g:zc) (Mg:Fr) (x:Bt),Later h M g Mg->Mg h.size=Td->(∃cs,Blk g h.size cs/\cs.size=3)->(((r.2:Int)==0)=Ta->J x)->g[q.size]?=p[q.size]?->N x g:=λg Mg x L o B k s=>⟨⟨s,⟨s,fin g Mg x L o B k⟩,fin g Mg x L o B k⟩,fin g Mg x L o B k⟩;let E:Value->zc->Prop:=λv g=>∃x:Bt,v=.string x/\(∃Mg,Later h M g Mg/\Mg h.size=Td/\(∃cs,Blk g h.size cs/\cs.size=3)/\g[q.size]?=p[q.size]?)/\(((r.2:Int)==0)=Ta->J x);have call:((r.2:Int)==0)=Ta->XC Tp 63 #[.agg #[.bool r.1.1,.string r.1.2.1,.int .i64 r.1.2.2]] p (λv g=>∃x:Bt,v=.string x/\E (.string x) g):=λe=>
    (hJ e).go (vs:=[.agg #[.bool r.1.1,.string r.1.2.1,.int .i64 r.1.2.2]]) (Z.trans G.le) G.ag (zm (a:=Arg.mk (.pair .bool (.pair .str (.int .i64))) (r.1.1,(r.1.2.1,r.1.2.2))) (sG _ _ _) zz) λw g Mg x I l k=>
      ⟨x,iP l,x,rfl,⟨Mg,G.trans I,by rw[I.old h.size V.lt];exact A,⟨_,V.ofKeep I.keep,rfl⟩,I.keep.get _ F.lt⟩,λ_=>k⟩
  have i:((r.2:Int)==0)=Tb->∃x:Bt,E (.string x) p:=λe=>⟨⟨#[]⟩,⟨#[]⟩,rfl,⟨U,G,A,⟨_,V,rfl⟩,rfl⟩,λe'=>by simp_all⟩;have t:S r.1.1 r.1.2.1 r.1.2.2 p:=⟨E,call,i,λ_ v g ⟨x,e,_⟩=>⟨x,e⟩,λx g ⟨x',e,⟨Mg,L,o,B,s⟩,k⟩=>by injection e with e;subst e;grind⟩;refine⟨⟨_,_,_,λ_=>F.ld (cs:=[.bool r.1.1,.string r.1.2.1,.int .i64 r.1.2.2]),rfl,⟨E,call,i,λ_ v g ⟨x,e,_⟩=>⟨x,e⟩,λx g ⟨x',e,⟨Mg,L,o,B,s⟩,k⟩=>?_⟩,rfl,t⟩,rfl,_,_,_,λ_=>F.ld (cs:=[.bool r.1.1,.string r.1.2.1,.int .i64 r.1.2.2]),rfl,t⟩;injection e with e;subst e;exact⟨s,⟨s,P g Mg x L o B k s⟩,fin g Mg x L o B k⟩
theorem G4{r:Bt×Bool}(h:Yf M [.str,.bool] r v):v=.tuple #[.string r.1,.bool r.2]:=by
 obtain⟨us,⟨k,f,rfl,e,c,rfl,b⟩,rfl⟩:=h;rw[xt e];rw[eK rfl]at b;have i:c=.bool r.2:=by simpa[Rd]using b
 rw[i];rfl
theorem Eo{r:Bt×Bt×Bool}(h:Yf M [.str,.str,.bool] r v):v=.tuple #[.string r.1,.string r.2.1,.bool r.2.2]:=by
 obtain⟨us,⟨m,k,rfl,i,n,e,rfl,c,l,rfl,b⟩,rfl⟩:=h;rw[xt i,xt c];rw[eK rfl]at b;have f:l=.bool r.2.2:=by simpa[Rd]using b
 rw[f];rfl
abbrev N5:=Bool×Bool×Bt×Bt×Bt
def Az(g:zc)(b:Nat)(n:N5):Prop:=Blk g b #[.bool n.1,.bool n.2.1,.string n.2.2.1,.string n.2.2.2.1,.string n.2.2.2.2]
structure St5 (h:zc) (M:Fr) (g:zc) (Mg:Fr) (n:N5):Prop where
 L:Later h M g Mg
 no:Mg h.size=Td
 B:Az g h.size n
theorem St5.call{M Mg b:Fr}{n:N5}(S:St5 h M g Mg n)(L:Later g Mg g' b):St5 h M g' b n:=⟨S.L.trans L,by rw[L.old h.size (Blk.lt S.B)];exact S.no,Blk.ofKeep S.B L.keep⟩
theorem St5.put{n b:N5}(S:St5 h M g Mg n)(f:∀j,j≠h.size->g'[j]?=g[j]?)(z:g'.size=g.size)(B:Az g' h.size b):St5 h M g' Mg b:= ⟨⟨⟨by have:=S.L.keep.size;omega,λj i=>(f j (by omega)).trans (S.L.keep.get j i)⟩,S.L.le,S.L.old,λc k e=>by obtain⟨T,m,l⟩:=S.L.ag c k e;grind [no]⟩,S.no,B⟩
theorem V2(n:N5)(b:Bool):Yf M [.pair .bool (.pair .bool (.pair .str (.pair .str .str))),.bool] (n,b) (.tuple #[.agg #[.bool n.1,.bool n.2.1,.string n.2.2.1,.string n.2.2.2.1,.string n.2.2.2.2],.bool b]):=by refine⟨[_,_],⟨_,_,rfl,?_,_,rfl,rdBool _⟩,rfl⟩;unfold RdV;simp only[fe,if_true];exact⟨[_,_,_,_,_],rfl,[_],[_,_,_,_],rfl,rfl,[_],[_,_,_],rfl,rfl,[_],[_,_],rfl,rfl,[_],[_],rfl,rfl,rfl⟩
set_option maxHeartbeats 1000000 in
theorem Vm(gl:Fr)(s0:Bt)(R:((Bool×Bool×Bt×Bt×Bt)×Bool)->Prop) (H:PC Tp gl 237 [Arg.mk .str s0,Arg.mk .str (⟨#[45]⟩:Bt)] [.str,.bool] (λY:Bt×Bool=>PC Tp gl 238 [Arg.mk .str Y.1,Arg.mk .str (⟨#[101,69]⟩:Bt)] [.str,.str,.bool] (λV:Bt×Bt×Bool=>∀az:Bt->Bool->Bool->Bt->Bt->Bt->Prop,(∀x:Bt,∀E:Bool,∀D:Bool,∀ar:Bt,∀au:Bt,∀aA:Bt,(PC Tp gl 238 [Arg.mk .str V.1,Arg.mk .str (⟨#[46]⟩:Bt)] [.str,.str,.bool] (λk:Bt×Bt×Bool=>PC Tp gl 176 [Arg.mk .str k.1] [.bool] (λJ:Bool=>∃aj:Bool->Prop,(((!(!J))&&k.2.2)=Ta->PC Tp gl 176 [Arg.mk .str k.2.1] [.bool] aj)/\∀Q:Bool,(((!(!J))&&k.2.2)=Ta->aj Q)->((bif (!J)then Ta else(bif k.2.2 then(!Q)else Tb))=Ta->R ((E,(D,(k.1,(k.2.1,x)))),Tb))/\((bif (!J)then Ta else(bif k.2.2 then(!Q)else Tb))=Tb->((!((k.1:Bt).toList==((⟨#[48]⟩:Bt):Bt).toList))=Ta->(0<=(0:Int)/\(0:Int)<((k.1).size:Int)))/\R ((E,(D,(k.1,(k.2.1,x)))),bif ((k.1:Bt).toList==((⟨#[48]⟩:Bt):Bt).toList)then Ta else((zf k.1 (0:Int).toNat:Int) != 48))))))->az x E D ar au aA)->(V.2.2=Ta->PC Tp gl 237 [Arg.mk .str V.2.1,Arg.mk .str (⟨#[45]⟩:Bt)] [.str,.bool] (λp:Bt×Bool=>∀U:Bt->Bool->Bool->Bt->Bt->Bt->Prop,(∀m:Bt,∀y:Bool,∀A:Bool,∀t:Bt,∀z:Bt,∀C:Bt,(PC Tp gl 176 [Arg.mk .str m] [.bool] (λae:Bool=>((!ae)=Ta->R ((y,(A,(t,(z,C)))),Tb))/\((!ae)=Tb->az m y A t z C)))->U m y A t z C)->((!p.2)=Ta->PC Tp gl 239 [Arg.mk .str p.1,Arg.mk .str (⟨#[43]⟩:Bt)] [.str] (λaL:Bt=>U aL Y.2 p.2 (⟨#[]⟩:Bt) (⟨#[]⟩:Bt) (⟨#[]⟩:Bt)))/\((!p.2)=Tb->U p.1 Y.2 p.2 (⟨#[]⟩:Bt) (⟨#[]⟩:Bt) (⟨#[]⟩:Bt))))/\(V.2.2=Tb->az V.2.1 Y.2 Tb (⟨#[]⟩:Bt) (⟨#[]⟩:Bt) (⟨#[]⟩:Bt))))):
  PC Tp gl 178 [Arg.mk .str s0] [.pair .bool (.pair .bool (.pair .str (.pair .str .str))),.bool] R:=by
 intro h M vs hM ag ha
 match vs,ha with
 |[u],⟨hu,_⟩=>
 have hu:RdV M .str s0 u:=hu;rw[xt hu];apply PX.of;apply K9 s0;intro h1;have k1:Keep h.size h h1:=Keep.push _ _ (YM _);have b1:Az h1 h.size (Tb,Tb,⟨#[]⟩,⟨#[]⟩,⟨#[]⟩):=Blk.new _ _ _;have L1:Later h M h1 M:=Later.same ag k1;have bG:M h.size=Td:=by
  cases e:M h.size with
  |none=>rfl
  |some c=>have:=ag.lt e;omega
 clear_value h1;have s1:St5 h M h1 M (Tb,Tb,⟨#[]⟩,⟨#[]⟩,⟨#[]⟩):=⟨L1,bG,b1⟩;refine H.go (vs:=[.string s0,.string ⟨#[45]⟩]) hM L1.ag (zm (a:=Arg.mk .str s0) (rdStr _) (zm (a:=Arg.mk .str (⟨#[45]⟩:Bt)) (rdStr _) zz)) λw h3 M3 r1 L3 i H2=>?_;rw[G4 i];refine⟨_,_,rfl,?_⟩;have S3:=s1.call L3;have fin:∀(g:zc) (Mg:Fr) (n:N5) (b:Bool),St5 h M g Mg n->R (n,b)->XRunU Tp (YN 188 (.pointer (Tc ⟨ZK h,0,Td⟩)) (.agg #[.bool n.1,.bool n.2.1,.string n.2.2.1,.string n.2.2.2.1,.string n.2.2.2.2])) g (λak=>∃ai:Bool,∃af:Bool,∃an:Bt,∃am:Bt,∃ah:Bt,zd ak ⟨ZK h,0,Td⟩ 0 [.bool ai,.bool af,.string an,.string am,.string ah]/\∃(M':Fr) (r:fi [.pair .bool (.pair .bool (.pair .str (.pair .str .str))),.bool]),Later h M ak M'/\Yf M' [.pair .bool (.pair .bool (.pair .str (.pair .str .str))),.bool] r (.tuple #[.agg #[.bool ai,.bool af,.string an,.string am,.string ah],.bool b])/\R r):=λg Mg n b S hR=>
  J5 (o:=0) (vs:=[.bool n.1,.bool n.2.1,.string n.2.2.1,.string n.2.2.2.1,.string n.2.2.2.2]) (by kernel_rfl) S.B rfl (by kernel_rfl) (YM _) (λu hu=>by simp at hu;rcases hu with rfl|rfl|rfl|rfl|rfl <;> rfl) λg' q1 q2 q3=>
   have S':St5 h M g' Mg n:=S.put q3 q2 (by rw[Gp (by rfl)]at q1;exact q1)
   ⟨_,_,_,_,_,Blk.ld (cs:=[.bool n.1,.bool n.2.1,.string n.2.2.1,.string n.2.2.2.1,.string n.2.2.2.2]) S'.B,Mg,(n,b),S'.L,V2 n b,hR⟩
 rw[show YK ⟨ZK h,0,Td⟩ 0=⟨h.size,0,Td⟩from rfl];refine yr (by kernel_rfl) (by kernel_rfl) S3.B (o:=0) (by simp) rfl λh6 B6 z6 f6=>?_;have S6:St5 h M h6 M3 (r1.2,Tb,⟨#[]⟩,⟨#[]⟩,⟨#[]⟩):=S3.put f6 z6 B6;refine H2.go (vs:=[.string r1.1,.string ⟨#[101,69]⟩]) (hM.trans L3.le) S6.L.ag (zm (a:=Arg.mk .str r1.1) (rdStr _) (zm (a:=Arg.mk .str (⟨#[101,69]⟩:Bt)) (rdStr _) zz)) λw h8 M8 r2 L8 i H3=>?_;rw[Eo i];refine⟨_,_,_,rfl,?_⟩;have S8:=S6.call L8;intro bh aO;have aU:Fr.le gl M8:=hM.trans S8.L.le;have N:∀{g:zc} {Mg:Fr} {n:N5},St5 h M g Mg n->Fr.le gl Mg:=λS=>hM.trans S.L.le;have aS:∀{Mg:Fr} (s:Bt),RdV Mg .str s (.string s):=λs=>rdStr s;obtain⟨c1,c2⟩:=H3 (λf x0 G x2 x3 x4=>∀g Mg,St5 h M g Mg (x0,G,x2,x3,x4)->bh f g) λf x0 G x2 x3 x4 P g Mg S=>aO f g (by rw[show YK ⟨ZK h,0,Td⟩ 4=⟨h.size,4,Td⟩from rfl];refine yr (by kernel_rfl) (by kernel_rfl) S.B (o:=4) (by simp) rfl λaQ bI bB aV=>?_;have ap:St5 h M aQ Mg (x0,G,x2,x3,f):=S.put aV bB bI;refine P.go (vs:=[.string r2.1,.string ⟨#[46]⟩]) (N ap) ap.L.ag (zm (a:=Arg.mk .str r2.1) (rdStr _) (zm (a:=Arg.mk .str (⟨#[46]⟩:Bt)) (rdStr _) zz)) λw bS aG l bj i P2=>?_;rw[Eo i];refine⟨_,_,_,rfl,?_⟩;have aN:=ap.call bj;rw[show YK ⟨ZK h,0,Td⟩ 2=⟨h.size,2,Td⟩from rfl,show YK ⟨ZK h,0,Td⟩ 3=⟨h.size,3,Td⟩from rfl];refine yr (by kernel_rfl) (by kernel_rfl) aN.B (o:=2) (by simp) rfl λa6 aY br aP=>?_;have aE:St5 h M a6 aG (x0,G,l.1,x3,f):=aN.put aP br aY;refine yr (by kernel_rfl) (by kernel_rfl) aE.B (o:=3) (by simp) rfl λbH aT aZ bC=>?_;have ax:St5 h M bH aG (x0,G,l.1,l.2.1,f):=aE.put bC aZ aT;refine P2.go (vs:=[.string l.1]) (N ax) ax.L.ag (zm (a:=Arg.mk .str l.1) (rdStr _) zz) λw bL a7 aC ba i P3=>?_;obtain⟨bD,hJ,hE⟩:=P3;have Z:=ax.call ba;refine⟨aC,eP i,λv g'=>∃b,v=.bool b/\(∃ab,St5 h M g' ab (x0,G,l.1,l.2.1,f))/\(((!(!aC))&&l.2.2)=Ta->bD b),λI=>(hJ I).go (vs:=[.string l.2.1]) (N Z) Z.L.ag (zm (a:=Arg.mk .str l.2.1) (rdStr _) zz) λw bN bg b a8 i hb=>⟨b,eP i,b,rfl,⟨bg,Z.call a8⟩,λ_=>hb⟩,λI=>⟨Tb,Tb,rfl,⟨a7,Z⟩,λe=>by rw[I]at e;exact nomatch e⟩,λ_ v g' ⟨b,e,_⟩=>⟨b,e⟩,λb g' ⟨b',e,⟨ab,S'⟩,hb⟩=>?_⟩;injection e with e;subst e;obtain⟨e1,e2⟩:=hE b hb;refine⟨λI=>⟨_,_,_,_,_,Blk.ld (cs:=[.bool x0,.bool G,.string l.1,.string l.2.1,.string f]) S'.B,fin g' ab (x0,G,l.1,l.2.1,f) Tb S' (e1 I)⟩,λI=>?_⟩;obtain⟨e3,e4⟩:=e2 I;refine⟨_,_,_,_,_,Blk.ld (cs:=[.bool x0,.bool G,.string l.1,.string l.2.1,.string f]) S'.B,?_⟩;intro bP bQ bO bu;have F:=fin g' ab (x0,G,l.1,l.2.1,f) _ S' e4;have bq:=XRunU.mono F λh' q=>(⟨e3,q⟩:bu h');repeat' first|exact rfl|exact e3|exact F|exact bq|refine⟨?_,?_⟩);refine⟨λhx=>?_,λhx=>c2 hx h8 M8 S8⟩;refine(c1 hx).go (vs:=[.string r2.2.1,.string ⟨#[45]⟩]) aU S8.L.ag (zm (a:=Arg.mk .str r2.2.1) (rdStr _) (zm (a:=Arg.mk .str (⟨#[45]⟩:Bt)) (rdStr _) zz)) λw bM aI aa bJ i H4=>?_;rw[G4 i];refine⟨_,_,rfl,?_⟩;have aF:=S8.call bJ;rw[show YK ⟨ZK h,0,Td⟩ 1=⟨h.size,1,Td⟩from rfl];refine yr (by kernel_rfl) (by kernel_rfl) aF.B (o:=1) (by simp) rfl λaM bA bF be=>?_;have O:St5 h M aM aI (r1.2,aa.2,⟨#[]⟩,⟨#[]⟩,⟨#[]⟩):=aF.put be bF bA;intro a1 aJ;obtain⟨d1,d2⟩:=H4 (λf x0 G x2 x3 x4=>∀g Mg,St5 h M g Mg (x0,G,x2,x3,x4)->a1 f g) λf x0 G x2 x3 x4 P g Mg S=>aJ f g (P.go (vs:=[.string f]) (N S) S.L.ag (zm (a:=Arg.mk .str f) (rdStr _) zz) λw aH aB bE ay i he=>⟨bE,eP i,λI=>⟨_,_,_,_,_,Blk.ld (cs:=[.bool x0,.bool G,.string x2,.string x3,.string x4]) (S.call ay).B,fin aH aB (x0,G,x2,x3,x4) Tb (S.call ay) (he.1 I)⟩,λI=>he.2 I aH aB (S.call ay)⟩);refine⟨aa.2,Blk.cell O.B (o:=1) rfl,λI=>(d1 I).go (vs:=[.string aa.1,.string ⟨#[43]⟩]) (N O) O.L.ag (zm (a:=Arg.mk .str aa.1) (rdStr _) (zm (a:=Arg.mk .str (⟨#[43]⟩:Bt)) (rdStr _) zz)) λw bn bm bo bz i hk=>⟨bo,iP i,hk bn bm (O.call bz)⟩,λI=>d2 I aM aI O⟩
end
end Go.X
end
section
namespace Go.X
open Go Go.Lib
section
variable {n k:Nat} {l s:Bs}
theorem UL{c:UInt8}(b:n<256):c=zas n↔c.toNat=n:=by constructor;simp_all;intro h;rw[<-h];simp
theorem Qw(c:UInt8):∀l:Bs,-1<=indexByte l c/\(0<=indexByte l c↔c∈l)
 |[]=>by simp[indexByte]
 |b::l=>by have e:=Qw c l;unfold indexByte;grind
theorem HY(u:Nat):(decDigits u).length<=u+1:=by rw[decDigits];split;simp;rename_i h;have:=HY (u / 10);simp;omega
theorem itoa_len(n:Int):(itoa n).length<=n.natAbs+2:=by unfold itoa;grind [HY]
theorem dig_ext:∀k:Nat,k<10->(([48,49,50,51,52,53,54,55,56,57]:Bs).drop k).take (k+1-k)=[zas (48+k)]:=by decide
theorem Bz(l:Bs)(c:UInt8):hasPrefix l [c]=(l.head?==Tc c):=by
 cases l with
 |nil=>rfl
 |cons b t=>simp[hasPrefix,List.isPrefixOf];grind
theorem Hq(l:Bs)(c:UInt8):trimPrefix l [c]=if l.head?==Tc c then l.tail else l:=by unfold trimPrefix;rw[Bz];split <;> simp
theorem ED(l:Bs)(c:UInt8):zt (l++[c])=10*zt l+(c.toNat-48):=by simp[zt,List.foldl_append]
theorem xy(b:k<l.length):zt (l.take (k+1))=10*zt (l.take k)+(l[k].toNat-48):=by rw[YP b,ED]
theorem wU{p:UInt8->Bool}(h:l.all p=Ta)(k:Nat):(l.take k).all p=Ta:=by grind
theorem tP(h:l.all qy=Ta)(b:k<l.length):48<=l[k].toNat/\l[k].toNat<=57:=by have:=ZJ.1 h _ (YW b);simpa[qy]using this
theorem Gb:∀(n:Nat) (l:Bs),l.length=n->l.all qy=Ta->zt l<10 ^ n
 |0,l,h,_=>by have:l=[]:=zaa h;subst this;simp[zt]
 |n+1,l,h,hd=>by
  have b:l=l.take (n+1):=by rw[<-h,ZO]
  rw[b,xy (by omega)];have h1:=Gb n (l.take n) (by simp;omega) (wU hd n);grind [tP]
theorem og(b:l.length<=n)(h:l.all qy=Ta):zt l<10 ^ n:= zcc (Gb _ l rfl h) (Nat.pow_le_pow_right (by omega) b)
theorem nS(h:Z4 l=Ta):l.all qy=Ta:=by unfold Z4 at h;simp_all
theorem D5{p q:UInt8->Bool}(h:l.all p=Ta):(l.dropWhile q).all p=Ta:=by rw[ZJ]at h ⊢;exact λx b=>h x ((List.dropWhile_sublist q).mem b)
theorem w8(l:Bs)(q:UInt8->Bool):(l.dropWhile q).length<=l.length:=(List.dropWhile_sublist q).length_le
theorem AW{q:UInt8->Bool}:∀c,(l.dropWhile q).head?=Tc c->q c=Tb:=by
 induction l with
 |nil=>simp
 |cons b t e=>intro c h;rw[List.dropWhile_cons]at h;grind
theorem Qx(h:l.all qy=Ta)(f:l.dropWhile (· == 48)≠[]):Z4 (xx l)=Ta/\(xx l).length<=(l.dropWhile (· == 48)).length/\((xx l).head? != Tc 48)=Ta/\((xx l).getLast? != Tc 48)=Ta:=by
 unfold xx;obtain⟨c,t,i⟩:=za3 f;have n:(c==48)=Tb:=by have:=AW (l:=l) (q:=(· == 48)) c (by rw[i];rfl);simpa using this
 have key:∀(t:Bs),∃u,((c::t).reverse.dropWhile (· == 48)).reverse=c::u:=by
  intro t;rw[List.reverse_cons];have k:∀(r:Bs),∃u,(r++[c]).dropWhile (· == 48)=u++[c]:=by
   intro r;induction r with
   |nil=>simp_all
   |cons b r m=>grind [List.dropWhile_cons]
  obtain⟨u,e⟩:=k t.reverse;exact⟨u.reverse,by rw[e];simp⟩
 rw[i];obtain⟨u,e⟩:=key t;refine⟨?_,?_,?_,?_⟩;rw[Z4,Bool.and_eq_true_iff];grind [D5];rw[List.length_reverse];refine zaj (w8 _ _) ?_;simp;simp_all;grind [AW]
theorem SH(h:l.all qy=Ta)(b:l.dropWhile (· == 48)≠[])(k:l.length<=1000)(neg:Bool)(e:Int):zy (neg,xx l,e)=(decide (-1000000<=e)&&decide (e<=1000000)):=by
 obtain⟨h1,f,n,i⟩:=Qx h b;have m:=w8 l (· == 48);have c:(xx l).isEmpty=Tb:=by rw[Z4]at h1;have:=(Bool.and_eq_true_iff.1 h1).2;simpa using this
 unfold zy Qq;grind
theorem HZ{x:Lit}(h:J4 s=Tc x):Z4 x.whole=Ta/\x.rest.all qy=Ta/\x.exp.all qy=Ta:=by
 obtain⟨b,rfl⟩:=Fa h;unfold gN at b;simp only[ZE]at b;obtain⟨⟨⟨h1,c⟩,e⟩,f⟩:=b;refine⟨c,?_,?_⟩;show(wj s).2.1.all qy=Ta;cases hp:(wj s).2.2 with
 |true=>simp_all[nS]
 |false=>rw[show(wj s).2.1=[]from(xH hp).2];rfl
 show(if(Zh s).2.2 then fJ s else []).all qy=Ta;grind [nS]
theorem vc(p:UInt8->Bool)(l:Bs):(cutAt p l).1.length+(cutAt p l).2.1.length<=l.length:=by
 induction l with
 |nil=>simp[cutAt]
 |cons c t b=>unfold cutAt;grind
theorem uA{x:Lit}(h:J4 s=Tc x):x.whole.length+x.rest.length+x.exp.length<=s.length:=by
 obtain⟨b,rfl⟩:=Fa h;have h1:(gO s).length<=s.length:=by unfold gO;split <;> simp
 have e:=vc jS (gO s);have i:=vc kK (Zh s).1;have c:(fJ s).length<=(Zh s).2.1.length:=by unfold fJ;split;simp;split <;> simp
 have f:(if(Zh s).2.2 then fJ s else []).length<=(Zh s).2.1.length:=by split;exact c;simp
 show(wj s).1.length+(wj s).2.1.length+(if(Zh s).2.2 then fJ s else []).length<=s.length;unfold wj;unfold Zh at *;omega
end
end Go.X
end
section
namespace Go.X
section
variable {gl:Fr} {l s:Bs}
theorem HF(c:UInt8):(((c.toNat:Int)).toNat).toUInt8=c:=by simp
theorem Gf{l sep:Bs}{p:UInt8->Bool}(o:∀c,p c=Ta↔c∈sep)(q:l.length<=4611686018427387904){R:Bt×Bt×Bool->Prop}(h:R (bl (cutAt p l).1,bl (cutAt p l).2.1,(cutAt p l).2.2)):
  PC Tp gl 238 [Arg.mk .str (bl l),Arg.mk .str (bl sep)] [.str,.str,.bool] R:=by
 apply QJ;simp only[zh,qq,qp];refine⟨λi=>∃k:Nat,i=k/\k<=l.length/\∀j (f:j<l.length),j<k->p l[j]=Tb,λi=>l.length-i.toNat,⟨0,rfl,by omega,λj _ h=>by omega⟩,?_⟩;rintro i ⟨k,rfl,u,r⟩;refine⟨λn=>?_,λn=>?_⟩;have b:k<l.length:=by simpa using n
 simp only[YO,jM b];refine⟨by omega,xG ?_⟩;rw[HF,jg];have t:=(Qw l[k] sep).2;rw[qd b q];refine⟨λm=>⟨by omega,by omega,?_⟩,λm=>⟨⟨k+1,rfl,by omega,λj f s=>?_⟩,by simp;omega⟩⟩;have e:p l[k]=Ta:=(o _).2 (t.1 (by simpa using m));rw[qU b (λj f=>r j (by omega) f) e]at h;simp only[YO,Int.toNat_zero,za5,zc7];simp_all[zag];grind;grind [tp,zbx]
theorem Dp{c:UInt8}{R:Bt×Bool->Prop}(h:R (bl (if l.head?==Tc c then l.tail else l),l.head?==Tc c)):PC Tp gl 237 [Arg.mk .str (bl l),Arg.mk .str (bl [c])] [.str,.bool] R:=by refine VQ ?_;rw[jg,jg,Hq,Bz];exact h
theorem MH{c:UInt8}{R:Bt->Prop}(h:R (bl (if l.head?==Tc c then l.tail else l))):PC Tp gl 239 [Arg.mk .str (bl l),Arg.mk .str (bl [c])] [.str] R:=by refine Ib ?_;rw[jg,jg,Hq];exact h
theorem uD{R:Bt->Prop}(h:R (bl (l.dropWhile (· == 48)))):PC Tp gl 179 [Arg.mk .str (bl l),Arg.mk .str (bl [48])] [.str] R:=by refine SY (c:=48) (by decide) ?_;rw[jg];exact h
theorem XQ(b:l.length<=4611686018427387904){R:Bt->Prop}(h:R (bl (l.reverse.dropWhile (· == 48)).reverse)):PC Tp gl 180 [Arg.mk .str (bl l),Arg.mk .str (bl [48])] [.str] R:=by refine Oy (c:=48) (by decide) (by rw[zh];omega) ?_;rw[jg];exact h
theorem SF(S:s.length<=4611686018427387904){R:(Bool×Bool×Bt×Bt×Bt)×Bool->Prop} (h1:gN s=Ta->R (((Jb s).neg,(Jb s).low,bl (Jb s).whole,bl (Jb s).rest,bl (Jb s).exp),Ta)) (E:gN s=Tb->∀a b c d e,R ((a,b,bl c,bl d,bl e),Tb)):
  PC Tp gl 178 [Arg.mk .str (bl s)] [.pair .bool (.pair .bool (.pair .str (.pair .str .str))),.bool] R:=by
 apply Vm;refine Dp (c:=45) ?_;dsimp only;have U:(gO s).length<=s.length:=by unfold gO;split <;> simp
 have H:=vc jS (gO s);refine Gf (l:=gO s) (sep:=[101,69]) (p:=jS) (λc=>by simp[jS]) (by omega) ?_;dsimp only;have L:(Zh s).1.length+(Zh s).2.1.length<=(gO s).length:=H;have o:∀(e:Bs) (low:Bool),((Zh s).2.2=Ta->Z4 (fJ s)=Ta/\low=J3 s/\e=fJ s)->((Zh s).2.2=Tb->low=Tb/\e=[]) ->
   PC Tp gl 238 [Arg.mk .str (bl (Zh s).1),Arg.mk .str (bl [46])] [.str,.str,.bool] (λf:Bt×Bt×Bool=>PC Tp gl 176 [Arg.mk .str f.1] [.bool] (λi:Bool=>∃q:Bool->Prop,(((!(!i))&&f.2.2)=Ta->PC Tp gl 176 [Arg.mk .str f.2.1] [.bool] q) /\ ∀m:Bool,(((!(!i))&&f.2.2)=Ta->q m)->((bif (!i)then Ta else(bif f.2.2 then(!m)else Tb))=Ta->R ((s.head?==Tc 45,(low,(f.1,(f.2.1,bl e)))),Tb)) /\ ((bif (!i)then Ta else(bif f.2.2 then(!m)else Tb))=Tb->((!((f.1:Bt).toList==((⟨#[48]⟩:Bt):Bt).toList))=Ta->(0<=(0:Int)/\(0:Int)<((f.1).size:Int))) /\ R ((s.head?==Tc 45,(low,(f.1,(f.2.1,bl e)))),bif ((f.1:Bt).toList==((⟨#[48]⟩:Bt):Bt).toList)then Ta else((zf f.1 (0:Int).toNat:Int) != 48))))):=by
  intro e low Q k2;have A:(!(Zh s).2.2||Z4 (fJ s))=Ta/\J3 s=low/\(if(Zh s).2.2 then fJ s else [])=e:=by
   cases u:(Zh s).2.2 with
   |true=>simp_all
   |false=>obtain⟨a,b⟩:=k2 u;exact⟨rfl,by unfold J3;rw[u,a];rfl,by simp[b]⟩
  refine Gf (l:=(Zh s).1) (sep:=[46]) (p:=kK) (λc=>by simp[kK]) (by omega) ?_;refine tz ⟨λx=>Z4 (wj s).2.1=x,λ_=>tz rfl,λy G=>?_⟩;dsimp only;simp only[show(⟨#[48]⟩:Bt)=bl [48]from rfl,gu,zh,qq];change (_->Z4 (wj s).2.1=y)at G;show((bif (!Z4 (wj s).1)then Ta else(bif (wj s).2.2 then(!y)else Tb))=Ta->R ((s.head?==Tc 45,(low,(bl (wj s).1,(bl (wj s).2.1,bl e)))),Tb)) /\ ((bif (!Z4 (wj s).1)then Ta else(bif (wj s).2.2 then(!y)else Tb))=Tb->((!decide ((wj s).1=[48]))=Ta->(0<=(0:Int)/\(0:Int)<((wj s).1.length:Int))) /\ R ((s.head?==Tc 45,(low,(bl (wj s).1,(bl (wj s).2.1,bl e)))),bif decide ((wj s).1=[48])then Ta else(((((wj s).1[(0:Int).toNat]?).getD 0).toNat:Int) != 48)));have P:Z4 (wj s).1=Ta->(wj s).2.2=Ta->Z4 (wj s).2.1=y:=λa b=>G (by show((!(!Z4 (wj s).1))&&(wj s).2.2)=Ta;rw[a,b];rfl);refine⟨λr=>E ?_ _ _ _ _ _,λr=>⟨λ_=>?_,?_⟩⟩;unfold gN;grind;all_goals
   have B:Z4 (wj s).1=Ta:=by
    cases B:Z4 (wj s).1 with
    |true=>rfl
    |false=>simp_all
   have O:=W8 B
  omega;have M:(!(wj s).2.2||Z4 (wj s).2.1)=Ta:=by
   cases hw:(wj s).2.2 with
   |false=>rfl
   |true=>simp_all
  have J:(bif decide ((wj s).1=[48])then Ta else(((((wj s).1[(0:Int).toNat]?).getD 0).toNat:Int) != 48))=((wj s).1==[48]||(wj s).1.head? != Tc 48):=by rw[show(0:Int).toNat=0 from rfl,tT O,zby,ZR];simp
  have w:gN s=((wj s).1==[48]||(wj s).1.head? != Tc 48):=by unfold gN;rw[A.1,B,M];simp
  rw[J];cases ho:((wj s).1==[48]||(wj s).1.head? != Tc 48)with
  |true=>have:=h1 (w.trans ho);unfold Jb at this;simp_all
  |false=>grind
 intro K F;refine⟨λu=>?_,λu=>?_⟩;have t:(Zh s).2.2=Ta:=u;refine Dp (c:=45) (l:=(Zh s).2.1) ?_;dsimp only;intro I C;have step:∀low e,low=J3 s->e=fJ s->I (bl e) (s.head?==Tc 45) low (bl []) (bl []) (bl []):=by intro low e z D;refine C _ _ _ _ _ _ (tz ⟨λr=>?_,λr=>?_⟩);refine E ?_ _ _ [] [] [];unfold gN;grind;refine F _ _ _ _ _ _ (o e low (λ_=>⟨by grind,z,D⟩) λh=>by grind)
 have n:J3 s=((Zh s).2.1.head?==Tc 45):=by unfold J3;rw[t];rfl
 refine⟨λr=>?_,λr=>?_⟩;have k:((Zh s).2.1.head?==Tc 45)=Tb:=by simpa using r
 rw[k];refine MH (c:=43) ?_;simp only[zaz,if_false];refine step Tb _ (by rw[n,k]) ?_;unfold fJ;grind;have k:((Zh s).2.1.head?==Tc 45)=Ta:=by simpa using r
 rw[k];simp only[if_true];refine step Ta _ (by rw[n,k]) ?_;unfold fJ;grind;have t:(Zh s).2.2=Tb:=u;have N:(Zh s).2.1=[]:=(xH t).2;have:=o [] Tb (λh=>by grind) λ_=>⟨rfl,rfl⟩;show K (bl (Zh s).2.1) _ _ _ _ _;rw[N];exact F _ _ _ _ _ _ this
theorem TP{α β γ δ:Type}{B:α->β->γ->δ->Prop}{c:Bool}{a b:α}{x:β}{y:γ}{z:δ}(h:∀e,e=(bif c then a else b)->B e x y z):∀K:α->β->γ->δ->Prop,(∀e x y z,B e x y z->K e x y z)->(c=Ta->K a x y z)/\(c=Tb->K b x y z):= λK i=>⟨λf=>i _ _ _ _ (h _ (by subst f;rfl)),λf=>i _ _ _ _ (h _ (by subst f;rfl))⟩
theorem cR{n:Int}(h:-4611686018427387904<=n/\n<=4611686018427387904):YJ .i64 n=n:=wrap64 (by omega) (by omega)
set_option maxHeartbeats 1000000 in
theorem od(Z:s.length<=1152921504606846976){R:(Bool×Bt×Int)×Int->Prop}(h:R (eT (zo s).1,(zo s).2)):PC Tp gl 107 [Arg.mk .str (bl s)] [tN,.int .i64] R:=by
 apply SB;refine SF (by omega) (λm=>?_) (λm a b c d e=>?_);rotate_left;refine uD ⟨λ_=>?_,λq=>by cases q⟩;have:J4 s=Td:=by unfold J4;simp[m]
 unfold zo at h;simp_all;have f:J4 s=Tc (Jb s):=by unfold J4;simp[m]
 have G:=uA f;obtain⟨N,J,H⟩:=HZ f;unfold zo at h;rw[f]at h;simp only at h;generalize Jb s=x at *;refine uD ⟨λq=>(by cases q),λ_=>?_⟩;simp only[zh];rw[cR (by omega)];refine⟨λq=>?_,λq=>?_⟩;grind;rw[za (by grind)]at h;refine⟨λt=>?_,λt=>?_⟩;grind;rw[za (by grind)]at h;have I:x.whole.length+x.rest.length<=1000:=by simp at q;omega
 have S:x.exp.all qy=Ta:=H;generalize P:x.exp.dropWhile (· == 48)=E at *;have o:E.all qy=Ta:=by rw[<-P];exact D5 H
 have A:E.length<=9:=by simp at t;omega
 have Q:zt E<10 ^ 9:=og A o;refine⟨λe _ _ _ p=>p.1=bl E/\p.2<=E.length/\e=(zt (E.take p.2):Int),λ_ _ _ _ p=>E.length-p.2,⟨rfl,by omega,by simp[zt]⟩,?_⟩;rintro e b1 b2 b3 ⟨_,p⟩ ⟨rfl,O,rfl⟩;simp only at O ⊢;rw[pA,rW];refine⟨λw=>⟨w,?_⟩,λw=>?_⟩;have i:p<E.length:=by simpa using w
 have Y:=tP o i;have D:E.drop p=E[p]::E.drop (p+1):=ZM i;rw[mU E p i,D,pN (by omega)];have U:=og (n:=9) (l:=E.take p) (by simp;omega) (wU o p);rw[Qm (by omega) (by omega),cR (n:=10*_) (by omega),cR (n:=(_:Int)-48) (by omega),cR (by omega)];simp only;refine⟨⟨trivial,by omega,?_⟩,by omega⟩;rw[xy i];omega;have i:¬p<E.length:=by simpa using w
 have y:p=E.length:=by omega
 subst y;rw[ZO];apply TP;intro r z;refine⟨by unfold jq;omega,?_⟩;rw[wn];refine uD ?_;rw[show(⟨#[]⟩:Bt)=bl []from rfl];simp only[gu];have F:(x.whole++x.rest).all qy=Ta:=by rw[zbq,nS N,J];rfl
 refine⟨λu=>?_,λu=>?_⟩;simp_all;have k:(x.whole++x.rest).dropWhile (· == 48)≠[]:=by simpa using u
 rw[za k]at h;have C:=w8 (x.whole++x.rest) (· == 48);rw[ZC]at C;refine XQ (by omega) ?_;have M:=(Qx F k).2.1;have L:=SH F k (by simp_all);simp only[zh,show((List.dropWhile (λx=>x==48) (x.whole++x.rest)).reverse.dropWhile (λx=>x==48)).reverse=xx (x.whole++x.rest)from rfl];have B:r=if x.low then-(zt E:Int)else(zt E:Int):=by rw[z];cases x.low <;> simp;exact cR (by omega)
 have V:-1000000000<=r/\r<=1000000000:=by rw[B];split <;> omega
 rw[cR (n:=r-_) (by omega),cR (n:=r-_+_) (by omega),cR (by omega)];refine nm (n:=(x.neg,xx (x.whole++x.rest),r-(x.rest.length:Int)+(((x.whole++x.rest).dropWhile (· == 48)).length:Int)-((xx (x.whole++x.rest)).length:Int))) (by grind) ?_;grind
end
section
theorem Ie(n0:Int)(h:zc)(R:Value->zc->Prop) (H:((bif (decide (n0>=0))then(decide (n0<10))else Tb)=Ta->(0<=n0/\n0<=(YJ .i64 (n0+1))/\(YJ .i64 (n0+1))<=(((⟨#[48,49,50,51,52,53,54,55,56,57]⟩:Bt)).size:Int))/\R (.string (((⟨#[48,49,50,51,52,53,54,55,56,57]⟩:Bt)).extract n0.toNat (YJ .i64 (n0+1)).toNat)) h)/\((bif (decide (n0>=0))then(decide (n0<10))else Tb)=Tb->(decide (n0>0)=Ta->zat=zat/\(10:Int)≠0/\zat=zat/\(10:Int)≠0/\zat=zat/\(10:Int)≠0/\(0<=(n0.tmod 10:Int)/\(n0.tmod 10:Int)<=(YJ .i64 ((n0.tmod 10)+1))/\(YJ .i64 ((n0.tmod 10)+1))<=(((⟨#[48,49,50,51,52,53,54,55,56,57]⟩:Bt)).size:Int))/\XC Tp 164 #[iV (YJ .i64 (n0.tdiv 10))] h (λa b=>∃c,a=.string c/\jq (c.size+(((⟨#[48,49,50,51,52,53,54,55,56,57]⟩:Bt)).extract (n0.tmod 10:Int).toNat (YJ .i64 ((n0.tmod 10)+1)).toNat).size)/\R (.string (c++(((⟨#[48,49,50,51,52,53,54,55,56,57]⟩:Bt)).extract (n0.tmod 10:Int).toNat (YJ .i64 ((n0.tmod 10)+1)).toNat))) b))/\(decide (n0>0)=Tb->(decide (n0>(-10))=Ta->(0<=(YJ .i64 (0-n0))/\(YJ .i64 (0-n0))<=(YJ .i64 ((YJ .i64 (0-n0))+1))/\(YJ .i64 ((YJ .i64 (0-n0))+1))<=(((⟨#[48,49,50,51,52,53,54,55,56,57]⟩:Bt)).size:Int))/\jq (((⟨#[45]⟩:Bt)).size+(((⟨#[48,49,50,51,52,53,54,55,56,57]⟩:Bt)).extract (YJ .i64 (0-n0)).toNat (YJ .i64 ((YJ .i64 (0-n0))+1)).toNat).size)/\R (.string ((⟨#[45]⟩:Bt)++(((⟨#[48,49,50,51,52,53,54,55,56,57]⟩:Bt)).extract (YJ .i64 (0-n0)).toNat (YJ .i64 ((YJ .i64 (0-n0))+1)).toNat))) h)/\(decide (n0>(-10))=Tb->zat=zat/\(10:Int)≠0/\zat=zat/\(10:Int)≠0/\zat=zat/\(10:Int)≠0/\let d:Bt->zc->Prop:=λe (f:zc)=>(R (.string e) f);let g:Bt->zc->Prop:=λi (j:zc)=>((0<=(YJ .i64 (0-(n0.tmod 10)))/\(YJ .i64 (0-(n0.tmod 10)))<=(YJ .i64 ((YJ .i64 (0-(n0.tmod 10)))+1))/\(YJ .i64 ((YJ .i64 (0-(n0.tmod 10)))+1):Int)<=(((⟨#[48,49,50,51,52,53,54,55,56,57]⟩:Bt)).size:Int))/\jq (i.size+(((⟨#[48,49,50,51,52,53,54,55,56,57]⟩:Bt)).extract (YJ .i64 (0-(n0.tmod 10))).toNat (YJ .i64 ((YJ .i64 (0-(n0.tmod 10)))+1):Int).toNat).size)/\d (i++(((⟨#[48,49,50,51,52,53,54,55,56,57]⟩:Bt)).extract (YJ .i64 (0-(n0.tmod 10))).toNat (YJ .i64 ((YJ .i64 (0-(n0.tmod 10)))+1):Int).toNat)) j);let k:Bt->zc->Prop:=λl (m:zc)=>((0<=(YJ .i64 (0-(n0.tmod 10)))/\(YJ .i64 (0-(n0.tmod 10)))<=(YJ .i64 ((YJ .i64 (0-(n0.tmod 10)))+1))/\(YJ .i64 ((YJ .i64 (0-(n0.tmod 10)))+1):Int)<=(((⟨#[48,49,50,51,52,53,54,55,56,57]⟩:Bt)).size:Int))/\jq (l.size+(((⟨#[48,49,50,51,52,53,54,55,56,57]⟩:Bt)).extract (YJ .i64 (0-(n0.tmod 10))).toNat (YJ .i64 ((YJ .i64 (0-(n0.tmod 10)))+1):Int).toNat).size)/\d (l++(((⟨#[48,49,50,51,52,53,54,55,56,57]⟩:Bt)).extract (YJ .i64 (0-(n0.tmod 10))).toNat (YJ .i64 ((YJ .i64 (0-(n0.tmod 10)))+1):Int).toNat)) m);let n:zc->Prop:=λ(o:zc)=>(XC Tp 164 #[iV (YJ .i64 (n0.tdiv 10))] o (λp q=>∃r,p=.string r/\jq (r.size+(((⟨#[48,49,50,51,52,53,54,55,56,57]⟩:Bt)).extract (YJ .i64 (0-(n0.tmod 10))).toNat (YJ .i64 ((YJ .i64 (0-(n0.tmod 10)))+1):Int).toNat).size)/\d (r++(((⟨#[48,49,50,51,52,53,54,55,56,57]⟩:Bt)).extract (YJ .i64 (0-(n0.tmod 10))).toNat (YJ .i64 ((YJ .i64 (0-(n0.tmod 10)))+1):Int).toNat)) q));(XC Tp 164 #[iV (YJ .i64 (n0.tdiv 10))] h (λs t=>∃u,s=.string u/\(g u t)/\(k u t)))/\((XC Tp 164 #[iV (YJ .i64 (n0.tdiv 10))] h (λv w=>∃x,v=.string x/\g x w))/\((0<=(YJ .i64 (0-(n0.tmod 10)))/\(YJ .i64 (0-(n0.tmod 10)))<=(YJ .i64 ((YJ .i64 (0-(n0.tmod 10)))+1))/\(YJ .i64 ((YJ .i64 (0-(n0.tmod 10)))+1):Int)<=(((⟨#[48,49,50,51,52,53,54,55,56,57]⟩:Bt)).size:Int))/\n h))/\((XC Tp 164 #[iV (YJ .i64 (n0.tdiv 10))] h (λy z=>∃A,y=.string A/\k A z))/\((0<=(YJ .i64 (0-(n0.tmod 10)))/\(YJ .i64 (0-(n0.tmod 10)))<=(YJ .i64 ((YJ .i64 (0-(n0.tmod 10)))+1))/\(YJ .i64 ((YJ .i64 (0-(n0.tmod 10)))+1):Int)<=(((⟨#[48,49,50,51,52,53,54,55,56,57]⟩:Bt)).size:Int))/\n h)))))):
  XC Tp 164 #[.int .i64 n0] h R:=
 XF ⟨[(5,8000),(8,8000)],[],[]⟩ [.tmp 2] 51 Tryz.func164 H
theorem Vh(s0:Bt)(h:zc)(R:Value->zc->Prop) (H:let a:=h.push (.cells #[.bool Tb,.string (⟨#[]⟩:Bt),iV 0] 78);XC Tp 231 #[.string s0] a (λb c=>∃d e f g,b=.tuple #[.agg #[.bool d,.string e,iV f],iV g]/\let i:=c.push (.cells #[.bool Tb,.string (⟨#[]⟩:Bt),iV 0] 78);XRunU Tp (YN 78 (.pointer (Tc ⟨c.size,0,Td⟩)) (.agg #[.bool d,.string e,iV f])) i (λj=>∃k l m,zd j ⟨c.size,0,Td⟩ 0 [.bool k,.string l,iV m]/\let n:Bool->zc->Prop:=λo (p:zc)=>(∃q r s,zd p ⟨h.size,0,Td⟩ 0 [.bool q,.string r,iV s]/\R (.tuple #[.agg #[.bool q,.string r,iV s],.bool o]) p);let t:Bool->zc->Prop:=λu (v:zc)=>(n (bif (g==0)then u else Tb) v);let w:Bt->zc->Prop:=λx (y:zc)=>(t (x.toList==s0.toList) y);let z:Bt->zc->Prop:=λA (B:zc)=>(((B)[(⟨c.size,0,Td⟩:Addr).block]?=(j)[(⟨c.size,0,Td⟩:Addr).block]?/\((B)[(⟨c.size,0,Td⟩:Addr).block]?=(j)[(⟨c.size,0,Td⟩:Addr).block]?/\XRunU Tp (YN 78 (.pointer (Tc ⟨h.size,0,Td⟩)) (.agg #[.bool k,.string l,iV m])) B (λC=>n (bif (g==0)then(A.toList==s0.toList)else Tb) C))/\(XRunU Tp (YN 78 (.pointer (Tc ⟨h.size,0,Td⟩)) (.agg #[.bool k,.string l,iV m])) B (λD=>t (A.toList==s0.toList) D)))/\(XRunU Tp (YN 78 (.pointer (Tc ⟨h.size,0,Td⟩)) (.agg #[.bool k,.string l,iV m])) B (λE=>w A E)));let F:Bool->Bt->Int->zc->Prop:=λG I J (L:zc)=>(∃M:Value->zc->Prop,((g==0)=Ta->XC Tp 278 #[.agg #[.bool G,.string I,iV J]] L (λN O=>∃P,N=.string P/\M (.string P) O))/\((g==0)=Tb->∃Q,M (.string Q) L)/\((g==0)=Ta->∀S T,M S T->∃U,S=.string U)/\∀V:Bt,∀W,M (.string V) W->(W)[(⟨c.size,0,Td⟩:Addr).block]?=(j)[(⟨c.size,0,Td⟩:Addr).block]?/\z V W);(∃X Y Z,((g==0)=Ta->zd j ⟨c.size,0,Td⟩ 0 [.bool X,.string Y,iV Z])/\(j)[(⟨c.size,0,Td⟩:Addr).block]?=(j)[(⟨c.size,0,Td⟩:Addr).block]?/\(∃aa:Value->zc->Prop,((g==0)=Ta->XC Tp 278 #[.agg #[.bool X,.string Y,iV Z]] j (λab ac=>∃ad,ab=.string ad/\aa (.string ad) ac))/\((g==0)=Tb->∃ae,aa (.string ae) j)/\((g==0)=Ta->∀af ag,aa af ag->∃ah,af=.string ah)/\∀ai:Bt,∀aj,aa (.string ai) aj->(aj)[(⟨c.size,0,Td⟩:Addr).block]?=(j)[(⟨c.size,0,Td⟩:Addr).block]?/\((aj)[(⟨c.size,0,Td⟩:Addr).block]?=(j)[(⟨c.size,0,Td⟩:Addr).block]?/\z ai aj)/\(XRunU Tp (YN 78 (.pointer (Tc ⟨h.size,0,Td⟩)) (.agg #[.bool k,.string l,iV m])) aj (λak=>w ai ak)))/\((j)[(⟨c.size,0,Td⟩:Addr).block]?=(j)[(⟨c.size,0,Td⟩:Addr).block]?/\F X Y Z j))/\((j)[(⟨c.size,0,Td⟩:Addr).block]?=(j)[(⟨c.size,0,Td⟩:Addr).block]?/\∃al am an,((g==0)=Ta->zd j ⟨c.size,0,Td⟩ 0 [.bool al,.string am,iV an])/\(j)[(⟨c.size,0,Td⟩:Addr).block]?=(j)[(⟨c.size,0,Td⟩:Addr).block]?/\F al am an j)))):
  XC Tp 224 #[.string s0] h R:=
 XF ⟨[(2,8000)],[],[]⟩ [.cell 2 78,.tmp 3] 20 Tryz.func224 H
theorem Oj(b:Bt)(c:Sl)(t:Int)(h:zc)(R:Value->zc->Prop) (H:let d:=h.push (.cells #[.string b,aK c] 114);∃e f,zd d ⟨h.size,0,Td⟩ 0 [.string e,aK f]/\∃g,ze d (YK ⟨h.size,0,Td⟩ 1)=Tc (aK g)/\∃i,(g.a=Tc i/\0<=t/\t<g.len)/\∃j k,zd d (YK (i.add (t.toNat*7)) 3) 0 [iV j,iV k]/\XC Tp 149 #[.agg #[.string e,aK f],.agg #[iV j,iV k]] d (λl m=>∃n,l=.string n/\XC Tp 126 #[.string n] m (λo p=>∃q r s,o=.tuple #[.string q,iV r,iV s]/\R (.string q) p))):
  XC Tp 150 #[.agg #[.string b,.slice c.a c.len c.cap],.int .i64 t] h R:=
 XF ⟨[(1,8000)],[],[]⟩ [.tmp 4] 22 Tryz.func150 H
theorem JC(b:Int)(c:Bt)(d:Sl)(e:Sl)(h:zc)(R:Value->zc->Prop) (H:let f:=h.push (.cells #[iV b,.string c,aK d,aK e] 25);let g:=f.push (.cells tC 25);∀i:Addr->zc->Prop,(∀j:Addr,∀k:zc,(∃(l:Int->zc->Prop) (m:Int->zc->Nat),l 0 k/\∀n:Int,∀o:zc,l n o->(∃p,ze o (YK ⟨h.size,0,Td⟩ 3)=Tc (aK p)/\(decide (n<p.len)=Ta->∃q,ze o (YK j 3)=Tc (aK q)/\∃r,ze o (YK ⟨h.size,0,Td⟩ 3)=Tc (aK r)/\∃s,(r.a=Tc s/\0<=n/\n<r.len)/\∃t u v w,zd o (s.add (n.toNat*4)) 0 (tL t u v w)/\XC Tp 13 #[tA t u v w] o (λx y=>∃z A B C,x=tA z A B C/\(y)[((YK j 3):Addr).block]?=(o)[((YK j 3):Addr).block]?/\let D:=y.push (.cells #[iV z,.string A,aK B,aK C] 25);(D)[((YK j 3):Addr).block]?=(o)[((YK j 3):Addr).block]?/\xd Tp (YY #[23,23] 23 #[aK q,.slice (Tc ⟨y.size,0,Td⟩) 1 1]) D (λE F=>∃G,E=aK G/\XRunU Tp (YN 23 (.pointer (Tc (YK j 3))) (aK G)) F (λI=>(l (YJ .i64 (n+1)) I/\m (YJ .i64 (n+1)) I<m n o)))))/\(decide (n<p.len)=Tb->∃J L M N,zd o j 0 (tL J L M N)/\XRunU Tp (YN 25 (.pointer (Tc ⟨f.size,0,Td⟩)) (tA J L M N)) o (λO=>∃P Q S T,zd O ⟨f.size,0,Td⟩ 0 (tL P Q S T)/\R (tA P Q S T) O))))->i j k)->∃U,ze g (YK ⟨h.size,0,Td⟩ 0)=Tc (iV U)/\∃V,ze g (YK ⟨h.size,0,Td⟩ 1)=Tc (.string V)/\∃W,ze g (YK ⟨h.size,0,Td⟩ 2)=Tc (aK W)/\let X:Addr->Sl->zc->Prop:=λ(Y:Addr) (Z:Sl) (aa:zc)=>(XRunU Tp (YN 25 (.pointer (Tc Y)) (.agg #[iV U,.string V,aK Z,.slice Td 0 0])) aa (λab=>i Y ab));let ac:Addr->Sl->zc->Prop:=λ(ae:Addr) (af:Sl) (ag:zc)=>(X ae af ag);let ah:Addr->Sl->zc->Prop:=λ(ai:Addr) (aj:Sl) (ak:zc)=>(xd Tp (YY #[22,22] 22 #[aK aj,aK W]) ak (λal am=>∃an,al=aK an/\(am)[((YK ⟨h.size,0,Td⟩ 1):Addr).block]?=(g)[((YK ⟨h.size,0,Td⟩ 1):Addr).block]?/\(am)[((YK ⟨h.size,0,Td⟩ 0):Addr).block]?=(g)[((YK ⟨h.size,0,Td⟩ 0):Addr).block]?/\ac ai an am));(let ao:=g.push (.cells #[] 9);(ao)[((YK ⟨h.size,0,Td⟩ 2):Addr).block]?=(g)[((YK ⟨h.size,0,Td⟩ 2):Addr).block]?/\(ao)[((YK ⟨h.size,0,Td⟩ 1):Addr).block]?=(g)[((YK ⟨h.size,0,Td⟩ 1):Addr).block]?/\(ao)[((YK ⟨h.size,0,Td⟩ 0):Addr).block]?=(g)[((YK ⟨h.size,0,Td⟩ 0):Addr).block]?/\(xd Tp (YY #[22,22] 22 #[.slice (Tc ⟨g.size,0,Td⟩) 0 0,aK W]) ao (λap aq=>∃ar,ap=aK ar/\(aq)[((YK ⟨h.size,0,Td⟩ 1):Addr).block]?=(g)[((YK ⟨h.size,0,Td⟩ 1):Addr).block]?/\(aq)[((YK ⟨h.size,0,Td⟩ 0):Addr).block]?=(g)[((YK ⟨h.size,0,Td⟩ 0):Addr).block]?/\(let au:=aq.push (.cells tC 25);X ⟨aq.size,0,Td⟩ ar au)/\(let av:=aq.push (.cells tC 25);(av)[((YK ⟨h.size,0,Td⟩ 1):Addr).block]?=(g)[((YK ⟨h.size,0,Td⟩ 1):Addr).block]?/\(av)[((YK ⟨h.size,0,Td⟩ 0):Addr).block]?=(g)[((YK ⟨h.size,0,Td⟩ 0):Addr).block]?/\ac ⟨aq.size,0,Td⟩ ar av)))/\(let aw:=ao.push (.cells tC 25);(aw)[((YK ⟨h.size,0,Td⟩ 2):Addr).block]?=(g)[((YK ⟨h.size,0,Td⟩ 2):Addr).block]?/\(aw)[((YK ⟨h.size,0,Td⟩ 1):Addr).block]?=(g)[((YK ⟨h.size,0,Td⟩ 1):Addr).block]?/\(aw)[((YK ⟨h.size,0,Td⟩ 0):Addr).block]?=(g)[((YK ⟨h.size,0,Td⟩ 0):Addr).block]?/\ah ⟨ao.size,0,Td⟩ (⟨Tc ⟨g.size,0,Td⟩,0,0⟩:Sl) aw))/\(let ax:=g.push (.cells tC 25);(ax)[((YK ⟨h.size,0,Td⟩ 2):Addr).block]?=(g)[((YK ⟨h.size,0,Td⟩ 2):Addr).block]?/\(ax)[((YK ⟨h.size,0,Td⟩ 1):Addr).block]?=(g)[((YK ⟨h.size,0,Td⟩ 1):Addr).block]?/\(ax)[((YK ⟨h.size,0,Td⟩ 0):Addr).block]?=(g)[((YK ⟨h.size,0,Td⟩ 0):Addr).block]?/\let ay:=ax.push (.cells #[] 9);(ay)[((YK ⟨h.size,0,Td⟩ 2):Addr).block]?=(g)[((YK ⟨h.size,0,Td⟩ 2):Addr).block]?/\(ay)[((YK ⟨h.size,0,Td⟩ 1):Addr).block]?=(g)[((YK ⟨h.size,0,Td⟩ 1):Addr).block]?/\(ay)[((YK ⟨h.size,0,Td⟩ 0):Addr).block]?=(g)[((YK ⟨h.size,0,Td⟩ 0):Addr).block]?/\ah ⟨g.size,0,Td⟩ (⟨Tc ⟨ax.size,0,Td⟩,0,0⟩:Sl) ay)):
  XC Tp 13 #[.agg #[.int .i64 b,.string c,.slice d.a d.len d.cap,.slice e.a e.len e.cap]] h R:=
 XF ⟨[(5,8000),(1,8000)],[(3,[(4,.one (.int .i64))])],[(2,[(3,.one (.ad))])]⟩ [.cell 2 25] 33 Tryz.func13 H
end
end Go.X
end
section
namespace Go.X
open Go Go.X Go.Proofs Go.Lib
set_option maxHeartbeats 1000000 in
section
theorem Pw(gl:Fr)(n:Bt)(R:((Bool×Bt×Int)×Bool)->Prop) (H:PC Tp gl 231 [Arg.mk .str n] [.pair .bool (.pair .str (.int .i64)),.int .i64] (λb:(Bool×Bt×Int)×Int=>∃C:Bt->Prop,(((b.2:Int)==0)=Ta->PC Tp gl 278 [Arg.mk (.pair .bool (.pair .str (.int .i64))) (b.1.1,(b.1.2.1,b.1.2.2))] [.str] C) /\ ∀D:Bt,(((b.2:Int)==0)=Ta->C D)->R ((b.1.1,(b.1.2.1,b.1.2.2)),bif ((b.2:Int)==0)then((D:Bt).toList==(n:Bt).toList)else Tb))):
    PC Tp gl 224 [Arg.mk .str n] [.pair .bool (.pair .str (.int .i64)),.bool] R:=by
  intro h M vs Z ag ha
  match vs,ha with
  |[u],⟨O,_⟩=>
  have O:RdV M .str n u:=O;rw[xt O];apply PX.of;apply Vh n;intro h1;obtain⟨k1,z1,b1⟩:=jo (g:=h1) rfl;clear_value h1;have L1:Later h M h1 M:=Later.same ag k1;refine H.go (vs:=[.string n]) Z L1.ag (zm (a:=Arg.mk .str n) (rdStr _) zz) λw q U r y l hr=>?_;obtain⟨J,hJ,hR⟩:=hr;rw[EC l];refine⟨_,_,_,_,rfl,?_⟩;have z3:=y.keep.size;refine qK (cs:=#[.bool Tb,.string ⟨#[]⟩,.int .i64 0]) (Blk.new _ _ _) rfl (by kernel_rfl) (by kernel_rfl) λp f9 z9 F=>?_;rw[ZI]at z9;have k9:Keep q.size q p:=⟨by omega,λj Q=>(f9 j (by omega)).trans ((Keep.push q _ (YM _)).get j Q)⟩;have G:Later h M p U:=(L1.trans y).trans (Later.same y.ag k9);have A:U h.size=Td:=by
    rw[y.old h.size (by omega)];cases e:M h.size with
    |none=>rfl
    |some c=>have:=ag.lt e;omega
  have V:Blk p h.size #[.bool Tb,.string ⟨#[]⟩,.int .i64 0]:=(b1.ofKeep y.keep).ofKeep k9;refine⟨r.1.1,r.1.2.1,r.1.2.2,F.ld (cs:=[.bool r.1.1,.string r.1.2.1,.int .i64 r.1.2.2]),?_⟩;intro Y ab aa N S;have fin:∀(g:zc) (Mg:Fr) (x:Bt),Later h M g Mg->Mg h.size=Td->(∃cs,Blk g h.size cs/\cs.size=3)->(((r.2:Int)==0)=Ta->J x) ->
      XRunU Tp (YN 78 (.pointer (Tc ⟨ZK h,0,Td⟩)) (.agg #[.bool r.1.1,.string r.1.2.1,.int .i64 r.1.2.2])) g (λg'=>Y (bif ((r.2:Int)==0)then((x:Bt).toList==(n:Bt).toList)else Tb) g'):=λg Mg x L o ⟨cs,B,hc⟩ k=>
    qK B hc (by kernel_rfl) (by kernel_rfl) λg' f z B'=>⟨_,_,_,B'.ld (cs:=[.bool r.1.1,.string r.1.2.1,.int .i64 r.1.2.2]),Mg,((r.1.1,(r.1.2.1,r.1.2.2)),_),⟨⟨by have:=L.keep.size;omega,λj Q=>(f j (by omega)).trans (L.keep.get j Q)⟩,L.le,L.old,λc cc e=>by obtain⟨T,m,e2⟩:=L.ag c cc e;grind⟩,HU _ _ _ _,hR x k⟩
  have P:∀(g:zc) (Mg:Fr) (x:Bt),Later h M g Mg->Mg h.size=Td->(∃cs,Blk g h.size cs/\cs.size=3)->(((r.2:Int)==0)=Ta->J x)->g[q.size]?=p[q.size]?->N x g:=λg Mg x L o B k s=>⟨⟨s,⟨s,fin g Mg x L o B k⟩,fin g Mg x L o B k⟩,fin g Mg x L o B k⟩;let E:Value->zc->Prop:=λv g=>∃x:Bt,v=.string x/\(∃Mg,Later h M g Mg/\Mg h.size=Td/\(∃cs,Blk g h.size cs/\cs.size=3)/\g[q.size]?=p[q.size]?)/\(((r.2:Int)==0)=Ta->J x);have call:((r.2:Int)==0)=Ta->XC Tp 278 #[.agg #[.bool r.1.1,.string r.1.2.1,.int .i64 r.1.2.2]] p (λv g=>∃x:Bt,v=.string x/\E (.string x) g):=λe=>
    (hJ e).go (vs:=[.agg #[.bool r.1.1,.string r.1.2.1,.int .i64 r.1.2.2]]) (Z.trans G.le) G.ag (zm (a:=Arg.mk (.pair .bool (.pair .str (.int .i64))) (r.1.1,(r.1.2.1,r.1.2.2))) (sG _ _ _) zz) λw g Mg x I l k=>
      ⟨x,iP l,x,rfl,⟨Mg,G.trans I,by rw[I.old h.size V.lt];exact A,⟨_,V.ofKeep I.keep,rfl⟩,I.keep.get _ F.lt⟩,λ_=>k⟩
  have i:((r.2:Int)==0)=Tb->∃x:Bt,E (.string x) p:=λe=>⟨⟨#[]⟩,⟨#[]⟩,rfl,⟨U,G,A,⟨_,V,rfl⟩,rfl⟩,λe'=>by simp_all⟩;have t:S r.1.1 r.1.2.1 r.1.2.2 p:=⟨E,call,i,λ_ v g ⟨x,e,_⟩=>⟨x,e⟩,λx g ⟨x',e,⟨Mg,L,o,B,s⟩,k⟩=>by injection e with e;subst e;grind⟩;refine⟨⟨_,_,_,λ_=>F.ld (cs:=[.bool r.1.1,.string r.1.2.1,.int .i64 r.1.2.2]),rfl,⟨E,call,i,λ_ v g ⟨x,e,_⟩=>⟨x,e⟩,λx g ⟨x',e,⟨Mg,L,o,B,s⟩,k⟩=>?_⟩,rfl,t⟩,rfl,_,_,_,λ_=>F.ld (cs:=[.bool r.1.1,.string r.1.2.1,.int .i64 r.1.2.2]),rfl,t⟩;injection e with e;subst e;exact⟨s,⟨s,P g Mg x L o B k s⟩,fin g Mg x L o B k⟩
theorem Mm(gl:Fr)(n0:Int)(R:Bt->Prop) (H:((bif (decide ((n0:Int)>=0))then(decide ((n0:Int)<10))else Tb)=Ta->(0<=(n0:Int)/\(n0:Int)<=(YJ .i64 (n0+1))/\(YJ .i64 (n0+1):Int)<=(((⟨#[48,49,50,51,52,53,54,55,56,57]⟩:Bt)).size:Int))/\R (((⟨#[48,49,50,51,52,53,54,55,56,57]⟩:Bt)).extract (n0:Int).toNat (YJ .i64 (n0+1):Int).toNat))/\((bif (decide ((n0:Int)>=0))then(decide ((n0:Int)<10))else Tb)=Tb->((decide ((n0:Int)>0))=Ta->zat=zat/\(10:Int)≠0/\zat=zat/\(10:Int)≠0/\zat=zat/\(10:Int)≠0/\(0<=((n0:Int).tmod 10:Int)/\((n0:Int).tmod 10:Int)<=(YJ .i64 (((n0:Int).tmod 10)+1))/\(YJ .i64 (((n0:Int).tmod 10)+1):Int)<=(((⟨#[48,49,50,51,52,53,54,55,56,57]⟩:Bt)).size:Int))/\PC Tp gl 164 [Arg.mk (.int .i64) (YJ .i64 ((n0:Int).tdiv 10))] [.str] (λn:Bt=>jq ((n).size+(((⟨#[48,49,50,51,52,53,54,55,56,57]⟩:Bt)).extract ((n0:Int).tmod 10:Int).toNat (YJ .i64 (((n0:Int).tmod 10)+1):Int).toNat).size)/\R (n++(((⟨#[48,49,50,51,52,53,54,55,56,57]⟩:Bt)).extract ((n0:Int).tmod 10:Int).toNat (YJ .i64 (((n0:Int).tmod 10)+1):Int).toNat))))/\((decide ((n0:Int)>0))=Tb->((decide ((n0:Int)>(-10)))=Ta->(0<=(YJ .i64 (0-n0):Int)/\(YJ .i64 (0-n0):Int)<=(YJ .i64 ((YJ .i64 (0-n0))+1))/\(YJ .i64 ((YJ .i64 (0-n0))+1):Int)<=(((⟨#[48,49,50,51,52,53,54,55,56,57]⟩:Bt)).size:Int))/\jq (((⟨#[45]⟩:Bt)).size+(((⟨#[48,49,50,51,52,53,54,55,56,57]⟩:Bt)).extract (YJ .i64 (0-n0):Int).toNat (YJ .i64 ((YJ .i64 (0-n0))+1):Int).toNat).size)/\R ((⟨#[45]⟩:Bt)++(((⟨#[48,49,50,51,52,53,54,55,56,57]⟩:Bt)).extract (YJ .i64 (0-n0):Int).toNat (YJ .i64 ((YJ .i64 (0-n0))+1):Int).toNat)))/\((decide ((n0:Int)>(-10)))=Tb->zat=zat/\(10:Int)≠0/\zat=zat/\(10:Int)≠0/\zat=zat/\(10:Int)≠0/\(0<=(YJ .i64 (0-((n0:Int).tmod 10)):Int)/\(YJ .i64 (0-((n0:Int).tmod 10)):Int)<=(YJ .i64 ((YJ .i64 (0-((n0:Int).tmod 10)))+1))/\(YJ .i64 ((YJ .i64 (0-((n0:Int).tmod 10)))+1):Int)<=(((⟨#[48,49,50,51,52,53,54,55,56,57]⟩:Bt)).size:Int))/\PC Tp gl 164 [Arg.mk (.int .i64) (YJ .i64 ((n0:Int).tdiv 10))] [.str] (λm:Bt=>jq ((m).size+(((⟨#[48,49,50,51,52,53,54,55,56,57]⟩:Bt)).extract (YJ .i64 (0-((n0:Int).tmod 10)):Int).toNat (YJ .i64 ((YJ .i64 (0-((n0:Int).tmod 10)))+1):Int).toNat).size)/\R (m++(((⟨#[48,49,50,51,52,53,54,55,56,57]⟩:Bt)).extract (YJ .i64 (0-((n0:Int).tmod 10)):Int).toNat (YJ .i64 ((YJ .i64 (0-((n0:Int).tmod 10)))+1):Int).toNat))))))):
  PC Tp gl 164 [Arg.mk (.int .i64) n0] [.str] R:=by
 intro h M vs D ag P
 match vs,P with
 |[u],⟨hu,_⟩=>
 cases yj (i:=n0) (k:=.i64) hu;apply PX.of;apply Ie n0;obtain⟨E,B⟩:=H;have ret:∀{g:zc} {Mg:Fr} {s:Bt},Later h M g Mg->R s->∃M' r,Later h M g M'/\Yf M' [.str] r (.string s)/\R r:=λ {g Mg s} L l=>⟨Mg,s,L,Yu.2 (rdStr s),l⟩;have F:Later h M h M:=Later.refl ag;refine⟨λe=>⟨(E e).1,ret F (E e).2⟩,λe=>?_⟩;obtain⟨B,t⟩:=B e;refine⟨λy=>?_,λy=>?_⟩;obtain⟨p,a2,o,z,x,A,f,c⟩:=B y;exact⟨p,a2,o,z,x,A,f,c.go (vs:=[.int .i64 _]) D ag (zm (a:=Arg.mk (.int .i64) _) (Z2 _ _) zz) λw g Mg r L b l=>⟨r,iP b,l.1,ret L l.2⟩⟩;obtain⟨t,G⟩:=t y;refine⟨λC=>?_,λC=>?_⟩;obtain⟨p,a2,o⟩:=t C;exact⟨p,a2,ret F o⟩;obtain⟨p,a2,o,z,x,A,f,c⟩:=G C;refine⟨p,a2,o,z,x,A,?_⟩;intro N S O I;have call:∀{Q:Bt->Prop},PC Tp gl 164 [Arg.mk (.int .i64) (YJ .i64 ((n0:Int).tdiv 10))] [.str] Q->∀{K:Value->zc->Prop},(∀(r:Bt) (g:zc) (Mg:Fr),Later h M g Mg->Q r->K (.string r) g)->XC Tp 164 #[.int .i64 (YJ .i64 ((n0:Int).tdiv 10))] h K:=λ {Q} c {K} J=>
  c.go (vs:=[.int .i64 _]) D ag (zm (a:=Arg.mk (.int .i64) _) (Z2 _ _) zz) λw g Mg r L b l=>by rw[iP b];exact J r g Mg L l
 exact⟨call c λr g Mg L q=>⟨r,rfl,⟨f,q.1,ret L q.2⟩,f,q.1,ret L q.2⟩,⟨call c λr g Mg L q=>⟨r,rfl,f,q.1,ret L q.2⟩,f,call c λr g Mg L q=>⟨r,rfl,q.1,ret L q.2⟩⟩,call c λr g Mg L q=>⟨r,rfl,f,q.1,ret L q.2⟩,f,call c λr g Mg L q=>⟨r,rfl,q.1,ret L q.2⟩⟩
end
end Go.X
end
section
namespace Go.X
section
variable {gl:Fr} {n:Int}
theorem jp{a b:Bs}(h:a.length+b.length<=4611686018427387904):jq ((bl a).size+(bl b).size):=by unfold jq;rw[zh,zh];omega
theorem v6(o:oX gl){n:Nm}(r:n.2.1.length<=4611686018427387904){R:Bt->Prop}(h:R (bl (Qr n))):PC Tp gl 63 [Arg.mk tN (eT n)] [.str] R:=by
 apply Nk;refine nm r ⟨λf=>?_,λf=>?_⟩;have:zy n=Tb:=by simpa using f
 have e:Qr n=[]:=by unfold Qr;simp[this]
 grind;have i:zy n=Ta:=by simpa using f
 obtain⟨u,p,l⟩:=xw i;unfold Qr at h;rw[zb i]at h;simp only[show(⟨#[]⟩:Bt)=bl []from rfl,gu];refine⟨λc=>?_,λc=>?_⟩;simp_all;rw[za (by simpa using c)]at h;intro K s;have key:∀t:Bs,t=(if n.1 then [45]else [])++n.2.1->K (bl t):=by
  intro t k;have q:t.length<=1001:=by rw[k];split <;> simp <;> omega
  rw[<-k]at h;refine s _ ⟨λb=>?_,λb=>?_⟩;rw[za (by simpa using b)]at h;have m:=Go.X.itoa_len n.2.2;refine vV o (by omega) (by omega) ?_;grind [jp,wn];simp_all
 refine⟨λb=>⟨jp (a:=[45]) (by simp;omega),?_⟩,λb=>?_⟩;simp_all[wn];simp_all
theorem sc{k:Nat}(h:k<10):(bl [48,49,50,51,52,53,54,55,56,57]).extract k (k+1)=bl [zas (48+k)]:=by rw[qp,Go.X.dig_ext k h]
theorem QV(h:10<=n):Lib.itoa n=Lib.itoa (n / 10)++[zas (48+(n % 10).toNat)]:=by unfold Lib.itoa;rw[za (by omega),za (by omega),Lib.decDigits,dif_neg (by omega)];grind
theorem itoa_neg(h:n<=-10):Lib.itoa n=Lib.itoa (n.tdiv 10)++[zas (48+(-(n.tmod 10)).toNat)]:=by
 obtain⟨m,rfl⟩:∃m:Nat,n=-(m:Int):=⟨n.natAbs,by omega⟩;have b:(-(m:Int)).tdiv 10=-((m / 10:Nat):Int):=by rw[Int.neg_tdiv];rfl
 have e:(-(m:Int)).tmod 10=-((m % 10:Nat):Int):=by rw[Int.neg_tmod];rfl
 rw[b,e];unfold Lib.itoa;rw[zb (by omega),zb (by omega)];have c:(-(m:Int)).natAbs=m:=by omega
 have a2:(-((m / 10:Nat):Int)).natAbs=m / 10:=by omega
 rw[c,a2];conv=>lhs;rw[Lib.decDigits,dif_neg (by omega)]
 grind
theorem rH{gl:Fr}{n:Int}(h1:-9223372036854775808<=n)(s:n<=9223372036854775807){R:Bt->Prop}(h:R (bl (Lib.itoa n))):PC Tp gl 164 [Arg.mk (.int .i64) n] [.str] R:=by
 apply Mm;have p:(⟨#[48,49,50,51,52,53,54,55,56,57]⟩:Bt)=bl [48,49,50,51,52,53,54,55,56,57]:=rfl;simp only[p];have c:(bl [48,49,50,51,52,53,54,55,56,57]).size=10:=by rw[zh];rfl
 refine⟨λk=>?_,λk=>⟨λb=>?_,λb=>⟨λf=>?_,λf=>?_⟩⟩⟩;have i:0<=n/\n<10:=by simpa[zbg]using k
 rw[cR (by omega),c];refine⟨by omega,?_⟩;have e:(n+1).toNat=n.toNat+1:=by omega
 rw[e,sc (by omega)];have:Lib.itoa n=[zas (48+n.toNat)]:=by unfold Lib.itoa;rw[za (by omega),Lib.decDigits,dif_pos (by omega)]
 simp_all;have i:10<=n:=by
  have:¬(0<=n/\n<10):=by simpa[zbg]using k
  have:n>0:=by simpa using b
  omega
 have m:n.tdiv 10=n / 10:=Int.tdiv_eq_ediv_of_nonneg (by omega);have o:n.tmod 10=n % 10:=Int.tmod_eq_emod_of_nonneg (by omega);rw[m,o,cR (n:=n % 10+1) (by omega),cR (n:=n / 10) (by omega),c];refine⟨trivial,by omega,trivial,by omega,trivial,by omega,by omega,rH (n:=n / 10) (by omega) (by omega) ?_⟩;have e:(n % 10+1).toNat=(n % 10).toNat+1:=by omega
 rw[e,sc (by omega)];refine⟨jp ?_,?_⟩;grind [Go.X.itoa_len];rw[wn,<-QV i];exact h;have i:-10<n/\n<0:=by
  have:¬(0<=n/\n<10):=by simpa[zbg]using k
  have:¬n>0:=by simpa using b
  have:n > -10:=by simpa using f
  omega
 have l:(0:Int)-n=-n:=by omega
 rw[l,cR (n:=-n) (by omega),cR (n:=-n+1) (by omega),c];have e:(-n+1).toNat=(-n).toNat+1:=by omega
 rw[e,sc (by omega)];refine⟨by omega,jp (a:=[45]) (by simp),?_⟩;rw[show(⟨#[45]⟩:Bt)=bl [45]from rfl,wn];have:Lib.itoa n=[45]++[zas (48+(-n).toNat)]:=by
  unfold Lib.itoa;rw[zb (by omega),Lib.decDigits,dif_pos (by omega)];have:n.natAbs=(-n).toNat:=by omega
  rw[this];rfl
 simp_all;have i:n<=-10:=by
  have:¬(0<=n/\n<10):=by simpa[zbg]using k
  have:¬n>0:=by simpa using b
  have:¬n > -10:=by simpa using f
  omega
 have q:n.tdiv 10=-((-n) / 10):=by have:=Int.neg_tdiv (-n) 10;rw[Int.neg_neg]at this;rw[this,Int.tdiv_eq_ediv_of_nonneg (by omega)]
 have r:n.tmod 10=-((-n) % 10):=by have:=Int.neg_tmod (-n) 10;rw[Int.neg_neg]at this;rw[this,Int.tmod_eq_emod_of_nonneg (by omega)]
 have l:(0:Int)-n.tmod 10=-(n.tmod 10):=by omega
 rw[l,cR (n:=-(n.tmod 10)) (by omega),cR (n:=-(n.tmod 10)+1) (by omega),cR (n:=n.tdiv 10) (by omega),c];have e:(-(n.tmod 10)+1).toNat=(-(n.tmod 10)).toNat+1:=by omega
 rw[e,sc (by omega)];refine⟨trivial,by omega,trivial,by omega,trivial,by omega,by omega,rH (n:=n.tdiv 10) (by omega) (by omega) ?_⟩;refine⟨jp ?_,?_⟩;grind [Go.X.itoa_len];rw[wn,<-itoa_neg i];exact h
termination_by n.natAbs
decreasing_by all_goals omega
theorem Si{n:Nm}(r:n.2.1.length<=4611686018427387904){R:Bt->Prop}(h:R (bl (Qr n))):PC Tp gl 278 [Arg.mk tN (eT n)] [.str] R:=by
 apply KB;refine W9 r ⟨λi=>?_,λi=>?_⟩;have:zy n=Tb:=by simpa using i
 have e:Qr n=[]:=by unfold Qr;simp[this]
 grind;have k:zy n=Ta:=by simpa using i
 obtain⟨u,p,m⟩:=xw k;unfold Qr at h;rw[zb k]at h;refine He (n:=n) ⟨λf=>?_,λf=>?_⟩;have:n.2.1=[]:=by unfold Qq at f;simp at f;exact f.2.1
 simp_all;have:¬n.2.1=[]:=λe=>by simp_all[W7]
 rw[za this]at h;intro K s;have key:∀t:Bs,t=(if n.1 then [45]else [])++n.2.1->K (bl t):=by
  intro t l;have q:t.length<=1001:=by rw[l];split <;> simp <;> omega
  rw[<-l]at h;refine s _ ⟨λc=>?_,λc=>?_⟩;rw[za (by simpa using c)]at h;have o:=Go.X.itoa_len n.2.2;refine⟨jp (b:=[101]) (by simp;omega),rH (n:=n.2.2) (by omega) (by omega) ?_⟩;grind [wn,jp];simp_all
 refine⟨λc=>⟨jp (a:=[45]) (by simp;omega),?_⟩,λc=>?_⟩;simp_all[wn];simp_all
theorem VC(f:oX gl)(h1:-9223372036854775808<=n)(e:n<=9223372036854775807){R:Bool×Bt×Int->Prop}(h:R (eT (zo (Lib.itoa n)).1)):PC Tp gl 64 [Arg.mk (.int .i64) n] [tN] R:=by
 apply QB;refine vV f h1 e (od ?_ h);have:=Go.X.itoa_len n;have c:∀u:Nat,u<10 ^ 20->(Lib.decDigits u).length<=20:=by
  have:∀(k u:Nat),u<10 ^ (k+1)->(Lib.decDigits u).length<=k+1:=by
   intro k;induction k with
   |zero=>intro u b;rw[Lib.decDigits,dif_pos (by simpa using b)];simp
   |succ k i=>intro u b;rw[Lib.decDigits];grind
  exact this 19
 have:(Lib.itoa n).length<=21:=by unfold Lib.itoa;split;grind;grind
 omega
end
section
variable {l:Bs} {n:Int}
theorem o8{c:UInt8}(e:n=(c.toNat:Int)):(bif decide ((l.length:Int)>0)then(((l[0]?.getD 0).toNat:Int)==n)else Tb)=(l.head?==Tc c):=by
 subst e;cases l with
 |nil=>rfl
 |cons b t=>
  have:decide (((b::t).length:Int)>0)=Ta:=by simp
  rw[this,zF];show((b.toNat:Int)==(c.toNat:Int))=(Tc b==Tc c);rw[ZR];simp only[beq_iff_eq,Int.natCast_inj,YL];exact⟨λh=>zb8.1 h,λh=>by rw[h]⟩
theorem rP:bl ((l.drop (1:Int).toNat).take (((l.length:Int)).toNat-(1:Int).toNat))=bl l.tail:=by rw[YO,show(1:Int).toNat=1 from rfl,List.drop_one,zag (by simp)]
theorem y6{c:UInt8}(d:UInt8)(b:n=(d.toNat:Int)):((c.toNat:Int) != n)=!(c==d):=by subst b;rw[ZR];simp only[bne_iff_ne,ne_eq,Int.natCast_inj,zcg,beq_eq_false_iff_ne];exact⟨λh e=>h (by rw[e]),λh e=>h (zb8.1 e)⟩
set_option maxHeartbeats 1000000 in
theorem RI{gl:Fr}{s:Bs}(hs:s.length<=1152921504606846976){R:Bool×Bt×Bt×Bool×Bt×Bool->Prop}
  (h1:gN s=Ta->R ((Jb s).neg,bl (Jb s).whole,bl (Jb s).rest,(Jb s).low,bl (if(Zh s).2.2 then(Jb s).exp else [48]),Ta)) (h2:gN s=Tb->∀a b c d e,R (a,bl b,bl c,d,bl e,Tb)):
  PC Tp gl 280 [Arg.mk .str (bl s)] [.bool,.str,.str,.bool,.str,.bool] R:=by
 apply NH
 simp only[zh,qq,show(0:Int).toNat=0 from rfl,o8 (l:=s) (c:=45) (n:=45) rfl]
 refine⟨λu=>by grind,?_⟩
 have hS:(gO s).length<=s.length:=by unfold gO;split <;> simp
 have first:∀K:Bt->Prop,K (bl (gO s))->(((s.head?==Tc 45)=Ta->(0<=(1:Int)/\(1:Int)<=(s.length:Int)/\((s.length:Int))<=(s.length:Int))/\K ((bl s).extract (1:Int).toNat ((s.length:Int)).toNat))/\((s.head?==Tc 45)=Tb->K (bl s))):=by
  intro K L
  unfold gO at L
  refine⟨λu=>⟨?_,?_⟩,λu=>?_⟩
  ·cases s with
   |nil=>simp at u
   |cons=>simp;omega
  ·rw[u,zb rfl]at L
   rw[qp,rP];exact L
  ·simp_all
 intro K L
 refine first K (L _ ?_)
 clear L first K
 generalize aj:gO s=s1 at *
 simp only[zh,qq]
 have hM:cutAt jS s1=Zh s:=by rw[Zh,aj]
 refine⟨λi=>∃k:Nat,i=k/\k<=s1.length/\∀j (N:j<s1.length),j<k->jS s1[j]=Tb,λi=>s1.length-i.toNat,⟨0,rfl,by omega,λj _ h=>by omega⟩,?_⟩
 rintro i ⟨k,rfl,P,hb⟩
 have S:∀P:k<s1.length,(bif (bif decide ((k:Int)<(s1.length:Int))then((((s1[((k:Int)).toNat]?).getD 0).toNat:Int) != 101)else Tb)then((((s1[((k:Int)).toNat]?).getD 0).toNat:Int) != 69)else Tb)=!jS s1[k]:=by
  intro P
  rw[YO,jM P]
  have:decide ((k:Int)<(s1.length:Int))=Ta:=by simpa using P
  rw[this,zF,y6 (n:=101) 101 rfl,y6 (n:=69) 69 rfl,jS]
  cases s1[k]==101 <;> simp
 refine⟨λC=>?_,λC=>?_,λC=>?_,λC=>?_⟩
 simp_all
 simp_all
 ·have t:k<s1.length:=by simp at C;omega
  rw[S t]at C
  rw[qd t (by omega)]
  grind
 ·-- the whole and the point
  have hm:Zh s=if P:k<s1.length then(s1.take k,s1.drop (k+1),Ta)else(s1,[],Tb):=by
   rw[<-hM]
   split
   ·grind [qU]
   ·grind [tp,zbx]
  have w:s1.take k=(Zh s).1:=by
   rw[hm];split
   ·rfl
   ·grind
  have rest:∀(e:Bs) (low:Bool),low=J3 s->e=(if(Zh s).2.2 then fJ s else [48]) ->
    ∀E:Bt->Bool->Prop,(∀o:Bt,∀f:Bool,o=bl e->f=low->E o f)->E (bl e) low:=λe low _ _ E h=>h _ _ rfl rfl
  intro E Z
  have fin:∀(e:Bs) (low:Bool),low=J3 s->e=(if(Zh s).2.2 then fJ s else [48])->E (bl e) low:=by
   intro e low af I
   refine Z _ _ ⟨by omega,?_⟩
   have am:(bl s1).extract 0 ((k:Int)).toNat=bl (Zh s).1:=by rw[YO,qp,za5,zc7,w]
   rw[am]
   generalize ak:(Zh s).1=m1 at *
   have ar:m1.length<=s1.length:=by rw[<-w];simp;omega
   have hw:cutAt kK m1=wj s:=by rw[wj,ak]
   simp only[zh,qq]
   refine⟨λi=>∃k:Nat,i=k/\k<=m1.length/\∀j (N:j<m1.length),j<k->kK m1[j]=Tb,λi=>m1.length-i.toNat,⟨0,rfl,by omega,λj _ h=>by omega⟩,?_⟩
   rintro i ⟨q,rfl,Y,ai⟩
   have F:∀Y:q<m1.length,(bif decide ((q:Int)<(m1.length:Int))then((((m1[((q:Int)).toNat]?).getD 0).toNat:Int) != 46)else Tb)=!kK m1[q]:=by
    intro Y
    rw[YO,jM Y]
    have:decide ((q:Int)<(m1.length:Int))=Ta:=by simpa using Y
    rw[this,zF,y6 (n:=46) 46 rfl,kK]
   refine⟨λC=>?_,λC=>?_,λC=>⟨?_,?_⟩⟩
   ·grind
   ·have p:q<m1.length:=by simp at C;omega
    rw[F p]at C
    rw[qd p (by omega)]
    refine⟨⟨q+1,rfl,by omega,λj N au=>?_⟩,by grind⟩
    grind
   ·omega
   ·have D:wj s=if Y:q<m1.length then(m1.take q,m1.drop (q+1),Ta)else(m1,[],Tb):=by
     rw[<-hw]
     split
     ·rename_i p
      rw[F p]at C
      exact qU p (λj N=>ai j (by omega) N) (by simpa using C)
     ·exact tp λc ah=>by
       obtain⟨j,N,rfl⟩:=zbx ah
       grind
    have ab:(bl m1).extract 0 ((q:Int)).toNat=bl (wj s).1:=by
     rw[YO,qp,za5,zc7,D]
     split
     ·rfl
     ·grind
    rw[ab]
    have aA:(wj s).1.length<=s.length:=by rw[D];split <;> simp <;> omega
    have ax:(wj s).2.1.length<=s.length:=by rw[D];split <;> simp <;> omega
    have ay:e.length<=s.length+1:=by
     rw[I]
     split
     ·rename_i az
      have:(fJ s).length<=(Zh s).2.1.length:=by
       unfold fJ;split
       ·simp
       ·split <;> simp
      have:(Zh s).2.1.length<=s1.length:=by rw[hm];split <;> simp
      omega
     ·simp
    have G:∀(B:Bt->Prop),(∀r:Bt,r=bl (if(wj s).2.2 then(wj s).2.1 else [48])->B r)->((decide ((q:Int)<(m1.length:Int)))=Ta->(0<=(YJ .i64 ((q:Int)+1))/\(YJ .i64 ((q:Int)+1))<=(m1.length:Int)/\((m1.length:Int))<=(m1.length:Int))/\B ((bl m1).extract (YJ .i64 ((q:Int)+1)).toNat ((m1.length:Int)).toNat))/\((decide ((q:Int)<(m1.length:Int)))=Tb->B (bl [48])):=by
     intro B A
     refine⟨λu=>?_,λu=>?_⟩
     ·have p:q<m1.length:=by simpa using u
      rw[qd p (by omega)]
      refine⟨by omega,A _ ?_⟩
      rw[D,dif_pos p,YO,YO,qp,zag (by simp)];rfl
     ·grind
    intro B A
    refine G B λr hr=>A r ?_
    subst hr
    clear A G
    have ap:((q:Int)==(m1.length:Int))=!(wj s).2.2:=by
     rw[D,ZR]
     split
     ·simp;omega
     ·simp;omega
    refine Y3 (l:=(wj s).1) (by omega) ⟨λx=>Z4 (if(wj s).2.2 then(wj s).2.1 else [48])=x,λ_=>Y3 (by grind) rfl,λy hy=>?_⟩
    refine⟨λx=>Z4 e=x,λ_=>Y3 (by omega) rfl,λz hz=>?_⟩
    rw[show(⟨#[48]⟩:Bt)=bl [48]from rfl]
    simp only[gu,zh,qq]
    generalize U:Z4 (wj s).1=d1 at *
    have aa:Z4 (if(wj s).2.2 then(wj s).2.1 else [48])=(!(wj s).2.2||Z4 (wj s).2.1):=by
     cases(wj s).2.2 <;> simp;decide
    have V:Z4 e=(!(Zh s).2.2||Z4 (fJ s)):=by
     rw[I];cases(Zh s).2.2 <;> simp;decide
    have m:gN s=((bif (bif d1 then y else Tb)then z else Tb)&&((wj s).1==[48]||(wj s).1.head? != Tc 48)):=by
     unfold gN
     rw[U,<-aa,<-V]
     cases H:d1 with
     |false=>simp
     |true=>
      grind
    refine⟨λu=>?_,?_⟩
    ·have:d1=Ta:=by simp at u;exact u.1.1.1
     grind [W8]
    ·intro ae O
     have kR:ae (bl (wj s).2.1):=by
      refine O _ ?_
      have h4:∀H:d1=Ta,(bif decide ((wj s).1=[48])then Ta else(((((wj s).1[0]?).getD 0).toNat:Int) != 48))=((wj s).1==[48]||(wj s).1.head? != Tc 48):=by
       intro H
       rw[tT (W8 (U.trans H)),zby,ZR];simp
      cases ho:gN s with
      |true=>
       rw[ho]at m
       have H:d1=Ta:=by cases d1 <;> simp at m;rfl
       rw[h4 H]
       have an:(bif (bif d1 then y else Tb)then z else Tb)=Ta:=by
        cases hb:(bif (bif d1 then y else Tb)then z else Tb)with
        |true=>rfl
        |false=>grind
       rw[an]at m ⊢
       rw[zF]
       rw[zao]at m
       rw[<-m]
       have:=h1 ho
       unfold Jb at this
       simp only at this
       rw[af,I]
       have e5:(if(Zh s).2.2 then(if(Zh s).2.2 then fJ s else [])else [48])=(if(Zh s).2.2 then fJ s else [48]):=by cases(Zh s).2.2 <;> rfl
       grind
      |false=>
       rw[ho]at m
       have hv:(bif (bif (bif d1 then y else Tb)then z else Tb)then(bif decide ((wj s).1=[48])then Ta else(((((wj s).1[0]?).getD 0).toNat:Int) != 48))else Tb)=Tb:=by
        cases H:d1 with
        |false=>rfl
        |true=>
         rw[h4 H]
         rw[H]at m
         grind
       grind
     grind
  refine⟨λu=>?_,λu=>?_⟩
  ·have t:k<s1.length:=by simpa using u
   rw[qd t (by omega)]
   have hE:(Zh s).2.1=s1.drop (k+1):=by rw[hm,dif_pos t]
   have J:(Zh s).2.2=Ta:=by rw[hm,dif_pos t]
   have Q:(bl s1).extract ((k+1:Nat):Int).toNat ((s1.length:Int)).toNat=bl (Zh s).2.1:=by
    rw[YO,YO,qp,zag (by simp),hE]
   rw[Q]
   simp only[zh,qq]
   rw[o8 (l:=(Zh s).2.1) (c:=45) (n:=45) rfl,o8 (l:=(Zh s).2.1) (c:=43) (n:=43) rfl]
   have M:((Zh s).2.1.head?==Tc 45)=J3 s:=by unfold J3;rw[J];rfl
   rw[M]
   refine⟨by omega,λhy=>by grind,λhy=>by grind,λhy=>⟨?_,?_⟩,λhy=>?_⟩
   ·have:0<(Zh s).2.1.length:=by
     cases hl:(Zh s).2.1 with
     |nil=>grind
     |cons=>simp
    omega
   ·rw[qp,rP]
    refine fin _ _ rfl ?_
    rw[J,zb rfl,fJ]
    grind
   ·refine fin _ _ rfl ?_
    rw[J,zb rfl,fJ]
    grind
  ·have t:¬k<s1.length:=by simpa using u
   refine fin [48] Tb ?_ ?_
   ·unfold J3;grind
   grind
end
section
variable {l:Bs}
theorem AU(h:(l.head?==Tc 48)=Tb):l.dropWhile (· == 48)=l:=by
 cases l with
 |nil=>rfl
 |cons b t=>simp_all
theorem GO(h:(l.head?==Tc 48)=Ta):l.tail.dropWhile (· == 48)=l.dropWhile (· == 48):=by
 cases l with
 |nil=>rfl
 |cons b t=>simp_all
theorem R3(l:Bs):zt (48::l)=zt l:=rfl
theorem PL(l:Bs):zt (l.dropWhile (· == 48))=zt l:=by
 induction l with
 |nil=>rfl
 |cons b t c=>grind [List.dropWhile_cons,R3]
theorem sU{n:Int}(h1:0<=n)(c:n<256):YJ .u8 n=n:=by
 unfold YJ;have e:(2:Int) ^ zc6 .u8=256:=by decide
 simp only[e];have b:zdm .u8=Tb:=rfl;grind
theorem UE{m:Int}(b:0<=m):(bif decide ((l.length:Int)>m)then(((l[0]?.getD 0).toNat:Int)==48)else Tb)=(decide ((l.length:Int)>m)&&l.head?==Tc 48):=by
 cases hd:decide ((l.length:Int)>m)with
 |false=>rfl
 |true=>
  have e:0<l.length:=by simp at hd;omega
  rw[zF,zao];have:=o8 (l:=l) (c:=48) (n:=48) rfl;simp_all
def stripR(l:Bs):Bs:=(l.reverse.dropWhile (· == 48)).reverse
theorem SL{c:UInt8}(h:c=48):stripR (l++[c])=stripR l:=by subst h;unfold stripR;simp
theorem PV{c:UInt8}(h:¬c=48):stripR (l++[c])=l++[c]:=by unfold stripR;simp_all
theorem RP{α β γ δ:Type}{B:α->β->γ->δ->Prop}{c:Bool}{a b:α}{x:β}{y:γ}{z:δ}(h:∀e,e=(bif c then a else b)->B e x y z):∀K:α->β->γ->δ->Prop,(∀e x y z,B e x y z->K e x y z)->(c=Ta->K a x y z)/\(c=Tb->K b x y z):= λK i=>⟨λf=>i _ _ _ _ (h _ (by subst f;rfl)),λf=>i _ _ _ _ (h _ (by subst f;rfl))⟩
set_option maxHeartbeats 1000000 in
theorem HG{gl : Fr}{s : Bs}(hs : s.length <= 1152921504606846976){R : (Bool × Bt × Int) × Int -> Prop}(h : R (eT (zo s).1, (zo s).2)): PC Tp gl 231 [Arg.mk .str (bl s)] [tN, .int .i64] R := by
  apply Lz;refine RI hs (λhok => ?_) (λhok a b c d e => ?_);rotate_left;refine ⟨λ_ => ?_, λhx => by cases hx⟩;have : J4 s = Td := by unfold J4; simp [hok]
  unfold zo at h;simp_all;have hlit : J4 s = Tc (Jb s) := by unfold J4; simp [hok]
  have hlen := uA hlit;obtain ⟨d1, d2, d3⟩ := HZ hlit;unfold zo at h;rw [hlit] at h;simp only at h;obtain ⟨E1, hE1, hE1d, hE1v⟩ : ∃ E1, (if (Zh s).2.2 then (Jb s).exp else [48]) = E1 /\ E1.all qy = Ta /\ E1.dropWhile (· == 48) = (Jb s).exp.dropWhile (· == 48) := by
    refine ⟨_, rfl, ?_, ?_⟩;split;exact d3;rfl;cases hm : (Zh s).2.2 with
    | true => rfl
    | false => simp [Jb, hm]
  have hE1l : E1.length <= s.length + 1 := by rw [<- hE1]; split;omega;simp
  rw [hE1];generalize Jb s = x at *;refine ⟨λhx => (by cases hx), λ_ => ?_⟩;simp only [zh];rw [cR (by omega)];refine ⟨λhx => ?_, λhx => ?_⟩;grind;rw [za (by grind)] at h;have hx' : x.whole.length + x.rest.length <= 1000 := by simp at hx; omega
  refine ⟨λe8 _ _ _ => ∃ E : Bs, e8 = bl E /\ E.all qy = Ta /\ E.dropWhile (· == 48) = x.exp.dropWhile (· == 48), λe8 _ _ _ => e8.size, ⟨E1, rfl, hE1d, hE1v⟩, ?_⟩;rintro e8 b1 b2 b3 ⟨E, rfl, hEd, hEv⟩;simp only [zh, qq, show (0 : Int).toNat = 0 from rfl, UE (l := E) (m := 1) (by omega)];refine ⟨λhy => by grind, λhy => ?_, λhy => ?_⟩;have hy1 : 1 < E.length /\ (E.head? == Tc 48) = Ta := by
    have : (1 : Int) < (E.length : Int) /\ E.head? = Tc 48 := by simpa using hy
    exact ⟨by omega, by simp [this.2]⟩
  rw [qp, rP];refine ⟨by omega, ⟨E.tail, rfl, ?_, ?_⟩, by rw [zh, List.length_tail]; omega⟩;rw [<- List.drop_one]; grind;rw [GO hy1.2, hEv];have hEx : (E.length <= 1 \/ E.dropWhile (· == 48) = E) := by
    cases hh : (E.head? == Tc 48) with
    | false => exact .inr (AU hh)
    | true => grind
  have hdl := w8 E (· == 48);have hlen9 : E.length > 9 ↔ (x.exp.dropWhile (· == 48)).length > 9 := by rw [<- hEv];rcases hEx with hx | hx;omega;rw [hx]
  refine ⟨λhz => ?_, λhz => ?_⟩;grind;have hE9 : E.length <= 9 := by simp at hz; omega
  rw [za (λhh => by omega)] at h;have hval : zt (x.exp.dropWhile (· == 48)) = zt E := by rw [<- hEv, PL]
  rw [hval] at h;have hvb : zt E < 10 ^ 9 := og hE9 hEd;refine ⟨λe i _ _ _ => ∃ k : Nat, i = k /\ k <= E.length /\ e = (zt (E.take k) : Int), λ_ i _ _ _ => E.length - i.toNat, ⟨0, rfl, by omega, by simp [zt]⟩, ?_⟩;rintro e i b1 b2 b3 ⟨k, rfl, hk, rfl⟩;refine ⟨λhc => ?_, λhc => ?_⟩;have hc' : k < E.length := by simpa using hc
  have hd := tP hEd hc';simp only [YO, jM hc'];have hle := og (n := 9) (l := E.take k) (by simp; omega) (wU hEd k);rw [sU (by omega) (by omega), qd hc' (by omega), cR (n := 10 * _) (by omega), cR (n := (_ : Int) - 48) (by omega), cR (n := _ + _) (by omega)];refine ⟨by omega, ⟨k + 1, rfl, by omega, ?_⟩, by omega⟩;rw [xy hc']; omega;have hc' : ¬ k < E.length := by simpa using hc
  rw [zag (by omega)];apply RP;intro e7 he7;refine ⟨by unfold jq; omega, ?_⟩;rw [wn];have hD : (x.whole ++ x.rest).all qy = Ta := by rw [zbq, nS d1, d2]; rfl
  have hev : e7 = if x.low then - (zt E : Int) else (zt E : Int) := by rw [he7]; cases x.low <;> simp; exact cR (by omega)
  rw [<- hev] at h;have hb : -1000000000 <= e7 /\ e7 <= 1000000000 := by rw [hev]; split <;> omega
  refine ⟨λd _ _ _ => ∃ D : Bs, d = bl D /\ D.dropWhile (· == 48) = (x.whole ++ x.rest).dropWhile (· == 48) /\ D.length <= 1000, λd _ _ _ => d.size, ⟨_, rfl, rfl, by simp_all⟩, ?_⟩;rintro d b1 b2 b3 ⟨D, rfl, hDv, hDl⟩;simp only [zh, qq, o8 (l := D) (c := 48) (n := 48) rfl];refine ⟨λhy => by grind, λhy => ?_, λhy => ?_⟩;have hp : 0 < D.length := by
    cases D with
    | nil => simp at hy
    | cons => simp
  grind [qp, rP, GO, List.length_tail, zh];have hDe := AU hy;rw [hDv] at hDe;rw [show (⟨#[]⟩ : Bt) = bl [] from rfl];simp only [gu];rw [hDe] at h;refine ⟨λhz => ?_, λhz => ?_⟩;simp_all;have hne : D ≠ [] := by simpa using hz
  rw [za hne] at h;have hsh : xx (x.whole ++ x.rest) = stripR D := by unfold xx stripR; rw [hDe]
  have hsl : (stripR D).length <= D.length := by have := (Qx hD (by grind)).2.1;rw [hsh, hDe] at this; exact this
  have hsne : stripR D ≠ [] := by have := (Qx hD (by grind)).1;rw [hsh] at this;intro e; rw [e] at this; cases this
  rw [hsh] at h;rw [cR (n := e7 - _) (by omega)];refine ⟨λe d _ _ _ => ∃ D' : Bs, d = bl D' /\ D'.length <= 1000 /\ stripR D' = stripR D /\ e + D'.length = e7 - (x.rest.length : Int) + D.length, λ_ d _ _ _ => d.size, ⟨D, rfl, hDl, rfl, rfl⟩, ?_⟩;rintro e d b1 b2 b3 ⟨D', rfl, hl', hs', he'⟩;have hne' : D' ≠ [] := by rintro rfl;rw [<- hs'] at hsne; exact hsne rfl
  have hp : 0 < D'.length := ZX.2 hne';simp only [zh, qq];rw [mb hp (by omega)];have hlast : D' = D'.take (D'.length - 1) ++ [D'[D'.length - 1]] := by rw [<- YP (by omega), show D'.length - 1 + 1 = D'.length by omega, ZO]
  simp only [YO, jM (show D'.length - 1 < D'.length by omega)];refine ⟨by omega, λhq => ?_, λhq => ?_⟩;have hc48 : D'[D'.length - 1] = 48 := zb8.1 (by grind);rw [cR (n := e + 1) (by omega), qp];grind [zh, SL];have hc48 : ¬ D'[D'.length - 1] = 48 := λe => by rw [e] at hq; simp at hq
  have hfin : D' = stripR D := by
    rw [<- hs'];conv => rhs; rw [hlast]
    rw [PV hc48, <- hlast]
  grind
end
end Go.X
end
section
namespace Go.X
open Go Go.Proofs Go.Shelf Go.RowKit
section
def XP:Go.Shelf.Ren:=⟨fun|196=>232|259=>281|n=>n,fun|9=>9|4=>4|3=>3|5=>5|12=>12|119=>264|0=>0|46=>244|139=>267|138=>266|53=>272|n=>n,fun|3=>0|4=>1|n=>n⟩
theorem Ox:Go.Proofs.Lays.n196 Tp XP:=by constructor <;> intros <;> kernel_rfl
open Go.RowKit Go.Lib in
theorem UW(s:Bt)(w:World)(b:s.size<=9223372036854775807)(c:Lib.Utf8Tabs 0 1 w): Calls Tp 232 #[.string s] w λe w'=>e=.returned (.bool (Lib.validD s.data.toList))/\Below w.heap.size w w':=Any.utf8_ValidString Ox s w b c
end
end Go.X
end
section
namespace Go.X
section
variable {l:Bs}
theorem mE{n:Int}{k:Nat}(b:n=(k:Int)):(bl l).extract n.toNat ((l.length:Int)).toNat=bl (l.drop k):=by subst b;rw[YO,YO,qp,zag (by simp)]
theorem Ef(l:Bs):Lib.validD l=eW l:=by
 by_cases h:l=[];subst h;rw[qT];rfl;rw[Lib.validD_step l h,nW h,Lib.decodeL_N,Ef (l.drop _)];have e:gd (dec l)=decide ((dec l).1=65533/\(dec l).2=1):=by unfold gd;rw[Bool.decide_and];rfl
 rw[e];by_cases c:(dec l).1=65533/\(dec l).2=1;rw[zD c];exact zb c;rw[zE c];exact za c
termination_by l.length
decreasing_by
 have h1:=Zm l;have h2:0<l.length:=ZX.2 h;unfold dec at h1;simp only[zab];omega
theorem Rb{gl:Fr}(c:Tabs gl)(e:l.length<=4611686018427387904){R:Bool->Prop}(h:R (eW l)):PC Tp gl 232 [Arg.mk .str (bl l)] [.bool] R:= PC.of_scal rfl (λ_=>rU _) (by rw[<-Ef]at h;exact h) λw b=>UW (bl l) w (by rw[zh];omega) (c.at b)
end
end Go.X
end
section
namespace Go.X
open Go Go.Lib
section
theorem Lw(l:Bs)(a:Nat):l.foldl (λn c=>10*n+(c.toNat-48)) a=a*10 ^ l.length+zt l:=by
 induction l generalizing a with
 |nil=>simp[zt]
 |cons c t b=>simp only[List.foldl_cons,ZV,zt];grind
theorem Xa(a b:Bs):zt (a++b)=zt a*10 ^ b.length+zt b:=by rw[zt,List.foldl_append,Lw];rfl
theorem Vf(n:Nat):zt (zct n 48)=0:=by
 induction n with
 |zero=>rfl
 |succ n b=>rw[List.replicate_succ];exact b
theorem CE:∀(l:Bs) (b:Nat),l.all qy=Ta->b*10 ^ l.length+zt l<10 ^ 19->parseUintM (2 ^ 64-1) b l=.ok (b*10 ^ l.length+zt l)
 |[],b,_,_=>by simp[parseUintM,zt]
 |c::t,b,hd,hl=>by
  rw[zbo,ZE]at hd
  have i:48<=c.toNat/\c.toNat<=57:=by simpa[qy]using hd.1
  have e:zt (c::t)=(c.toNat-48)*10 ^ t.length+zt t:=by
   have:=Xa [c] t
   rw[List.singleton_append]at this
   rw[this];simp[zt]
  have f:(b*10+(c.toNat-48))*10 ^ t.length+zt t=b*10 ^ (c::t).length+zt (c::t):=by
   rw[e,ZV,Nat.pow_succ,zb0,Nat.mul_assoc,Nat.mul_comm 10 (10 ^ t.length)];omega
  have h:1<=10 ^ t.length:=Nat.one_le_pow _ _ (by decide)
  have k:b*10+(c.toNat-48)<=b*10 ^ (c::t).length+zt (c::t):=by
   rw[<-f]
   calc b*10+(c.toNat-48)=(b*10+(c.toNat-48))*1:=by omega
    _<=(b*10+(c.toNat-48))*10 ^ t.length:=Nat.mul_le_mul_left _ h
    _<=_:=by omega
  rw[parseUintM,zb i,za (by omega),za (by omega),CE t _ hd.2 (by omega),f]
def Ze(n:Nm):Bs:=n.2.1++zct n.2.2.toNat 48
theorem FF(n:Nm):zt (Ze n)=zt n.2.1*10 ^ n.2.2.toNat:=by rw[Ze,Xa,Vf,List.length_replicate,zco]
theorem yO{n:Nm}(h:zy n=Ta):n.2.1.all qy=Ta:=by unfold zy Qq at h;rcases zbb _ _ ▸ h with h|h;simp_all;simp only[ZE]at h;exact nS h.1.1.1.1.1
theorem F1{n:Nm}(h:zy n=Ta):(Ze n).all qy=Ta:=by rw[Ze,zbq,yO h,zao,ZJ];intro x b;rw[List.mem_replicate]at b;rw[b.2];rfl
theorem QH{l:Bs}(neg:Bool)(b:l.all qy=Ta)(h:l.length<=19)(e:l≠[]):
  parseIntB 64 ((if neg then [45]else [])++l)=if neg then(if zt l<=9223372036854775808 then .ok (-(zt l:Int))else .range)else(if zt l<=9223372036854775807 then .ok (zt l:Int)else .range):=by
 have i:zt l<10 ^ 19:=og h b;have f:=CE l 0 b (by omega);rw[Nat.zero_mul,ZP]at f;cases neg with
 |true=>simp only[if_true,List.singleton_append];unfold parseIntB;simp only[show(45:UInt8).toNat=45 from rfl,or_true,if_true];unfold parseUintB;grind
 |false=>
  simp only[zaz,if_false,zba];obtain⟨c,t,rfl⟩:=za3 e;have k:48<=c.toNat/\c.toNat<=57:=by rw[zbo,ZE]at b;simpa[qy]using b.1
  unfold parseIntB;simp only;rw[za (by omega)];unfold parseUintB;grind
end
section
variable {v x:Tr} {l:List Tr} {k:Nat}
mutual
def bK:Tr->Nat | .mk _ _ _ xs=>1+Yr xs
def Yr:List Tr->Nat | []=>0|x::l=>bK x+Yr l
end
mutual
def bR:Tr->Nat | .mk _ _ _ xs=>ff xs+1
def ff:List Tr->Nat | []=>0|x::l=>max (bR x) (ff l)
end
mutual
def Q4(p:Tr->Bool):Tr->Bool | .mk k s ks xs=>p (.mk k s ks xs)&&m8 p xs
def m8(p:Tr->Bool):List Tr->Bool | []=>Ta|x::l=>Q4 p x&&m8 p l
end
mutual
def ge(m:Nat):Tr->Prop | .mk _ s ks xs=>(s.size<=m/\ks.length<=m/\∀k∈ks,k.size<=m)/\gM m xs
def gM(m:Nat):List Tr->Prop | []=>True|x::l=>ge m x/\gM m l
end
theorem Zu(v:Tr):bK v=1+Yr v.items:=by cases v;rw[bK]
theorem Xu(v:Tr):bR v=ff v.items+1:=by cases v;rw[bR]
theorem Yj(p:Tr->Bool)(v:Tr):Q4 p v=(p v&&m8 p v.items):=by cases v;rw[Q4]
theorem l3(m:Nat)(v:Tr):ge m v↔(v.text.size<=m/\v.keys.length<=m/\∀k∈v.keys,k.size<=m)/\gM m v.items:=by cases v;rw[ge]
theorem p5{m:Nat}:∀{l:List Tr},gM m l↔∀x∈l,ge m x
 |[]=>by simp[gM]
 |x::l=>by rw[gM,p5];simp
theorem Tt{m:Nat}(h:ge m v)(b:x∈v.items):ge m x:=p5.1 ((l3 m v).1 h).2 x b
theorem wo(p:Tr->Bool):∀l:List Tr,m8 p l=l.all (Q4 p)
 |[]=>rfl
 |x::l=>by rw[m8,wo p l];rfl
theorem Xb:∀a b:List Tr,Yr (a++b)=Yr a+Yr b
 |[],b=>by simp[Yr]
 |x::l,b=>by rw[zaq,Yr,Yr,Xb l b];omega
theorem EA:∀a b:List Tr,ff (a++b)=max (ff a) (ff b)
 |[],b=>by simp[ff]
 |x::l,b=>by rw[zaq,ff,ff,EA l b];omega
theorem Ck{x:Tr}:∀{l:List Tr},x∈l->bK x<=Yr l
 |y::l,h=>by rw[Yr];rcases YS.1 h with rfl|h;omega;have:=Ck h;omega
theorem q9(h:x∈v.items):bK x<bK v:=by have:=Ck h;rw[Zu v];omega
theorem Zo:∀l:List Tr,l.length<=Yr l
 |[]=>by simp[Yr]
 |x::l=>by have:=Zo l;rw[Yr,ZV,Zu];omega
theorem Jc(v:Tr):0<bK v:=by rw[Zu];omega
theorem HO(b:k<l.length):Yr (l.take (k+1))=Yr (l.take k)+bK l[k]:=by rw[YP b,Xb];simp[Yr]
theorem EV(b:k<l.length):ff (l.take (k+1))=max (ff (l.take k)) (bR l[k]):=by rw[YP b,EA];simp[ff]
mutual
theorem LU:∀v:Tr,bR v<=bK v
 |.mk _ _ _ xs=>by rw[bR,bK];have:=tQ xs;omega
theorem tQ:∀l:List Tr,ff l<=Yr l
 |[]=>by simp[ff]
 |x::l=>by rw[ff,Yr];have:=LU x;have:=tQ l;omega
end
def ym(ks:List Bt):Bool:=ks.all (λk=>eW (lb k))&&decide ks.Nodup
def eZ(s:Bs):Nm×Bool:=((zo s).1,(zo s).2==0&&decide (Qr (zo s).1=s))
def sJ(s:Bs):Bool:=(eZ s).2&&(jR (eZ s).1).2&&decide (0<=(jR (eZ s).1).1)
def zn(v:Tr):Bool:=
 if v.kind=1 then lb v.text==[]&&v.keys.isEmpty&&v.items.isEmpty
 else if v.kind=2 then(lb v.text==[116,114,117,101]||lb v.text==[102,97,108,115,101])&&v.keys.isEmpty&&v.items.isEmpty
 else if v.kind=3 then(eZ (lb v.text)).2&&v.keys.isEmpty&&v.items.isEmpty
 else if v.kind=4 then eW (lb v.text)&&v.keys.isEmpty&&v.items.isEmpty
 else if v.kind=5 then lb v.text==[]&&v.keys.isEmpty
 else if v.kind=6 then ym v.keys&&decide (v.keys.length=v.items.length)&&lb v.text==[]
 else if v.kind=7 then sJ (lb v.text)&&v.keys.isEmpty&&v.items.isEmpty
 else Tb
def Qs(v:Tr):Bool:=decide (bK v<=4096)&&decide (bR v<=32)
def Zp(v:Tr):Bool:=Qs v&&Q4 zn v
def yn(v:Tr):Bool:=Qs v&&Q4 (λx=>decide (x.kind≠7)&&zn x) v
structure Sm (v:Tr):Prop where
 sz:bK v<=1000000000000
 tx:ge 1048576 v
theorem Sm.item(h:Sm v)(b:x∈v.items):Sm x:=⟨by have:=q9 b;have:=h.sz;omega,Tt h.tx b⟩
theorem Sm.text(h:Sm v):(lb v.text).length<=1048576:=by rw[iz];exact((l3 _ v).1 h.tx).1.1
theorem Sm.key(h:Sm v){k:Bt}(b:k∈v.keys):(lb k).length<=1048576:=by rw[iz];exact((l3 _ v).1 h.tx).1.2.2 k b
theorem Sm.keys(h:Sm v):v.keys.length<=1048576:=((l3 _ v).1 h.tx).1.2.1
theorem Sm.items(h:Sm v):v.items.length<=1000000000000:=by have:=Zo v.items;have:=h.sz;rw[Zu]at this;omega
end
end Go.X
end
section
namespace Go.X
section
variable {gl:Fr} {l s:Bs} {R:Bool -> Prop}
theorem Is(r:Tabs gl)(x:l.length<=4611686018427387904){R:Int×Bool->Prop}(h:∀k,R (k,eW l)):PC Tp gl 174 [Arg.mk .str (bl l)] [.int .i64,.bool] R:=by
 apply WY;refine Rb r x ⟨λs=>?_,λs=>?_⟩;simp_all;refine⟨λp=>p.1=bl l/\p.2<=l.length/\eW (l.drop p.2)=Tb,λp=>l.length-p.2,⟨rfl,by omega,by simpa using s⟩,?_⟩;rintro⟨_,p⟩ ⟨rfl,u,f⟩;simp only at u f ⊢;rw[pA,rW];refine⟨λi=>⟨i,i,λy=>?_,λy=>⟨?_,?_⟩⟩,λi=>?_⟩;have c:p<l.length:=by simpa using i
 have b:l.drop p≠[]:=λe=>by simp_all;omega
 have m:gd (dec (l.drop p))=Tb:=by
  unfold gd;have:¬(dec (l.drop p)).1=65533:=λe=>by simp_all
  simp[this]
 rw[nW b,m]at f;simp only[zaz,if_false,zbt]at f;rw[mU l p c];have w:=Zm (l.drop p);have n:=pr b;grind;simp_all[zh];have c:p<l.length:=by simpa using i
 have b:l.drop p≠[]:=λe=>by simp_all;omega
 rw[zh,mE (k:=p) rfl];refine CY r ?_;have q:(bl (l.drop p)).size≠0:=by rw[zh];simp;omega
 have t:Lib.decodeGo (bl (l.drop p))=dec (l.drop p):=by unfold Lib.decodeGo;rw[za q,pq,jg,za5]
 rw[t];refine⟨λo=>?_,λo=>?_⟩;simp_all;have m:gd (dec (l.drop p))=Tb:=by
  unfold gd;have:¬(dec (l.drop p)).2=1:=λe=>by simp_all
  simp[this]
 rw[nW b,m]at f;simp only[zaz,if_false,zbt]at f;rw[mU l p c];have w:=Zm (l.drop p);have n:=pr b;grind;simp_all[zac,qT]
theorem Dk(b:Tabs gl)(c:l.length<=4611686018427387904)(h:R (eW l)):PC Tp gl 103 [Arg.mk .str (bl l)] [.bool] R:=by apply KR;exact Is b c λk=>h
theorem ME(b:l.length<=4611686018427387904){R:Int×Bool->Prop}(h:∀k,R (k,eW l)):PC Tp gl 205 [Arg.mk .str (bl l)] [.int .i64,.bool] R:= Uf (by rw[zh];omega) λk=>by simp_all
theorem HH(b:l.length<=4611686018427387904)(h:R (eW l)):PC Tp gl 225 [Arg.mk .str (bl l)] [.bool] R:=by apply Kn;exact ME b λk=>h
structure GL (gl:Fr):Prop where
 tabs:Tabs gl
 pow:oX gl
 max:CC gl
 err:yB gl
theorem jc(s:Bs)(h:s.length<=1152921504606846976):(zo s).1.2.1.length<=4611686018427387904:=by
 unfold zo;split;simp;rename_i x c;have h1:=uA c;split;simp;split;simp;simp only;generalize (if x.low=Ta then-(zt (x.exp.dropWhile (· == 48)):Int)else zt (x.exp.dropWhile (· == 48)))=e;split;simp;rename_i b;have f:(xx (x.whole++x.rest)).length<=(x.whole++x.rest).length:=by unfold xx;rw[List.length_reverse];refine zaj (w8 _ _) ?_;rw[List.length_reverse];exact w8 _ _
 grind
theorem Yk(f:GL gl)(b:s.length<=1152921504606846976){R:(Bool×Bt×Int)×Bool->Prop}(h:R (eT (eZ s).1,(eZ s).2)):PC Tp gl 102 [Arg.mk .str (bl s)] [tN,.bool] R:=by
 apply UR;refine od b ?_;refine⟨λt=>t=bl (Qr (zo s).1),λ_=>v6 f.pow (jc s b) rfl,λr c=>?_⟩;have e:(bif ((zo s).2==0)then(r.toList==(bl s).toList)else Tb)=(eZ s).2:=by
  unfold eZ;cases hc:((zo s).2==0)with
  |false=>rfl
  |true=>rw[c hc,zF,gu];rfl
 simp only at e ⊢;rw[e];exact h
theorem As(b:s.length<=1152921504606846976){R:(Bool×Bt×Int)×Bool->Prop}(h:R (eT (eZ s).1,(eZ s).2)):PC Tp gl 224 [Arg.mk .str (bl s)] [tN,.bool] R:=by
 apply Pw;refine HG b ?_;refine⟨λt=>t=bl (Qr (zo s).1),λ_=>Si (jc s b) rfl,λr c=>?_⟩;have e:(bif ((zo s).2==0)then(r.toList==(bl s).toList)else Tb)=(eZ s).2:=by
  unfold eZ;cases hc:((zo s).2==0)with
  |false=>rfl
  |true=>rw[c hc,zF,gu];rfl
 simp only at e ⊢;rw[e];exact h
theorem QF(n:Nat):Lib.repeatL [48] n=zct n 48:=by
 induction n with
 |zero=>rfl
 |succ n b=>rw[Lib.repeatL,b];rfl
theorem AJ(y:GL gl){n:Nm}(C:n.2.1.length<=4611686018427387904){R:Int×Bool->Prop}(h:R (jR n)):PC Tp gl 175 [Arg.mk tN (eT n)] [.int .i64,.bool] R:=by
 apply PI;refine nm C ?_;unfold jR at h;cases hr:zy n with
 |false=>rw[hr]at h;exact⟨λ_=>by simpa using h,λm=>by simp at m⟩
 |true=>
  obtain⟨D,B,A⟩:=xw hr;rw[hr]at h;simp only[zao]at h;simp only[zh];rw[cR (by omega)];refine⟨λm=>?_,λm=>?_⟩;grind;have w:0<=n.2.2/\(n.2.1.length:Int)+n.2.2<=19:=by simp at m;omega
  rw[zb (by simp;omega)]at h;rw[<-FF]at h;obtain⟨e,s⟩:∃e:Nat,n.2.2=(e:Int):=⟨n.2.2.toNat,by omega⟩;show PC Tp gl 234 [Arg.mk .str (bl [48]),Arg.mk (.int .i64) n.2.2] [.str] _;rw[s];refine JI (by omega) (by rw[zh];simp;omega) ?_;rw[jg,QF,wn];have k:n.2.1++zct e 48=Ze n:=by rw[Ze,s,YO]
  have l:(Ze n).length<=19:=by rw[<-k];simp;omega
  have q:=F1 hr;rw[k];refine⟨jp (a:=n.2.1) (by grind),?_⟩;rw[show(⟨#[]⟩:Bt)=bl []from rfl,show(⟨#[45]⟩:Bt)=bl [45]from rfl];simp only[wn];intro K z;have key:∀t:Bs,t=(if n.1 then [45]else [])++Ze n->K (bl t):=by
   intro t c;refine z _ ⟨λi=>?_,λi=>?_⟩;have p:t=[]:=by have:=gu t [];rw[this]at i;simpa using i
   rw[p]at c;have f:n.1=Tb:=by cases hb:n.1 <;> simp[hb]at c;rfl
   have b:Ze n=[]:=by simp[f]at c;exact c
   rw[f,b]at h;exact h;have x:t≠[]:=by intro e;rw[e,gu]at i;simp at i
   refine QY y.err (by grind [zh]) ?_;rw[jg,c];have b:Ze n≠[]:=by
    intro r;cases hb:n.1 with
    |false=>simp_all
    |true=>
     have u:n.2.1=[]:=by rw[Ze]at r;exact(List.append_eq_nil_iff.1 r).1
     have:=W7 hr u;unfold Qq at this;simp_all
   unfold wS;rw[QH n.1 q l b];grind
  refine⟨λo=>⟨jp (a:=[45]) (by simp;omega),?_⟩,λo=>?_⟩;simp_all;simp_all
end
end Go.X
end
section
namespace Go.Proofs.YtjkbohnbckpmdaaGreatDoor
open Go Go.X Go.ChangeShapes Go.WideShapes Go.ChangeAt Go.RowKit Go.Lib
open Go.ChangeMaps (open_string shut_string)
set_option linter.all false
section
variable {H:Type} {g:Nat} {t:TypeId}
theorem Tryz.own:ownKnob ZW.godebug=none:=by kernel_rfl
theorem Tryz.laidOut:laidOutB ZW=true:=by kernel_rfl
theorem OE{enc:TypeId×Value->H}{a:Assume}{C:Checked}{os:Os}{f:FuncId}{fn:Func}{s:ChangeSpec}{o:List PathCond}{apart m h l:Bool}{X:World->Array Value->Prop} (L:∀(w w':World) (args:Array Value),w.heap=w'.heap->X w args->X w' args) (own:ownKnob C.prog.godebug=none) (n:os.Started) (q:C.prog.inits.idxOf? f=none) (G:C.prog.funcs[f]?=some fn) (p:∃(w:World) (b:Tape) (i:Input),w.os=os/\(w.forCall b i).Shaped C.prog/\i.vars=[]/\Input.okWide C.prog (w.forCall b i) .any w.heap.size f i /\ ((s.pre enc C.prog fn o apart (w.forCall b i).memory i.args/\X (w.forCall b i).memory i.args)/\sizedMet enc C.prog fn (OpenSpec.ofChange s) apart (w.forCall b i).memory i.args)/\a.holds C.prog (lone (Frame.enter C.prog f i.args .normal) [] (w.forCall b i))) (k:∀(W:World) (base:Nat) (args:Array Value) (z y:List (DataW H)) (c:List MemPlace),(∀(j:Nat) t v,fn.params[j]?=some t->args[j]?=some v->Value.okWide C.prog W .any base t v) -> DataW.Whole enc C.prog fn.params.toList s.vars apart W args.toList z y c -> (DataW.weightsEach C.prog (fn.params.toList++s.plain.varTypes C.prog) (z++y)).all (·<=reachBytes)=true -> X W args->W.ShapedOpen C.prog -> Calls C.prog f args W λe I=>∃v,e=.returned v/\s.post enc C.prog fn apart m h l W args v I):
  ReturnsInHanded a C os f .any (λw args=>(s.pre enc C.prog fn o apart w args/\X w args)/\sizedMet enc C.prog fn (OpenSpec.ofChange s) apart w args) (s.post enc C.prog fn apart m h l):=by
 refine returnsInHanded_of_calls own n q p ?_;intro w b i _ E _ D x A;obtain⟨_,_,_,F,u,_,_,_,_,r⟩:=D;have e:F=fn:=ZS (u.symm.trans G);subst e;obtain⟨⟨⟨z,y,c,J,Q⟩,O⟩,M⟩:=x;have B:=DataW.Whole.of_heap (w':=w.forCall b i) (by rfl) J;refine(k (w.forCall b i) w.heap.size i.args z y c r B (M.weights J) (L _ _ _ (by rfl) O) E).mono λe I ⟨v,P,N⟩=>?_;subst P;exact ChangeSpec.post_blind N
theorem Hj{P:Program}{W:World}{n:String}{k:IntKind}{o:List Int}{t e:TypeId}{m:Nat}(q:P.globalNamed n=some g)(s:(P.globals[g]?).map (·.type)=some t)(u:P.underlying t=some (.array m e))(w:P.underlying e=some (.int k))
  (c:P.cellsOf e=1) (l:P.cellsOf t=m) (h:VarReads P W n (tabData k o)):∃cs:Array Value,Fz W g=some cs/\cs.toList=o.map λz=>zdk k z:=by
 obtain⟨g',t',cs,fuel,p,i,f,b,r⟩:=h;obtain rfl:=ZS (q.symm.trans i);obtain rfl:=ZS (s.symm.trans f);exact⟨cs,Fz.var q b,cells_of_tab u w c l r⟩
theorem Uo{W : World}(h : VarReads Tryz.prog W "unicode/utf8.first" Pinned.utf8First): ∃ cs : Array Value, Fz W 0 = some cs ∧ ∀ c, c < 256 → cs[c]? = some (.int .u8 (Lib.firstT c)) := by rw[Pinned.utf8First_eq]at h;obtain⟨cs,h1,h2⟩:=Hj (g:=0) (t:=264) (e:=5) (m:=256) (by kernel_rfl) (by kernel_rfl) (by kernel_rfl) (by kernel_rfl) (by kernel_rfl) (by kernel_rfl) h;refine⟨cs,h1,λc hc=>?_⟩;rw[<-Array.getElem?_toList,h2];simp[firstTab,hc]
theorem XV{W : World}(h : VarReads Tryz.prog W "unicode/utf8.acceptRanges" acceptData): ∃ cs : Array Value, Fz W 1 = some cs ∧ ∀ i, i < 16 → cs[2 * i]? = some (.int .u8 (Lib.accLo i)) ∧ cs[2 * i + 1]? = some (.int .u8 (Lib.accHi i)) := by
 obtain⟨g,t,cs,fuel,p,hg,hty,hvar,hd⟩:=h;obtain rfl := Option.some.inj ((show Tryz.prog.globalNamed "unicode/utf8.acceptRanges" = some 1 by kernel_rfl).symm.trans hg);obtain rfl:=Option.some.inj ((show(Tryz.prog.globals[1]?).map (·.type)=some 267 by kernel_rfl).symm.trans hty);refine⟨cs,Fz.var hg hvar,λi hi=>?_⟩;obtain⟨fuel',d,q,hdi,he⟩:=array_elem (show Tryz.prog.underlying 267=some (.array 16 266)by kernel_rfl) hd i hi;simp only[List.getElem?_map,List.getElem?_range hi,Option.map_some,Option.some.injEq]at hdi;subst hdi;have hc:Tryz.prog.cellsOf 266=2:=by kernel_rfl
 have c5:ZW.cellsOf 5=1:=by kernel_rfl
 have u5:ZW.underlying 5=some (.int .u8):=by kernel_rfl
 rw[hc]at he;have hcs:=ints_of_struct Tryz.underlying266 (λj f hj=>by
  match j,hj with
  |0,hj=>simp at hj;subst hj;exact⟨u5,rfl,c5⟩
  |1,hj=>simp at hj;subst hj;exact⟨u5,rfl,c5⟩
  |j+2,hj=>simp at hj) (by rw[hc];rfl) he
 have e0:=congrArg (·[0]?) hcs;have e1:=congrArg (·[1]?) hcs;simp only[ZQ,zan]at e0 e1;constructor;rw[<-zav];simpa[Nat.mul_comm]using e0;rw[<-zav];simpa[Nat.mul_comm]using e1
theorem Py{W : World}{d : DataW Unit}(hd : d = tabData .u64 Lib.pow10Tab)(h : VarReads Tryz.prog W "internal/strconv.uint64pow10" d): oX (Fz W) := by subst hd;obtain⟨cs,h1,h2⟩:=Hj (g:=3) (t:=313) (e:=272) (m:=20) (by kernel_rfl) (by kernel_rfl) (by kernel_rfl) (by kernel_rfl) (by kernel_rfl) (by kernel_rfl) h;exact⟨_,cs,by kernel_rfl,h1,by rw[<-h2]⟩
theorem EJ{W:World}{n:String}{ms:Array (String×TypeId)}{o:String}{d:DataW Unit}(k:ZW.globalNamed n=some g)(r:(ZW.globals[g]?).map (·.type)=some t)(q:ZW.underlying t=some (.interface ms))(h:VarReads ZW W n (.iface o d)):
  ∃(cs:Array Value) (e:Value),Fz W g=some cs/\cs[0]?=some e/\(e=.nilIface\/∃m s,e=.iface m s):=by
 obtain⟨g',t',cs,fuel,p,i,c,b,l⟩:=h;obtain rfl:=ZS (k.symm.trans i);obtain rfl:=ZS (r.symm.trans c);obtain⟨w,u,v,f,_,_⟩:=iface_of_trod q l;exact⟨cs,.iface u v,Fz.var k b,by rw[<-zav,f];rfl,.inr ⟨u,v,rfl⟩⟩
theorem KG{W:World}(h:W.ShapedOpen ZW):CC (Fz W):=by obtain⟨m,f⟩:=cell_of_shapedOpen_int (P:=ZW) (g:=2) (t:=3) (zero:=#[.int .i64 0]) (k:=.i64) h (by decide +kernel) (by kernel_rfl) rfl (by kernel_rfl) (by kernel_rfl) (by kernel_rfl);obtain⟨b,o,c,e,h1,i⟩:=Fz.cell f;cases e;exact⟨c,m,h1,i⟩
def kN:List (String×DataW Unit):=Rows.schemaOrdersRow.laid
theorem RG{W:World}(h:laidMetH ZW kN W)(f:W.ShapedOpen ZW):GL (Fz W):=by
 have c:laidMet ZW kN W:=by rw[MakeChecks.laidMetH_plain _ _ _ (by kernel_rfl)]at h;exact h
 have b:∀(i:Nat) (n:String) (d:DataW Unit),kN[i]?=some (n,d)->VarReads ZW W n d:=λi n d e=>Go.Lib.laidMet.reads c (zbd e);exact {
  tabs:=⟨Uo (b 6 _ _ rfl),XV (by
   have e:(Rows.laid_unicode_utf8_acceptRanges:DataW Unit)=acceptData:=by kernel_rfl
   rw[<-e];exact b 3 _ _ rfl)⟩
  pow:=Py (by kernel_rfl) (b 2 _ _ rfl)
  max:=KG f
  err:=⟨EJ (g:=4) (t:=90) (by kernel_rfl) (by kernel_rfl) Tryz.underlying90 (b 5 _ _ rfl),EJ (g:=5) (t:=90) (by kernel_rfl) (by kernel_rfl) Tryz.underlying90 (b 4 _ _ rfl)⟩ }
noncomputable def wF(os:Os):World:=World.laidAll ZW os kN
theorem OU(os:Os)(args:Array Value):((wF os).forCall (λ_ _=>0) ⟨#[],args,[]⟩).Shaped ZW:=World.shaped_of_ZipB (by kernel_rfl) (by kernel_rfl)
theorem JE(os:Os)(args:Array Value):laidMetH ZW kN ((wF os).forCall (λ_ _=>0) ⟨#[],args,[]⟩).memory:=by rw[MakeChecks.laidMetH_plain _ _ _ (by kernel_rfl)];exact laidMet_laidAll _ (by kernel_rfl) (by kernel_rfl)
theorem Da{enc:TypeId×Value->H}{W:World}{sp:Nat->Bool}{held:Bool}(fuel:Nat)(cs:List Value)(x:DataW H×List MemPlace)(h:DataW.trod enc ZW W 0 sp held fuel 25 cs=some x)(b:lH ZW 25 x.1):∃t:Tr,Rd (Fz W) .tree t cs:= IX (tk:=3) (ts:=9) (tss:=22) (tvs:=23) Tryz.underlying25 (by kernel_rfl) ⟨rfl,rfl,rfl,rfl,rfl,rfl,rfl,rfl⟩ (by kernel_rfl) (by kernel_rfl) (by kernel_rfl) (by kernel_rfl) (by kernel_rfl) (by kernel_rfl) (by kernel_rfl) (by kernel_rfl) (by decide +kernel) (by decide +kernel) fuel cs x h b
theorem Ff{ts:List TypeId}{b:List (DataW H)}(h:(DataW.weightsEach ZW ts b).all (·<=reachBytes)=true){j:Nat}{d:DataW H}(e:ts[j]?=some t)(c:b[j]?=some d):lH ZW t d:=λn f=>by have:=ZJ.1 h n (DataW.weights_mem_each e c n f);simpa using this
end
end Go.Proofs.YtjkbohnbckpmdaaGreatDoor
end
section
namespace Go.X
section
variable {gl:Fr} {R:Bool -> Prop}
theorem SS{D:Bs}(k:Nat):zt (D.take k)<=zt D:=by
 conv=>rhs;rw[<-zax k D,Xa]
 have:1<=10 ^ (D.drop k).length:=Nat.one_le_pow _ _ (by decide)
 calc zt (D.take k)=zt (D.take k)*1:=by omega
  _<=zt (D.take k)*10 ^ (D.drop k).length:=Nat.mul_le_mul_left _ this
  _<=_:=by omega
set_option maxHeartbeats 1000000 in
theorem GG{n:Nm}(H:n.2.1.length<=4611686018427387904){R:Int×Bool->Prop}(h:R (jR n)):PC Tp gl 226 [Arg.mk tN (eT n)] [.int .i64,.bool] R:=by
 apply R9;refine W9 H ?_;unfold jR at h;cases hr:zy n with
 |false=>simp_all
 |true=>
  obtain⟨O,G,F⟩:=xw hr;rw[hr]at h;simp only[zao]at h;simp only[zh,qq];rw[cR (by omega)];refine⟨λA=>?_,λA=>?_⟩;grind
  ·have B:0<=n.2.2/\(n.2.1.length:Int)+n.2.2<=19:=by simp at A;omega
   rw[zb (by simp;omega)]at h;rw[<-FF]at h;have t:=F1 hr;have r:((Ze n).length:Int)=(n.2.1.length:Int)+n.2.2:=by rw[Ze,ZC,List.length_replicate];omega
   rw[<-r];have C:∀k (o:k<(Ze n).length),k<n.2.1.length->n.2.1[k]?.getD 0=(Ze n)[k]:=by intro k o c;rw[jM c];simp only[Ze];rw[List.getElem_append_left c]
   have y:∀k (o:k<(Ze n).length),¬k<n.2.1.length->(Ze n)[k]=48:=by intro k o c;simp only[Ze];rw[List.getElem_append_right (by omega),List.getElem_replicate]
   generalize Ze n=D at *;refine⟨λv i=>∃k:Nat,i=k/\k<=D.length/\v=-(zt (D.take k):Int)/\zt (D.take k)<=9223372036854775808,λ_ i=>D.length-i.toNat,⟨0,rfl,by omega,by simp[zt],by simp[zt]⟩,?_⟩;rintro v i ⟨k,rfl,o,rfl,L⟩;refine⟨λq=>?_,λq=>?_⟩
   ·have b:k<D.length:=by simp at q;omega
    have N:=tP t b;have step:∀d:Int,d=(D[k].toNat:Int)-48->(True/\(10:Int)≠0 /\ ((decide ((-(zt (D.take k):Int))<(YJ .i64 ((YJ .i64 ((-9223372036854775808)+d)).tdiv 10))))=Ta->R (0,Tb)) /\
      ((decide ((-(zt (D.take k):Int))<(YJ .i64 ((YJ .i64 ((-9223372036854775808)+d)).tdiv 10))))=Tb -> ((∃p:Nat,(YJ .i64 ((k:Int)+1))=p/\p<=D.length/\(YJ .i64 ((YJ .i64 (10*(-(zt (D.take k):Int))))-d))=-(zt (D.take p):Int)/\zt (D.take p)<=9223372036854775808) /\ D.length-(YJ .i64 ((k:Int)+1)).toNat<D.length-((k:Int)).toNat))):=by
     intro d E;have M:0<=d/\d<=9:=by omega
     obtain⟨m,I⟩:∃m:Nat,(-9223372036854775808+d:Int)=-(m:Int):=⟨(9223372036854775808-d).toNat,by omega⟩;have J:(-(m:Int)).tdiv 10=-((m / 10:Nat):Int):=by rw[Int.neg_tdiv];rfl
     rw[wrap64 (n:=-9223372036854775808+d) (by omega) (by omega),I,J,wrap64 (n:=-((m / 10:Nat):Int)) (by omega) (by omega)];refine⟨trivial,by omega,λe=>?_,λe=>?_⟩;have s:-(zt (D.take k):Int) < -((m / 10:Nat):Int):=by simpa using e
     have z:9223372036854775808<zt (D.take (k+1)):=by rw[xy b];omega
     have:=SS (D:=D) (k+1);grind;have s:¬-(zt (D.take k):Int) < -((m / 10:Nat):Int):=by simpa using e
     have l:zt (D.take (k+1))<=9223372036854775808:=by rw[xy b];omega
     have f:=l;rw[xy b]at f;rw[qd b (by omega),wrap64 (n:=10*_) (by omega) (by omega),wrap64 (n:=10*_-d) (by omega) (by omega)];refine⟨⟨k+1,rfl,by omega,?_,l⟩,by omega⟩;rw[xy b];omega
    intro K x;simp only[YO];refine⟨λe=>⟨by grind,x _ (step _ ?_)⟩,λe=>x _ (step _ ?_)⟩;grind [sU,cR];simp_all
   have b:k=D.length:=by simp at q;omega
   subst b;rw[ZO]at L ⊢;refine⟨λw=>?_,λw=>⟨λe=>?_,λe=>?_⟩⟩;grind;simp_all;have u:n.1=Tb:=w;rw[u]at h;simp only[zaz,if_false]at h;rw[zb (by grind)]at h;grind [wrap64]
theorem RO(c:GL gl){s:Bs}(b:s.length<=1152921504606846976)(h:R (sJ s)):PC Tp gl 104 [Arg.mk .str (bl s)] [.bool] R:=by apply Lb;refine Yk c b (AJ c (n:=(eZ s).1) (jc s b) ?_);simp only[zbg];exact h
theorem qu(v:Tr):Tr.mk v.kind v.text v.keys v.items=v:=by cases v;rfl
theorem jl{l:List Tr}{k:Nat}(h:k<l.length):l[((k:Int)).toNat]?=Tc l[k]:=by simp
theorem BD{gl:Fr}(v:Tr)(r:bK v<=1000000000000){R:Int->Prop}(h:R (bK v:Int)):PC Tp gl 47 [Arg.mk .tree v] [.int .i64] R:=by
 apply Od;have e:=Zo v.items;have o:=Zu v;refine⟨λn i=>∃k:Nat,i=k/\k<=v.items.length/\n=((1+Yr (v.items.take k):Nat):Int),λ_ i=>v.items.length-i.toNat,⟨0,rfl,by omega,by simp[Yr]⟩,?_⟩;rintro n i ⟨k,rfl,q,rfl⟩;refine⟨λc=>?_,λc=>?_⟩;have b:k<v.items.length:=by simp at c;omega
 refine⟨v.items[k],⟨by omega,jl b⟩,?_⟩;rw[qu];have l:v.items[k]∈v.items:=YW b;have f:=q9 l;have m:Yr (v.items.take (k+1))<=Yr v.items:=by have:=Xb (v.items.take (k+1)) (v.items.drop (k+1));rw[zax]at this;omega
 have p:=HO b;refine BD (v.items[k]) (by omega) ?_;rw[qd b (by omega),cR (by omega)];grind;grind
termination_by bK v
theorem u0{gl:Fr}(v:Tr)(r:bK v<=1000000000000){R:Int->Prop}(h:R (bK v:Int)):PC Tp gl 92 [Arg.mk .tree v] [.int .i64] R:=by
 apply XN;have e:=Zo v.items;have o:=Zu v;refine⟨λn i=>∃k:Nat,i=k/\k<=v.items.length/\n=((1+Yr (v.items.take k):Nat):Int),λ_ i=>v.items.length-i.toNat,⟨0,rfl,by omega,by simp[Yr]⟩,?_⟩;rintro n i ⟨k,rfl,q,rfl⟩;refine⟨λc=>?_,λc=>?_⟩;have b:k<v.items.length:=by simp at c;omega
 refine⟨v.items[k],⟨by omega,jl b⟩,?_⟩;rw[qu];have l:v.items[k]∈v.items:=YW b;have f:=q9 l;have m:Yr (v.items.take (k+1))<=Yr v.items:=by have:=Xb (v.items.take (k+1)) (v.items.drop (k+1));rw[zax]at this;omega
 have p:=HO b;refine u0 (v.items[k]) (by omega) ?_;rw[qd b (by omega),cR (by omega)];grind;grind
termination_by bK v
theorem Cx{gl:Fr}(v:Tr)(s:bK v<=1000000000000){R:Int->Prop}(h:R (bR v:Int)):PC Tp gl 26 [Arg.mk .tree v] [.int .i64] R:=by
 apply XT;have e:=Zo v.items;have p:=Zu v;have f:=tQ v.items;have o:=Xu v;refine⟨λn i=>∃k:Nat,i=k/\k<=v.items.length/\n=((ff (v.items.take k):Nat):Int),λ_ i=>v.items.length-i.toNat,⟨0,rfl,by omega,by simp[ff]⟩,?_⟩;rintro n i ⟨k,rfl,r,rfl⟩;refine⟨λc=>?_,λc=>?_⟩;have b:k<v.items.length:=by simp at c;omega
 refine⟨v.items[k],⟨by omega,jl b⟩,?_⟩;rw[qu];have m:v.items[k]∈v.items:=YW b;have l:=q9 m;have q:=EV b;refine Cx (v.items[k]) (by omega) ?_;rw[qd b (by omega)];refine⟨⟨k+1,rfl,by omega,?_⟩,by grind⟩;omega;grind [cR]
termination_by bK v
theorem uT{gl:Fr}(v:Tr)(s:bK v<=1000000000000){R:Int->Prop}(h:R (bR v:Int)):PC Tp gl 93 [Arg.mk .tree v] [.int .i64] R:=by
 apply UH;have e:=Zo v.items;have p:=Zu v;have f:=tQ v.items;have o:=Xu v;refine⟨λn i=>∃k:Nat,i=k/\k<=v.items.length/\n=((ff (v.items.take k):Nat):Int),λ_ i=>v.items.length-i.toNat,⟨0,rfl,by omega,by simp[ff]⟩,?_⟩;rintro n i ⟨k,rfl,r,rfl⟩;refine⟨λc=>?_,λc=>?_⟩;have b:k<v.items.length:=by simp at c;omega
 refine⟨v.items[k],⟨by omega,jl b⟩,?_⟩;rw[qu];have m:v.items[k]∈v.items:=YW b;have l:=q9 m;have q:=EV b;refine uT (v.items[k]) (by omega) ?_;rw[qd b (by omega)];refine⟨⟨k+1,rfl,by omega,?_⟩,by grind⟩;omega;grind [cR]
termination_by bK v
theorem Fw{v:Tr}(b:Sm v)(h:R (Qs v)):PC Tp gl 59 [Arg.mk .tree v] [.bool] R:=by
 apply TJ;rw[qu];refine BD v b.sz ⟨λr=>r=(bR v:Int),λ_=>Cx v b.sz rfl,λr c=>?_⟩;have e:(bif decide ((bK v:Int)<=4096)then decide (r<=32)else Tb)=Qs v:=by
  unfold Qs;cases hc:decide ((bK v:Int)<=4096)with
  |false=>grind
  |true=>grind
 rw[e];exact h
end
section
theorem RV(w:Sl)(x:Int)(h:zc)(R:Value->zc->Prop) (H:let b:=h.push (.map #[] 0);∃(c:Int->zc->Prop) (d:Int->zc->Nat),c 0 b/\∀e:Int,∀f:zc,c e f->((decide (e<w.len)=Ta->∃g,(w.a=Tc g/\0<=e/\e<w.len)/\∃i,ze f (g.add (e.toNat*1))=Tc (.string i)/\∃j,QExec Tp (zcm 105 (.map (Tc h.size)) (.string i) Tb) f (.bool j)/\∃k:Value->zc->Prop,((!j)=Ta->XC Tp 103 #[.string i] f (λl m=>∃n,l=.bool n/\k (.bool n) m))/\((!j)=Tb->∃o,k (.bool o) f)/\((!j)=Ta->∀p q,k p q->∃r,p=.bool r)/\∀s:Bool,∀t,k (.bool s) t->((bif j then Ta else(!s))=Ta->R (.bool Tb) t)/\((bif j then Ta else(!s))=Tb->XRunU Tp (zbz 105 (.map (Tc h.size)) (.string i) (.bool Ta)) t (λu=>(c (YJ .i64 (e+1)) u/\d (YJ .i64 (e+1)) u<d e f))))/\(decide (e<w.len)=Tb->R (.bool ((w.len:Int)==x)) f))):
  XC Tp 101 #[.slice w.a w.len w.cap,.int .i64 x] h R:=
 XF ⟨[],[(3,[(13,.one (.int .i64))])],[]⟩ [.tmp 4] 32 Tryz.func101 H
theorem j9(k:Sl)(f:FuncId)(e:Array Value)(i:Array Value)(h:zc)(R:Value->zc->Prop) (H:XC Tp 173 #[aK k,.func (.func f) e i] h (λb c=>∃d,b=iV d/\R (.bool (decide (d>=0))) c)):
  XC Tp 99 #[.slice k.a k.len k.cap,.func (.func f) e i] h R:=
 XF ⟨[],[],[]⟩ [.tmp 4] 9 Tryz.func99 H
theorem wq(p:Sl)(o:FuncId)(q:Array Value)(r:Array Value)(h:zc)(R:Value->zc->Prop) (H:∃(b:Int->zc->Prop) (c:Int->zc->Nat),b 0 h/\∀d:Int,∀e:zc,b d e->((decide (d<p.len)=Ta->∃f,(p.a=Tc f/\0<=d/\d<p.len)/\∃g i j k,zd e (f.add (d.toNat*4)) 0 (tL g i j k)/\zx Tp o=Ta/\XC Tp o (q++#[tA g i j k]++r) e (λl m=>∃n,l=.bool n/\(n=Ta->R (iV d) m)/\(n=Tb->(b (YJ .i64 (d+1)) m/\c (YJ .i64 (d+1)) m<c d e))))/\(decide (d<p.len)=Tb->R (iV (-1)) e))):
  XC Tp 173 #[.slice p.a p.len p.cap,.func (.func o) q r] h R:=
 XF ⟨[],[(2,[(8,.one (.int .i64))])],[]⟩ [.tmp 4] 19 Tryz.func173 H
theorem Uw(b:Int)(c:Bt)(d:Sl)(e:Sl)(c1:Addr)(h:zc)(R:Value->zc->Prop) (H:let f:=h.push (.cells #[iV b,.string c,aK d,aK e] 25);∃g i j k,zd f ⟨h.size,0,Td⟩ 0 (tL g i j k)/\∃l:Value,ze f c1=Tc l/\XC Tp 60 #[tA g i j k,l] f (λm n=>∃o,m=.bool o/\R (.bool (!o)) n)):
  XC Tp 100 #[.agg #[.int .i64 b,.string c,.slice d.a d.len d.cap,.slice e.a e.len e.cap],.pointer (Tc c1)] h R:=
 XF ⟨[],[],[]⟩ [.tmp 3] 8 Tryz.func100 H
theorem WC(b:Int)(c:Bt)(d:Sl)(e:Sl)(E:FuncId)(D:Array Value)(F:Array Value)(h:zc)(R:Value->zc->Prop) (H:let f:=h.push (.cells #[iV b,.string c,aK d,aK e] 25);let g:=f.push (.cells #[.func (.func E) D F] 36);∃i:Value,ze g ⟨f.size,0,Td⟩=Tc i/\∃j k l m,zd g ⟨h.size,0,Td⟩ 0 (tL j k l m)/\mq Tp i #[tA j k l m] (λn o=>XC Tp n o g (λp q=>∃r,p=.bool r/\∃s,(r=Ta->ze q (YK ⟨h.size,0,Td⟩ 3)=Tc (aK s))/\∃t:Value->zc->Prop,(r=Ta->XC Tp 99 #[aK s,.func (.func 100) #[] #[.pointer (Tc ⟨f.size,0,Td⟩)]] q (λu v=>∃w,u=.bool w/\t (.bool w) v))/\(r=Tb->∃x,t (.bool x) q)/\(r=Ta->∀y z,t y z->∃A,y=.bool A)/\∀B:Bool,∀C,t (.bool B) C->R (.bool (bif r then(!B)else Tb)) C))):
  XC Tp 60 #[.agg #[.int .i64 b,.string c,.slice d.a d.len d.cap,.slice e.a e.len e.cap],.func (.func E) D F] h R:=
 XF ⟨[],[],[]⟩ [.tmp 4] 15 Tryz.func60 H
theorem PD(b:Int)(c:Bt)(d:Sl)(e:Sl)(h:zc)(R:Value->zc->Prop) (H:let f:=h.push (.cells #[iV b,.string c,aK d,aK e] 25);∃g i j k,zd f ⟨h.size,0,Td⟩ 0 (tL g i j k)/\XC Tp 59 #[tA g i j k] f (λl m=>∃n,l=.bool n/\∃o p q r,(n=Ta->zd m ⟨h.size,0,Td⟩ 0 (tL o p q r))/\∃s:Value->zc->Prop,(n=Ta->XC Tp 60 #[tA o p q r,.func (.func 62) #[] #[]] m (λt u=>∃v,t=.bool v/\s (.bool v) u))/\(n=Tb->∃w,s (.bool w) m)/\(n=Ta->∀x y,s x y->∃z,x=.bool z)/\∀A:Bool,∀B,s (.bool A) B->R (.bool (bif n then A else Tb)) B)):
  XC Tp 65 #[.agg #[.int .i64 b,.string c,.slice d.a d.len d.cap,.slice e.a e.len e.cap]] h R:=
 XF ⟨[],[],[]⟩ [.tmp 2] 9 Tryz.func65 H
end
section
variable {gl:Fr}
theorem Ec:MapT Tp 105 9 4 (.bool Tb):=⟨by kernel_rfl,by kernel_rfl,⟨Tryz.t4,by kernel_rfl,by kernel_rfl⟩⟩
set_option maxHeartbeats 1000000 in
theorem Kq(hg:GL gl){ks:List Bt}{n:Int}(hk:∀k∈ks,(lb k).length<=1048576){R:Bool->Prop}(h:R (ym ks&&decide ((ks.length:Int)=n))):PC Tp gl 101 [Arg.mk (.row .str) ks,Arg.mk (.int .i64) n] [.bool] R:=by
 intro o M vs hM ag ha
 match vs,ha with
 |[u,w],⟨h1,h2,_⟩=>
  obtain⟨s,rfl,P⟩:=lI h1;have hw:=yj h2;subst hw;have P:Rd M (.row .str) ks [aK s]:=P;obtain⟨ab,am,aj⟩:=rowLen P;apply PX.of;apply RV s n;intro g0;have kg:Keep o.size o g0:=Keep.push _ _ (YM _);have sg:g0.size=o.size+1:=ZI _;have mg:MapAt g0 o.size []:=MapAt.new o;clear_value g0;refine⟨λi N=>∃k:Nat,i=k/\k<=ks.length/\o.size<N.size/\(∃L,Later o M N L/\L o.size=Td)/\(∃l,MapAt N o.size l/\∀x,gQ l x (.bool Tb)=.bool (decide (x∈ks.take k)))/\ym (ks.take k)=Ta,λi _=>ks.length-i.toNat,⟨0,rfl,by omega,by omega,⟨M,Later.same ag kg,ag.none (YM _)⟩,⟨[],mg,λx=>rfl⟩,by simp[ym]⟩,?_⟩;rintro i N ⟨k,rfl,ah,A,⟨L,z,J⟩,⟨l,B,D⟩,F⟩;refine⟨λV=>?_,λV=>?_⟩;have q:k<ks.length:=by simp at V;omega
  have Y:=Rd.mono z.le P;refine jt z.ag Y q rfl rfl ?_;have E:=Wk Ec B ks[k] Tb;rw[D]at E;refine⟨decide (ks[k]∈ks.take k),E,?_⟩;have f:=Dk hg.tabs (l:=lb ks[k]) (R:=λb=>b=eW (lb ks[k])) (by grind) rfl;rw[gv]at f;generalize hd:decide (ks[k]∈ks.take k)=d;refine⟨λv C=>∃b,v=.bool b/\(d=Tb->b=eW (lb ks[k]))/\o.size<C.size/\(∃y,Later o M C y/\y o.size=Td)/\MapAt C o.size l,λhn=>?_,λhn=>⟨Ta,Ta,rfl,λe=>(by simp_all),A,⟨L,z,J⟩,B⟩,λ_ v C ⟨b,e,_⟩=>⟨b,e⟩,?_⟩;refine f.go (vs:=[.string ks[k]]) (hM.trans z.le) z.ag (zm (rdStr _) zz) λv C y r t H Q=>⟨r,eP H,r,rfl,λ_=>Q,by have:=t.keep.size;omega,⟨y,z.trans t,by rw[t.old _ A,J]⟩,B.keep (t.keep.get _ A)⟩;rintro b C ⟨b',e,hb,ae,⟨y,t,U⟩,Z⟩;cases e;have I:ks.take (k+1)=ks.take k++[ks[k]]:=YP q;have aa:ym (ks.take (k+1))=(!d&&eW (lb ks[k])):=by
   have p:=F;unfold ym at p ⊢;rw[ZE,zA]at p;rw[I,zbq,p.1,<-hd];have:decide (List.take k ks++[ks[k]]).Nodup=!decide (ks[k]∈ks.take k):=by rw[ZR];simp only[zA,zcg,decide_eq_false_iff_not,List.nodup_append];constructor;grind;grind
   rw[this];simp[Bool.and_comm]
  refine⟨λO=>?_,λO=>?_⟩;refine⟨y,_,t,Yu.2 (rdBool _),?_⟩;have hf:ym (ks.take (k+1))=Tb:=by
   rw[aa];cases d with
   |true=>rfl
   |false=>simp_all
  have ak:ym ks=Tb:=by
   cases hks:ym ks with
   |false=>rfl
   |true=>unfold ym at hks hf;grind
  simp_all;have G:d=Tb:=by cases d with
   |true=>simp at O
   |false=>rfl
  have ai:eW (lb ks[k])=Ta:=by rw[<-hb G];rw[G]at O;simpa using O
  refine Gm Ec Z ks[k] (.bool Ta) λh6 m6 s6 o6=>?_;rw[qd q (by omega)];refine⟨⟨k+1,rfl,by omega,by omega,⟨y,⟨⟨by omega,λi hi=>by rw[o6 i (by omega)];exact t.keep.get i hi⟩,t.le,t.old,?_⟩,U⟩,⟨_,m6,λx=>?_⟩,by simp_all⟩,by grind⟩;intro b c e;have af:b≠o.size:=λe2=>by simp_all
  obtain⟨T,m,e'⟩:=t.ag b c e;simp_all;unfold gQ;rw[Hm,I];by_cases S:ks[k]=x;simp_all;rw[za S];have:=D x;unfold gQ at this;grind;have q:k=ks.length:=by simp at V;omega
  subst q;rw[ZO]at F;refine⟨L,_,z,Yu.2 (rdBool _),?_⟩;grind
def KY(gl:Fr)(F:FuncId)(A C:Array Value)(h:zc)(M:Fr)(t:Ty)(x:El t)(b:Bool):Prop:=
 zx Tp F=Ta/\∀h' M' u,Later h M h' M'->RdV M' t x u->PX Tp F (A++#[u]++C) h' M' [.bool] (λr=>r=b)
theorem oN{F:FuncId}{A C:Array Value}{h:zc}{M:Fr}(ag:AgM M h){xs:List Tr}{s:Sl}(w:Rd M (.row .tree) xs [aK s]){p:Tr->Bool}(o:∀x∈xs,KY gl F A C h M .tree x (p x)):
  PX Tp 99 #[aK s,.func (.func F) A C] h M [.bool] (λr=>r=xs.any p):=by
 apply PX.of;apply j9 s F A C;apply wq s F A C;obtain⟨u,I,B⟩:=rowLen w;refine⟨λi m=>∃k:Nat,i=k/\k<=xs.length/\(∃l,Later h M m l)/\(xs.take k).any p=Tb,λi _=>xs.length-i.toNat,⟨0,rfl,by omega,⟨M,Later.refl ag⟩,by simp⟩,?_⟩;rintro i m ⟨k,rfl,J,⟨l,e⟩,c⟩;refine⟨λn=>?_,λn=>?_⟩;have b:k<xs.length:=by simp at n;omega
 obtain⟨a,sk,si,E,z,G,H⟩:=Xt e.ag (Rd.mono e.le w) b;refine⟨a,⟨E,by omega,by omega⟩,xs[k].kind,xs[k].text,sk,si,by rw[YO];exact z,(o _ (YW b)).1,?_⟩;refine((o _ (YW b)).2 m l _ e (zj G H)).go λv L q r t f y=>⟨r,eP f,λD=>?_,λD=>?_⟩;refine⟨(k:Int),rfl,q,_,e.trans t,Yu.2 (rdBool _),?_⟩;grind;rw[qd b (by omega)];refine⟨⟨k+1,rfl,by omega,⟨q,e.trans t⟩,?_⟩,by grind⟩;rw[YP b,List.any_append,c];simp_all;have b:k=xs.length:=by simp at n;omega
 subst b;rw[ZO]at c;refine⟨-1,rfl,l,_,e,Yu.2 (rdBool _),?_⟩;rw[c];rfl
end
section
variable {l ks:List Bt} {k:Nat} {gl:Fr} {v:Tr} {R:Bool -> Prop} {F:FuncId}
theorem DK:decide (((l.length:Nat):Int)>0)=!l.isEmpty:=by cases l <;> simp
theorem AM{l:List Tr}:decide (((l.length:Nat):Int)>0)=!l.isEmpty:=by cases l <;> simp
theorem IC(s:Bt):(s.toList==(⟨#[]⟩:Bt).toList)=(lb s==[]):=by have:=gu (lb s) [];rw[gv]at this;grind
theorem Aw(s:Bt)(l:Bs):(s.toList==(bl l).toList)=(lb s==l):=by have:=gu (lb s) l;rw[gv]at this;grind
theorem fx{k n:Int}:(k==n)=decide (k=n):=by grind
set_option maxHeartbeats 1000000 in
theorem A5(i:GL gl)(B:Sm v)(h:R (zn v)):PC Tp gl 62 [Arg.mk .tree v] [.bool] R:=by
 apply Sx;have o:(lb v.text).length<=1152921504606846976:=by have:=B.text;omega
 have key:∀b,b=zn v->R b:=λb E=>by grind
 have D:=Yk i (s:=lb v.text) (R:=λr=>R r.2\/v.kind≠3) o;have f:=Dk i.tabs (l:=lb v.text) (R:=λr=>r=eW (lb v.text)) (by omega) rfl;have m:=RO i (s:=lb v.text) (R:=λr=>r=sJ (lb v.text)) o rfl;have n:=Yk i (s:=lb v.text) (R:=λr=>r.2=(eZ (lb v.text)).2) o rfl;rw[gv]at f m n;simp only[fx,DK,AM,show(⟨#[116,114,117,101]⟩:Bt)=bl [116,114,117,101]from rfl,show(⟨#[102,97,108,115,101]⟩:Bt)=bl [102,97,108,115,101]from rfl,Aw];unfold zn at key;refine⟨λx=>key _ ?_,λx=>⟨λt=>?_,λt=>⟨λA=>key _ ?_,λA=>?_⟩⟩⟩;grind;have c:v.kind=6:=by simpa using t
 refine Kq i (λk q=>B.key q) (key _ ?_);simp only[c];grind;grind;have p:v.kind≠5:=by simpa using x
 have c:v.kind≠6:=by simpa using t
 have e:v.keys.isEmpty=Ta/\v.items.isEmpty=Ta:=by cases q:v.keys.isEmpty <;> cases hi:v.items.isEmpty <;> simp[q,hi]at A ⊢
 simp only[p,c,if_false,e.1,e.2,zbp]at key;refine⟨λh1=>key _ ?_,λh1=>⟨λC=>key _ ?_,λC=>⟨λz=>?_,λz=>⟨λu=>?_,λu=>⟨λw=>?_,λw=>key _ ?_⟩⟩⟩⟩⟩;grind;grind;have:v.kind=3:=by simpa using z
 exact n.mono λr y=>key _ (by grind);have:v.kind=4:=by simpa using u
 exact f.mono λr y=>key _ (by grind);have:v.kind=7:=by simpa using w
 exact m.mono λr y=>key _ (by grind);simp_all
theorem kM(h:k<l.length):l[((k:Int)).toNat]?=Tc l[k]:=by simp
theorem vx(b:k<ks.length):ym (ks.take (k+1))=(ym (ks.take k)&&(eW (lb ks[k]) && !decide (ks[k]∈ks.take k))):=by unfold ym;rw[YP b,zbq];grind
theorem EK(k:Nat)(h:ym (ks.take k)=Tb):ym ks=Tb:=by
 cases hks:ym ks with
 |false=>rfl
 |true=>unfold ym at hks h;grind
set_option maxHeartbeats 1000000 in
theorem XK(hg:GL gl)(N:Sm v)(h:R (zn v)):PC Tp gl 162 [Arg.mk .tree v] [.bool] R:=by
 refine PC.bd λA=>?_;have af:v.keys.length<=140737488355328:=(A ⟨.tree,v⟩ (by simp)).1;apply U0;have G:(lb v.text).length<=1152921504606846976:=by have:=N.text;omega
 have key:∀b,b=zn v->R b:=λb Y=>by grind
 have q:=HH (gl:=gl) (l:=lb v.text) (R:=λr=>r=eW (lb v.text)) (by omega) rfl;have p:=As (gl:=gl) (s:=lb v.text) (R:=λr=>r=(eT (eZ (lb v.text)).1,(eZ (lb v.text)).2)) G rfl;rw[gv]at q p;simp only[fx,DK,AM,show(⟨#[116,114,117,101]⟩:Bt)=bl [116,114,117,101]from rfl,show(⟨#[102,97,108,115,101]⟩:Bt)=bl [102,97,108,115,101]from rfl,Aw];have x:∀n:Int,(v.kind != n)=!decide (v.kind=n):=λn=>by rw[bne,fx]
 simp only[x];refine⟨λM=>key _ ?_,λM=>?_⟩;unfold zn;grind;intro K hK;have f:(v.kind≠6->v.keys.isEmpty=Ta)/\(v.kind≠6->v.kind≠5->v.items.isEmpty=Ta):=by rcases Bool.eq_false_or_eq_true v.keys.isEmpty with D|D <;> rcases Bool.eq_false_or_eq_true v.items.isEmpty with hi|hi <;> simp[D,hi]at M ⊢ <;> grind
 unfold zn at key;have H:∀b,(b=Ta↔v.kind=1\/v.kind=5)->K b:=by
  intro b Y;refine hK b ⟨λab=>key _ ?_,λae=>?_⟩;grind;have aa:v.kind≠1/\v.kind≠5:=by constructor;grind;grind
  refine⟨λV=>key _ ?_,λV=>⟨λL=>?_,λL=>⟨λI=>?_,λI=>⟨λS=>?_,λS=>⟨λU=>?_,λU=>key _ ?_⟩⟩⟩⟩⟩;grind;have:v.kind=3:=by simpa using L
  have a:=f.1 (by omega);have c:=f.2 (by omega) (by omega);exact p.mono λr w=>key _ (by grind);have:v.kind=4:=by simpa using I
  have a:=f.1 (by omega);have c:=f.2 (by omega) (by omega);exact q.mono λr w=>key _ (by grind);have:v.kind=7:=by simpa using S
  have a:=f.1 (by omega);have c:=f.2 (by omega) (by omega);refine p.mono λr w=>?_;rw[w];refine GG (n:=(eZ (lb v.text)).1) (jc _ G) (key _ ?_);simp only[zbg];rw[za (by omega),za (by omega),za (by omega),za (by omega),za (by omega),za (by omega),zb this,a,c,zbp,zbp];unfold sJ;rfl;have F:v.kind=6:=by simpa using U
  simp only[F]at key;have o:∀b,b=(ym v.keys&&decide (v.keys.length=v.items.length)&&lb v.text==[])->R b:=key;refine⟨λi=>∃k:Nat,i=k/\k<=v.keys.length/\ym (v.keys.take k)=Ta,λi=>v.keys.length-i.toNat,⟨0,rfl,by omega,by simp[ym]⟩,?_⟩;rintro i ⟨k,rfl,D,y⟩;refine⟨λO=>?_,λO=>?_⟩;have m:k<v.keys.length:=by simp at O;omega
  refine⟨v.keys[k],⟨by omega,kM m⟩,?_⟩;have J:=HH (gl:=gl) (l:=lb v.keys[k]) (R:=λr=>r=eW (lb v.keys[k])) (by have:=N.key (YW m);omega) rfl;rw[gv]at J;refine J.mono λr w=>⟨λQ=>o _ ?_,λQ=>?_⟩;have:ym v.keys=Tb:=EK (k+1) (by grind [vx]);simp[this];have E:eW (lb v.keys[k])=Ta:=by rw[<-w];simpa using Q
  refine⟨λi=>∃j:Nat,i=j/\j<=k/\v.keys[k]∉v.keys.take j,λi=>k-i.toNat,⟨0,rfl,by omega,by simp⟩,?_⟩;rintro i ⟨j,rfl,hj,t⟩;refine⟨λB=>?_,λB=>?_⟩;have z:j<k:=by simp at B;omega
  refine⟨v.keys[j],⟨by omega,kM (by omega)⟩,v.keys[k],⟨by omega,kM m⟩,λu=>o _ ?_,λu=>?_⟩;have Z:v.keys[j]=v.keys[k]:=by have:=Aw v.keys[j] (lb v.keys[k]);rw[gv]at this;rw[this]at u;exact oy.1 (by simpa using u)
  have:ym v.keys=Tb:=EK (k+1) (by grind [vx,List.mem_take_iff_getElem]);simp[this];have P:v.keys[j]≠v.keys[k]:=by intro e;rw[e]at u;simp at u
  rw[qd z (by omega)];refine⟨⟨j+1,rfl,by omega,?_⟩,by grind⟩;rw[YP (by omega),ZG,zaf];grind;have C:j=k:=by simp at B;omega
  subst C;rw[qd m (by omega)];refine⟨⟨j+1,rfl,by omega,?_⟩,by grind⟩;rw[vx m,y,E,zE t];rfl;grind;grind
 grind
theorem vH{gl:Fr}(m:GL gl)(b:Bool)(v:Tr)(l:Sm v){R:Bool->Prop}(h:R (Q4 (λx=>zn x&&(b||decide (x.kind≠7))) v)):PC Tp gl 94 [Arg.mk .tree v,Arg.mk .bool b] [.bool] R:=by
 apply MQ;rw[qu];have s:=l.items;rw[Yj,wo]at h;refine XK m l ⟨λe=>?_,λe=>?_⟩;grind;have r:(zn v&&(b||decide (v.kind≠7)))=Ta:=by rw[fx]at e;cases hn:zn v <;> cases b <;> simp[hn]at e ⊢;exact e
 rw[r,zao]at h;refine⟨λi=>∃k:Nat,i=k/\k<=v.items.length/\(v.items.take k).all (Q4 (λx=>zn x&&(b||decide (x.kind≠7))))=Ta,λi=>v.items.length-i.toNat,⟨0,rfl,by omega,by simp⟩,?_⟩;rintro i ⟨k,rfl,t,f⟩;refine⟨λp=>?_,λp=>?_⟩;have c:k<v.items.length:=by simp at p;omega
 refine⟨v.items[k],⟨by omega,jl c⟩,?_⟩;rw[qu];have n:v.items[k]∈v.items:=YW c;have q:=q9 n;refine vH m b v.items[k] (l.item n) ⟨λo=>?_,λo=>?_⟩;grind;rw[qd c (by omega)];refine⟨⟨k+1,rfl,by omega,?_⟩,by grind⟩;rw[YP c,zbq,f,zao,zbo,zdj,zbp];simpa using o;grind
termination_by bK v
theorem GV{p q:Tr->Bool}(h:∀x,p x=q x)(v:Tr):Q4 p v=Q4 q v:=by have:p=q:=funext h;rw[this]
theorem pS(f:GL gl)(c:Sm v)(h:R (Zp v)):PC Tp gl 139 [Arg.mk .tree v] [.bool] R:=by
 apply UA;rw[qu];refine u0 v c.sz ⟨λr=>r=(bR v:Int),λ_=>uT v c.sz rfl,λr k=>⟨λb=>b=Q4 zn v,λ_=>vH f Ta v c (GV (λx=>by simp) v),λb i=>?_⟩⟩;have e:(bif decide ((bK v:Int)<=4096)then decide (r<=32)else Tb)=Qs v:=by
  unfold Qs;cases hc:decide ((bK v:Int)<=4096)with
  |false=>grind
  |true=>grind
 rw[e]at i ⊢;unfold Zp at h;grind
theorem Rm(hF:zx Tp F=Ta){p:Tr->Bool}(hp:∀x,Sm x->PC Tp gl F [Arg.mk .tree x] [.bool] (λr=>r=p x))(n:Nat):∀(v:Tr),bK v<=n->Sm v->∀{h:zc} {M:Fr} {u:Value},Fr.le gl M->AgM M h->RdV M .tree v u ->
  PX Tp 60 #[u,.func (.func F) #[] #[]] h M [.bool] (λr=>r=Q4 p v):=by
 induction n with
 |zero=>intro v hn;have:=Jc v;omega
 |succ n ih=>
 intro v hn hv h M u hM ag hu;have U:=hu;obtain⟨sk,si,rfl,rk,ri⟩:=ye hu;apply PX.of;apply WC v.kind v.text sk si F #[] #[];intro h1 m;have L1:Later h M h1 M:=Later.push ag _;have f:Later h1 M m (Mx M h1.size #[.func (.func F) #[] #[]]):=Later.frz L1.ag _ _;have s1:h1.size=h.size+1:=ZI _;have s2:m.size=h1.size+1:=ZI _;have t:zd m ⟨h.size,0,Td⟩ 0 [.int .i64 v.kind,.string v.text,aK sk,aK si]:=rS (h':=m) (by have:=f.keep;rw[s1]at this;exact this);have Z:∀h':zc,Keep m.size m h'->ze h' (YK ⟨h.size,0,Td⟩ 3)=Tc (aK si):=λh' k=>by refine KE (h:=h) (T:=25) (cs:=[.int .i64 v.kind,.string v.text,aK sk,aK si]) ?_ rfl;have:=f.keep.trans k (by omega);rw[s1]at this;exact this
 have q:ze m ⟨h1.size,0,Td⟩=Tc (.func (.func F) #[] #[]):=f.ag.cell (Ql _ _ _) rfl;have S:(Mx M h1.size #[.func (.func F) #[] #[]]) h1.size=Tc #[.func (.func F) #[] #[]]:=Ql _ _ _;have D:=L1.trans f;clear_value h1 m;generalize (Mx M h1.size #[.func (.func F) #[] #[]])=M2 at *;refine⟨_,q,v.kind,v.text,sk,si,t,hF,?_⟩;refine(hp v hv).go (vs:=[.agg #[.int .i64 v.kind,.string v.text,aK sk,aK si]]) (hM.trans D.le) D.ag (zm (RdV.mono D.le U) zz) λw h3 N r B y hr=>?_;refine⟨r,eP y,si,λ_=>Z h3 B.keep,?_⟩;have i:=D.trans B;refine⟨λw C=>∃b,w=.bool b/\(r=Ta->b=!(m8 p v.items))/\∃A,Later h M C A,λae=>?_,λab=>⟨Ta,Ta,rfl,λe=>(by simp_all),N,i⟩,λ_ w C ⟨b,e,_⟩=>⟨b,e⟩,?_⟩;have V:Rd N (.row .tree) v.items [aK si]:=Rd.mono i.le ri;have O:N h1.size=Tc #[.func (.func F) #[] #[]]:=B.le _ _ S;refine(oN (gl:=gl) B.ag V (p:=λx=>!(Q4 p x)) λx hx=>⟨by kernel_rfl,λh' M' u' E P=>?_⟩).go λw C A b G o Y=>⟨b,eP o,b,rfl,λ_=>?_,A,i.trans G⟩;have af:=q9 hx;obtain⟨c,l,rfl,I,H⟩:=ye P;apply PX.of;show XC Tp 100 #[.agg #[.int .i64 x.kind,.string x.text,aK c,aK l],.pointer (Tc ⟨h1.size,0,Td⟩)] h' _;apply Uw x.kind x.text c l;intro z;have L:Later h' M' z M':=Later.push E.ag _;have J:zd z ⟨h'.size,0,Td⟩ 0 [.int .i64 x.kind,.string x.text,aK c,aK l]:=rS (Keep.refl _ _);have aa:ze z ⟨h1.size,0,Td⟩=Tc (.func (.func F) #[] #[]):=L.ag.cell (E.le _ _ O) rfl;clear_value z;refine⟨x.kind,x.text,c,l,J,_,aa,?_⟩;refine(ih x (by omega) (hv.item hx) (h:=z) (M:=M') ((hM.trans i.le).trans E.le) L.ag (zj I H)).go λw h5 M5 b L5 s Q=>⟨b,eP s,M5,_,L.trans L5,Yu.2 (rdBool _),by rw[Q]⟩;rw[Y,wo,ZR];simp;rintro b C ⟨b',e,hb,A,G⟩;cases e;refine⟨A,_,G,Yu.2 (rdBool _),?_⟩;grind [Yj]
theorem GA(i:zx Tp F=Ta){p:Tr->Bool}(b:∀x,Sm x->PC Tp gl F [Arg.mk .tree x] [.bool] (λr=>r=p x))(v:Tr)(c:Sm v){h:zc}{M:Fr}{u:Value}(e:Fr.le gl M)(ag:AgM M h)(f:RdV M .tree v u): PX Tp 60 #[u,.func (.func F) #[] #[]] h M [.bool] (λr=>r=Q4 p v):=Rm i b (bK v) v (YM _) c e ag f
theorem qP(D:GL gl)(B:Sm v)(O:R (Zp v)):PC Tp gl 65 [Arg.mk .tree v] [.bool] R:=by
 intro h M vs A ag N
 match vs,N with
 |[u],⟨n,_⟩=>have n:RdV M .tree v u:=n;have m:=n;obtain⟨sk,si,rfl,S,Y⟩:=ye n;apply PX.of;apply PD v.kind v.text sk si;intro h1;have o:Later h M h1 M:=Later.push ag _;have s1:h1.size=h.size+1:=ZI _;have f:∀h':zc,Keep h1.size h1 h'->zd h' ⟨h.size,0,Td⟩ 0 [.int .i64 v.kind,.string v.text,aK sk,aK si]:=λh' k=>rS (h':=h') (by rw[s1]at k;exact k);clear_value h1;refine⟨v.kind,v.text,sk,si,f h1 (Keep.refl _ _),?_⟩;have s:PC Tp gl 59 [Arg.mk .tree v] [.bool] (λr=>r=Qs v):=Fw B rfl;refine s.go (vs:=[.agg #[.int .i64 v.kind,.string v.text,aK sk,aK si]]) (A.trans o.le) o.ag (zm (RdV.mono o.le m) zz) λw C M2 r t l U=>?_;refine⟨r,eP l,v.kind,v.text,sk,si,λ_=>f C t.keep,?_⟩;have c:=o.trans t;refine⟨λw q=>∃b,w=.bool b/\(r=Ta->b=Q4 zn v)/\∃z,Later h M q z,λL=>?_,λI=>⟨Ta,Ta,rfl,λe=>(by simp_all),M2,c⟩,λ_ w q ⟨b,e,_⟩=>⟨b,e⟩,?_⟩;refine(GA (F:=62) (by kernel_rfl) (p:=zn) (λx J=>A5 D J rfl) v B (A.trans c.le) t.ag (RdV.mono c.le m)).go λw V G b E i y=>⟨b,eP i,b,rfl,λ_=>y,G,c.trans E⟩;rintro b q ⟨P,e,Q,z,H⟩;cases e;refine⟨z,_,H,Yu.2 (rdBool _),?_⟩;unfold Zp at O;grind
end
section
theorem XZ(gl:Fr)(c:Tr)(R:Bool->Prop) (H:∃a:Bool->Prop,((c.kind != 7)=Ta->PC Tp gl 62 [Arg.mk .tree (Tr.mk c.kind c.text c.keys c.items)] [.bool] a)/\∀b:Bool,((c.kind != 7)=Ta->a b)->R (bif (c.kind != 7)then b else Tb)):
  PC Tp gl 61 [Arg.mk .tree c] [.bool] R:=
 PF ⟨[],[],[],[]⟩ [.tmp 2] 10 Tryz.func61 H
end
section
theorem Ni(b:Int)(c:Bt)(d:Sl)(e:Sl)(h:zc)(R:Value->zc->Prop) (H:let f:=h.push (.cells #[iV b,.string c,aK d,aK e] 25);let g:=f.push (.cells tC 25);∃i,ze g (YK ⟨h.size,0,Td⟩ 0)=Tc (iV i)/\∃j,ze g (YK ⟨h.size,0,Td⟩ 1)=Tc (.string j)/\let k:=g.push (.cells tC 25);XRunU Tp (YN 25 (.pointer (Tc ⟨g.size,0,Td⟩)) (.agg #[iV i,.string j,.slice Td 0 0,.slice Td 0 0])) k (λl=>∃m,ze l (YK ⟨h.size,0,Td⟩ 0)=Tc (iV m)/\((m != 6)=Ta->∃n,ze l (YK ⟨h.size,0,Td⟩ 3)=Tc (aK n)/\∃(o:Int->zc->Prop) (p:Int->zc->Nat),o 0 l/\∀q:Int,∀r:zc,o q r->((decide (q<n.len)=Ta->∃s,(n.a=Tc s/\0<=q/\q<n.len)/\∃t u v w,zd r (s.add (q.toNat*4)) 0 (tL t u v w)/\let x:=r.push (.cells tC 25);XRunU Tp (YN 25 (.pointer (Tc ⟨r.size,0,Td⟩)) (tA t u v w)) x (λy=>∃z,ze y (YK ⟨g.size,0,Td⟩ 3)=Tc (aK z)/\∃A B C D,zd y ⟨r.size,0,Td⟩ 0 (tL A B C D)/\XC Tp 66 #[tA A B C D] y (λE F=>∃G I J L,E=tA G I J L/\(F)[((YK ⟨g.size,0,Td⟩ 3):Addr).block]?=(y)[((YK ⟨g.size,0,Td⟩ 3):Addr).block]?/\let M:=F.push (.cells #[iV G,.string I,aK J,aK L] 25);(M)[((YK ⟨g.size,0,Td⟩ 3):Addr).block]?=(y)[((YK ⟨g.size,0,Td⟩ 3):Addr).block]?/\xd Tp (YY #[23,23] 23 #[aK z,.slice (Tc ⟨F.size,0,Td⟩) 1 1]) M (λN O=>∃P,N=aK P/\XRunU Tp (YN 23 (.pointer (Tc (YK ⟨g.size,0,Td⟩ 3))) (aK P)) O (λQ=>(o (YJ .i64 (q+1)) Q/\p (YJ .i64 (q+1)) Q<p q r))))))/\(decide (q<n.len)=Tb->∃S T U V,zd r ⟨g.size,0,Td⟩ 0 (tL S T U V)/\XRunU Tp (YN 25 (.pointer (Tc ⟨f.size,0,Td⟩)) (tA S T U V)) r (λW=>∃X Y Z aa,zd W ⟨f.size,0,Td⟩ 0 (tL X Y Z aa)/\R (tA X Y Z aa) W))))/\((m != 6)=Tb->∃ab ac ad ae,zd l ⟨h.size,0,Td⟩ 0 (tL ab ac ad ae)/\XC Tp 108 #[tA ab ac ad ae] l (λaf ag=>∃ah:Option Nat,af=.map ah/\XC Tp 110 #[.map ah] ag (λai aj=>∃ak:Value,ai=ak/\XC Tp 109 #[ak] aj (λal am=>∃an,al=aK an/\XRunU Tp (YN 22 (.pointer (Tc (YK ⟨g.size,0,Td⟩ 2))) (aK an)) am (λao=>∃ap,ze ao (YK ⟨g.size,0,Td⟩ 2)=Tc (aK ap)/\∃(aq:Int->zc->Prop) (ar:Int->zc->Nat),aq 0 ao/\∀au:Int,∀av:zc,aq au av->((decide (au<ap.len)=Ta->∃aw,(ap.a=Tc aw/\0<=au/\au<ap.len)/\∃ax,ze av (aw.add (au.toNat*1))=Tc (.string ax)/\∃ay,ze av (YK ⟨g.size,0,Td⟩ 3)=Tc (aK ay)/\∃az aA aB aC,QExec Tp (zcm 137 (.map ah) (.string ax) Tb) av (tA az aA aB aC)/\(av)[((YK ⟨g.size,0,Td⟩ 3):Addr).block]?=(av)[((YK ⟨g.size,0,Td⟩ 3):Addr).block]?/\XC Tp 66 #[tA az aA aB aC] av (λaD aE=>∃aF aG aH aI,aD=tA aF aG aH aI/\(aE)[((YK ⟨g.size,0,Td⟩ 3):Addr).block]?=(av)[((YK ⟨g.size,0,Td⟩ 3):Addr).block]?/\let aJ:=aE.push (.cells #[iV aF,.string aG,aK aH,aK aI] 25);(aJ)[((YK ⟨g.size,0,Td⟩ 3):Addr).block]?=(av)[((YK ⟨g.size,0,Td⟩ 3):Addr).block]?/\xd Tp (YY #[23,23] 23 #[aK ay,.slice (Tc ⟨aE.size,0,Td⟩) 1 1]) aJ (λaL aM=>∃aN,aL=aK aN/\XRunU Tp (YN 23 (.pointer (Tc (YK ⟨g.size,0,Td⟩ 3))) (aK aN)) aM (λaO=>(aq (YJ .i64 (au+1)) aO/\ar (YJ .i64 (au+1)) aO<ar au av)))))/\(decide (au<ap.len)=Tb->∃aP aQ aS aT,zd av ⟨g.size,0,Td⟩ 0 (tL aP aQ aS aT)/\XRunU Tp (YN 25 (.pointer (Tc ⟨f.size,0,Td⟩)) (tA aP aQ aS aT)) av (λaU=>∃aV aW aX aY,zd aU ⟨f.size,0,Td⟩ 0 (tL aV aW aX aY)/\R (tA aV aW aX aY) aU)))))))))):
  XC Tp 66 #[.agg #[.int .i64 b,.string c,.slice d.a d.len d.cap,.slice e.a e.len e.cap]] h R:=
 XF ⟨[(6,8000),(14,8000)],[(4,[(20,.one (.int .i64))]),(12,[(42,.one (.int .i64))])],[]⟩ [.cell 2 25] 57 Tryz.func66 H
theorem Vr(b:Int)(c:Bt)(d:Sl)(e:Sl)(h:zc)(R:Value->zc->Prop) (H:let f:=h.push (.cells #[iV b,.string c,aK d,aK e] 25);∃g,ze f (YK ⟨h.size,0,Td⟩ 2)=Tc (aK g)/\let i:=f.push (.map #[] 0);∃j,ze i (YK ⟨h.size,0,Td⟩ 2)=Tc (aK j)/\∃(k:Int->zc->Prop) (l:Int->zc->Nat),k 0 i/\∀m:Int,∀n:zc,k m n->((decide (m<j.len)=Ta->∃o,(j.a=Tc o/\0<=m/\m<j.len)/\∃p,ze n (o.add (m.toNat*1))=Tc (.string p)/\∃q,ze n (YK ⟨h.size,0,Td⟩ 3)=Tc (aK q)/\∃r,(q.a=Tc r/\0<=m/\m<q.len)/\∃s t u v,zd n (r.add (m.toNat*4)) 0 (tL s t u v)/\XRunU Tp (zbz 137 (.map (Tc f.size)) (.string p) (tA s t u v)) n (λw=>(k (YJ .i64 (m+1)) w/\l (YJ .i64 (m+1)) w<l m n)))/\(decide (m<j.len)=Tb->R (.map (Tc f.size)) n))):
  XC Tp 108 #[.agg #[.int .i64 b,.string c,.slice d.a d.len d.cap,.slice e.a e.len e.cap]] h R:=
 XF ⟨[],[(3,[(13,.one (.int .i64))])],[]⟩ [.tmp 2] 27 Tryz.func108 H
theorem Mi(b:Int)(c:Bt)(d:Sl)(e:Sl)(h:zc)(R:Value->zc->Prop) (H:let f:=h.push (.cells #[iV b,.string c,aK d,aK e] 25);∃g i j k,zd f ⟨h.size,0,Td⟩ 0 (tL g i j k)/\XC Tp 59 #[tA g i j k] f (λl m=>∃n,l=.bool n/\∃o p q r,(n=Ta->zd m ⟨h.size,0,Td⟩ 0 (tL o p q r))/\∃s:Value->zc->Prop,(n=Ta->XC Tp 60 #[tA o p q r,.func (.func 61) #[] #[]] m (λt u=>∃v,t=.bool v/\s (.bool v) u))/\(n=Tb->∃w,s (.bool w) m)/\(n=Ta->∀x y,s x y->∃z,x=.bool z)/\∀A:Bool,∀B,s (.bool A) B->R (.bool (bif n then A else Tb)) B)):
  XC Tp 25 #[.agg #[.int .i64 b,.string c,.slice d.a d.len d.cap,.slice e.a e.len e.cap]] h R:=
 XF ⟨[],[],[]⟩ [.tmp 2] 9 Tryz.func25 H
end
section
variable {gl:Fr} {v:Tr} {R:Bool -> Prop}
theorem IU(f:GL gl)(i:Sm v)(h:R (decide (v.kind≠7)&&zn v)):PC Tp gl 61 [Arg.mk .tree v] [.bool] R:=by
 apply XZ;simp only[qu];refine⟨λb=>b=zn v,λ_=>A5 f i rfl,λb c=>?_⟩;cases hk:(v.kind != 7)with
 |false=>
  have e:v.kind=7:=by simpa using hk
  have:(decide (v.kind≠7)&&zn v)=Tb:=by simp[e]
  rw[this]at h;simpa[hk]using h
 |true=>
  have e:v.kind≠7:=by simpa using hk
  have c:=c hk;subst c;have:(decide (v.kind≠7)&&zn v)=zn v:=by simp[e]
  rw[this]at h;simpa[hk]using h
theorem wx(H:GL gl)(D:Sm v)(q:R (yn v)):PC Tp gl 25 [Arg.mk .tree v] [.bool] R:=by
 intro h M vs C ag Q
 match vs,Q with
 |[u],⟨o,_⟩=>
  have o:RdV M .tree v u:=o;have n:=o;obtain⟨sk,si,rfl,U,Y⟩:=ye o;apply PX.of;apply Mi v.kind v.text sk si;intro h1;have s:Later h M h1 M:=Later.push ag _;have s1:h1.size=h.size+1:=ZI _;have f:∀h':zc,Keep h1.size h1 h'->zd h' ⟨h.size,0,Td⟩ 0 [.int .i64 v.kind,.string v.text,aK sk,aK si]:=λh' k=>rS (h':=h') (by rw[s1]at k;exact k);clear_value h1;refine⟨v.kind,v.text,sk,si,f h1 (Keep.refl _ _),?_⟩;have y:PC Tp gl 59 [Arg.mk .tree v] [.bool] (λr=>r=Qs v):=Fw D rfl;refine y.go (vs:=[.agg #[.int .i64 v.kind,.string v.text,aK sk,aK si]]) (C.trans s.le) s.ag (zm (RdV.mono s.le n) zz) λw E M2 r z l N=>?_;refine⟨r,eP l,v.kind,v.text,sk,si,λ_=>f E z.keep,?_⟩;have c:=s.trans z;refine⟨λw t=>∃b,w=.bool b/\(r=Ta->b=Q4 (λx=>decide (x.kind≠7)&&zn x) v)/\∃B,Later h M t B,λP=>?_,λm=>⟨Ta,Ta,rfl,λe=>(by rw[e]at m;cases m),M2,c⟩,λ_ w t ⟨b,e,_⟩=>⟨b,e⟩,?_⟩;refine(GA (F:=61) (by kernel_rfl) (p:=λx=>decide (x.kind≠7)&&zn x) (λx O=>IU H O rfl) v D (C.trans c.le) z.ag (RdV.mono c.le n)).go λw V J b I i A=>⟨b,eP i,b,rfl,λ_=>A,J,c.trans I⟩;rintro b t ⟨S,e,G,B,L⟩;cases e;refine⟨B,_,L,Yu.2 (rdBool _),?_⟩;unfold yn at q;rw[<-N]at q;cases r with
  |false=>exact q
  |true=>rw[zF,G rfl];exact q
end
section
variable {cs:Array Value}
theorem elemStr:ElemT Tp 22 9 (.string ⟨#[]⟩) 1 16:=⟨by kernel_rfl,⟨Tryz.t9,by kernel_rfl,by kernel_rfl,by kernel_rfl,by kernel_rfl⟩,rfl,by omega⟩
theorem sj:ElemT Tp 23 25 (.agg #[.int .i64 0,.string ⟨#[]⟩,.slice Td 0 0,.slice Td 0 0]) 4 72:=⟨by kernel_rfl,⟨Tryz.t25,by kernel_rfl,by kernel_rfl,by kernel_rfl,by kernel_rfl⟩,rfl,by omega⟩
theorem SZ:qj Tp 25=Ta:=by kernel_rfl
theorem QZ:yb Tp 25=4:=by kernel_rfl
theorem VJ:qj Tp 22=Ta:=by kernel_rfl
theorem TT:yb Tp 22=1:=by kernel_rfl
def jm(k:Int)(s:Bt)(sk si:Sl):List Value:=[.int .i64 k,.string s,aK sk,aK si]
theorem NI(k:Int)(s:Bt)(sk si:Sl):∀u∈jm k s sk si,u.oneCell'=Ta:=by intro u b;simp[jm]at b;rcases b with rfl|rfl|rfl|rfl <;> simp[Value.oneCell',aK]
theorem WH(k:Int)(s:Bt)(sk si:Sl):(Value.agg #[.int .i64 k,.string s,aK sk,aK si]).cells.toList=jm k s sk si:=rfl
theorem tu{vs:List Value}(h:cs.size=vs.length):upd cs 0 vs=vs.toArray:=by unfold upd;simp_all
theorem rO{h:zc}{b:Nat}(H:Blk h b cs)(e:cs.size=4)(k:Int)(s:Bt)(sk si:Sl){K:zc->Prop}
  (i:∀h':zc,Blk h' b (jm k s sk si).toArray->h'.size=h.size->(∀j,j≠b->h'[j]?=h[j]?)->K h'):XRunU Tp (YN 25 (.pointer (Tc ⟨b,0,Td⟩)) (.agg #[.int .i64 k,.string s,.slice sk.a sk.len sk.cap,.slice si.a si.len si.cap])) h K:=
 J5 (vs:=jm k s sk si) SZ H (WH k s sk si) QZ (by rw[e];exact YM _) (NI k s sk si) λh' c l f=>i h' (by rw[tu (by rw[e];rfl)]at c;exact c) l f
end
section
theorem Lo(b:Int)(c:Bt)(d:Sl)(e:Sl)(f:Int)(g:Bt)(i:Sl)(j:Sl)(h:zc)(R:Value->zc->Prop) (H:let k:=h.push (.cells #[iV b,.string c,aK d,aK e] 25);let l:=k.push (.cells #[iV f,.string g,aK i,aK j] 25);∀m:Bool->zc->Prop,(∀n:Bool,∀o:zc,((n=Ta->R (.bool Tb) o)/\(n=Tb->∃p,ze o (YK ⟨h.size,0,Td⟩ 0)=Tc (iV p)/\((p != 6)=Ta->∃q,ze o (YK ⟨h.size,0,Td⟩ 3)=Tc (aK q)/\∃r,ze o (YK ⟨k.size,0,Td⟩ 3)=Tc (aK r)/\XC Tp 324 #[aK q,aK r,.func (.func 265) #[] #[]] o (λs t=>∃u,s=.bool u/\R (.bool u) t))/\((p != 6)=Tb->∃v w x y,zd o ⟨h.size,0,Td⟩ 0 (tL v w x y)/\∃z A B C,zd o ⟨k.size,0,Td⟩ 0 (tL z A B C)/\XC Tp 108 #[tA v w x y] o (λD E=>∃F:Option Nat,D=.map F/\(E)[(⟨k.size,0,Td⟩:Addr).block]?=(o)[(⟨k.size,0,Td⟩:Addr).block]?/\XC Tp 108 #[tA z A B C] E (λG I=>∃J:Option Nat,G=.map J/\XC Tp 325 #[.map F,.map J,.func (.func 265) #[] #[]] I (λL M=>∃N,L=.bool N/\R (.bool N) M))))))->m n o)->∃O,ze l (YK ⟨h.size,0,Td⟩ 0)=Tc (iV O)/\∃P,ze l (YK ⟨k.size,0,Td⟩ 0)=Tc (iV P)/\((O != P)=Ta->m (O != P) l)/\((O != P)=Tb->∃Q,ze l (YK ⟨h.size,0,Td⟩ 1)=Tc (.string Q)/\∃S,ze l (YK ⟨k.size,0,Td⟩ 1)=Tc (.string S)/\((!(Q.toList==S.toList))=Ta->m (!(Q.toList==S.toList)) l)/\((!(Q.toList==S.toList))=Tb->∃T,ze l (YK ⟨h.size,0,Td⟩ 3)=Tc (aK T)/\∃U,ze l (YK ⟨k.size,0,Td⟩ 3)=Tc (aK U)/\m ((T.len:Int) != (U.len:Int)) l))):
  XC Tp 265 #[.agg #[.int .i64 b,.string c,.slice d.a d.len d.cap,.slice e.a e.len e.cap],.agg #[.int .i64 f,.string g,.slice i.a i.len i.cap,.slice j.a j.len j.cap]] h R:=
 XF ⟨[(7,8000)],[],[(4,[(5,.one (.bool))])]⟩ [.tmp 4] 37 Tryz.func265 H
theorem yd(F:Sl)(G:Sl)(I:FuncId)(J:Array Value)(L:Array Value)(h:zc)(R:Value->zc->Prop) (H:(((F.len:Int) != (G.len:Int))=Ta->R (.bool Tb) h)/\(((F.len:Int) != (G.len:Int))=Tb->∃(b:Int->zc->Prop) (c:Int->zc->Nat),b 0 h/\∀d:Int,∀e:zc,b d e->((decide (d<F.len)=Ta->∃f,(F.a=Tc f/\0<=d/\d<F.len)/\∃g i j k,zd e (f.add (d.toNat*4)) 0 (tL g i j k)/\let l:=e.push (.cells tC 25);XRunU Tp (YN 25 (.pointer (Tc ⟨e.size,0,Td⟩)) (tA g i j k)) l (λm=>∃n,(G.a=Tc n/\0<=d/\d<G.len)/\∃o p q r,zd m (n.add (d.toNat*4)) 0 (tL o p q r)/\let s:=m.push (.cells tC 25);XRunU Tp (YN 25 (.pointer (Tc ⟨m.size,0,Td⟩)) (tA o p q r)) s (λt=>∃u v w x,zd t ⟨e.size,0,Td⟩ 0 (tL u v w x)/\∃y z A B,zd t ⟨m.size,0,Td⟩ 0 (tL y z A B)/\zx Tp I=Ta/\XC Tp I (J++#[tA u v w x,tA y z A B]++L) t (λC D=>∃E,C=.bool E/\((!E)=Ta->R (.bool Tb) D)/\((!E)=Tb->(b (YJ .i64 (d+1)) D/\c (YJ .i64 (d+1)) D<c d e))))))/\(decide (d<F.len)=Tb->R (.bool Ta) e)))):
  XC Tp 324 #[.slice F.a F.len F.cap,.slice G.a G.len G.cap,.func (.func I) J L] h R:=
 XF ⟨[],[(4,[(17,.one (.int .i64))])],[]⟩ [.tmp 6] 32 Tryz.func324 H
theorem qb(aI:Option Nat)(aH:Option Nat)(aE:FuncId)(aG:Array Value)(aF:Array Value)(h:zc)(R:Value->zc->Prop) (H:∃b,QExec Tp (zb5 #[137] 3 #[.map aI]) h (iV b)/\∃c,QExec Tp (zb5 #[137] 3 #[.map aH]) h (iV c)/\((b != c)=Ta->R (.bool Tb) h)/\((b != c)=Tb->xd Tp (zdd 137 (.map aI)) h (λd e=>∃f:Option Addr,d=.pointer f/\∃(g:zc->Prop) (i:zc->Nat),g e/\∀j:zc,g j->(xd Tp (zc9 (.pointer f) Tb 0) j (λk l=>(k=.tuple #[.bool Tb]/\(Tb=Ta->xd Tp (zde (.pointer f)) l (λm n=>∃o p:Value,m=.tuple #[o,p]/\let q:=n.push (.cells tC 25);XRunU Tp (YN 25 (.pointer (Tc ⟨n.size,0,Td⟩)) p) q (λr=>∃s t u v w,QExec Tp (zcm 137 (.map aH) o Ta) r (.tuple #[tA s t u v,.bool w])/\let x:=r.push (.cells tC 25);XRunU Tp (YN 25 (.pointer (Tc ⟨r.size,0,Td⟩)) (tA s t u v)) x (λy=>∃z A B C,((!(!w))=Ta->zd y ⟨n.size,0,Td⟩ 0 (tL z A B C))/\∃D E F G,((!(!w))=Ta->zd y ⟨r.size,0,Td⟩ 0 (tL D E F G))/\∃I:Value->zc->Prop,((!(!w))=Ta->zx Tp aE=Ta/\XC Tp aE (aG++#[tA z A B C,tA D E F G]++aF) y (λJ L=>∃M,J=.bool M/\I (.bool M) L))/\((!(!w))=Tb->∃N,I (.bool N) y)/\((!(!w))=Ta->∀O P,I O P->∃Q,O=.bool Q)/\∀S:Bool,∀T,I (.bool S) T->((bif (!w)then Ta else(!S))=Ta->R (.bool Tb) T)/\((bif (!w)then Ta else(!S))=Tb->(g T/\i T<i j))))))/\(Tb=Tb->R (.bool Ta) l))\/∃U V:Value,k=.tuple #[.bool Ta,U,V]/\(Ta=Ta->xd Tp (zde (.pointer f)) l (λW X=>∃Y Z:Value,W=.tuple #[Y,Z]/\let aa:=X.push (.cells tC 25);XRunU Tp (YN 25 (.pointer (Tc ⟨X.size,0,Td⟩)) Z) aa (λab=>∃ac ad ae af ag,QExec Tp (zcm 137 (.map aH) Y Ta) ab (.tuple #[tA ac ad ae af,.bool ag])/\let ah:=ab.push (.cells tC 25);XRunU Tp (YN 25 (.pointer (Tc ⟨ab.size,0,Td⟩)) (tA ac ad ae af)) ah (λai=>∃aj ak al am,((!(!ag))=Ta->zd ai ⟨X.size,0,Td⟩ 0 (tL aj ak al am))/\∃an ao ap aq,((!(!ag))=Ta->zd ai ⟨ab.size,0,Td⟩ 0 (tL an ao ap aq))/\∃ar:Value->zc->Prop,((!(!ag))=Ta->zx Tp aE=Ta/\XC Tp aE (aG++#[tA aj ak al am,tA an ao ap aq]++aF) ai (λau av=>∃aw,au=.bool aw/\ar (.bool aw) av))/\((!(!ag))=Tb->∃ax,ar (.bool ax) ai)/\((!(!ag))=Ta->∀ay az,ar ay az->∃aA,ay=.bool aA)/\∀aB:Bool,∀aC,ar (.bool aB) aC->((bif (!ag)then Ta else(!aB))=Ta->R (.bool Tb) aC)/\((bif (!ag)then Ta else(!aB))=Tb->(g aC/\i aC<i j))))))/\(Ta=Tb->R (.bool Ta) l)))))):
  XC Tp 325 #[.map aI,.map aH,.func (.func aE) aG aF] h R:=
 XF ⟨[],[(4,[])],[]⟩ [.tmp 6] 38 Tryz.func325 H
end
end Go.X
end
