/- A part of the proof: nothing is stated here for its own sake. -/
import Derived.Test.YtplilfikcimcbaaGreatDoorPjD
import Derived.Sort.KeysCollected
import Derived.Sort.OwnSortedInts
open _root_.Go.Addr renaming add->YH
open _root_.Array renaming getElem?_eq_some_iff->YZ,push->zbq,size->ZK,size_push->YW
open _root_.Bool renaming and_eq_true->YR,eq_iff_iff->ZI,true_and->zbb
open _root_.Go.Builtin renaming append_->YN,len_->zch
open _root_.Classical renaming byContradiction->zce
open _root_.Go.Instr renaming entry->zdc,findNow->zb5,keyThatStays->zcn,lookup->zc0,mapUpdate->zbk,next->zcm,range->zdm,sameNow->zdj,storeAt->YI
open _root_.Int renaming toNat_natCast->YL
open _root_.Go.IntKind renaming i64->zaw,wrap->YG
open _root_.List renaming Pairwise->zdk,all_eq_true->ZB,all_map->zc4,append_assoc->ZL,append_nil->ZY,cons_append->ZT,drop_drop->zap,drop_eq_getElem_cons->ZG,eq_nil_of_length_eq_zero->ZU,ext_getElem?->zar,filter_cons->zbl,getD_eq_getElem?_getD->zaf,getElem?_eq_getElem->YS,getElem?_eq_none->zcp,getElem?_eq_some_iff->ZN,getElem?_map->zav,getElem?_modify->zax,getElem_append_left->zb6,getElem_append_right->zb0,getElem_map->zby,getElem_mem->YY,getElem_set_self->zc8,length->za6,length_append->YM,length_cons->YU,length_eq_zero_iff->za2,length_map->YO,length_nil->ZW,length_pos_iff->zaj,length_range->zc9,length_replicate->zb3,length_set->zcq,length_singleton->zbp,length_take->ZV,map_append->zaa,map_congr_left->zck,map_cons->ZC,map_fst_zip->zdh,map_id->zdz,map_map->zak,map_nil->zbg,mem_append->ZF,mem_append_left->YV,mem_append_right->ZH,mem_cons->YT,mem_cons_of_mem->ZA,mem_cons_self->ZD,mem_flatMap->zbz,mem_iff_getElem->zbt,mem_map->zab,mem_range->zaz,mem_singleton->za8,mergeSort_perm->zcw,nil_append->zal,nodup_cons->zbh,nodup_nil->zdq,pairwise_cons->za4,pairwise_lt_range->zc1,range->zac,range_succ->zbv,replicate->zay,take_append_drop->zba,take_length->ZX,take_of_length_le->za0,take_succ_cons->zcj,take_succ_eq_append_getElem->YP,take_zero->zco,zip_cons_cons->zbe
open _root_.List.cons renaming injEq->za7
open _root_.Nat renaming le_refl->YJ,le_trans->zbd,min_eq_left->zci,mul_one->zbf,not_lt_zero->zcd,zero_add->ZO,zero_le->ZQ
open _root_.Go.Next renaming value->zda
open _root_.Option.some renaming inj->ZZ
open _root_.Prod.mk renaming injEq->za5
open _root_.Go.Proofs.Tryz renaming prog->ZM
open _root_.UInt8 renaming ofNat->ZR,toNat_inj->zcc
open _root_.Go.Value renaming int->zad,slice->zb2,string->ZS
open _root_.Go.Value.slice renaming injEq->zai
open _root_.Go.Sem renaming run_bind->DM
open _root_.Go.Result renaming andThen_ok->D0
open _root_.Go renaming FuncId->n5,Addr->n8
open _root_.Decidable renaming decide->hV
open _root_.Array renaming setIfInBounds->o0
open _root_.Go.X.Arg renaming mk->qr
open _root_.Go.X.Bk renaming push->rg
open _root_.Go.X.wr renaming same->up
open _root_.Go.X.At renaming underlying->ur
open _root_.List renaming length->DB
set_option linter.all false
set_option maxRecDepth 1000000
set_option maxHeartbeats 20000000
open Go.Proofs.Tryz
namespace Go.X
end Go.X
namespace Go.Proofs
end Go.Proofs
open Go Go.X Go.Proofs
open _root_.Bool renaming true->Ta,false->Tc
open _root_.Option renaming some->Td,none->Te
namespace Go.X
section
open Go.RowKit
variable {v:Tr} {ln:Bool} {N lv:Nat} {gl M:Fr}
def Qx(v:Tr):Bt×Int:=if qh v=Ta then(bl (j9 Tc 0 v 0),0)else(⟨#[]⟩,1)
def Y5(h:qh v=Ta):cK v<=4096/\eM v<=32/\Qc dR v=Ta/\Qc zq v=Ta:=by unfold qh wy at h;simp only[YR,zA]at h;refine⟨h.1.1,h.1.2,h.2,?_⟩;exact pu (λx b=>by rw[YR]at b;exact b.2) v h.2
def KS(h:qh v=Ta):j9 ln N v lv≠[]:=by have:=(Y5 h).2.2.1;rw[y8,YR]at this;exact MS this.1
def NI(o:GL gl)(n:Brn gl)(h:Sm v)(e:qh v=Ta)(f:N<=8)(w:lv<=32){g:zb}{b:Nat}(m:Fr.le gl M)(ag:AgM M g)(low:∀c cs,M c=Td cs->c<b)(H:Prn g b ln (N:Int) []) {sk si:Sl} (t:Rd M (.row .str) v.XK [aK sk]) (q:Rd M (.row .tree) v.WT [aK si]) {K:vvv} (s:∀h',Bk b g h'->K (aa6 (bl (j9 ln N v lv))) h'):aa4 201 #[aa7 ⟨b,0,Te⟩,gX v.Wf v.aa0 sk si,ab0 (lv:Int)] g λr h1=>r=.tuple #[]/\aa4 70 #[.pointer (Td (YH ⟨b,0,Te⟩ 0))] h1 K:=by have⟨x,y,u,p⟩:=Y5 e;have l:=uK (ln:=ln) f (cK v) v lv (YJ _) h ω;refine BS o n f 1000000 v lv sk si (YJ _) ω p h ω t q [] g _ H ⟨m,ag,low⟩ (by simp only[ZW];omega) λg' i f'=>⟨rfl,?_⟩;rw[PA];rw[zal]at i;exact TX i (KS e) λh' k=>s h' (f'.aa1.trans k (YJ _))
def tH(s:Bt)(e:Int):x7 M [.str,.int .i64] (s,e) (.tuple #[aa6 s,ab0 e]):=⟨[_,_],⟨_,_,rfl,DH _,_,rfl,Zj _ _⟩,rfl⟩
def VP(y:GL gl)(A:Brn gl)(z:Sm v){R:Bt×Int->Prop}(m:R (Qx v)):aa5 gl 126 [qr .tree v] [.str,.int .i64] R:=by
 intro h M vs x ag G
 match vs,G with
 |[u],⟨p,_⟩=>
  have p:RdV M .tree v u:=p;have t:=p;obtain⟨sk,si,rfl,D,F⟩:=yg p;apply PX.of;apply QK v.Wf v.aa0 sk si;intro h1;have f:wr h M h1 M:=wr.push ag _;have s1:h1.size=h.size+1:=YW _;have i:∀h':zb,Bk h1.size h1 h'->zc h' (aa8 h) 0 [ab0 v.Wf,aa6 v.aa0,aK sk,aK si]:=λh' k=>m8 (h':=h') (by rw[s1]at k;exact k);clear_value h1;refine⟨v.Wf,v.aa0,sk,si,i h1 (Bk.refl _ _),?_⟩;refine(HO y z (R:=λr=>r=qh v) rfl).go (vs:=[.agg #[ab0 v.Wf,aa6 v.aa0,aK sk,aK si]]) (x.trans f.le) f.ag (zn (RdV.mono f.le t) zw) λw h2 s r b n E=>?_;subst E;refine⟨_,ez n,λl=>?_,λl=>?_⟩;have l:qh v=Tc:=ψ l
  unfold Qx at m;rw[za (υ l)]at m;exact⟨s,_,f.trans b,tH _ _,m⟩;have l:qh v=Ta:=ψ l
  unfold Qx at m;rw[zi l]at m;intro o;have B:Prn o h2.size Tc ((0:Nat):Int) []:=Prn.new h2 Tc 0;have q:Bk h2.size h2 o:=rg _ _ (YJ _);clear_value o;have C:wr h M o s:=(f.trans b).trans (up b.ag q);refine⟨v.Wf,v.aa0,sk,si,i o (b.aa1.trans q b.aa1.size),?_⟩;refine NI y A z l (N:=0) (lv:=0) ω ω (x.trans (f.trans b).le) C.ag (λc cs e=>b.ag.lt e) B (D.mono (f.trans b).le) (F.mono (f.trans b).le) λI H=>⟨_,rfl,s,_,?_,tH _ _,m⟩;exact(f.trans b).trans (up b.ag (q.trans H (YJ _)))
end
section
section
def yv(b:Nat)(c1:n8)(h:zb)(R:vvv) (H:∃s:Option Nat,zd h c1=Td (.map s)/\CA Tp (zdm 144 (.map s)) h (λG F=>∃k:Option n8,G=.pointer k/\∃(o:zb->Prop) (p:zb->Nat),o F/\∀m:zb,o m->(CA Tp (zcm (.pointer k) Tc 0) m (λz l=>(z=.tuple #[aa9 Tc]/\(Tc=Ta->CA Tp (zdc (.pointer k)) l (λy B=>∃r u:Value,y=.tuple #[r,u]/\YX Tp b #[r] B (λx f=>∃e:Bool,x=.bool e/\((!e)=Ta->R (.tuple #[]) f)/\((!e)=Tc->(o f/\p f<p m)))))/\(Tc=Tc->R (.tuple #[]) l))\/∃C A:Value,z=.tuple #[aa9 Ta,C,A]/\(Ta=Ta->CA Tp (zdc (.pointer k)) l (λD E=>∃q w:Value,D=.tuple #[q,w]/\YX Tp b #[q] E (λt i=>∃c:Bool,t=.bool c/\((!c)=Ta->R (.tuple #[]) i)/\((!c)=Tc->(o i/\p i<p m)))))/\(Ta=Tc->R (.tuple #[]) l))))):jp Tp 222 #[.func (.yield b) #[] #[],aa7 c1] h R:=
 Hk Tryz.mixed ⟨[],[(1,[])],[]⟩ [.func (.yield b) #[] #[],aa7 c1] (rs:=[]) (n:=14) func222 κ κ κ κ (Eq.mp κ H)
def Zu(k:Sl)(f:Value)(h:zb)(R:vvv) (H:let c:zb:=zbq h (.cells #[.slice k.a k.len k.cap] 22);∃(o:n5) (l:ab3),f=.func (.func o) #[] l/\zr Tp o=Ta/\∀e:fR,(∀{q:Value} {m:zb} {p:vvv},m[(ZK c+1)]?=Td (.loop (e .ready Te))->ir Tp 13 (iM (codeOf Tryz.f277)) (iu (codeOf Tryz.f277)) e (ZK c+1) p (putO [(0,[],.slice k.a k.len k.cap),(1,[],f),(2,[],aa7 ⟨ZK h,0,Te⟩),(4,[],.slice Te 0 0),(6,[],f)] (Td 7) [] q) m->YX Tp (ZK c+1) #[q] m p)->jp Tp o (#[.func (.yield (ZK c+1)) #[] #[]]++l) (zbq (zbq c (.deferred (Td []))) (.loop (e .ready Te))) λ_ r=>nF e (ZK c+1) (λi=>∃b:Sl,zd i ⟨ZK h,0,Te⟩=Td (.slice b.a b.len b.cap)/\(i)[ZK c]?=Td (.deferred (Td []))/\R (.slice b.a b.len b.cap) (o0 i (ZK c) (.deferred Te))) (λi=>(i)[ZK c]?=Td (.deferred (Td []))/\R (.slice Te 0 0) (o0 i (ZK c) (.deferred Te))) r):aa4 277 #[.slice k.a k.len k.cap,f] h R:=
 FH Tryz.mixed [.slice k.a k.len k.cap,f] (rs:=[.tmp 4]) (n:=13) func277 κ κ κ κ H (pl:=[]) κ
def Zv(x0:Value)(r:Value)(n:n8)(p:Value)(q:Value)(o:Bt)(rec:fR)(l:Nat)(K:vvv)(h:zb) (H:(h)[l]?=Td (.loop (rec .ready Te))/\let e:zb:=o0 h l (.loop (rec .busy Te));∃c:Sl,zd e n=Td (.slice c.a c.len c.cap)/\let i:zb:=zbq e (.cells #[aa6 o] 9);CA Tp (YN #[22,22] 22 #[.slice c.a c.len c.cap,.slice (Td ⟨ZK e,0,Te⟩) 1 1]) i (λk m=>∃b:Sl,k=.slice b.a b.len b.cap/\wf Tp (YI 22 (aa7 n) (.slice b.a b.len b.cap)) m (λf=>(f)[l]?=Td (.loop (rec .busy Te))/\K (aa9 Ta) (o0 f l (.loop (rec .ready Te)))))):ir Tp 13 (iM (codeOf Tryz.f277)) (iu (codeOf Tryz.f277)) rec l K [(7,[],aa6 o),(0,[],x0),(1,[],r),(2,[],aa7 n),(4,[],p),(6,[],q)] h:=
 Eq.mp κ H
end
section
def X4(k:n5)(i:ab3)(l:ab3)(h:zb)(R:vvv) (H:aa4 220 #[.func (.func k) i l] h (λb c=>∃d,b=aK d/\aa4 221 #[aK d] c (λe f=>e=.tuple #[]/\R (aK d) f))):aa4 161 #[.func (.func k) i l] h R:=XF ⟨[],[],[]⟩ [.tmp 2] 9 func161 H
def y5(b:ac3)(h:zb)(R:vvv) (H:let a:=h.push (.cells #[.map b] 144);R (.func (.func 222) #[] #[aa7 (aa8 h)]) a):aa4 162 #[.map b] h R:=XF ⟨[],[],[]⟩ [.tmp 2] 4 func162 H
def Wy(f:n5)(e:ab3)(i:ab3)(h:zb)(R:vvv) (H:aa4 277 #[.slice Te 0 0,.func (.func f) e i] h (λb c=>∃d,b=aK d/\R (aK d) c)):aa4 220 #[.func (.func f) e i] h R:=XF ⟨[],[],[]⟩ [.tmp 2] 5 func220 H
end
end
section
open Go.Shelf Go.RowKit
def NE:Go.Shelf.Ren:=⟨fun|190=>221|125=>114|258=>278|128=>177|129=>178|302=>324|303=>325|304=>326|305=>327|306=>328|307=>329|308=>330|309=>331|310=>332|333=>371|329=>236|330=>237|334=>372|335=>373|336=>207|344=>395|n=>n,fun|31=>22|9=>9|3=>3|46=>123|0=>0|51=>176|53=>178|4=>4|183=>168|182=>167|131=>173|5=>5|218=>245|222=>249|228=>299|229=>300|n=>n,fun|n=>n⟩
def CX:Go.Proofs.Lays.n190 Tp NE:=by constructor <;> intros <;> kernel_rfl
open Go.Sort Go.RowKit in
def IK(blk off cap:Nat)(ss:List (List UInt8))(w:World)(f:Holds encStr w blk off ss.toArray)(b:blk<w.heap.size)(c:ss.length<4611686018427387904):Calls Tp 221 #[.slice (Td ⟨blk,off,Te⟩) (DB ss) cap] w λe w'=>e=.returned (.tuple #[])/\∃n os,w'=grow (putRow encStr (Sort.ahead w n) blk off (ss.mergeSort λx y=>decide (x<=y)).toArray) os:=Any.slices_Sort_string CX blk off cap ss w f b c
open Go.RowKit Go.Sort in
def J6(p:Option n8)(cap:Nat)(w:World):Calls Tp 221 #[.slice p 0 cap] w λe w'=>e=.returned (.tuple #[])/\w'=w:=Any.slices_Sort_string_none CX p cap w
end
section
open Go.ChangeMaps
variable {h h':zb} {m r:Nat} {P:Program} {t kt et ty:TypeId} {K:Value -> zb -> Prop} {dn:List Value}
def JT(h:zb)(m:Nat)(l:List (Value×Value)):Prop:=
 ∃c b,h[m]?=Td (.map c b)/\c.toList.map (λe=>(e.key,e.val))=l/\(∀e∈c.toList,e.born<b)/\(c.toList.map (·.born)).Nodup
theorem JT.aa1{l:List (Value×Value)}(H:JT h m l)(k:h'[m]?=h[m]?):JT h' m l:=by have⟨b,c,h1,h2⟩:=H;exact⟨b,c,k.trans h1,h2⟩
theorem JT.lt{l:List (Value×Value)}(H:JT h m l):m<h.size:=by have⟨b,c,h1,h2⟩:=H;grind
theorem JT.new(h:zb):JT (h.push (.map #[] 0)) h.size []:=⟨#[],0,jc _ _,rfl,ξ,ξ⟩
def eI(l:List (Bt×Value)):List (Value×Value):=l.map λp=>(ZS p.1,p.2)
theorem JT.at{l:List (Bt×Value)}(H:JT h m (eI l)):LE h m l:=by have⟨b,c,h1,h2,_⟩:=H;exact⟨b,c,h1,h2⟩
def YE{z:Value}(T:MapT P t kt et z){l:List (Bt×Value)}(H:JT h m (eI l))(k:Bt)(v:Value){K:zb->Prop}(w:∀h':zb,JT h' m (eI (iH l k v))->h'.size=h.size->(∀i,i≠m->h'[i]?=h[i]?)->K h'):wf P (zbk t (.map (Td m)) (aa6 k) v) h K:=by
 have f:=H.lt;have⟨b,c,h1,h2,L,I⟩:=H;intro B d;have A:=ur (h:=h) T.map B d;have u:=Yg (P:=P) h1 B d;have C:=zV T.key Tc k h B d;have n:∀o:Obj,(setObj m o).run P (mk B d h)=.ok () (mk B d (h.setIfInBounds m o)):=by intro o;have:(mk B d h).heap[m]?=Td (.map b c):=h1;simp[setObj,Sem.run,this];rfl
 unfold zbk;obtain⟨y,q⟩|⟨j,N,e,y,q,G,J,F,D⟩:=Xf k b.toList l 0 h2;refine⟨d,h.setIfInBounds m (.map (b.push { key:=.string k,val:=v,born:=c }) (c+1)),?_,w _ ⟨b.push { key:=.string k,val:=v,born:=c },c+1,ϑ f,?_,?_,?_⟩ ξ (λi hi=>η)⟩;rw[DM,A];simp only[D0,DM,u,C];rw[Z8 T.key k b.toList Te h q B d];simp_all;rw[wx y];unfold eI at h2 ⊢;simp[h2];grind;grind;have x:j<b.size:=by have:=(ZN.1 q).1;simpa using this
 have s:((b.modify j λe=>{ e with key:=.string k,val:=v }).toList.map (·.born))=b.toList.map (·.born):=by apply zar;intro i;simp only[Array.toList_modify,zav,zax];by_cases E:j=i;simp_all;simp_all
 refine⟨d,_,?_,w (h.setIfInBounds m (.map (b.modify j λe=>{ e with key:=.string k,val:=v }) c)) ⟨b.modify j λe=>{ e with key:=.string k,val:=v },c,ϑ f,?_,?_,?_⟩ ξ (λi hi=>η)⟩;rw[DM,A];simp only[D0,DM,u,C];rw[Z8 T.key k b.toList _ h F B d];simp only[D0,ZO];have p:((b[j]?).map (·.key)).getD (aa6 k)=.string k:=by
  have:b[j]?=Td e:=ψ q
  rw[this];exact G
 rw[p];have M:zcn (aa6 k) (aa6 k)=pure (aa6 k):=by unfold zcn;rw[zi (by show(k==k)=Ta;simp)]
 simp_all;have:=D v;unfold eI;grind;intro e' r;have:e'.born∈((b.modify j λe=>{ e with key:=.string k,val:=v }).toList.map (·.born)):=zab.2 ⟨e',r,rfl⟩;grind;simp_all
def RK(h:zb)(r m:Nat)(l:List (Value×Value))(dn:List Value):Prop:=
 ∃k f b i c,h[r]?=Td (.mapIter (Td m) b i c)/\h[m]?=Td (.map k f)/\k.toList.map (λe=>(e.key,e.val))=l/\(∀e∈k.toList,e.born<b)/\b<=c/\b<=f/\(k.toList.map (·.born)).Nodup /\
  ∀e∈k.toList,i.contains e.born=Ta↔e.key∈dn
theorem RK.aa1{l:List (Value×Value)}(H:RK h r m l dn)(i:h'[r]?=h[r]?)(k2:h'[m]?=h[m]?):RK h' r m l dn:=by have⟨k,e,b,f,c,h1,h2,n⟩:=H;exact⟨k,e,b,f,c,i.trans h1,k2.trans h2,n⟩
def HS(h:zb)(r m:Nat)(k v:Value):Prop:=
 ∃(i:Array MapEntry) (b c:Nat) (f:Array Nat) (e:MapEntry),h[r]?=Td (.mapIter (Td m) c (f.push e.born) b)/\h[m]?=Td (.map i b)/\e∈i.toList/\(i.toList.map (·.born)).Nodup/\e.key=k/\e.val=v
def xA(p:P.underlying t=Td (.map kt et)){l:List (Value×Value)}(H:JT h m l)(q:∀h',h'.size=h.size+1->Bk h.size h h'->RK h' h.size m l []->K (aa7 (aa8 h)) h'):CA P (zdm t (.map (Td m))) h K:=by have b:=H.lt;have⟨i,c,h1,h2,n,f⟩:=H;intro B d;have k:=ur (h:=h) p B d;have o:=Yg (P:=P) h1 B d;refine⟨.pointer (Td (aa8 h)),d,h.push (.mapIter (Td m) c #[] c),?_,q _ ξ (rg _ _ (YJ _)) ⟨i,c,c,#[],c,jc _ _,?_,h2,n,YJ _,YJ _,f,λe r=>ξ⟩⟩;unfold zdm;rw[DM,k];simp only[D0,DM,o,Sem.run_pure];rfl;grind
theorem Mb{c:List MapEntry}(h:(c.map (·.born)).Nodup){a b:MapEntry}(f:a∈c)(k:b∈c)(e:a.born=b.born):a=b:=by
 induction c with
 |nil=>cases f
 |cons x c i=>grind
theorem Kl{c:List MapEntry}(h:(c.map (·.key)).Nodup){a b:MapEntry}(f:a∈c)(k:b∈c)(e:a.key=b.key):a=b:=by
 induction c with
 |nil=>cases f
 |cons x c i=>grind
def KK(h:zb)(r m:Nat):Nat:=match h[r]?,h[m]? with
 |some (.mapIter _ _ seen _),Td (.map es _)=>(es.toList.filter λe=>!seen.contains e.born).length
 |_,_=>0
theorem KK.aa1(b:h'[r]?=h[r]?)(k2:h'[m]?=h[m]?):KK h' r m=KK h r m:=by unfold KK;rw[b,k2]
def E6{α:Type}{p q:α->Bool}(h:∀x,p x=Ta->q x=Ta):∀l:List α,(l.filter p).length<=(l.filter q).length
 |[]=>YJ _
 |x::l=>by have:=E6 h l;grind
def filter_lt{α:Type}{p q:α->Bool}(h:∀x,p x=Ta->q x=Ta){e:α}(h1:p e=Tc)(h2:q e=Ta):∀l:List α,e∈l->(l.filter p).length<(l.filter q).length
 |[],b=>ε b
 |x::l,b=>by rw[zbl,zbl];obtain rfl|b:=YT.1 b;have:=E6 h l;grind;have:=filter_lt h h1 h2 l b;grind
def yG{l:List (Value×Value)}(H:RK h r m l dn)(V:(l.map (·.1)).Nodup)(E:r≠m) (w:(∀p∈l,p.1∈dn)->K (.tuple #[aa9 Tc]) h) (t:∀k v,(k,v)∈l->k∉dn->∀h',RK h' r m l (k::dn)->HS h' r m k v->h'.size=h.size->(∀j,j≠r->h'[j]?=h[j]?)->KK h' r m<KK h r m->K (.tuple #[aa9 Ta,k,v]) h'):CA P (zcm (aa7 ⟨r,0,Te⟩) Tc ty) h K:=by
 have⟨o,b,f,i,c,h1,h2,C,G,S,M,F,I⟩:=H;intro B d;have Q:(o.toList.map (·.key)).Nodup:=by
  have e:o.toList.map (·.key)=l.map (·.1):=by rw[<-C,zak];rfl
  rw[e];exact V
 obtain⟨N,z⟩|⟨e,J,w1,O,z⟩:=run_next_at (P:=P) (mk B d h) ty r m f c i o b h1 h2 G S;refine⟨_,d,h,z,w λp L=>?_⟩;rw[<-C]at L;obtain⟨x,u,rfl⟩:=zab.1 L;refine(I x u).1 ?_;have:leftOf o i=#[]:=Array.eq_empty_of_size_eq_zero N;unfold leftOf at this;simp_all;have n:e∈o.toList/\i.contains e.born=Tc:=by unfold leftOf at J;simpa using J
 have U:r<h.size:=(YZ.1 h1).1;have y:∃A,setBlock w1 r (.mapIter (Td m) f (i.push e.born) b)=mk B A (h.setIfInBounds r (.mapIter (Td m) f (i.push e.born) b)):=by obtain rfl|rfl:=O;exact⟨d,rfl⟩;exact⟨d+1,rfl⟩
 have⟨A,D⟩:=y;rw[D]at z;have q:(h.setIfInBounds r (.mapIter (Td m) f (i.push e.born) b))[m]?=Td (.map o b):=by rw[Array.getElem?_setIfInBounds_ne E];exact h2
 have s:(h.setIfInBounds r (.mapIter (Td m) f (i.push e.born) b))[r]?=Td (.mapIter (Td m) f (i.push e.born) b):=ϑ U
 refine⟨_,A,_,z,t e.key e.val η (λZ=>?_) _ ⟨o,b,f,i.push e.born,b,s,q,C,G,M,M,F,λx u=>?_⟩ ⟨o,b,f,i,e,s,q,n.1,F,rfl,rfl⟩ ξ (λj Y=>η) ?_⟩;grind;rw[YT,<-I x u];simp only[Array.contains_eq_mem,Array.mem_push,zA];constructor;rintro(h|h);exact .inr h;exact .inl (by rw[Mb F u n.1 h]);rintro(h|h);exact .inr (by rw[Kl Q u n.1 h]);exact .inl h;unfold KK;rw[s,q,h1,h2];refine filter_lt (e:=e) (λx u=>?_) ?_ ?_ _ n.1;simp_all;simp;grind
def xT{k v:Value}(H:HS h r m k v)(n:K (.tuple #[k,v]) h):CA P (zdc (aa7 ⟨r,0,Te⟩)) h K:=by obtain⟨l,c,b,f,e,h1,h2,o,i,rfl,rfl⟩:=H;intro B d;exact⟨_,d,h,run_entry_at (P:=P) (mk B d h) r m b f l c e h1 h2 o i,n⟩
def F1(i:P.underlying t=Td (.map kt et)){l:List (Value×Value)}(H:JT h m l):At P (zch #[t] ty #[.map (Td m)]) h (ab0 (DB l:Int)):=by
 have⟨e,c,h1,h2,_⟩:=H;intro B d;have f:=ur (h:=h) i B d;have k:=Yg (P:=P) h1 B d;have b:l.length=e.size:=by rw[<-h2];simp
 simp[zch,f,k,goInt,b]
end
section
open Go.Lib
def y9(xs:List Bt):List Bt:=((xs.map lb).mergeSort λx y=>decide (x<=y)).map bl
theorem Zw{xs ys:List Bt}(h:xs.Perm ys):y9 xs=y9 ys:=by unfold y9;rw[mergeSort_of_perm (h.map lb)]
theorem jb(xs:List Bt):(y9 xs).Perm xs:=by
 have h:=(zcw (xs.map lb) λx y=>decide (x<=y)).map bl;rw[zak]at h;have e:bl ∘ lb=id:=by funext x;exact Zz x
 rw[e,zdz]at h;exact h
theorem uX(xs:List Bt):(y9 xs).length=DB xs:=(jb xs).length_eq
end
section
open Go.RowKit Go.Sort Go.Shelf
variable {h:zb} {s:Sl} {xs:List Bt} {K:Value -> zb -> Prop} {c m:Nat}
theorem XC.of_below{P:Program}{f:n5}{args:ab3}{R:vvv}(H:∀B d,Calls P f args (mk B d h) λe w'=>∃v,e=.returned v/\w'.os=B.os/\w'.tape=B.tape/\w'.output=B.output/\R v w'.heap):XC P f args h R:=by intro B d;refine(H B d).mono ?_;rintro e w' ⟨v,rfl,h1,h2,c,b⟩;refine⟨v,w'.drawn,w'.heap,rfl,?_,b⟩;cases w';simp only[mk]at *;simp_all
theorem vR{base:Nat}(H:DP h base 9 1 s (xs.map ZS)):s.len=xs.length:=by have:=H.length;grind
def Tl{base:Nat}(H:DP h base 9 1 s (xs.map ZS))(t:xs.length<=1000000):aa4 221 #[.slice s.a s.len s.cap] h λv h'=>v=.tuple #[]/\DP h' base 9 1 s ((y9 xs).map ZS)/\h.size<=h'.size/\∀i,i<h.size->(∀p,s.a=Td p->i≠p.block)->h'[i]?=h[i]?:=by
 refine XC.of_below λB d=>?_;have z:s.len=DB xs:=vR H;have k:(xs.map lb).length=DB xs:=ξ
 have c:(y9 xs).map ZS=((xs.map lb).mergeSort λx y=>decide (x<=y)).map encStr:=by unfold y9;rw[zak];rfl
 obtain⟨q,h0⟩|⟨g,cap,m,q,o,F,J,I,D,L⟩:=H.2;have E:xs=[]:=ZU ω;subst E;rw[h0];refine(J6 s.a s.cap (mk B d h)).mono ?_;rintro e w' ⟨rfl,rfl⟩;exact⟨_,rfl,rfl,rfl,rfl,rfl,by rw[show y9 []=[]from List.Perm.eq_nil (jb [])];exact H,YJ _,λ_ _ _=>rfl⟩;simp only[zai]at q;obtain⟨A,_,rfl⟩:=q;have f:(mk B d h).heap[g]?=Td (.cells m 9 (0,0)):=F;have r:g<(mk B d h).heap.size:=(YZ.1 f).1;have G:Holds encStr (mk B d h) g 0 (xs.map lb).toArray:=holds_of_block f θ;have C:=IK g 0 s.cap (xs.map lb) (mk B d h) G r (ο k);rw[k,<-z]at C;rw[A];refine C.mono ?_;rintro e w' ⟨rfl,n,os,rfl⟩;have b:=grownBy_sorted (w:=mk B d h) (g:=g) (n:=n) (os:=os) ((xs.map lb).mergeSort λx y=>decide (x<=y)).toArray;refine⟨_,rfl,b.os,b.tape,b.output,rfl,?_,b.size,λi hi l=>b.block i hi λe=>l _ rfl (ψ e)⟩;have u:=ownsRow_sorted (w:=mk B d h) (base:=base) (n:=n) (os:=os) (ss:=xs.map lb) (ts:=(xs.map lb).mergeSort λx y=>decide (x<=y)) ξ o f ω I (ψ D);rw[<-c,k,<-z]at u;show World.ownsRow _ base _ 1 (.slice s.a s.len s.cap) s.len _;rw[A];exact u
def Lx:ZM.underlying 144=Td (.map 9 25):=κ
def VF:zr Tp 222=Ta:=κ
def HL:∀{xs ys:List Bt},xs.Nodup->(∀x∈xs,x∈ys)->DB xs<=DB ys
 |[],_,_,_=>ZQ _
 |x::xs,ys,hn,hs=>by
  rw[zbh]at hn;have c:=hs x ZD;obtain⟨a,b,rfl⟩:=List.append_of_mem c;have:=HL (ys:=a++b) hn.2 λy e=>η
  grind
structure KyS (h:zb) (m:Nat) (rec:fR) (ps:List (Bt×Value)) (g:zb) (xs:List Bt) (sl:Sl):Prop where
 aa1:Bk h.size h g
 d:g[h.size+1]?=Td (.deferred (Td []))
 rc:g[h.size+2]?=Td (.loop (rec .ready Te))
 box:Blk g h.size #[aK sl]
 o:DP g (h.size+4) 9 1 sl (xs.map ZS)
 it:RK g (h.size+3) m (eI ps) (xs.reverse.map ZS)
 nd:xs.Nodup
 sub:∀x∈xs,x∈ps.map (·.1)
 gz:h.size+4<=g.size
theorem TJ(ps:List (Bt×Value)):(eI ps).map (·.1)=(ps.map (·.1)).map ZS:=by unfold eI;simp
def RV{ks:List Bt}(h:ks.Nodup):(ks.map ZS).Nodup:=η
section
variable {h : zb} {m : Nat} {rec : fR} {ps : List (Bt × Value)} {g : zb} {xs : List Bt} {sl : Sl}
theorem KyS.round(S:KyS h m rec ps g xs sl)(hm:m<h.size)(hx:xs.length<=1000000){c:zb}{k:Bt}(u:RK c (h.size+3) m (eI ps) ((k::xs.reverse).map ZS))(Y:c.size=g.size)(D:∀j,j≠h.size+3->c[j]?=g[j]?)(hk:k∉xs)(M:k∈ps.map (·.1)) {V J x0 I:Value} (O:∀g' y,KyS h m rec ps g' (xs++[k]) y->g'[h.size+3]?=c[h.size+3]?->g'[m]?=c[m]?->K (aa9 Ta) g'):ir Tp 13 (iM (codeOf Tryz.f277)) (iu (codeOf Tryz.f277)) rec (h.size+2) K [(7,[],aa6 k),(0,[],x0),(1,[],I),(2,[],aa7 (aa8 h)),(4,[],J),(6,[],V)] c:=by
 apply Zv;have gz:=S.gz;have ky:=S.aa1.size;refine⟨by grind [rc],?_⟩;intro h2;have G:∀j,j≠h.size+2->h2[j]?=c[j]?:=λj f=>q9 f;have U:h2[h.size+2]?=Td (.loop (rec .busy Te)):=Ok ω;have z2:h2.size=c.size:=Array.size_setIfInBounds;clear_value h2;have t:∀j,j≠h.size+2->j≠h.size+3->h2[j]?=g[j]?:=λj a b=>(G j a).trans (D j b);have B:Blk h2 h.size #[aK sl]:=S.box.aa1 (t _ ω ω);refine⟨sl,B.cell rfl,?_⟩;intro q;have⟨z,z3,Q⟩:=yp (g:=q) rfl;clear_value q;have P:DP h2 (h.size+4) 9 1 sl (xs.map ZS):=S.o.aa1 λp e=>by have:=S.o.base_le p e;grind
 have A:=P.keepN z;have hl:=vR S.o;refine Wi Aq A (src:=⟨Td (aa8 h2),1,1⟩) (news:=[aa6 k]) (n:=q.size) ?_ rfl (by simp[Value.oneCell']) η η ω λs E q1 C F q4 q5=>⟨s,rfl,?_⟩;refine .inr ⟨h2.size,0,rfl,ω,λi v r=>?_⟩
 match i,r with
 |0,r=>cases r;exact Q.cell rfl
 have l:∀j,j<h.size+4->E[j]?=h2[j]?:=λj f=>by rw[F j ω λp e=>χ (A.base_le p e)];exact z.get j ω
 refine qj OF Rf (B.aa1 (l _ ω)) ξ rfl λw H Z N=>?_;have x:∀j,j<h.size+4->j≠h.size->w[j]?=h2[j]?:=λj f h0=>(N j h0).trans (l j f);have L:w[h.size+2]?=Td (.loop (rec .busy Te)):=by rw[x _ ω ω];exact U
 refine⟨L,O _ s ⟨?_,?_,Ok ω,?_,?_,?_,?_,?_,?_⟩ ?_ ?_⟩;refine S.aa1.trans ⟨η,λj f=>?_⟩ (YJ _);grind;grind [d];exact Blk.aa1 H (q9 ω);have:DP w (h.size+4) 9 1 s ((xs++[k]).map ZS):=by rw[zaa];exact C.aa1 λp e=>by have:=C.base_le p e;grind
 exact this.aa1 λp e=>by have:=this.base_le p e;grind
 rw[List.reverse_append];refine u.aa1 ?_ ?_;simp_all;grind;grind [nd];grind [sub];grind;simp_all;grind
end
theorem MP{ps:List (Bt×Value)}(C:Blk h c #[.map (Td m)])(W:JT h m (eI ps))(N:(ps.map (·.1)).Nodup)(hl:ps.length<=1000000) (Y:∀(h':zb) (sl:Sl) (xs:List Bt),Bk h.size h h'->DP h' h.size 9 1 sl (xs.map ZS)->xs.Perm (ps.map (·.1))->K (.slice sl.a sl.len sl.cap) h'):
 aa4 277 #[.slice Te 0 0,.func (.func 222) #[] #[.pointer (Td ⟨c,0,Te⟩)]] h K:=by
 apply Zu ⟨Te,0,0⟩;intro h1;obtain⟨Q,V,B1⟩:=yp (g:=h1) rfl;clear_value h1;have O:=W.lt;have Z:=C.lt;refine⟨_,_,rfl,VF,λrec J=>?_⟩;obtain⟨f,b⟩:∃f:zb,f=((h1.push (.deferred (Td []))).push (.loop (rec .ready Te))):=⟨_,rfl⟩;have P:Bk h1.size h1 f:=by rw[b];exact(rg _ _ (YJ _)).trans (rg _ _ ξ) (YJ _)
 have z4:f.size=h1.size+2:=by rw[b,YW,YW]
 have M:f[h1.size]?=Td (.deferred (Td [])):=by rw[b,Array.getElem?_push,za ξ];exact jc _ _
 have L:f[h1.size+1]?=Td (.loop (rec .ready Te)):=by rw[b];have:=jc (h1.push (.deferred (Td []))) (.loop (rec .ready Te));rw[YW]at this;exact this
 rw[<-b];clear b;have l:Bk h.size h f:=Q.trans P ω;have E:h1.size=h.size+1:=V;rw[E]at M L J ⊢;apply yv;refine⟨Td m,(C.aa1 (l.get c Z)).cell rfl,?_⟩;have W4:JT f m (eI ps):=W.aa1 (l.get m O);refine xA Lx W4 λh5 z5 t r=>⟨Td ⟨f.size,0,Te⟩,rfl,λg=>∃xs sl,KyS h m rec ps g xs sl,λg=>KK g (h.size+3) m,⟨[],⟨Te,0,0⟩,?_⟩,?_⟩;have F:f.size=h.size+3:=ω
 rw[F]at r;exact⟨l.trans t ω,(t.get _ ω).trans M,(t.get _ ω).trans L,(B1.aa3 P).aa1 (t.get _ ω),DP.nil _ _ _ _,r,zdq,λx i=>(ε i),ω⟩;have F:f.size=h.size+3:=ω
 rw[F];rintro g ⟨xs,sl,S⟩;have u:((eI ps).map (·.1)).Nodup:=by rw[TJ];exact RV N
 have w:xs.length<=1000000:=by have h1:=HL S.nd S.sub;rw[YO]at h1;omega
 refine yG S.it u ω (λn=>.inl ⟨rfl,(λi=>ε i),λ_=>.inl ⟨S.rc,?_⟩⟩) λk v D U g1 y s z H pP=>.inr ⟨k,v,rfl,λ_=>?_,λi=>ε i⟩;have aa:=S.gz;refine⟨sl,?_,?_,Y _ sl xs ?_ ?_ ?_⟩;exact(S.box.aa1 (q9 ω)).cell rfl;rw[q9 ω];exact S.d;refine S.aa1.trans ⟨ξ,λj hj=>?_⟩ (YJ _);grind;refine(S.o.aa1 λp B=>?_).base ω;have:=S.o.base_le p B;grind;refine(List.perm_ext_iff_of_nodup S.nd N).2 λa=>⟨S.sub a,λha=>?_⟩;obtain⟨p,B,rfl⟩:=zab.1 ha;have:=n (.string p.1,p.2) (zab.2 ⟨p,B,rfl⟩);simp_all;obtain⟨⟨I,vv⟩,q,e⟩:=zab.1 D;injection e with E e2;subst E;subst e2;have A:I∉xs:=λi=>U (zab.2 ⟨I,List.mem_reverse.2 i,rfl⟩);refine xT s ⟨_,_,rfl,J ?_ ?_⟩;rw[H _ ω];exact S.rc;refine S.round O w y z H A (zab.2 ⟨_,q,rfl⟩) λg' G S' q1 q2=>⟨Ta,rfl,(λi=>ε i),λ_=>⟨⟨_,G,S'⟩,?_⟩⟩;grind [KK.aa1]
def JD{ps:List (Bt×Value)}(C:Blk h c #[.map (Td m)])(W:JT h m (eI ps))(n:(ps.map (·.1)).Nodup)(k:ps.length<=1000000) (q:∀h' sl,Bk h.size h h'->DP h' h.size 9 1 sl ((y9 (ps.map (·.1))).map ZS)->K (.slice sl.a sl.len sl.cap) h'):aa4 161 #[.func (.func 222) #[] #[aa7 ⟨c,0,Te⟩]] h K:=by
 apply X4;apply Wy;refine MP C W n k λh1 sl xs e l b=>⟨sl,rfl,sl,rfl,?_⟩;have f:xs.length<=1000000:=by rw[b.length_eq,YO];exact k
 refine XC.mono (Tl l f) ?_;rintro v h2 ⟨rfl,r,z2,o⟩;refine⟨rfl,q h2 sl ⟨zbd e.size z2,λi hi=>?_⟩ (by rw[<-Zw b];exact r)⟩;refine(o i (Nat.lt_of_lt_of_le hi e.size) λp b=>?_).trans (e.get i hi);have:=(l.base_le p b).1;omega
end
section
open Go.Lib
def St:MapT Tp 144 9 25 (.agg #[ab0 0,aa6 ⟨#[]⟩,.slice Te 0 0,.slice Te 0 0]):=⟨κ,κ,⟨Tryz.t25,κ,κ⟩⟩
def Cn{l:List (Bt×Value)}{k:Bt}(h:k∉l.map (·.1)):fb l k=Te:=by
 induction l with
 |nil=>rfl
 |cons p l b=>simp only[ZC,YT,not_or]at h;rw[fb,za (λe=>h.1 e.symm),b h.2]
theorem KN{α β:Type}{xs:List α}{ys:List β}{k:Nat}(b:k<DB xs){u:β}(c:ys.length=k):(xs.take (k+1)).zip (ys++[u])=(xs.take k).zip ys++[(xs[k],u)]:=by rw[YP b,List.zip_append φ];rfl
def t6{v:Tr}(S:v.XK.Nodup)(hl:v.XK.length=v.WT.length)(hi:v.WT.length<=1000000000000){h:zb}{M:Fr}{u:Value}(ag:AgM M h)(P:RdV M .tree v u){K:vvv} (N:∀(h':zb) (m:Nat) (us:ab2),Bk h.size h h'->h.size<=m->DB us=v.WT.length->(∀i (h1:i<v.WT.length) (h2:i<DB us),RdV M .tree v.WT[i] us[i])->JT h' m (eI (v.XK.zip us))->K (.map (Td m)) h'):aa4 142 #[u] h K:=by
 obtain⟨sk,si,rfl,B,G⟩:=yg P;have⟨lk,_,_⟩:=Bx B;have⟨li,_,_⟩:=Bx G;apply TI v.Wf v.aa0 sk si;intro h1;have⟨H,z1,b1⟩:=yp (g:=h1) rfl;clear_value h1;refine⟨sk,b1.aa2 (by rfl),?_⟩;intro c;have A:Bk h1.size h1 c:=rg _ _ (YJ _);have J:JT c h1.size []:=JT.new _;have z3:c.size=h1.size+1:=YW _;clear_value c;have b3:=b1.aa3 A;have L:Bk h.size h c:=H.trans A ω;refine⟨sk,b3.aa2 (by rfl),λx g=>∃(k:Nat) (us:ab2),x=(k:Int)/\k<=v.WT.length/\DB us=k/\g.size=c.size/\(∀j,j≠h1.size->g[j]?=c[j]?)/\(∀i (h1:i<v.WT.length) (h2:i<DB us),RdV M .tree v.WT[i] us[i])/\JT g h1.size (eI ((v.XK.take k).zip us)),λx _=>v.WT.length-x.toNat,⟨0,[],rfl,ZQ _,rfl,rfl,λ_ _=>rfl,λi _ h2=>ι h2,by simpa[eI]using J⟩,?_⟩;rintro x g ⟨k,us,rfl,Z,l,Y,w,D,t⟩;have z:Bk h.size h g:=⟨ω,λj r=>by rw[w j ω];exact L.get j r⟩;have agg:=ag.aa1 z;refine⟨λq=>?_,λq=>?_⟩;have b:k<v.XK.length:=by rw[lk]at q;simp at q;omega
 have o:k<v.WT.length:=ω
 refine gS agg B b rfl rfl ?_;have O:Blk g h.size (Zb v.Wf v.aa0 sk si).toArray:=b3.aa1 (w _ ω);have⟨a,C,E,V,y,I,U⟩:=ie agg G o;refine⟨si,O.aa2 (by rfl),a,⟨V,ω,ω⟩,v.WT[k].Wf,v.WT[k].aa0,C,E,?_,?_⟩;rw[YL];exact y;refine YE St t v.XK[k] _ λg' n Q s=>?_;rw[qo o ω];refine⟨⟨k+1,us++[.agg #[ab0 v.WT[k].Wf,aa6 v.WT[k].aa0,aK C,aK E]],rfl,ω,φ,ω,λj r=>(s j r).trans (w j r),λi h1 h2=>?_,?_⟩,by simp only[YL];omega⟩;rw[List.getElem_append];split;rename_i c;exact D i h1 c;rename_i c;have:i=k:=ν h2
 subst this;simp only[l,Nat.sub_self,List.getElem_cons_zero];exact qe I U;rw[KN b l];have f:fb ((v.XK.take k).zip us) v.XK[k]=Te:=Cn λF=>by
  rw[zdh φ]at F;have p:=S;have e:v.XK=v.XK.take k++v.XK[k]::v.XK.drop (k+1):=by rw[<-ZG b,zba]
  rw[e,List.nodup_append]at p;exact p.2.2 _ F _ ZD rfl
 rw[wx f]at n;exact n;have b:k=v.XK.length:=by rw[lk]at q;simp at q;omega
 subst b;rw[ZX]at t;exact N g h1.size us z ω ω D t
end
section
open Go.Lib
def eW:List (Bt×Tr)->Bt->Tr
 |[],_=>.mk 0 (bl []) [] []
 |p::l,k=>if p.1=k then p.2 else eW l k
mutual
def zh:Tr->Tr
 |.mk k s ks xs=>if k=6 then .mk k s (y9 ks) ((y9 ks).map λq=>eW (ks.zip (oH xs)) q)else .mk k s [] (oH xs)
def oH:List Tr->List Tr
 |[]=>[]
 |x::l=>zh x::oH l
end
def jh(v:Tr):Tr:=if Zo v=Ta then zh v else .mk 0 (bl []) [] []
theorem H0:∀l:List Tr,oH l=l.map zh
 |[]=>rfl
 |x::l=>by rw[oH,H0 l];rfl
theorem yw(v:Tr):zh v=ite (v.Wf=6) (.mk v.Wf v.aa0 (y9 v.XK) ((y9 v.XK).map λq=>eW (v.XK.zip (v.WT.map zh)) q)) (.mk v.Wf v.aa0 [] (v.WT.map zh)):=by
 cases v with
 |mk k s ks xs=>rw[zh,H0]
def qB(k:Bt):∀(ks:List Bt) (ys:List Tr),DB ks=DB ys->k∈ks->∃(j:Nat) (h1:j<DB ks) (h2:j<DB ys),ks[j]=k/\eW (ks.zip ys) k=ys[j]/\∀us:List Value,DB us=DB ks->fb (ks.zip us) k=us[j]?
 |[],_,_,h=>by cases h
 |z::ks,[],h,_=>by simp at h
 |z::ks,y::ys,h,hk=>by
  by_cases c:z=k;refine⟨0,ξ,ξ,c,?_,λus b=>?_⟩;rw[zbe,eW,zi c];rfl
  match us,b with
  |u::us,_=>rw[zbe,fb,zi c];rfl
  have f:k∈ks:=by obtain e|e:=YT.1 hk;simp_all;exact e
  have⟨j,h1,h2,i,m,l⟩:=qB k ks ys (ψ h) f;refine⟨j+1,φ,φ,ψ i,?_,λus b=>?_⟩;rw[zbe,eW,za c,m];rfl
  match us,b with
  |u::us,b=>rw[zbe,fb,za c,l us (ψ b)];rfl
end
section
open Go.RowKit
variable {ks:List Bt}
theorem DP.frz{h g:zb}{M M':Fr}(L:wr h M g M'){s:Sl}{base:Nat}(o:DP g base 9 1 s (ks.map ZS))(C:h.size<=base)(E:ks.length<=1000000):∃l,wr h M g l/\(∀c,c<base->l c=M' c)/\Rd l (.row .str) ks [aK s]:=by
 have p:=vR o;obtain⟨k,h0⟩|⟨b,cap,f,k,n,r,B,D,A,t⟩:=o.2;have m:ks=[]:=ZU ω;subst m;simp only[zai]at k;refine⟨M',L,λ_ _=>rfl,⟨_,rfl,s.a,s.cap,?_,⟨ξ,ξ⟩,.inl rfl⟩⟩;show aK s=_;unfold aK;rw[h0];rfl;simp only[zai]at k;have⟨w,_,z⟩:=k;have y:Blk g b f:=⟨_,r⟩;refine⟨MxL M' g [b],⟨L.aa1,L.le.trans (il L.ag _),λx m=>?_,MxL.ag L.ag _⟩,λc z=>?_,⟨_,rfl,s.a,s.cap,?_,⟨ω,ω⟩,.inr ⟨b,0,f,w,MxL.at ξ y,λi hi=>?_⟩⟩⟩;unfold MxL;rw[za φ];exact L.old x m;unfold MxL;grind;show aK s=_;unfold aK;rw[p];show cut f (0+i*1) 1=[aa6 ks[i]];apply zar;intro q;rw[yy];by_cases u:q<1;have:q=0:=ω
 subst this;rw[zi u];have e:(f.toList.take (s.len*1))[i]?=(ks.map ZS)[i]?:=ϕ t
 grind;simp_all
structure SrS (h:zb) (M:Fr) (r o lo:Nat) (k:Int) (s:Bt) (sk:Sl) (xs:List Tr) (g:zb) (M':Fr) (so:Sl) (bs:List Nat):Prop where
 L:wr h M g M'
 res:Blk g r #[.int .i64 0,.string ⟨#[]⟩,.slice Te 0 0,.slice Te 0 0]
 out:Blk g o #[.int .i64 k,.string s,aK sk,aK so]
 row:Fd lo g M' .tree xs so bs
 nO:M' o=Te
 nR:M' r=Te
 hr:h.size<=r
 ro:r<o
 ol:o<lo
 lg:lo<=g.size
section
variable {h : zb} {M : Fr} {r o lo : Nat} {k : Int} {s : Bt} {sk : Sl} {xs : List Tr} {g : zb} {M' : Fr} {so : Sl} {bs : List Nat}
theorem SrS.add(S:SrS h M r o lo k s sk xs g M' so bs)(hn:xs.length<=1000000){O:zb}{u:Fr}(m:wr g M' O u){x:Tr}{xk xi:Sl}(Q:RdV u .tree x (.agg #[ab0 x.Wf,aa6 x.aa0,aK xk,aK xi])){K:zb->Prop}(hK:∀g' H bs',SrS h M r o lo k s sk (xs++[x]) g' u H bs'->(∀j,j<lo->j≠o->g'[j]?=g[j]?)->K g'):let i:=O.push (.cells #[ab0 x.Wf,aa6 x.aa0,aK xk,aK xi] 25)
 CA Tp (YN #[23,23] 23 #[aK so,.slice (Td (aa8 O)) 1 1]) i (λv n=>∃z:Sl,v=aK z/\wf Tp (YI 23 (.pointer (Td (YH ⟨o,0,Te⟩ 3))) (aK z)) n K):=by
 intro i;have⟨B,ae,U⟩:=yp (g:=i) rfl;clear_value i;have z1:=m.aa1.size;have P:=S.hr;have J:=S.ro;have y:=S.ol;have af:=S.lg;have p:wr g M' i u:=m.trans (up m.ag B);have t:=S.row.call p;have rd:Rd u .tree x [ab0 x.Wf,aa6 x.aa0,aK xk,aK xi]:=by
  unfold RdV at Q;simp only[fh,if_true]at Q;have⟨cs,e,P⟩:=Q;injection e with e;have:cs=[ab0 x.Wf,aa6 x.aa0,aK xk,aK xi]:=by have:=congrArg Array.toList e;simpa using this.symm
  rw[<-this];exact P
 refine Fd.app xV ω p.ag t ω U rd hn λV n bs' l aa ab C=>⟨V,rfl,?_⟩;have F:∀c∈bs,lo<=c/\c<g.size/\M' c=Te:=S.row.own;have q:∀j,j<lo->n[j]?=g[j]?:=λj D=>by rw[C j ω (λY=>η),B.get j ω];exact m.aa1.get j ω
 rw[zl];refine qj xJ tX (S.out.aa1 (q o y)) ξ rfl λw u1 u3 N=>?_;have f:∀j,j<lo->j≠o->w[j]?=g[j]?:=λj D h0=>(N j h0).trans (q j D);have A:∀c∈bs',lo<=c/\c<n.size/\u c=Te:=l.own;have hg:=S.L.aa1.size;refine hK w V bs' ⟨⟨⟨ω,λj D=>?_⟩,S.L.le.trans m.le,λb Z=>?_,?_⟩,?_,u1,?_,?_,?_,P,J,y,ω⟩ f;rw[f j ω ω];exact S.L.aa1.get j D;rw[m.old b ω];exact S.L.old b Z;intro c cs e;have E:=p.ag.lt e;have I:c∉bs:=λY=>by have⟨_,h1,h2⟩:=F c Y;rw[m.old c h1,h2]at e;cases e
 have G:c≠o:=λh=>by subst h;rw[m.old c ω,S.nO]at e;cases e
 rw[N c G,C c E I];exact p.ag c cs e;exact S.res.aa1 (f r ω ω);exact l.frame (λc E=>N c η) (Fr.le.refl _) λc E=>(A c E).2.2;rw[m.old o ω];exact S.nO;rw[m.old r ω];exact S.nR
theorem SrS.fin(S:SrS h M r o lo k s sk xs g M' so bs)(P:xs.length<=1000000)(J:Rd M' (.row .str) ks [aK sk]){w:Tr}(O:Tr.mk k s ks xs=w):∃(E:Int) (B:Bt) (x u:Sl),zc g ⟨o,0,Te⟩ 0 [ab0 E,aa6 B,aK x,aK u]/\wf Tp (YI 25 (aa7 ⟨r,0,Te⟩) (.agg #[ab0 E,aa6 B,aK x,aK u])) g λi=>∃(y:Int) (F:Bt) (z C:Sl),zc i ⟨r,0,Te⟩ 0 [ab0 y,aa6 F,aK z,aK C]/\∃A q,wr h M i A/\x7 A [.tree] q (.agg #[ab0 y,aa6 F,aK z,aK C])/\q=w:=by
 refine⟨k,s,sk,so,S.out.ld (cs:=[_,_,aK sk,aK so]),?_⟩;refine qt S.res λm t z2 U=>⟨k,s,sk,so,U.ld (cs:=[_,_,aK sk,aK so]),?_⟩;have V:=S.hr;have I:=S.ro;have G:=S.ol;have N:=S.lg;have p:∀c∈bs,lo<=c/\c<g.size/\M' c=Te:=S.row.own;have f:AgM M' m:=λc cs e=>by rw[t c (λh=>by grind [nR])];exact S.L.ag c cs e
 have l:Fd lo m M' .tree xs so bs:=S.row.frame (λc n=>t c η) (Fr.le.refl _) λc n=>(p c n).2.2;have D:wr h M m M':=⟨⟨ω,λj Q=>by rw[t j ω];exact S.L.aa1.get j Q⟩,S.L.le,S.L.old,f⟩;refine⟨MxL M' m bs,_,⟨D.aa1,D.le.trans (il f bs),λb H=>?_,MxL.ag f bs⟩,Yu.2 (qe (v:=.mk k s ks xs) (J.mono (il f bs)) (l.rd f (λc n=>n) P)),O⟩;unfold MxL;rw[za (λY=>η)];exact S.L.old b H
end
def Gl:∀(n:Nat) (v:Tr),n<=1000000->cK v<=n->Qc zq v=Ta->Sm v->∀(h:zb) (M:Fr) (u:Value),AgM M h->RdV M .tree v u->PX Tp 101 #[u] h M [.tree] (λq=>q=zh v)
 |0,v,_,hz,_,_=>χ (Zn v)
 |n+1,v,hn,hz,hok,hsm=>by
  intro h M u ag hu;have aP:=hu;obtain⟨sk,si,rfl,rk,ri⟩:=yg hu;have f:=hok;rw[y8,YR]at f;have ba:v.WT.length<=1000000:=by have:=xq v.WT;rw[yo]at hz;omega
  have ih:∀(i:Nat) (hi:i<v.WT.length) (h:zb) (M:Fr) (u:Value),AgM M h->RdV M .tree v.WT[i] u->PX Tp 101 #[u] h M [.tree] (λq=>q=zh v.WT[i]):=λi hi=>by
   have hm:=YY hi;have hs:=yc hm;have aj:Qc zq v.WT[i]=Ta:=by rw[je,ZB]at f;exact f.2 _ hm
   exact Gl n v.WT[i] ω ω aj (hsm.item hm)
  have⟨li,_,_⟩:=Bx ri;apply PX.of;apply KB v.Wf v.aa0 sk si;intro h1;have⟨k1,z1,B1⟩:=yp (g:=h1) rfl;clear_value h1;intro h2;have⟨k2,z2,R2⟩:=yp (g:=h2) rfl;clear_value h2;have B2:=B1.aa3 k2;refine⟨v.Wf,B2.aa2 (o:=0) (k:=0) rfl,v.aa0,B2.aa2 (o:=0) (k:=1) rfl,?_⟩;intro h5;have⟨k5,z5,O5⟩:=yp (g:=h5) rfl;clear_value h5;refine qt (sk:=⟨Te,0,0⟩) (si:=⟨Te,0,0⟩) O5 λY f6 z6 O6=>?_;have k6:Bk h2.size h2 Y:=⟨ω,λj B=>by rw[f6 j ω];exact k5.get j B⟩;have G:Bk h.size h Y:=(k1.trans k2 ω).trans k6 ω;have B6:=B2.aa3 k6;have R6:=R2.aa3 k6;have aB:=ag.aa1 G;refine⟨v.Wf,B6.aa2 (o:=0) (k:=0) rfl,λhx=>?_,λhx=>?_⟩;have Y:v.Wf≠6:=ψ hx
  have hS:zh v=.mk v.Wf v.aa0 [] (v.WT.map zh):=by rw[yw,za Y]
  refine⟨si,B6.aa2 (o:=0) (k:=3) rfl,λi g=>∃(m:Nat) (M':Fr) (so:Sl) (bs:ab1),i=(m:Int)/\m<=v.WT.length/\SrS h M h1.size h2.size (h2.size+1) v.Wf v.aa0 ⟨Te,0,0⟩ ((v.WT.take m).map zh) g M' so bs,λi _=>v.WT.length-i.toNat,⟨0,M,⟨Te,0,0⟩,[],rfl,ZQ _,⟨up ag G,R6,O6,Fd.nil,ag.none ω,ag.none ω,ω,ω,ω,ω⟩⟩,?_⟩;rintro i g ⟨m,M',so,bs,rfl,hm,S⟩;have r:=S.L.ag;refine⟨λI=>?_,λI=>?_⟩;have b:m<v.WT.length:=χ (zB I)
  have⟨a,ck,ci,ea,aN,t1,t2⟩:=ie r (ri.mono S.L.le) b;refine⟨a,⟨ea,ω,ω⟩,v.WT[m].Wf,v.WT[m].aa0,ck,ci,by rw[YL];exact aN,?_⟩;intro an;have⟨aH,a1,aE⟩:=yp (g:=an) rfl;clear_value an;refine qt aE λU aF aY aL=>?_;have au:Bk g.size g U:=⟨ω,λj B=>by rw[aF j ω];exact aH.get j B⟩;have a7:=S.out.lt;refine⟨so,(S.out.aa3 au).aa2 (o:=0) (k:=3) rfl,v.WT[m].Wf,v.WT[m].aa0,ck,ci,aL.ld (cs:=[_,_,aK ck,aK ci]),?_⟩;have ar:wr g M' U M':=up r au;refine(ih m b _ _ _ ar.ag (qe t1 t2)).go λw aQ H q C s hq=>?_;subst hq;obtain⟨xk,xi,rfl,y1,y2⟩:=yg (Yu.1 s);have aZ:=C.aa1.size;have ho:aQ[h2.size]?=U[h2.size]?:=C.aa1.get _ ω;refine⟨_,_,xk,xi,rfl,by rw[zl];exact ho,?_⟩;intro be;refine⟨by rw[zl];grind,S.add η (ar.trans C) (qe y1 y2) λg' F bs' S' _=>⟨⟨m+1,H,F,bs',by rw[qo b ω],b,?_⟩,?_⟩⟩;rw[YP b,zaa];exact S';grind [qo];have b:m=v.WT.length:=χ (zC I)
  subst b;rw[ZX]at S;exact S.fin θ J5 hS.symm;have O:v.Wf=6:=ψ hx
  have hS:zh v=.mk v.Wf v.aa0 (y9 v.XK) ((y9 v.XK).map λq=>eW (v.XK.zip (v.WT.map zh)) q):=by rw[yw,zi O]
  have l:=f.1;have aJ:v.XK.Nodup:=by unfold zq yh at l;simp[O]at l;exact l.1.1.2
  have aG:v.XK.length=v.WT.length:=by unfold zq at l;simp[O]at l;exact l.1.2
  refine⟨v.Wf,v.aa0,sk,si,B6.ld (cs:=[_,_,aK sk,aK si]),?_⟩;refine t6 aJ aG ω aB aP λbz m us ah aV bA aU am=>⟨Td m,rfl,?_⟩;have br:=ah.size;apply y5;intro V;have⟨aa,a8,az⟩:=yp (g:=V) rfl;clear_value V;have J:JT V m (eI (v.XK.zip us)):=am.aa1 (aa.get m am.lt);have aC:(v.XK.zip us).map (·.1)=v.XK:=zdh ω;refine⟨_,rfl,JD az J η φ λD sl E ap=>⟨sl,rfl,?_⟩⟩;rw[aC]at ap;have bm:=E.size;have bn:(y9 v.XK).length=v.XK.length:=uX _;have y:Bk Y.size Y D:=(ah.trans aa ω).trans E ω;have af:Bk h.size h D:=G.trans y ω;have⟨H,C,A,N⟩:=DP.frz (up ag af) ap ω ω;have aT:Blk D h2.size #[ab0 v.Wf,aa6 v.aa0,aK ⟨Te,0,0⟩,aK ⟨Te,0,0⟩]:=O6.aa1 (y.get _ ω);have ax:H h2.size=Te:=by rw[A _ ω];exact ag.none ω
  have aS:H h1.size=Te:=by rw[A _ ω];exact ag.none ω
  rw[zl];refine qj m3 pv aT ξ rfl λt ab bj z=>?_;have ay:wr h M t H:=⟨⟨ω,λj B=>by rw[z j ω];exact C.aa1.get j B⟩,C.le,C.old,λc cs e=>by rw[z c (λh=>θ)];exact C.ag c cs e⟩;have ae:JT t m (eI (v.XK.zip us)):=J.aa1 ((z m ω).trans (E.get m J.lt));have ai:=ae.lt;refine⟨sl,Blk.cell (o:=2) ab rfl,λi g=>∃(p:Nat) (M':Fr) (so:Sl) (bs:ab1),i=(p:Int)/\p<=(y9 v.XK).length/\SrS h M h1.size h2.size t.size v.Wf v.aa0 sl (((y9 v.XK).take p).map λq=>eW (v.XK.zip (v.WT.map zh)) q) g M' so bs/\Fr.le H M'/\(∀j,j<t.size->j≠h2.size->g[j]?=t[j]?),λi _=>(y9 v.XK).length-i.toNat,⟨0,H,⟨Te,0,0⟩,[],rfl,ZQ _,⟨ay,R6.aa1 ((z _ ω).trans (y.get _ ω)),ab,Fd.nil,ax,aS,ω,ω,ω,YJ _⟩,Fr.le.refl _,λ_ _ _=>rfl⟩,?_⟩;have⟨bg,_,_⟩:=Bx N;rintro i g ⟨p,M',so,bs,rfl,hp,S,P,fg⟩;have r:=S.L.ag;refine⟨λI=>?_,λI=>?_⟩;have b:p<(y9 v.XK).length:=χ (zB I)
  have⟨a,aI,x,aM,aA⟩:=gS r (N.mono P) b (i:=(p:Int)) rfl (L:=sl.len) rfl (Q:=λx=>x=(y9 v.XK)[p]) rfl;subst aA;refine⟨a,aI,(y9 v.XK)[p],aM,so,S.out.aa2 (o:=0) (k:=3) rfl,?_⟩;have aO:(y9 v.XK)[p]∈v.XK:=(jb v.XK).mem_iff.1 (YY b);have⟨j,j1,j2,e1,e2,e3⟩:=qB (y9 v.XK)[p] v.XK (v.WT.map zh) θ aO;rw[YO]at j2;have ak:j<DB us:=ω
  have⟨ck,ci,eu,t1,t2⟩:=yg (aU j j2 ak);have wg:JT g m (eI (v.XK.zip us)):=ae.aa1 (fg m ai ω);refine⟨v.WT[j].Wf,v.WT[j].aa0,ck,ci,?_,rfl,?_⟩;have:=Xg St wg.at (y9 v.XK)[p] Tc;have eg:gF (v.XK.zip us) (y9 v.XK)[p] (.agg #[ab0 0,aa6 ⟨#[]⟩,.slice Te 0 0,.slice Te 0 0])=us[j]:=by unfold gF;rw[e3 us ω,YS ak];rfl
  rw[za ξ,eg,eu]at this;exact this;refine(ih j j2 _ _ _ r (qe (t1.mono S.L.le) (t2.mono S.L.le))).go λw Z M3 q L3 s hq=>?_;subst hq;obtain⟨xk,xi,rfl,y1,y2⟩:=yg (Yu.1 s);have bu:=L3.aa1.size;have a6:=S.lg;have ho:Z[h2.size]?=g[h2.size]?:=L3.aa1.get _ ω;refine⟨_,_,xk,xi,rfl,by rw[zl];exact ho,?_⟩;intro bq;refine⟨by rw[zl];exact((rg Z _ (YJ _)).get h2.size ω).trans ho,S.add η L3 (qe y1 y2) λg' F bs' S' f'=>⟨⟨p+1,M3,F,bs',by rw[qo b ω],b,?_,P.trans L3.le,λj B h0=>(f' j B h0).trans (fg j B h0)⟩,?_⟩⟩;rw[YP b,zaa,ZC,zbg,e2,zby];exact S';show(y9 v.XK).length-(p3 ((p:Int)+1)).toNat<(y9 v.XK).length-(p:Int).toNat;rw[qo b ω];omega;have b:p=(y9 v.XK).length:=χ (zC I)
  subst b;rw[ZX]at S;exact S.fin θ (N.mono P) hS.symm
end
section
open Go.Lib
section
variable {r s w:Bs} {a N lv:Nat} {ln:Bool} {v:Tr}
def lA(r:Bs):Prop:=∀c,r.head?=Td c->c=44\/c=93\/c=125\/c=10
def CY:lA []:=λc h=>ε h
theorem BF{c:UInt8}(h:c=44\/c=93\/c=125\/c=10):lA (c::r):=λd b=>θ
def pT{p:ac2}:∀{w r:Bs},(∀c∈w,p c=Ta)->(∀c,r.head?=Td c->p c=Tc)->Qd p (w++r)=DB w
 |[],[],_,_=>rfl
 |[],c::r,_,h=>by unfold Qd;simp_all
 |c::w,r,h,h2=>by have:=pT (w:=w) (r:=r) (λd b=>h d (ZA _ b)) h2;unfold Qd at this ⊢;simp_all
def HA(h:(zj w).2=0)(n:s.drop a=w++r)(k:lA r):Zy s a=(9,a+DB w,0)/\∃c t,w=c::t/\c∈fW:=by
 have f:Xp w=Ta:=by
  unfold zj at h;cases e:Q0 w with
  |none=>simp_all
  |some x=>exact(tv e).1
 have⟨m,c,t,e,b⟩:=Tj f;have i:Qd (wh eA) (w++r)=DB w:=pT (λc b=>by unfold wh;grind) λc b=>by
  have:∀c:UInt8,c=44\/c=93\/c=125\/c=10->wh eA c=Tc:=by rintro c (rfl|rfl|rfl|rfl) <;> decide
  exact this c (k c b)
 have l:c∉CT/\c∉xf/\c≠34:=by
  have:∀c∈fW,c∉CT/\c∉xf/\c≠34:=ζ
  exact this c b
 refine⟨?_,c,t,e,b⟩;unfold Zy;simp_all
def DI(h:Zd w≠0)(m:s.drop a=w++r)(l:lA r):Zy s a=(Zd w,a+DB w,0):=by
 have k:w=[116,114,117,101]\/w=[102,97,108,115,101]\/w=[110,117,108,108]:=by unfold Zd at h;by_cases h1:w=[116,114,117,101];exact .inl h1;grind
 have b:∀c∈w,wh jj c=Ta:=by obtain rfl|rfl|rfl:=k <;> decide
 have i:Qd (wh jj) (w++r)=DB w:=pT b λc f=>by
  have:∀c:UInt8,c=44\/c=93\/c=125\/c=10->wh jj c=Tc:=by rintro c (rfl|rfl|rfl|rfl) <;> decide
  exact this c (l c f)
 obtain⟨c,t,e,f⟩:∃c t,w=c::t/\(c=116\/c=102\/c=110):=η
 have n:c∉CT/\c∉xf/\c≠34/\c∉fW:=by obtain rfl|rfl|rfl:=f <;> decide
 unfold Zy;simp_all
def wP(i:∀c∈w,c∈xf)(l:∀c,r.head?=Td c->c∉xf)(e:s.drop a=w++r):∃T,Lex s a (a+DB w) T/\zt T=[]:=by
 cases w with
 |nil=>exact⟨[],.nil,rfl⟩
 |cons c t=>
  have f:=i c ZD;have b:Qd (wh xf) (c::t++r)=(c::t).length:=pT (λd h=>by unfold wh;grind) λd h=>by unfold wh;simp_all
  have h1:c∉CT:=by
   have:∀c∈xf,c∉CT:=ζ
   exact this c f
  have k:Zy s a=(1,a+(c::t).length,0):=by unfold Zy;rw[e,ZT];dsimp only;rw[za h1,zi f];rw[ZT]at b;rw[b]
  exact⟨_,Lex.step (T:=[]) k (yu e ξ) .nil,rfl⟩
theorem wj(A B:List Tk):zt (A++B)=zt A++zt B:=List.filter_append ..
theorem yj{t:Tk}{T:List Tk}(h:t.1≠1):zt (t::T)=t::zt T:=by unfold zt;simp_all
def nG(h:s.drop a=w++r):s.drop (a+DB w)=r:=by rw[<-zap,h,List.drop_left]
def FX:∀c∈jl ln N lv,c∈xf:=by intro c b;unfold jl at b;split at b;obtain rfl|b:=YT.1 b;decide;rw[(List.mem_replicate.1 b).2];decide;cases b
def Qf(ln:Bool)(N lv:Nat)(b:UInt8):List Bs->Bs
 |[]=>jl ln N lv++[b]
 |p::ps=>jl ln N (lv+1)++(p++(if ps=[]then Qf ln N lv b []else 44::Qf ln N lv b ps))
theorem F3{ln:Bool}{N lv:Nat}{b:UInt8}:∀{ps:List Bs},ps≠[]->Qf ln N lv b ps=wq ln N (lv+1) ps++(jl ln N lv++[b])
 |[],h=>absurd rfl h
 |[p],_=>by rw[Qf,zi rfl,Qf,wq];simp
 |p::q::ps,_=>by rw[Qf,za ξ,F3 (ps:=q::ps) ξ];rw[wq,wq];simp
theorem CG{b:UInt8}{ps:List Bs}(h:ps≠[]):Wx ln N lv ps++[b]=Qf ln N lv b ps:=by rw[F3 h];unfold Wx;simp_all
def qU(nx:List Bs->Bs×Tr->List Bs)(Fresh:List Bs->Bs×Tr->Prop):List Bs->List (Bs×Tr)->Prop
 |_,[]=>True
 |had,kv::l=>Fresh had kv/\qU nx Fresh (nx had kv) l
def QA{b:UInt8}(e:b=93\/b=125)(h:s.drop a=Qf ln N lv b []++r):∃T,Lex s a (a+(Qf ln N lv b []).length) T/\∃c,zt T=[c]/\c.1=2+indexByte CT b:=by
 rw[Qf]at h ⊢;rw[ZL]at h;have i:b∈CT:=by obtain rfl|rfl:=e <;> decide
 have o:b∉xf:=by obtain rfl|rfl:=e <;> decide
 have⟨p,n,m⟩:=wP FX (r:=[b]++r) (λc q=>θ) h;have f:=nG h;have k:=Yf i f;have l:=Lex.step (T:=[]) k (yu f ξ) .nil;refine⟨p++[(2+indexByte CT b,(((a+(jl ln N lv).length:Nat):Int),((a+(jl ln N lv).length+1:Nat):Int)))],?_,(2+indexByte CT b,(((a+(jl ln N lv).length:Nat):Int),((a+(jl ln N lv).length+1:Nat):Int))),?_,rfl⟩;have:=n.append l;simp_all;omega;rw[wj,m,zal,yj (show(2+indexByte CT b:Int)≠1 by obtain rfl|rfl:=e <;> decide)];rfl
def zL{ln:Bool}{N lv:Nat}{s:Bs}{i:UInt8}(m:i=93\/i=125){K:List Bs->List Bs->Bs×Tr->List Tk->Nat->Prop}{nx:List Bs->Bs×Tr->List Bs}{Fresh:List Bs->Bs×Tr->Prop}{P:Bs×Tr->Bs}:∀(kvs:List (Bs×Tr)) (had:List Bs) (a:Nat) (r:Bs),kvs≠[]->qU nx Fresh had kvs->(∀f∈kvs,(∃c t,P f=c::t/\c∉xf)/\∀had a r,Fresh had f->s.drop a=P f++r->lA r->∃T,Lex s a (a+(P f).length) T/\K had (nx had f) f (zt T) (cK f.2)) ->s.drop a=Qf ln N lv i (kvs.map P)++r->∃T,Lex s a (a+(Qf ln N lv i (kvs.map P)).length) T/\PB K (2+indexByte CT i) had kvs (zt T) (Ze (kvs.map (·.2)))
 |[],had,a,r,h,_,_,_=>absurd rfl h
 |f::kvs,had,a,r,_,hok,hK,hs=>by
  have⟨⟨c0,M,L,E⟩,n⟩:=hK f ZD;rw[ZC,Qf,ZL]at hs;have⟨y,B,A⟩:=wP FX (λc C=>θ) hs;have k:=nG hs;rw[ZL]at k;have l:lA ((ite (kvs.map P=[]) (Qf ln N lv i []) (44::Qf ln N lv i (kvs.map P)))++r):=by split;rw[Qf];unfold jl;grind [BF];exact BF (.inl rfl)
  have⟨D,z,k2⟩:=n had _ _ hok.1 k l;have b:=nG k;by_cases w:kvs=[];subst w;rw[zbg,zi rfl]at b;have⟨u,q,c,F,C⟩:=QA m b;refine⟨y++(D++u),?_,?_⟩;have:=B.append (z.append q);rw[ZC,zbg,Qf,zi rfl];simp only[YM]at this ⊢;grind;rw[wj,A,zal,wj,F];exact PB.last k2 C;have o:kvs.map P≠[]:=λe=>w (List.map_eq_nil_iff.1 e);rw[za o,ZT]at b;have H:=Yf (c:=44) ζ b;have p:s.drop (a+(jl ln N (lv+1)).length+(P f).length+1)=Qf ln N lv i (kvs.map P)++r:=by rw[<-zap,b];rfl
  have⟨u,q,I⟩:=zL m kvs (nx had f) _ r w hok.2 (λx J=>hK x (ZA _ J)) p;have G:=Lex.step H (yu b ξ) q;refine⟨y++(D++(2+indexByte CT 44,(((a+(jl ln N (lv+1)).length+(P f).length:Nat):Int),((a+(jl ln N (lv+1)).length+(P f).length+1:Nat):Int)))::u),?_,?_⟩;have:=B.append (z.append G);rw[ZC,Qf,za o];simp only[YM,YU]at this ⊢;grind;rw[wj,A,zal,wj,yj (show(2+indexByte CT 44:Int)≠1 by decide),ZC,Ze];exact PB.more k2 (show(2+indexByte CT 44:Int)=6 by decide) I
def nS(h:dR v=Ta):(v.Wf=1/\lb v.aa0=[]/\v.XK=[]/\v.WT=[])\/(v.Wf=2/\(lb v.aa0=[116,114,117,101]\/lb v.aa0=[102,97,108,115,101])/\v.XK=[]/\v.WT=[])\/(v.Wf=3/\((zj (lb v.aa0)).2=0/\qu (zj (lb v.aa0)).1=lb v.aa0)/\v.XK=[]/\v.WT=[])\/(v.Wf=4/\xn (lb v.aa0)=Ta/\v.XK=[]/\v.WT=[]) \/(v.Wf=5/\lb v.aa0=[]/\v.XK=[])\/(v.Wf=6/\yh v.XK=Ta/\v.XK.length=v.WT.length/\lb v.aa0=[]):=by unfold dR at h;rw[YR]at h;have⟨b,h⟩:=h;have b:v.Wf≠7:=zB b;unfold zq at h;by_cases h1:v.Wf=1;simp_all;rw[za h1]at h;by_cases h2:v.Wf=2;simp_all;rw[za h2]at h;by_cases c:v.Wf=3;rw[zi c]at h;unfold fI at h;simp_all;grind
theorem uL{t:Bs}(h:xn t=Ta):(eY t).1=fq t:=by unfold eY;rw[zi h];rfl
def E0(h:dR v=Ta):∃c t,j9 ln N v lv=c::t/\c∉xf:=by
 rw[xx];obtain⟨b,_⟩|⟨b,f,_⟩|⟨b,⟨f,_⟩,_⟩|⟨b,f,_⟩|⟨b,_⟩|⟨b,_⟩:=nS h;rw[b];exact⟨_,_,rfl,ζ⟩;rw[b,za ζ,za ζ,za ζ,za ζ];obtain e|e:=f <;> (rw[e];exact⟨_,_,rfl,ζ⟩);rw[b,za ζ,za ζ,za ζ,za ζ];have⟨_,c,t,e,i⟩:=HA (s:=lb v.aa0) (a:=0) (r:=[]) f ξ CY;refine⟨c,t,e,?_⟩;have:∀c∈fW,c∉xf:=ζ
 exact this c i;rw[b,za ζ,zi rfl,uL f];exact⟨_,_,rfl,ζ⟩;rw[b,za ζ,za ζ,zi rfl];exact⟨_,_,rfl,ζ⟩;rw[b,za ζ,za ζ,za ζ,zi rfl];exact⟨_,_,rfl,ζ⟩
theorem xF(b:s.drop a=w++r)(c:w≠[]):zy s ((a:Int),((a+DB w:Nat):Int))=w/\Yc s ((a:Int),((a+DB w:Nat):Int))=w:=by
 have e:=yu b (ϑ c);have f:a+DB w<=DB s:=by have:=congrArg za6 b;rw[List.length_drop,YM]at this;omega
 have h:=zaj.2 c;have i:Yc s ((a:Int),((a+DB w:Nat):Int))=w:=by unfold Yc;simp only[YL];rw[b,Nat.add_sub_cancel_left,List.take_left]
 grind [rW]
def Ay{nx:List Bs->Bs×Tr->List Bs}:∀(l:List (Bs×Tr)) (had:List Bs),qU nx (λ_ _=>True) had l
 |[],_=>trivial
 |_::l,_=>⟨trivial,Ay l _⟩
theorem Hj:∀(l:List (Bs×Tr)) (had:List Bs),(l.map (·.1)).Nodup->(∀b∈l,b.1∉had)->qU (λhad b=>had++[b.1]) (λhad b=>b.1∉had) had l
 |[],_,_,_=>trivial
 |b::l,had,hn,hh=>by rw[ZC,zbh]at hn;refine⟨hh b ZD,Hj l _ hn.2 λx e c=>?_⟩;grind
def Ep:∀{ks:List Bt},ks.Nodup->(ks.map lb).Nodup
 |[],_=>zdq
 |k::ks,h=>by
  rw[zbh]at h;rw[ZC,zbh];refine⟨λb=>?_,Ep h.2⟩;have⟨q,c,e⟩:=zab.1 b;have:q=k:=by rw[<-Zz q,e,Zz]
  simp_all
def sJ{k:Int}(c:k≠1)(h:Zy s a=(k,a+DB w,0))(e:s.drop a=w++r)(b:w≠[]):Lex s a (a+DB w) [(k,((a:Int),((a+DB w:Nat):Int)))]/\zt [(k,((a:Int),((a+DB w:Nat):Int)))]=[(k,((a:Int),((a+DB w:Nat):Int)))]:= ⟨Lex.step (T:=[]) h (yu e (ϑ b)) .nil,by rw[yj c];rfl⟩
theorem uv{ln:Bool}{N:Nat}:∀(n:Nat) (v:Tr) (lv d:Nat),cK v<=n->Qc dR v=Ta->eM v<=d->∀(s r:Bs) (a:Nat),s.drop a=j9 ln N v lv++r->lA r->∃T,Lex s a (a+(j9 ln N v lv).length) T/\PV s d v (zt T) (cK v)
 |0,v,_,_,h,_,_=>by have:=Zn v;omega
 |n+1,v,lv,0,_,_,hd=>by rw[jR]at hd;omega
 |n+1,v,lv,d+1,hz,hok,hd=>by
  intro s r a i hr;rw[y8,YR]at hok;obtain⟨hv,z⟩:=hok;rw[je,ZB]at z;have E:∀x∈v.WT,cK x<=n/\eM x<=d/\Qc dR x=Ta:=λx H=>⟨by have:=yc H;omega,by have:=qF H;omega,z x H⟩;have rO:v=.mk v.Wf v.aa0 v.XK v.WT:=by cases v;rfl
  have Q:∀{t:Bt},lb t=[]->t=bl []:=λ {t} h=>by rw[<-Zz t,h]
  rw[xx]at i ⊢;obtain⟨u,p,h1,h2⟩|⟨u,p,h1,h2⟩|⟨u,⟨p,ab⟩,h1,h2⟩|⟨u,p,h1,h2⟩|⟨u,p,h1⟩|⟨u,D,Z,p⟩:=nS hv;rw[zi u]at i ⊢;have o:=DI (w:=[110,117,108,108]) (by decide) i hr;obtain⟨L,G⟩:=sJ (by decide) o i (by simp);refine⟨_,L,?_⟩;rw[G];refine⟨_,.inl ⟨rfl,show zu 12≠0 by decide,show zu 12≠5 by decide,show zu 12≠6 by decide,?_,?_⟩⟩;rw[rO,u,h1,h2,Q p];rfl;rw[yo,h2];rfl;rw[za (by omega),za (by omega),za (by omega),za (by omega)]at i ⊢;have Y:Zd (lb v.aa0)=10\/Zd (lb v.aa0)=11:=by obtain e|e:=p <;> (rw[e];decide)
  have l:lb v.aa0≠[]:=by obtain e|e:=p <;> (rw[e];simp)
  have o:=DI (w:=lb v.aa0) (by omega) i hr;obtain⟨L,G⟩:=sJ (by omega) o i l;refine⟨_,L,?_⟩;rw[G];have aa:zu (Zd (lb v.aa0))=2:=by obtain e|e:=Y <;> (rw[e];decide)
  refine⟨_,.inl ⟨rfl,?_,?_,?_,?_,?_⟩⟩;grind;grind;grind;dsimp only;rw[aa,(xF i l).1];unfold Z3;rw[zi rfl,Zz];grind;rw[yo,h2];rfl;rw[za (by omega),za (by omega),za (by omega),za (by omega)]at i ⊢;obtain⟨o,c,t,e,_⟩:=HA p i hr;have l:lb v.aa0≠[]:=by rw[e];simp
  obtain⟨L,G⟩:=sJ (by decide) o i l;refine⟨_,L,?_⟩;rw[G];refine⟨_,.inl ⟨rfl,show zu 9≠0 by decide,show zu 9≠5 by decide,show zu 9≠6 by decide,?_,?_⟩⟩;dsimp only;rw[show zu 9=3 from rfl,(xF i l).1];unfold Z3;rw[za (by decide),zi rfl,ab,Zz];grind;rw[yo,h2];rfl;rw[za (by omega),zi u,uL p]at i ⊢;have o:=Gp p i;obtain⟨L,G⟩:=sJ (by decide) o i (by unfold fq;simp);refine⟨_,L,?_⟩;rw[G];have:=Rl (d:=d) p i;rw[Zz]at this;rw[show v=.mk 4 v.aa0 [] []from by grind];exact this;rw[za (by omega),za (by omega),zi u]at i ⊢;have ev:v=.mk 5 (bl []) [] v.WT:=by rw[rO,u,h1,Q p]
  by_cases A:v.WT=[];rw[A]at i ⊢;have i:s.drop a=91::([93]++r):=i;have o:=Yf (c:=91) (by decide) i;have m:s.drop (a+1)=93::r:=by rw[<-zap,i];rfl
  have O:=Yf (c:=93) (by decide) m;refine⟨_,Lex.step (b:=a+2) o (yu i (by simp)) (Lex.step (T:=[]) O (yu m (by simp)) .nil),?_⟩;rw[yj (show(2+indexByte CT 91:Int)≠1 by decide),yj (show(2+indexByte CT 93:Int)≠1 by decide)];exact⟨_,.inr (.inl ⟨_,rfl,.inl ⟨show(2+indexByte CT 91:Int)=4 by decide,show(2+indexByte CT 93:Int)=5 by decide,by rw[ev,A]⟩,by rw[yo,A];rfl⟩)⟩;have M:(v.WT.map λx=>j9 ln N x (lv+1))=(v.WT.map λx=>(([]:Bs),x)).map λf=>j9 ln N f.2 (lv+1):=by rw[zak];rfl
  have l:(v.WT.map λx=>(([]:Bs),x))≠[]:=λe=>A (List.map_eq_nil_iff.1 e);have Y:(91::Wx ln N lv (v.WT.map λx=>j9 ln N x (lv+1))++[93]:Bs)=91::Qf ln N lv 93 ((v.WT.map λx=>(([]:Bs),x)).map λf=>j9 ln N f.2 (lv+1)):=by rw[ZT,CG (by simp;omega),M]
  rw[Y]at i ⊢;have o:=Yf (c:=91) (by decide) i;have m:s.drop (a+1)=Qf ln N lv 93 ((v.WT.map λx=>(([]:Bs),x)).map λf=>j9 ln N f.2 (lv+1))++r:=by rw[<-zap,i];rfl
  obtain⟨T,L,k⟩:=zL (.inl rfl) (K:=KA (PV s d)) (nx:=λhad _=>had) (Fresh:=λ_ _=>True) (P:=λf=>j9 ln N f.2 (lv+1)) _ [] (a+1) r l (Ay _ _) (λf B=>by obtain⟨x,H,rfl⟩:=zab.1 B;obtain⟨g1,g2,g3⟩:=E x H;have y:=g3;rw[y8,YR]at y;refine⟨E0 y.1,λhad b q _ F hq=>?_⟩;obtain⟨T,L,k⟩:=uv n x (lv+1) d g1 g3 g2 s q b F hq;exact⟨T,L,rfl,k⟩) m;refine⟨_,by rw[YU,show a+((Qf ln N lv 93 ((v.WT.map λx=>(([]:Bs),x)).map λf=>j9 ln N f.2 (lv+1))).length+1)=a+1+(Qf ln N lv 93 ((v.WT.map λx=>(([]:Bs),x)).map λf=>j9 ln N f.2 (lv+1))).length from by omega];exact Lex.step o (yu i (by simp)) L,?_⟩;rw[yj (show(2+indexByte CT 91:Int)≠1 by decide)];have em:(v.WT.map λx=>(([]:Bs),x)).map (·.2)=v.WT:=by rw[zak];exact zdz _
  refine⟨_,.inr (.inr (.inl ⟨_,_,_,rfl,show(2+indexByte CT 91:Int)=4 by decide,k,?_,?_⟩))⟩;grind;rw[em,yo,Nat.add_comm]
  ·rw[za (by omega),za (by omega),za (by omega),zi u]at i ⊢;by_cases A:v.WT=[];have S:v.XK=[]:=by rw[A]at Z;exact ZU Z
   have ev:v=.mk 6 (bl []) [] []:=by rw[rO,u,A,S,Q p]
   rw[A,S]at i ⊢;have i:s.drop a=123::([125]++r):=i;have o:=Yf (c:=123) (by decide) i;have m:s.drop (a+1)=125::r:=by rw[<-zap,i];rfl
   have O:=Yf (c:=125) (by decide) m;refine⟨_,Lex.step (b:=a+2) o (yu i (by simp)) (Lex.step (T:=[]) O (yu m (by simp)) .nil),?_⟩;rw[yj (show(2+indexByte CT 123:Int)≠1 by decide),yj (show(2+indexByte CT 125:Int)≠1 by decide)];exact⟨_,.inr (.inl ⟨_,rfl,.inr ⟨show(2+indexByte CT 123:Int)=2 by decide,show(2+indexByte CT 125:Int)=3 by decide,ev⟩,by rw[yo,A];rfl⟩)⟩
   ·obtain⟨kvs,I⟩:∃kvs:List (Bs×Tr),kvs=(v.XK.map lb).zip v.WT:=⟨_,rfl⟩;have e1:kvs.map (·.1)=v.XK.map lb:=by rw[I,zdh (by grind)]
    have e2:kvs.map (·.2)=v.WT:=by rw[I,List.map_snd_zip (by grind)]
    have e3:(kvs.map λf=>bl f.1)=v.XK:=by
     have:(kvs.map λf=>bl f.1)=(kvs.map (·.1)).map bl:=by rw[zak];rfl
     rw[this,e1,zak];have:bl ∘ lb=id:=by funext x;exact Zz x
     rw[this,zdz]
    have l:kvs≠[]:=λe=>A (by grind);have M:List.zipWith (fa ln) v.XK (v.WT.map λx=>j9 ln N x (lv+1))=kvs.map λf=>fa ln (bl f.1) (j9 ln N f.2 (lv+1)):=by
     rw[I];have:∀(ks:List Bt) (xs:List Tr),List.zipWith (fa ln) ks (xs.map λx=>j9 ln N x (lv+1))=((ks.map lb).zip xs).map λf=>fa ln (bl f.1) (j9 ln N f.2 (lv+1)):=by
      intro ks;induction ks with
      |nil=>intro xs;rfl
      |cons k ks ih=>
       intro xs;cases xs with
       |nil=>rfl
       |cons x xs=>simp only[ZC,List.zipWith_cons_cons,zbe,ih,Zz]
     exact this _ _
    have Y:(123::Wx ln N lv (List.zipWith (fa ln) v.XK (v.WT.map λx=>j9 ln N x (lv+1)))++[125]:Bs)=123::Qf ln N lv 125 (kvs.map λf=>fa ln (bl f.1) (j9 ln N f.2 (lv+1))):=by rw[ZT,M,CG (λe=>l (List.map_eq_nil_iff.1 e))]
    rw[Y]at i ⊢;have o:=Yf (c:=123) (by decide) i;have m:s.drop (a+1)=Qf ln N lv 125 (kvs.map λf=>fa ln (bl f.1) (j9 ln N f.2 (lv+1)))++r:=by rw[<-zap,i];rfl
    unfold yh at D;rw[YR,ZB]at D;have ae:(kvs.map (·.1)).Nodup:=by rw[e1];exact Ep (zB D.2)
    obtain⟨T,L,k⟩:=zL (.inr rfl) (K:=KO s (PV s d)) (nx:=λhad f=>had++[f.1]) (Fresh:=λhad f=>f.1∉had) (P:=λf=>fa ln (bl f.1) (j9 ln N f.2 (lv+1))) kvs [] (a+1) r l (Hj _ _ ae (λ_ _=>by simp)) (λf B=>by
     have H:f.2∈v.WT:=by rw[<-e2];exact zab.2 ⟨f,B,rfl⟩
     have J:xn f.1=Ta:=by
      have:f.1∈v.XK.map lb:=by rw[<-e1];exact zab.2 ⟨f,B,rfl⟩
      obtain⟨q,hq,e⟩:=zab.1 this;rw[<-e];exact D.1 q hq
     obtain⟨g1,g2,g3⟩:=E _ H;have U:fa ln (bl f.1) (j9 ln N f.2 (lv+1))=fq f.1++58::((if ln then [32]else [])++j9 ln N f.2 (lv+1)):=by unfold fa;rw[yr,uL J]
     rw[U];refine⟨⟨_,_,rfl,by decide⟩,λhad b q hf F hq=>?_⟩;rw[ZL]at F;have tq:=Gp J F;have C:=nG F;rw[ZT]at C;have tc:=Yf (c:=58) (by decide) C;have V:s.drop (b+(fq f.1).length+1)=(if ln then [32]else [])++(j9 ln N f.2 (lv+1)++q):=by rw[<-zap,C];simp
     have y:=g3;rw[y8,YR]at y;obtain⟨c0,t0,e0,ah⟩:=E0 (ln:=ln) (N:=N) (lv:=lv+1) y.1;obtain⟨T1,L1,n1⟩:=wP (λc hc=>by
      split at hc;rw[za8.1 hc];decide
      ·cases hc) (λc hc=>by
      grind) V
     have af:=nG V;obtain⟨T2,L2,k2⟩:=uv n f.2 (lv+1) d g1 g3 g2 s q _ af hq;have sl:=xF F (by unfold fq;simp);refine⟨(8,((b:Int),((b+(fq f.1).length:Nat):Int)))::(2+indexByte CT 58,(((b+(fq f.1).length:Nat):Int),((b+(fq f.1).length+1:Nat):Int)))::(T1++T2),?_,?_⟩;refine Lex.step tq (yu F (by simp)) (Lex.step tc (yu C (by simp)) ?_);have:=L1.append L2;simp only[YM,YU]at this ⊢;grind;rw[yj (show(8:Int)≠1 by decide),yj (show(2+indexByte CT 58:Int)≠1 by decide),wj,n1,zal];exact⟨_,_,_,rfl,rfl,show(2+indexByte CT 58:Int)=7 by decide,by dsimp only;rw[sl.2,AS J],by grind,hf,rfl,k2⟩) m
    refine⟨_,by rw[YU,show a+((Qf ln N lv 125 (kvs.map λf=>fa ln (bl f.1) (j9 ln N f.2 (lv+1)))).length+1)=a+1+(Qf ln N lv 125 (kvs.map λf=>fa ln (bl f.1) (j9 ln N f.2 (lv+1)))).length from by omega];exact Lex.step o (yu i (by simp)) L,?_⟩;rw[yj (show(2+indexByte CT 123:Int)≠1 by decide)];refine⟨_,.inr (.inr (.inr ⟨_,_,_,rfl,show(2+indexByte CT 123:Int)=2 by decide,k,?_,?_⟩))⟩;grind;rw[e2,yo,Nat.add_comm]
theorem tO(b:qh v=Ta)(c:(j9 ln N v 0).length<=65536):∃n:Int,qg (j9 ln N v 0)=(v,n,0):=by unfold qh wy at b;simp only[YR,zA]at b;have⟨T,L,k⟩:=uv (ln:=ln) (N:=N) (cK v) v 0 32 (YJ _) b.2 b.1.2 (j9 ln N v 0) [] 0 ξ CY;rw[ZO]at L;exact⟨_,WE c L k b.1.1⟩
end
section
variable {xs ys:List Tr} {α:Type} {v:Tr}
theorem Uy(h:xs.Perm ys):Ze xs=Ze ys:=by
 induction h with
 |nil=>rfl
 |cons x _ c=>rw[Ze,Ze,c]
 |swap x y l=>simp only[Ze];omega
 |trans _ _ a b=>rw[a,b]
theorem TZ(h:xs.Perm ys):en xs=en ys:=by
 induction h with
 |nil=>rfl
 |cons x _ c=>rw[en,en,c]
 |swap x y l=>simp only[en];omega
 |trans _ _ a b=>rw[a,b]
def XG{xs ys:ab1}(h:xs.Perm ys):xs.sum=ys.sum:=η
theorem Aw{p:α->Bool}{xs ys:List α}(h:xs.Perm ys):xs.all p=ys.all p:=η
theorem nX:∀(ks:List Bt) (ys:List Tr),ks.Nodup->DB ks=DB ys->(ks.map λq=>(q,eW (ks.zip ys) q))=ks.zip ys
 |[],ys,_,_=>ξ
 |k::ks,[],_,h=>by simp at h
 |k::ks,y::ys,hn,h=>by rw[zbh]at hn;rw[ZC,zbe];congr 1;rw[eW,zi rfl];rw[<-nX ks ys hn.2 (ψ h)];refine zck λq b=>?_;have:k≠q:=λe=>hn.1 (e ▸ b);rw[eW,za this];congr 2;exact nX ks ys hn.2 (ψ h)
structure SrtF (v w:Tr):Prop where
 k:w.Wf=v.Wf
 t:w.aa0=v.aa0
 kp:w.XK.Perm v.XK
 ip:w.WT.Perm (v.WT.map zh)
 zp:(w.XK.zip w.WT).Perm (v.XK.zip (v.WT.map zh))
def N6(b:zq v=Ta)(c:v.Wf≠6):v.XK=[]:=by unfold zq at b;grind
def Js(b:zq v=Ta)(c:v.Wf=6):v.XK.Nodup/\v.XK.length=v.WT.length:=by unfold zq yh at b;simp_all
def rE(h:zq v=Ta):SrtF v (zh v):=by
 rw[yw];by_cases b:v.Wf=6;rw[zi b];have⟨i,n⟩:=Js h b;have k:=nX v.XK (v.WT.map zh) i θ;have c:=(jb v.XK).map λq=>(q,eW (v.XK.zip (v.WT.map zh)) q);rw[k]at c;have e:∀l:List Bt,l.zip (l.map λq=>eW (v.XK.zip (v.WT.map zh)) q)=l.map λq=>(q,eW (v.XK.zip (v.WT.map zh)) q):=by
  intro l;induction l with
  |nil=>rfl
  |cons x l m=>simp_all
 refine⟨rfl,rfl,jb _,?_,?_⟩;have:=c.map (·.2);rw[zak,List.map_snd_zip θ]at this;exact this;simp_all;rw[za b];have f:=N6 h b;exact⟨rfl,rfl,ϕ f,.refl _,ϕ f⟩
theorem Ke{a:List α}:a.isEmpty=hV (DB a=0):=η
def SS{a b:List Bt}(h:a.Perm b):yh a=yh b:=by unfold yh;grind
def KM{v w:Tr}(h1:w.Wf=v.Wf)(h2:w.aa0=v.aa0)(c:w.XK.length=v.XK.length)(e:w.WT.length=v.WT.length)(b:yh w.XK=yh v.XK):zq w=zq v:=by unfold zq;grind [Ke]
def E7(ln:Bool)(nd lv:Nat)(ps:List Bs):(wq ln nd lv ps).length+(ite (ps=[]) 0 1)=(ps.map λp=>DB p+(1+(jl ln nd lv).length)).sum:=by
 cases ps with
 |nil=>rfl
 |cons p ps=>
  have:∀b:List Bs,(b.flatMap λq=>44::(jl ln nd lv++q)).length=(b.map λp=>DB p+(1+(jl ln nd lv).length)).sum:=by
   intro b;induction b with
   |nil=>rfl
   |cons q b c=>grind
  rw[wq,YM,YM,this,ZC,List.sum_cons,za ξ];omega
def GJ{ln:Bool}{nd lv:Nat}{ps b:List Bs}(h:(ps.map za6).Perm (b.map za6)):(Wx ln nd lv ps).length=(Wx ln nd lv b).length:=by
 have e:(ps=[])↔(b=[]):=by have:=h.length_eq;rw[YO,YO]at this;rw[<-za2,<-za2,this]
 have h1:=E7 ln nd (lv+1) ps;have h2:=E7 ln nd (lv+1) b;have c:=XG (h.map λn=>n+(1+(jl ln nd (lv+1)).length));rw[zak,zak]at c;have c:(ps.map λp=>DB p+(1+(jl ln nd (lv+1)).length)).sum=(b.map λp=>DB p+(1+(jl ln nd (lv+1)).length)).sum:=c;unfold Wx;grind
theorem Fj{α β γ:Type}(f:α->β->γ):∀(a:List α) (b:List β),List.zipWith f a b=(a.zip b).map λp=>f p.1 p.2
 |[],_=>ξ
 |_::_,[]=>ξ
 |x::a,y::b=>by rw[List.zipWith_cons_cons,zbe,ZC,Fj f a b]
structure SrtG (v:Tr):Prop where
 sz:cK (zh v)=cK v
 dp:eM (zh v)=eM v
 okv:Qc dR (zh v)=Qc dR v
 nok:Qc zq (zh v)=Ta
 tx:∀m,fi m v->fi m (zh v)
 len:∀(ln:Bool) (N lv:Nat),(j9 ln N (zh v) lv).length=(j9 ln N v lv).length
theorem Hn{f:Tr->Tr}:∀{l:List Tr},(∀x∈l,cK (f x)=cK x)->Ze (l.map f)=Ze l
 |[],_=>rfl
 |x::l,h=>by rw[ZC,Ze,Ze,h x ZD,Hn λy b=>h y (ZA _ b)]
theorem Ge{f:Tr->Tr}:∀{l:List Tr},(∀x∈l,eM (f x)=eM x)->en (l.map f)=en l
 |[],_=>rfl
 |x::l,h=>by rw[ZC,en,en,h x ZD,Ge λy b=>h y (ZA _ b)]
def uz:∀(n:Nat) (v:Tr),cK v<=n->Qc zq v=Ta->SrtG v
 |0,v,h,_=>χ (Zn v)
 |n+1,v,hz,hok=>by
  rw[y8,YR,je,ZB]at hok;have⟨l,e⟩:=hok;have S:=rE l;have c:∀x∈v.WT,SrtG x:=λx b=>uz n x (χ (yc b)) (e x b);have i:zq (zh v)=zq v:=KM S.k S.t S.kp.length_eq (by rw[S.ip.length_eq,YO]) (SS S.kp);refine⟨?_,?_,?_,?_,λm h=>?_,λln N lv=>?_⟩;rw[yo,yo v,Uy S.ip,Hn λx b=>(c x b).sz];rw[jR,jR v,TZ S.ip,Ge λx b=>(c x b).dp];rw[y8,y8 _ v,je,je,Aw S.ip,zc4];have r:dR (zh v)=dR v:=by unfold dR;rw[i,S.k]
  rw[r];congr 1;rw[ZI,ZB,ZB];exact⟨λa x b=>by rw[<-(c x b).okv];exact a x b,λa x b=>by show Qc dR (zh x)=Ta;rw[(c x b).okv];exact a x b⟩;rw[y8,i,l,zbb,je,Aw S.ip,zc4,ZB];exact λx b=>(c x b).nok;rw[mF]at h ⊢;have⟨⟨h1,h2,q⟩,s⟩:=h;refine⟨⟨by rw[S.t];exact h1,by rw[S.kp.length_eq];exact h2,λk e=>q k (S.kp.mem_iff.1 e)⟩,qN.2 λx b=>?_⟩;obtain⟨y,f,rfl⟩:=zab.1 (S.ip.mem_iff.1 b);exact(c y f).tx m (qN.1 s y f);rw[xx,xx (v:=v),S.k,S.t];split;rfl;split;rfl;split;simp only[YM,YU];congr 2;refine GJ ?_;rw[zak,zak];have h1:=S.ip.map λx=>(j9 ln N x (lv+1)).length;rw[zak]at h1;refine h1.trans ?_;have:v.WT.map ((λx=>(j9 ln N x (lv+1)).length) ∘ zh)=v.WT.map (za6 ∘ λx=>j9 ln N x (lv+1)):=zck λx b=>(c x b).len ln N (lv+1);rw[this];split;simp only[YM,YU];congr 2;refine GJ ?_;have d:∀(ks:List Bt) (xs:List Tr),(List.zipWith (fa ln) ks (xs.map λx=>j9 ln N x (lv+1))).map za6=(ks.zip xs).map λp=>(fa ln p.1 (j9 ln N p.2 (lv+1))).length:=by intro ks xs;rw[Fj,List.zip_map_right,zak,zak];rfl
  rw[d,d];have h1:=S.zp.map λp=>(fa ln p.1 (j9 ln N p.2 (lv+1))).length;refine h1.trans ?_;rw[List.zip_map_right,zak];have:(v.XK.zip v.WT).map ((λp=>(fa ln p.1 (j9 ln N p.2 (lv+1))).length) ∘ Prod.map id zh)=(v.XK.zip v.WT).map λp=>(fa ln p.1 (j9 ln N p.2 (lv+1))).length:=zck λp o=>by have:=(c p.2 (List.of_mem_zip o).2).len ln N (lv+1);show(fa ln p.1 (j9 ln N (zh p.2) (lv+1))).length=_;unfold fa;simp_all
  rw[this];rfl
theorem E4(h:Zo v=Ta):qh (zh v)=qh v:=by unfold Zo at h;rw[YR]at h;have S:=uz (cK v) v (YJ _) h.2;have e:∀w:Tr,qh w=(wy w&&Qc dR w):=λw=>rfl;rw[e,e,S.okv];unfold wy;rw[S.sz,S.dp]
theorem Wz(h:qh v=Ta):Zo v=Ta:=by have e:qh v=(wy v&&Qc dR v):=rfl;rw[e,YR]at h;unfold Zo;rw[h.1,zbb];exact pu (λx b=>by unfold dR at b;simp_all) v h.2
def Am(h:Sm v):Sm (jh v):=by unfold jh;by_cases b:Zo v=Ta;rw[zi b];unfold Zo at b;rw[YR]at b;have S:=uz (cK v) v (YJ _) b.2;exact⟨by rw[S.sz];exact h.sz,S.tx _ h.tx⟩;rw[za b];exact⟨ζ,by rw[mF];exact⟨⟨ζ,ζ,ζ⟩,trivial⟩⟩
theorem BX:qh (jh v)=qh v:=by
 unfold jh;by_cases b:Zo v=Ta;rw[zi b];exact E4 b;rw[za b];cases hr:qh v with
 |true=>exact absurd (Wz hr) b
 |false=>rfl
end
end
section
open Go.RowKit
section
def Vo{gl:Fr}(P:GL gl){v:Tr}(I:Sm v){R:Tr->Prop}(n:R (jh v)):aa5 gl 56 [qr .tree v] [.tree] R:=by
 intro h M vs N ag ha
 match vs,ha with
 |[u],⟨A,_⟩=>
  have A:RdV M .tree v u:=A;have x:=A;obtain⟨sk,si,rfl,rk,ri⟩:=yg A;apply PX.of;apply IW v.Wf v.aa0 sk si;intro h1;have⟨J,z1,B1⟩:=yp (g:=h1) rfl;clear_value h1;intro h2;have⟨k2,z2,Q⟩:=yp (g:=h2) rfl;clear_value h2;have F:=B1.aa3 k2;have D:Bk h.size h h2:=J.trans k2 ω;have H:wr h M h2 M:=up ag D;refine⟨v.Wf,v.aa0,sk,si,F.ld (cs:=[_,_,aK sk,aK si]),?_⟩;refine(uC P I (R:=λr=>r=Zo v) rfl).go (vs:=[.agg #[ab0 v.Wf,aa6 v.aa0,aK sk,aK si]]) N H.ag (zn x zw) λw V C r m o Y=>?_;subst Y;have z8:=m.aa1.size;have G:=Q.aa1 (m.aa1.get h1.size ω);have B8:=F.aa1 (m.aa1.get h.size ω);have E:C h1.size=Te:=by rw[m.old _ ω];exact ag.none ω
  have y:=H.trans m;have stay:∀{g g':zb} {M':Fr},wr h M g M'->M' h1.size=Te->(∀j,j≠h1.size->g'[j]?=g[j]?)->g'.size=g.size->wr h M g' M':=λ {g g' M'} L hn f z=>⟨⟨χ L.aa1.size,λj hj=>by rw[f j ω];exact L.aa1.get j hj⟩,L.le,L.old,λc cs e=>by rw[f c (λh=>by subst h;rw[hn]at e;cases e)];exact L.ag c cs e⟩;refine⟨_,ez o,λb=>?_,λb=>?_⟩;have b:Zo v=Tc:=ψ b
  unfold jh at n;rw[za (υ b)]at n;refine qt (k:=0) (s:=⟨#[]⟩) (sk:=⟨Te,0,0⟩) (si:=⟨Te,0,0⟩) G λg f z B=>⟨_,_,_,_,B.ld (cs:=[ab0 0,aa6 ⟨#[]⟩,aK ⟨Te,0,0⟩,aK ⟨Te,0,0⟩]),?_⟩;exact⟨C,_,stay y E f z,Yu.2 (qe (v:=.mk 0 (bl []) [] []) J5 J5),n⟩;have b:Zo v=Ta:=ψ b
  unfold jh at n;rw[zi b]at n;unfold Zo wy at b;simp only[YR,zA]at b;refine⟨v.Wf,v.aa0,sk,si,B8.ld (cs:=[_,_,aK sk,aK si]),?_⟩;refine(Gl (cK v) v ω (YJ _) b.2 I V C _ m.ag (RdV.mono m.le x)).go λw U p q i l S=>?_;subst S;obtain⟨xk,xi,rfl,O,y2⟩:=yg (Yu.1 l);have Z:=i.aa1.size;refine⟨_,_,xk,xi,rfl,?_⟩;refine qt (G.aa1 (i.aa1.get h1.size ω)) λg f z B=>⟨_,_,xk,xi,B.ld (cs:=[_,_,aK xk,aK xi]),?_⟩;have t:p h1.size=Te:=by rw[i.old _ ω];exact E
  exact⟨p,_,stay (y.trans i) t f z,Yu.2 (qe O y2),n⟩
end
end
section
open Go.Lib
variable {l:List Tr} {m:Nat}
def gE(k:Bt):Bt:=bl (107::(eY (lb k)).1)
def fy(v:Tr):Bt:=if v.Wf=5 then bl [91]else if v.Wf=6 then bl [123]else bl (j9 Tc 0 v 0)
mutual
def Qy:Tr->Nat->List (Bt×Int)
 |.mk k s ks xs,n=>(if k=6 then J8 xs ks n else if k=5 then eH xs n else [])++[(fy (.mk k s ks xs),(n:Int))]
def eH:List Tr->Nat->List (Bt×Int)
 |[],_=>[]
 |x::l,n=>Qy x n++eH l (n+(Qy x n).length)
def J8:List Tr->List Bt->Nat->List (Bt×Int)
 |[],_,_=>[]
 |x::l,ks,n=>Qy x n++((gE ks.head!,(n:Int))::J8 l ks.tail (n+(Qy x n).length+1))
end
theorem oJ(v:Tr)(n:Nat):Qy v n=(ite (v.Wf=6) (J8 v.WT v.XK n) (ite (v.Wf=5) (eH v.WT n) []))++[(fy v,(n:Int))]:=by cases v;rw[Qy]
mutual
def xd:Tr->Nat
 |.mk k _ _ xs=>(if k=6 then eE 1 xs else if k=5 then eE 0 xs else 0)+1
def eE(d:Nat):List Tr->Nat
 |[]=>0
 |x::l=>xd x+d+eE d l
end
theorem se(v:Tr):xd v=(ite (v.Wf=6) (eE 1 v.WT) (ite (v.Wf=5) (eE 0 v.WT) 0))+1:=by cases v;rw[xd]
mutual
theorem wa:∀(v:Tr) (n:Nat),(Qy v n).length=xd v
 |.mk k s ks xs,n=>by rw[Qy,xd,YM,zbp];congr 1;split;exact wO xs ks n;split;exact nT xs n;rfl
theorem nT:∀(l:List Tr) (n:Nat),(eH l n).length=eE 0 l
 |[],_=>by rw[eH,eE];rfl
 |x::l,n=>by rw[eH,eE,YM,wa x n,nT l];omega
theorem wO:∀(l:List Tr) (ks:List Bt) (n:Nat),(J8 l ks n).length=eE 1 l
 |[],_,_=>by rw[J8,eE];rfl
 |x::l,ks,n=>by rw[J8,eE,YM,YU,wa x n,wO l];omega
end
theorem CK:∀(l:List Tr) (m:List Tr) (n:Nat),eH (l++m) n=eH l n++eH m (n+(eH l n).length)
 |[],m,n=>by rw[eH];rfl
 |x::l,m,n=>by rw[ZT,eH,eH,CK l m,ZL,YM];congr 3;omega
theorem yP(h:m<DB l)(n:Nat):eH (l.take (m+1)) n=eH (l.take m) n++Qy l[m] (n+(eH (l.take m) n).length):=by rw[YP h,CK,eH,eH,ZY]
theorem Gy:∀(l:List Tr) (m:List Tr) (ks:List Bt) (n:Nat),J8 (l++m) ks n=J8 l ks n++J8 m (ks.drop (DB l)) (n+(J8 l ks n).length)
 |[],m,ks,n=>by rw[J8];rfl
 |x::l,m,ks,n=>by rw[ZT,J8,J8,Gy l m,ZL,ZT,YM,YU,YU,<-List.drop_tail];congr 4;omega
theorem AX{ks:List Bt}(h:m<DB l)(b:m<DB ks)(n:Nat):J8 (l.take (m+1)) ks n=J8 (l.take m) ks n++(Qy l[m] (n+(J8 (l.take m) ks n).length)++[(gE ks[m],((n+(J8 (l.take m) ks n).length:Nat):Int))]):=by rw[YP h,Gy,J8,J8,ZV,zci ω];congr 4;rw[ZG b];rfl
def ff(X:List (Bt×Int)):List (Bt×Int):=X.take 513
def qQ(X:List (Bt×Int)):(ff X).length<=513:=by unfold ff;grind
theorem mi{X:List (Bt×Int)}(h:X.length<=513):ff X=X:=za0 h
theorem ta(X:List (Bt×Int))(f:Nat->List (Bt×Int)):ff (ff X++f (ff X).length)=ff (X++f (DB X)):=by
 by_cases h:X.length<=513;rw[mi h];have b:(ff X).length=513:=by unfold ff;rw[ZV];omega
 unfold ff at b ⊢;grind
theorem FA{X:List (Bt×Int)}(h:X.length<=513)(p:Bt×Int):(ite (DB X<=512) (X++[p]) X)=ff (X++[p]):=by
 split;simp_all[mi];rename_i b;have:X.length=513:=ω
 unfold ff;simp_all
end
section
section
def zU(P:Program)(t:TypeId)(n:Nat)(u:Value)(h:zb)(K:Value->zb->Prop):Prop:=
 jX P (do let x <-Instr.buildSlice t n #[(0,u)];pure (zda x)) h λnx h'=>match nx with
  |.value v=>K v h'
  |.skip=>K undef h'
  |_=>False
end
section
def VC(h:zb)(R:vvv) (H:let b:=h.push (.cells #[aa6 (⟨#[98]⟩:Bt),aa6 (⟨#[97]⟩:Bt)] 9);aa4 51 #[iV 1] b (λc d=>∃e f g i,c=tA e f g i/\aa4 51 #[iV 2] d (λj k=>∃l m n o,j=tA l m n o/\let p:=k.push (.cells #[iV l,aa6 m,aK n,aK o] 25);aa4 52 #[.slice (Td (aa8 k)) 1 1] p (λq r=>∃s t u v,q=tA s t u v/\let w:=r.push (.cells #[iV e,aa6 f,aK g,aK i,iV s,aa6 t,aK u,aK v] 25);aa4 47 #[.slice (Td (aa8 h)) 2 2,.slice (Td (aa8 r)) 2 2] w (λx y=>∃z A B C,x=tA z A B C/\let D:=y.push (.cells tC 25);wf Tp (YI 25 (aa7 (aa8 y)) (tA z A B C)) D (λE=>∃F G I J,zc E (aa8 y) 0 (tL F G I J)/\aa4 14 #[tA F G I J] E (λL M=>∃N O P,L=.tuple #[.agg #[aK N,aK O],iV P]/\let Q:=M.push (.cells #[.slice Te 0 0,.slice Te 0 0] 31);wf Tp (YI 31 (aa7 (aa8 M)) (.agg #[aK N,aK O])) Q (λS=>let T:=S.push (.cells #[aa6 (⟨#[50]⟩:Bt),aa6 (⟨#[91]⟩:Bt),aa6 (⟨#[107,34,97,34]⟩:Bt),aa6 (⟨#[49]⟩:Bt),aa6 (⟨#[107,34,98,34]⟩:Bt),aa6 (⟨#[123]⟩:Bt)] 9);let U:=T.push (.cells #[iV 0,iV 0,iV 0,iV 3,iV 3,iV 0] 3);let V:=U.push (.cells #[.slice Te 0 0,.slice Te 0 0] 31);wf Tp (YI 31 (aa7 (aa8 U)) (.agg #[.slice (Td (aa8 S)) 6 6,.slice (Td (aa8 T)) 6 6])) V (λW=>∃X Y,zc W (aa8 M) 0 [aK X,aK Y]/\aa4 19 #[.agg #[aK X,aK Y]] W (λZ aa=>∃ab ac ad ae af,Z=.tuple #[tA ab ac ad ae,aa9 af]/\let ag:=aa.push (.cells tC 25);wf Tp (YI 25 (aa7 (aa8 aa)) (tA ab ac ad ae)) ag (λah=>∃ai aj,((P==0)=Ta->zc ah (aa8 M) 0 [aK ai,aK aj])/\∃ak al,((P==0)=Ta->zc ah (aa8 U) 0 [aK ak,aK al])/\∃am:vvv,((P==0)=Ta->aa4 16 #[.agg #[aK ai,aK aj],.agg #[aK ak,aK al]] ah (λan ao=>∃ap,an=.bool ap/\am (aa9 ap) ao))/\((P==0)=Tc->∃aq,am (aa9 aq) ah)/\((P==0)=Ta->∀ar au,am ar au->∃av,ar=.bool av)/\∀aw:Bool,∀ax,am (aa9 aw) ax->∃ay az aA aB,((cond (cond (P==0) aw Tc) af Tc)=Ta->zc ax (aa8 y) 0 (tL ay az aA aB))/\∃aC aD aE aF,((cond (cond (P==0) aw Tc) af Tc)=Ta->zc ax (aa8 aa) 0 (tL aC aD aE aF))/\∃aG:vvv,((cond (cond (P==0) aw Tc) af Tc)=Ta->aa4 46 #[tA ay az aA aB,tA aC aD aE aF] ax (λaH aI=>∃aJ,aH=.bool aJ/\aG (aa9 aJ) aI))/\((cond (cond (P==0) aw Tc) af Tc)=Tc->∃aL,aG (aa9 aL) ax)/\((cond (cond (P==0) aw Tc) af Tc)=Ta->∀aM aN,aG aM aN->∃aO,aM=.bool aO)/\∀aP:Bool,∀aQ,aG (aa9 aP) aQ->∃aS aT,((cond (cond (cond (P==0) aw Tc) af Tc) aP Tc)=Ta->zc aQ (aa8 M) 0 [aK aS,aK aT])/\∃aU:vvv,((cond (cond (cond (P==0) aw Tc) af Tc) aP Tc)=Ta->aa4 28 #[.agg #[aK aS,aK aT]] aQ (λaV aW=>∃aX,aV=aK aX/\aU (aK aX) aW))/\((cond (cond (cond (P==0) aw Tc) af Tc) aP Tc)=Tc->∃aY,aU (aK aY) aQ)/\((cond (cond (cond (P==0) aw Tc) af Tc) aP Tc)=Ta->∀aZ a0,aU aZ a0->∃a1,aZ=aK a1)/\∀a2:Sl,∀a3,aU (aK a2) a3->∃a4:vvv,((cond (cond (cond (P==0) aw Tc) af Tc) aP Tc)=Ta->let a5:=a3.push (.cells #[iV 4,iV 5] 3);a4 (.slice (Td (aa8 a3)) 2 2) a5)/\((cond (cond (cond (P==0) aw Tc) af Tc) aP Tc)=Tc->∃a6,a4 (aK a6) a3)/\((cond (cond (cond (P==0) aw Tc) af Tc) aP Tc)=Ta->∀a7 a8,a4 a7 a8->∃a9,a7=aK a9)/\∀ba:Sl,∀bb,a4 (aK ba) bb->∃bc:vvv,((cond (cond (cond (P==0) aw Tc) af Tc) aP Tc)=Ta->aa4 23 #[aK a2,aK ba] bb (λbd be=>∃bf,bd=.bool bf/\bc (aa9 bf) be))/\((cond (cond (cond (P==0) aw Tc) af Tc) aP Tc)=Tc->∃bg,bc (aa9 bg) bb)/\((cond (cond (cond (P==0) aw Tc) af Tc) aP Tc)=Ta->∀bh bi,bc bh bi->∃bj,bh=.bool bj)/\∀bk:Bool,∀bl,bc (aa9 bk) bl->∃bm bn,((cond (cond (cond (cond (P==0) aw Tc) af Tc) aP Tc) bk Tc)=Ta->zc bl (aa8 M) 0 [aK bm,aK bn])/\∃bo:vvv,((cond (cond (cond (cond (P==0) aw Tc) af Tc) aP Tc) bk Tc)=Ta->aa4 24 #[.agg #[aK bm,aK bn]] bl (λbp bq=>∃br,bp=aK br/\bo (aK br) bq))/\((cond (cond (cond (cond (P==0) aw Tc) af Tc) aP Tc) bk Tc)=Tc->∃bs,bo (aK bs) bl)/\((cond (cond (cond (cond (P==0) aw Tc) af Tc) aP Tc) bk Tc)=Ta->∀bt bu,bo bt bu->∃bv,bt=aK bv)/\∀bw:Sl,∀bx,bo (aK bw) bx->∃bz:vvv,((cond (cond (cond (cond (P==0) aw Tc) af Tc) aP Tc) bk Tc)=Ta->let bA:=bx.push (.cells #[iV 5] 3);bz (.slice (Td (aa8 bx)) 1 1) bA)/\((cond (cond (cond (cond (P==0) aw Tc) af Tc) aP Tc) bk Tc)=Tc->∃bB,bz (aK bB) bx)/\((cond (cond (cond (cond (P==0) aw Tc) af Tc) aP Tc) bk Tc)=Ta->∀bC bD,bz bC bD->∃bE,bC=aK bE)/\∀bF:Sl,∀bG,bz (aK bF) bG->∃bH:vvv,((cond (cond (cond (cond (P==0) aw Tc) af Tc) aP Tc) bk Tc)=Ta->aa4 23 #[aK bw,aK bF] bG (λbI bJ=>∃bL,bI=.bool bL/\bH (aa9 bL) bJ))/\((cond (cond (cond (cond (P==0) aw Tc) af Tc) aP Tc) bk Tc)=Tc->∃bM,bH (aa9 bM) bG)/\((cond (cond (cond (cond (P==0) aw Tc) af Tc) aP Tc) bk Tc)=Ta->∀bN bO,bH bN bO->∃bP,bN=.bool bP)/\∀bQ:Bool,∀bS,bH (aa9 bQ) bS->R (aa9 (cond (cond (cond (cond (cond (P==0) aw Tc) af Tc) aP Tc) bk Tc) bQ Tc)) bS))))))))))):aa4 11 #[] h R:=XF ⟨[],[],[]⟩ [.tmp 0] 54 func11 H
def YB(b:Int)(c:Bt)(d:Sl)(e:Sl)(h:zb)(R:vvv) (H:let f:=h.push (.cells #[iV b,aa6 c,aK d,aK e] 25);let g:=f.push (.cells #[.slice Te 0 0,.slice Te 0 0] 31);∃i j k l,zc g (aa8 h) 0 (tL i j k l)/\aa4 49 #[tA i j k l] g (λm n=>∃o,m=.bool o/\((!o)=Ta->wf Tp (YI 31 (aa7 (aa8 f)) (.agg #[.slice Te 0 0,.slice Te 0 0])) n (λp=>∃q r,zc p (aa8 f) 0 [aK q,aK r]/\R (.tuple #[.agg #[aK q,aK r],iV 1]) p))/\((!o)=Tc->let s:=n.push (.cells #[.slice Te 0 0,.slice Te 0 0] 69);∃t u v w,zc s (aa8 h) 0 (tL t u v w)/\aa4 56 #[tA t u v w] s (λx y=>∃z A B C,x=tA z A B C/\aa4 55 #[aa7 (aa8 n),tA z A B C] y (λD E=>D=.tuple #[]/\∃F,zd E (YH (YH (aa8 n) 0) 0)=Td (aK F)/\(hV ((F.len:Int)>512)=Ta->wf Tp (YI 31 (aa7 (aa8 f)) (.agg #[.slice Te 0 0,.slice Te 0 0])) E (λG=>∃I J,zc G (aa8 f) 0 [aK I,aK J]/\R (.tuple #[.agg #[aK I,aK J],iV 6]) G))/\(hV ((F.len:Int)>512)=Tc->∃L M,zc E (YH (aa8 n) 0) 0 [aK L,aK M]/\wf Tp (YI 31 (aa7 (aa8 f)) (.agg #[aK L,aK M])) E (λN=>∃O P,zc N (aa8 f) 0 [aK O,aK P]/\R (.tuple #[.agg #[aK O,aK P],iV 0]) N))))))):aa4 14 #[.agg #[ab0 b,aa6 c,.slice d.a d.len d.cap,.slice e.a e.len e.cap]] h R:=XF ⟨[],[],[]⟩ [.cell 2 31,.tmp 3] 20 func14 H
def KW(b:Sl)(c:Sl)(h:zb)(R:vvv) (H:let d:=h.push (.cells #[aK b,aK c] 31);let e:=d.push (.cells tC 25);∃f g,zc e (aa8 h) 0 [aK f,aK g]/\aa4 60 #[.agg #[aK f,aK g]] e (λi j=>∃k l,i=.tuple #[aK k,aa9 l]/\∃m,((!(cond (!l) Ta ((k.len:Int)==0)))=Ta->zd j (YH (aa8 h) 1)=Td (aK m))/\∃n,((!(cond (!l) Ta ((k.len:Int)==0)))=Ta->(m.a=Td n/\0<=(p3 ((k.len:Int)-1))/\(p3 ((k.len:Int)-1))<(m.len:Int)))/\∃o,((!(cond (!l) Ta ((k.len:Int)==0)))=Ta->zd j (n.add ((p3 ((k.len:Int)-1)).toNat*1))=Td (iV o))/\((cond (cond (!l) Ta ((k.len:Int)==0)) Ta (o != 0))=Ta->wf Tp (YI 25 (aa7 (aa8 d)) (tZ)) j (λp=>∃q r s t,zc p (aa8 d) 0 (tL q r s t)/\R (.tuple #[tA q r s t,aa9 Tc]) p))/\((cond (cond (!l) Ta ((k.len:Int)==0)) Ta (o != 0))=Tc->∃u v,zc j (aa8 h) 0 [aK u,aK v]/\CA Tp (Instr.makeSlice 74 (iV (k.len:Int)) (iV (k.len:Int))) j (λw x=>∃y,w=aK y/\g6 x j (aa8 h)/\let z:=x.push (.cells #[aK u,aK v,aK y] 76);∃(A:ab7) (B:ab9),A 0 z/\∀C:Int,∀D:zb,A C D->((hV (C<k.len)=Ta->∃E,(k.a=Td E/\0<=C/\C<k.len)/\∃F,zd D (E.add (C.toNat*1))=Td (iV F)/\(hV (F>=0)=Ta->∃G:n8,Td (aa8 x)=Td G/\∃I,zd D (YH G 2)=Td (aK I)/\∃J:n8,Td (aa8 x)=Td J/\∃L,zd D (YH J 2)=Td (aK L)/\∃M,(L.a=Td M/\0<=F/\F<L.len)/\∃N,zd D (M.add (F.toNat*1))=Td (aK N)/\let O:=D.push (.cells #[iV C] 3);g6 O D ((M.add (F.toNat*1)))/\g6 O D (YH J 2)/\g6 O D (YH G 2)/\CA Tp (YN #[29,29] 29 #[aK N,.slice (Td (aa8 D)) 1 1]) O (λP Q=>∃S,P=aK S/\∃T,(I.a=Td T/\0<=F/\F<I.len)/\g6 Q D (YH G 2)/\wf Tp (YI 29 (.pointer (Td (T.add (F.toNat*1)))) (aK S)) Q (λU=>(A (p3 (C+1)) U/\B (p3 (C+1)) U<B C D))))/\(hV (F>=0)=Tc->(A (p3 (C+1)) D/\B (p3 (C+1)) D<B C D)))/\(hV (C<k.len)=Tc->aa4 61 #[aa7 (aa8 x),iV (p3 ((k.len:Int)-1))] D (λV W=>∃X Y Z aa ab,V=.tuple #[tA X Y Z aa,aa9 ab]/\let ac:=W.push (.cells tC 25);wf Tp (YI 25 (aa7 (aa8 W)) (tA X Y Z aa)) ac (λad=>∃ae af ag ah,zc ad (aa8 W) 0 (tL ae af ag ah)/\aa4 14 #[tA ae af ag ah] ad (λai aj=>∃ak al am,ai=.tuple #[.agg #[aK ak,aK al],iV am]/\let an:=aj.push (.cells #[.slice Te 0 0,.slice Te 0 0] 31);wf Tp (YI 31 (aa7 (aa8 aj)) (.agg #[aK ak,aK al])) an (λao=>∃ap aq,((!(cond (!ab) Ta (am != 0)))=Ta->zc ao (aa8 aj) 0 [aK ap,aK aq])/\∃ar au,((!(cond (!ab) Ta (am != 0)))=Ta->zc ao (aa8 h) 0 [aK ar,aK au])/\∃av:vvv,((!(cond (!ab) Ta (am != 0)))=Ta->aa4 62 #[.agg #[aK ap,aK aq],.agg #[aK ar,aK au]] ao (λaw ax=>∃ay,aw=.bool ay/\av (aa9 ay) ax))/\((!(cond (!ab) Ta (am != 0)))=Tc->∃az,av (aa9 az) ao)/\((!(cond (!ab) Ta (am != 0)))=Ta->∀aA aB,av aA aB->∃aC,aA=.bool aC)/\∀aD:Bool,∀aE,av (aa9 aD) aE->((cond (cond (!ab) Ta (am != 0)) Ta (!aD))=Ta->wf Tp (YI 25 (aa7 (aa8 d)) (tZ)) aE (λaF=>∃aG aH aI aJ,zc aF (aa8 d) 0 (tL aG aH aI aJ)/\R (.tuple #[tA aG aH aI aJ,aa9 Tc]) aF))/\((cond (cond (!ab) Ta (am != 0)) Ta (!aD))=Tc->∃aL aM aN aO,zc aE (aa8 W) 0 (tL aL aM aN aO)/\wf Tp (YI 25 (aa7 (aa8 d)) (tA aL aM aN aO)) aE (λaP=>∃aQ aS aT aU,zc aP (aa8 d) 0 (tL aQ aS aT aU)/\R (.tuple #[tA aQ aS aT aU,aa9 Ta]) aP)))))))))))):aa4 19 #[.agg #[.slice b.a b.len b.cap,.slice c.a c.len c.cap]] h R:=XF ⟨[(5,8000),(10,8000)],[(7,[(44,.one (.int .i64))])],[]⟩ [.cell 2 25,.tmp 3] 94 func19 H
def Sw(b:Sl)(c:Sl)(h:zb)(R:vvv) (H:let d:=h.push (.cells #[aK b,aK c] 31);∃e f,zc d (aa8 h) 0 [aK e,aK f]/\aa4 21 #[.agg #[aK e,aK f]] d (λg i=>∃j,g=.bool j/\((!j)=Ta->R (.slice Te 0 0) i)/\((!j)=Tc->let k:=i.push (.map #[] 0);∃l,zd k (YH (aa8 h) 1)=Td (aK l)/\∃(m:ab7) (n:ab9),m 0 k/\∀o:Int,∀p:zb,m o p->((hV (o<l.len)=Ta->∃q,(l.a=Td q/\0<=o/\o<l.len)/\∃r,zd p (q.add (o.toNat*1))=Td (iV r)/\wf Tp (zbk 79 (.map (Td i.size)) (iV r) (iV o)) p (λs=>(m (p3 (o+1)) s/\n (p3 (o+1)) s<n o p)))/\(hV (o<l.len)=Tc->CA Tp (zdm 79 (.map (Td i.size))) p (λt u=>∃v:Option n8,t=.pointer v/\∃(w:Sl->zb->Prop) (x:Sl->zb->Nat),w (⟨Te,0,0⟩:Sl) u/\∀y:Sl,∀z:zb,w y z->(CA Tp (zcm (.pointer v) Tc 0) z (λA B=>(A=.tuple #[aa9 Tc]/\(Tc=Ta->CA Tp (zdc (.pointer v)) B (λC D=>∃E F:Value,C=.tuple #[E,F]/\zU Tp 29 1 F D (λG I=>CA Tp (YN #[29,29] 29 #[aK y,G]) I (λJ L=>∃M,J=aK M/\(w M L/\x M L<x y z)))))/\(Tc=Tc->aa4 64 #[aK y] B (λN O=>N=.tuple #[]/\R (aK y) O)))\/∃P Q:Value,A=.tuple #[aa9 Ta,P,Q]/\(Ta=Ta->CA Tp (zdc (.pointer v)) B (λS T=>∃U V:Value,S=.tuple #[U,V]/\zU Tp 29 1 V T (λW X=>CA Tp (YN #[29,29] 29 #[aK y,W]) X (λY Z=>∃aa,Y=aK aa/\(w aa Z/\x aa Z<x y z)))))/\(Ta=Tc->aa4 64 #[aK y] B (λab ac=>ab=.tuple #[]/\R (aK y) ac)))))))))):aa4 28 #[.agg #[.slice b.a b.len b.cap,.slice c.a c.len c.cap]] h R:=XF ⟨[],[(5,[(16,.one (.int .i64))]),(11,[(6,.one (.sl))])],[]⟩ [.tmp 2] 38 func28 H
def Ue(b0:Option n8)(b:Int)(c:Bt)(d:Sl)(e:Sl)(h:zb)(R:vvv) (H:let f:=h.push (.cells #[.pointer b0] 112);let g:=f.push (.cells #[iV b,aa6 c,aK d,aK e] 25);∃i,zd g (YH (aa8 f) 0)=Td (iV i)/\((i==5)=Ta->∃j:Option n8,zd g (aa8 h)=Td (.pointer j)/\aa4 94 #[.pointer j,aa6 (⟨#[91]⟩:Bt),.func (.func 95) #[] #[aa7 (aa8 f),aa7 (aa8 h)]] g (λk l=>k=.tuple #[]/\R (.tuple #[]) l))/\((i==5)=Tc->((i==6)=Ta->∃m:Option n8,zd g (aa8 h)=Td (.pointer m)/\aa4 94 #[.pointer m,aa6 (⟨#[123]⟩:Bt),.func (.func 96) #[] #[aa7 (aa8 f),aa7 (aa8 h)]] g (λn o=>n=.tuple #[]/\R (.tuple #[]) o))/\((i==6)=Tc->∃p:Option n8,zd g (aa8 h)=Td (.pointer p)/\∃q r s t,zc g (aa8 f) 0 (tL q r s t)/\aa4 97 #[tA q r s t] g (λu v=>∃w,u=.string w/\g6 v g (aa8 h)/\aa4 94 #[.pointer p,aa6 w,.func (.func 100) #[] #[]] v (λx y=>x=.tuple #[]/\R (.tuple #[]) y))))):aa4 55 #[.pointer b0,.agg #[ab0 b,aa6 c,.slice d.a d.len d.cap,.slice e.a e.len e.cap]] h R:=XF ⟨[(2,8000)],[],[]⟩ [] 20 func55 H
def Ru(b:Sl)(c:Sl)(d:Int)(e:Bt)(f:Sl)(g:Sl)(h:zb)(R:vvv) (H:let i:=h.push (.cells #[aK b,aK c] 31);let j:=i.push (.cells #[iV d,aa6 e,aK f,aK g] 25);let k:=j.push (.cells #[.slice Te 0 0,.slice Te 0 0] 31);∃l,zd k (YH (aa8 h) 0)=Td (aK l)/\∀m:Bt->zb->Prop,(∀n:Bt,∀o:zb,(∀p:Bt->zb->Prop,(∀q:Bt,∀r:zb,(∃(s:ab7) (t:ab9),s 0 r/\∀u:Int,∀v:zb,s u v->(∃w,zd v (YH (aa8 i) 3)=Td (aK w)/\(hV (u<w.len)=Ta->∃x,zd v (YH (aa8 h) 0)=Td (aK x)/\∃y z,zc v (aa8 h) 0 [aK y,aK z]/\∃A,zd v (YH (aa8 i) 3)=Td (aK A)/\∃B,(A.a=Td B/\0<=u/\u<A.len)/\∃C D E F,zc v (B.add (u.toNat*4)) 0 (tL C D E F)/\aa4 58 #[.agg #[aK y,aK z],tA C D E F] v (λG I=>∃J L,G=.agg #[aK J,aK L]/\wf Tp (YI 31 (aa7 (aa8 h)) (.agg #[aK J,aK L])) I (λM=>∃N,zd M (YH (aa8 i) 0)=Td (iV N)/\((N==6)=Ta->∃O,zd M (YH (aa8 i) 2)=Td (aK O)/\∃P,(O.a=Td P/\0<=u/\u<O.len)/\∃Q,zd M (P.add (u.toNat*1))=Td (aa6 Q)/\aa4 105 #[aa6 Q] M (λS T=>∃U V W X,S=tA U V W X/\aa4 73 #[tA U V W X] T (λY Z=>∃aa ab,Y=.tuple #[aa6 aa,iV ab]/\∃ac,zd Z (YH (aa8 h) 0)=Td (aK ac)/\qb (((⟨#[107]⟩:Bt)).size+aa.size)/\let ad:=Z.push (.cells #[aa6 ((⟨#[107]⟩:Bt)++aa)] 9);CA Tp (YN #[22,22] 22 #[aK ac,.slice (Td (aa8 Z)) 1 1]) ad (λae af=>∃ag,ae=aK ag/\wf Tp (YI 22 (.pointer (Td (YH (aa8 h) 0))) (aK ag)) af (λah=>∃ai,zd ah (YH (aa8 h) 1)=Td (aK ai)/\let aj:=ah.push (.cells #[iV (x.len:Int)] 3);CA Tp (YN #[29,29] 29 #[aK ai,.slice (Td (aa8 ah)) 1 1]) aj (λak al=>∃am,ak=aK am/\wf Tp (YI 29 (.pointer (Td (YH (aa8 h) 1))) (aK am)) al (λan=>(s (p3 (u+1)) an/\t (p3 (u+1)) an<t u v))))))))/\((N==6)=Tc->(s (p3 (u+1)) M/\t (p3 (u+1)) M<t u v)))))/\(hV (u<w.len)=Tc->∃ao,zd v (YH (aa8 h) 0)=Td (aK ao)/\let ap:=v.push (.cells #[aa6 q] 9);CA Tp (YN #[22,22] 22 #[aK ao,.slice (Td (aa8 v)) 1 1]) ap (λaq ar=>∃au,aq=aK au/\wf Tp (YI 22 (.pointer (Td (YH (aa8 h) 0))) (aK au)) ar (λav=>∃aw,zd av (YH (aa8 h) 1)=Td (aK aw)/\let ax:=av.push (.cells #[iV (l.len:Int)] 3);CA Tp (YN #[29,29] 29 #[aK aw,.slice (Td (aa8 av)) 1 1]) ax (λay az=>∃aA,ay=aK aA/\wf Tp (YI 29 (.pointer (Td (YH (aa8 h) 1))) (aK aA)) az (λaB=>∃aC aD,zc aB (aa8 h) 0 [aK aC,aK aD]/\wf Tp (YI 31 (aa7 (aa8 j)) (.agg #[aK aC,aK aD])) aB (λaE=>∃aF aG,zc aE (aa8 j) 0 [aK aF,aK aG]/\R (.agg #[aK aF,aK aG]) aE))))))))->p q r)->∃aH,zd o (YH (aa8 i) 0)=Td (iV aH)/\∃aI,((aH != 5)=Ta->zd o (YH (aa8 i) 0)=Td (iV aI))/\((cond (aH != 5) (aI != 6) Tc)=Ta->∃aJ aL aM aN,zc o (aa8 i) 0 (tL aJ aL aM aN)/\aa4 73 #[tA aJ aL aM aN] o (λaO aP=>∃aQ aS,aO=.tuple #[aa6 aQ,iV aS]/\p aQ aP))/\((cond (aH != 5) (aI != 6) Tc)=Tc->p n o))->m n o)->∃aT,zd k (YH (aa8 i) 0)=Td (iV aT)/\((aT==6)=Ta->m (⟨#[123]⟩:Bt) k)/\((aT==6)=Tc->m (⟨#[91]⟩:Bt) k)):aa4 58 #[.agg #[.slice b.a b.len b.cap,.slice c.a c.len c.cap],.agg #[ab0 d,aa6 e,.slice f.a f.len f.cap,.slice g.a g.len g.cap]] h R:=XF ⟨[(11,8000)],[(8,[(7,.one (.int .i64))])],[(5,[(6,.one (.str))]),(7,[(6,.one (.str))])]⟩ [.cell 4 31] 86 func58 H
def Kr(b:Sl)(c:Sl)(h:zb)(R:vvv) (H:let d:=h.push (.cells #[aK b,aK c] 31);∃e,zd d (YH (aa8 h) 0)=Td (aK e)/\∃f,zd d (YH (aa8 h) 1)=Td (aK f)/\∃g,((!((e.len:Int) != (f.len:Int)))=Ta->zd d (YH (aa8 h) 0)=Td (aK g))/\((cond ((e.len:Int) != (f.len:Int)) Ta (hV ((g.len:Int)>512)))=Ta->R (.tuple #[.slice Te 0 0,aa9 Tc]) d)/\((cond ((e.len:Int) != (f.len:Int)) Ta (hV ((g.len:Int)>512)))=Tc->∃i,zd d (YH (aa8 h) 1)=Td (aK i)/\CA Tp (Instr.makeSlice 29 (iV (i.len:Int)) (iV (i.len:Int))) d (λj k=>∃l,j=aK l/\∃m,zd k (YH (aa8 h) 1)=Td (aK m)/\∃(n:Sl->Int->zb->Prop) (o:Sl->Int->zb->Nat),n (⟨Te,0,0⟩:Sl) 0 k/\∀p:Sl,∀q:Int,∀r:zb,n p q r->((hV (q<m.len)=Ta->∃s,(m.a=Td s/\0<=q/\q<m.len)/\∃t,zd r (s.add (q.toNat*1))=Td (iV t)/\((cond (hV (t<0)) Ta (hV (t>q)))=Ta->R (.tuple #[.slice Te 0 0,aa9 Tc]) r)/\((cond (hV (t<0)) Ta (hV (t>q)))=Tc->∃(u:Sl->zb->Prop) (w:Sl->zb->Nat),u p r/\∀x:Sl,∀y:zb,u x y->(∃z,(hV ((x.len:Int)>0)=Ta->(x.a=Td z/\0<=(p3 ((x.len:Int)-1))/\(p3 ((x.len:Int)-1))<(x.len:Int)))/\∃A,(hV ((x.len:Int)>0)=Ta->zd y (z.add ((p3 ((x.len:Int)-1)).toNat*1))=Td (iV A))/\((cond (hV ((x.len:Int)>0)) (hV (A>=t)) Tc)=Ta->∃B,(x.a=Td B/\0<=(p3 ((x.len:Int)-1))/\(p3 ((x.len:Int)-1))<(x.len:Int))/\∃C,zd y (B.add ((p3 ((x.len:Int)-1)).toNat*1))=Td (iV C)/\∃D,zd y (YH (aa8 h) 1)=Td (aK D)/\∃E,(D.a=Td E/\0<=C/\C<D.len)/\∃F,zd y (E.add (C.toNat*1))=Td (iV F)/\(hV (F<t)=Ta->R (.tuple #[.slice Te 0 0,aa9 Tc]) y)/\(hV (F<t)=Tc->∃G,(l.a=Td G/\0<=C/\C<l.len)/\let I:zb->Prop:=λ(J:zb)=>((u (⟨eL x.a 1 ((0:Int).toNat) ((x.cap:Int).toNat),(p3 ((x.len:Int)-1)).toNat-(0:Int).toNat,(x.cap:Int).toNat-(0:Int).toNat⟩:Sl) J/\w (⟨eL x.a 1 ((0:Int).toNat) ((x.cap:Int).toNat),(p3 ((x.len:Int)-1)).toNat-(0:Int).toNat,(x.cap:Int).toNat-(0:Int).toNat⟩:Sl) J<w x y));(((Te:ab8)=Te\/∃v,(Td (iV (p3 ((x.len:Int)-1))):ab8)=Td v)/\(0<=(0:Int)/\(0:Int)<=(p3 ((x.len:Int)-1))/\(p3 ((x.len:Int)-1))<=(x.cap:Int)/\(x.cap:Int)<=(x.cap:Int))/\wf Tp (YI 3 (.pointer (Td (G.add (C.toNat*1)))) (iV q)) y (λL=>I L))/\(wf Tp (YI 3 (.pointer (Td (G.add (C.toNat*1)))) (iV q)) y (λM=>((Te:ab8)=Te\/∃v,(Td (iV (p3 ((x.len:Int)-1))):ab8)=Td v)/\(0<=(0:Int)/\(0:Int)<=(p3 ((x.len:Int)-1))/\(p3 ((x.len:Int)-1))<=(x.cap:Int)/\(x.cap:Int)<=(x.cap:Int))/\I M))))/\((cond (hV ((x.len:Int)>0)) (hV (A>=t)) Tc)=Tc->∃N,(l.a=Td N/\0<=q/\q<l.len)/\wf Tp (YI 3 (.pointer (Td (N.add (q.toNat*1)))) (iV (-1))) y (λO=>let P:=O.push (.cells #[iV q] 3);CA Tp (YN #[29,29] 29 #[aK x,.slice (Td (aa8 O)) 1 1]) P (λQ S=>∃T,Q=aK T/\(n T (p3 (q+1)) S/\o T (p3 (q+1)) S<o p q r)))))))/\(hV (q<m.len)=Tc->R (.tuple #[aK l,aa9 Ta]) r))))):aa4 60 #[.agg #[.slice b.a b.len b.cap,.slice c.a c.len c.cap]] h R:=XF ⟨[(14,8000)],[(6,[(5,.one (.sl)),(29,.one (.int .i64))]),(10,[(5,.one (.sl))])],[]⟩ [.tmp 2,.tmp 3] 85 func60 H
def XO(r0:Option n8)(n1:Int)(h:zb)(R:vvv) (H:let b:=h.push (.cells tC 25);∃c,r0=Td c/\∃d,zd b (YH (YH c 0) 0)=Td (aK d)/\∃e,(d.a=Td e/\0<=n1/\n1<d.len)/\∃f,zd b (e.add (n1.toNat*1))=Td (aa6 f)/\((f.toList==(⟨#[91]⟩:Bt).toList)=Ta->wf Tp (YI 3 (.pointer (Td (YH (aa8 h) 0))) (iV 5)) b (λg=>∃i,r0=Td i/\∃j,zd g (YH i 2)=Td (aK j)/\∃k,(j.a=Td k/\0<=n1/\n1<j.len)/\∃l,zd g (k.add (n1.toNat*1))=Td (aK l)/\∃(m:ab7) (n:ab9),m 0 g/\∀o:Int,∀p:zb,m o p->((hV (o<l.len)=Ta->∃q,(l.a=Td q/\0<=o/\o<l.len)/\∃r,zd p (q.add (o.toNat*1))=Td (iV r)/\aa4 61 #[.pointer r0,iV r] p (λs t=>∃u v w x y,s=.tuple #[tA u v w x,aa9 y]/\let z:=t.push (.cells tC 25);wf Tp (YI 25 (aa7 (aa8 t)) (tA u v w x)) z (λA=>((!y)=Ta->wf Tp (YI 25 (aa7 (aa8 h)) (tZ)) A (λB=>∃C D E F,zc B (aa8 h) 0 (tL C D E F)/\R (.tuple #[tA C D E F,aa9 Tc]) B))/\((!y)=Tc->∃G,zd A (YH (aa8 h) 3)=Td (aK G)/\∃I J L M,zc A (aa8 t) 0 (tL I J L M)/\let N:=A.push (.cells #[iV I,aa6 J,aK L,aK M] 25);CA Tp (YN #[23,23] 23 #[aK G,.slice (Td (aa8 A)) 1 1]) N (λO P=>∃Q,O=aK Q/\wf Tp (YI 23 (.pointer (Td (YH (aa8 h) 3))) (aK Q)) P (λS=>(m (p3 (o+1)) S/\n (p3 (o+1)) S<n o p)))))))/\(hV (o<l.len)=Tc->∃T U V W,zc p (aa8 h) 0 (tL T U V W)/\wf Tp (YI 25 (aa7 (aa8 h)) (tA T U V W)) p (λX=>∃Y Z aa ab,zc X (aa8 h) 0 (tL Y Z aa ab)/\R (.tuple #[tA Y Z aa ab,aa9 Ta]) X)))))/\((f.toList==(⟨#[91]⟩:Bt).toList)=Tc->((f.toList==(⟨#[123]⟩:Bt).toList)=Ta->wf Tp (YI 3 (.pointer (Td (YH (aa8 h) 0))) (iV 6)) b (λac=>∃ad,r0=Td ad/\∃ae,zd ac (YH ad 2)=Td (aK ae)/\∃af,(ae.a=Td af/\0<=n1/\n1<ae.len)/\∃ag,zd ac (af.add (n1.toNat*1))=Td (aK ag)/\∃(ah:ab7) (ai:ab9),ah 0 ac/\∀aj:Int,∀ak:zb,ah aj ak->((hV (aj<ag.len)=Ta->∃al,(ag.a=Td al/\0<=aj/\aj<ag.len)/\∃am,zd ak (al.add (aj.toNat*1))=Td (iV am)/\aa4 108 #[.pointer r0,iV am] ak (λan ao=>∃ap aq ar au av aw,an=.tuple #[aa6 ap,tA aq ar au av,aa9 aw]/\let ax:=ao.push (.cells tC 25);wf Tp (YI 25 (aa7 (aa8 ao)) (tA aq ar au av)) ax (λay=>((!aw)=Ta->wf Tp (YI 25 (aa7 (aa8 h)) (tZ)) ay (λaz=>∃aA aB aC aD,zc az (aa8 h) 0 (tL aA aB aC aD)/\R (.tuple #[tA aA aB aC aD,aa9 Tc]) az))/\((!aw)=Tc->∃aE,zd ay (YH (aa8 h) 2)=Td (aK aE)/\∃aF,zd ay (YH (aa8 h) 3)=Td (aK aF)/\∃aG aH aI aJ,zc ay (aa8 ao) 0 (tL aG aH aI aJ)/\let aL:Sl->Sl->zb->Prop:=λ(aM:Sl) (aN:Sl) (aO:zb)=>(CA Tp (YN #[23,23] 23 #[aK aF,aK aM]) aO (λaP aQ=>∃aS,aP=aK aS/\wf Tp (YI 22 (.pointer (Td (YH (aa8 h) 2))) (aK aN)) aQ (λaT=>wf Tp (YI 23 (.pointer (Td (YH (aa8 h) 3))) (aK aS)) aT (λaU=>(ah (p3 (aj+1)) aU/\ai (p3 (aj+1)) aU<ai aj ak)))));let aV:Sl->Sl->zb->Prop:=λ(aW:Sl) (aX:Sl) (aY:zb)=>(CA Tp (YN #[22,22] 22 #[aK aE,aK aX]) aY (λaZ a0=>∃a1,aZ=aK a1/\g6 a0 ay (YH (aa8 h) 3)/\aL aW a1 a0));(let a2:=ay.push (.cells #[aa6 ap] 9);g6 a2 ay (aa8 ao)/\g6 a2 ay (YH (aa8 h) 3)/\g6 a2 ay (YH (aa8 h) 2)/\(CA Tp (YN #[22,22] 22 #[aK aE,.slice (Td (aa8 ay)) 1 1]) a2 (λa3 a4=>∃a5,a3=aK a5/\g6 a4 ay (aa8 ao)/\g6 a4 ay (YH (aa8 h) 3)/\let a6:=a4.push (.cells #[iV aG,aa6 aH,aK aI,aK aJ] 25);g6 a6 ay (YH (aa8 h) 3)/\aL (⟨Td (aa8 a4),1,1⟩:Sl) a5 a6))/\(let a7:=a2.push (.cells #[iV aG,aa6 aH,aK aI,aK aJ] 25);g6 a7 ay (YH (aa8 h) 3)/\g6 a7 ay (YH (aa8 h) 2)/\aV (⟨Td (aa8 a2),1,1⟩:Sl) (⟨Td (aa8 ay),1,1⟩:Sl) a7))/\(let a8:=ay.push (.cells #[iV aG,aa6 aH,aK aI,aK aJ] 25);g6 a8 ay (YH (aa8 h) 3)/\g6 a8 ay (YH (aa8 h) 2)/\let a9:=a8.push (.cells #[aa6 ap] 9);g6 a9 ay (YH (aa8 h) 3)/\g6 a9 ay (YH (aa8 h) 2)/\aV (⟨Td (aa8 ay),1,1⟩:Sl) (⟨Td (aa8 a8),1,1⟩:Sl) a9)))))/\(hV (aj<ag.len)=Tc->∃ba bb bc bd,zc ak (aa8 h) 0 (tL ba bb bc bd)/\wf Tp (YI 25 (aa7 (aa8 h)) (tA ba bb bc bd)) ak (λbe=>∃bf bg bh bi,zc be (aa8 h) 0 (tL bf bg bh bi)/\R (.tuple #[tA bf bg bh bi,aa9 Ta]) be)))))/\((f.toList==(⟨#[123]⟩:Bt).toList)=Tc->∃bj,r0=Td bj/\∃bk,zd b (YH (YH bj 0) 0)=Td (aK bk)/\∃bl,(bk.a=Td bl/\0<=n1/\n1<bk.len)/\∃bm,zd b (bl.add (n1.toNat*1))=Td (aa6 bm)/\aa4 109 #[aa6 bm] b (λbn bo=>∃bp bq br bs bt,bn=.tuple #[tA bp bq br bs,aa9 bt]/\wf Tp (YI 25 (aa7 (aa8 h)) (tA bp bq br bs)) bo (λbu=>∃bv bw bx bz,zc bu (aa8 h) 0 (tL bv bw bx bz)/\let bA:Bool->zb->Prop:=λbB (bC:zb)=>(∃bD bE bF bG,zc bC (aa8 h) 0 (tL bD bE bF bG)/\R (.tuple #[tA bD bE bF bG,aa9 bB]) bC);let bH:Bool->zb->Prop:=λbI (bJ:zb)=>(bA (cond bt bI Tc) bJ);let bL:Int->zb->Prop:=λbM (bN:zb)=>(bH (bM==0) bN);let bO:Sl->zb->Prop:=λ(bP:Sl) (bQ:zb)=>(bL (bP.len:Int) bQ);let bS:n8->zb->Prop:=λ(bT:n8) (bU:zb)=>(∃bV,(bt=Ta->zd bU bT=Td (aK bV))/\bO bV bU);let bW:Sl->zb->Prop:=λ(bX:Sl) (bY:zb)=>(∃bZ,(bt=Ta->(bX.a=Td bZ/\0<=n1/\n1<bX.len))/\bS (bZ.add (n1.toNat*1)) bY);let b0:Sl->zb->Prop:=λ(b1:Sl) (b2:zb)=>((∃b3,(bt=Ta->(b1.a=Td b3/\0<=n1/\n1<b1.len))/\g6 b2 bu (aa8 h)/\(∃b4,(bt=Ta->zd b2 (b3.add (n1.toNat*1))=Td (aK b4))/\g6 b2 bu (aa8 h)/\(g6 b2 bu (aa8 h)/\(g6 b2 bu (aa8 h)/\(g6 b2 bu (aa8 h)/\wf Tp (YI 25 (aa7 (aa8 h)) (tA bv bw bx bz)) b2 (λb5=>bA (cond bt ((b4.len:Int)==0) Tc) b5))/\(wf Tp (YI 25 (aa7 (aa8 h)) (tA bv bw bx bz)) b2 (λb6=>bH ((b4.len:Int)==0) b6)))/\(wf Tp (YI 25 (aa7 (aa8 h)) (tA bv bw bx bz)) b2 (λb7=>bL (b4.len:Int) b7)))/\(wf Tp (YI 25 (aa7 (aa8 h)) (tA bv bw bx bz)) b2 (λb8=>bO b4 b8)))/\(wf Tp (YI 25 (aa7 (aa8 h)) (tA bv bw bx bz)) b2 (λb9=>bS (b3.add (n1.toNat*1)) b9)))/\(wf Tp (YI 25 (aa7 (aa8 h)) (tA bv bw bx bz)) b2 (λca=>bW b1 ca)));let cb:Sl->zb->Prop:=λ(cc:Sl) (cd:zb)=>(bW cc cd);let ce:n8->zb->Prop:=λ(cf:n8) (cg:zb)=>(∃ch,(bt=Ta->zd cg cf=Td (aK ch))/\bW ch cg);let ci:n8->zb->Prop:=λ(cj:n8) (ck:zb)=>((∃cl,(bt=Ta->zd ck cj=Td (aK cl))/\g6 ck bu (aa8 h)/\b0 cl ck)/\(wf Tp (YI 25 (aa7 (aa8 h)) (tA bv bw bx bz)) ck (λcm=>ce cj cm)));let cn:n8->zb->Prop:=λ(co:n8) (cp:zb)=>((∃cq,(bt=Ta->zd cp co=Td (aK cq))/\cb cq cp)/\(ce co cp));let cr:n8->zb->Prop:=λ(cs:n8) (ct:zb)=>(ce (YH cs 2) ct);let cu:n8->zb->Prop:=λ(cv:n8) (cw:zb)=>((g6 cw bu (aa8 h)/\ci (YH cv 2) cw)/\(wf Tp (YI 25 (aa7 (aa8 h)) (tA bv bw bx bz)) cw (λcx=>cr cv cx)));let cy:n8->zb->Prop:=λ(cz:n8) (cA:zb)=>((cn (YH cz 2) cA)/\(cr cz cA));let cB:zb->Prop:=λ(cC:zb)=>(∃cD,(bt=Ta->r0=Td cD)/\cr cD cC);let cE:zb->Prop:=λ(cF:zb)=>((∃cG,(bt=Ta->r0=Td cG)/\g6 cF bu (aa8 h)/\cu cG cF)/\(wf Tp (YI 25 (aa7 (aa8 h)) (tA bv bw bx bz)) cF (λcH=>cB cH)));let cI:zb->Prop:=λ(cJ:zb)=>((∃cL,(bt=Ta->r0=Td cL)/\cy cL cJ)/\(cB cJ));let cM:zb->Prop:=λ(cN:zb)=>(cB cN);(g6 bu bu (aa8 h)/\(∃cO,(bt=Ta->r0=Td cO)/\g6 bu bu (aa8 h)/\(g6 bu bu (aa8 h)/\(∃cP,(bt=Ta->zd bu (YH cO 2)=Td (aK cP))/\g6 bu bu (aa8 h)/\(g6 bu bu (aa8 h)/\b0 cP bu)/\(wf Tp (YI 25 (aa7 (aa8 h)) (tA bv bw bx bz)) bu (λcQ=>cb cP cQ)))/\(g6 bu bu (aa8 h)/\ci (YH cO 2) bu)/\(wf Tp (YI 25 (aa7 (aa8 h)) (tA bv bw bx bz)) bu (λcS=>cn (YH cO 2) cS)))/\(g6 bu bu (aa8 h)/\cu cO bu)/\(wf Tp (YI 25 (aa7 (aa8 h)) (tA bv bw bx bz)) bu (λcT=>cy cO cT)))/\(g6 bu bu (aa8 h)/\cE bu)/\(wf Tp (YI 25 (aa7 (aa8 h)) (tA bv bw bx bz)) bu (λcU=>cI cU)))/\(g6 bu bu (aa8 h)/\(g6 bu bu (aa8 h)/\cE bu)/\(wf Tp (YI 25 (aa7 (aa8 h)) (tA bv bw bx bz)) bu (λcV=>cM cV)))/\(wf Tp (YI 25 (aa7 (aa8 h)) (tA bv bw bx bz)) bu (λcW=>(cI cW)/\(cM cW)))))))):aa4 61 #[.pointer r0,ab0 n1] h R:=XF ⟨[(21,8000),(25,8000)],[(5,[(34,.one (.int .i64))]),(16,[(66,.one (.int .i64))])],[]⟩ [.cell 4 25,.tmp 5] 119 func61 H
def OW(b:Int)(c:Bt)(d:Sl)(e:Sl)(f:Int)(g:Bt)(i:Sl)(j:Sl)(h:zb)(R:vvv) (H:let k:=h.push (.cells #[iV b,aa6 c,aK d,aK e] 25);let l:=k.push (.cells #[iV f,aa6 g,aK i,aK j] 25);∀m:Bool->zb->Prop,(∀n:Bool,∀o:zb,((n=Ta->R (aa9 Tc) o)/\(n=Tc->∃p,zd o (YH (aa8 h) 0)=Td (iV p)/\((p != 6)=Ta->∃q,zd o (YH (aa8 h) 3)=Td (aK q)/\∃r,zd o (YH (aa8 k) 3)=Td (aK r)/\aa4 140 #[aK q,aK r,.func (.func 84) #[] #[]] o (λs t=>∃u,s=.bool u/\R (aa9 u) t))/\((p != 6)=Tc->∃v w x y,zc o (aa8 h) 0 (tL v w x y)/\∃z A B C,zc o (aa8 k) 0 (tL z A B C)/\aa4 142 #[tA v w x y] o (λD E=>∃F:Option Nat,D=.map F/\g6 E o (aa8 k)/\aa4 142 #[tA z A B C] E (λG I=>∃J:Option Nat,G=.map J/\aa4 141 #[.map F,.map J,.func (.func 84) #[] #[]] I (λL M=>∃N,L=.bool N/\R (aa9 N) M))))))->m n o)->∃O,zd l (YH (aa8 h) 0)=Td (iV O)/\∃P,zd l (YH (aa8 k) 0)=Td (iV P)/\((O != P)=Ta->m (O != P) l)/\((O != P)=Tc->∃Q,zd l (YH (aa8 h) 1)=Td (aa6 Q)/\∃S,zd l (YH (aa8 k) 1)=Td (aa6 S)/\((!(Q.toList==S.toList))=Ta->m (!(Q.toList==S.toList)) l)/\((!(Q.toList==S.toList))=Tc->∃T,zd l (YH (aa8 h) 3)=Td (aK T)/\∃U,zd l (YH (aa8 k) 3)=Td (aK U)/\m ((T.len:Int) != (U.len:Int)) l))):aa4 84 #[.agg #[ab0 b,aa6 c,.slice d.a d.len d.cap,.slice e.a e.len e.cap],.agg #[ab0 f,aa6 g,.slice i.a i.len i.cap,.slice j.a j.len j.cap]] h R:=XF ⟨[(7,8000)],[],[(4,[(5,.one (.bool))])]⟩ [.tmp 4] 37 func84 H
def UM(b0:Option n8)(O:Bt)(P:n5)(S:ab3)(Q:ab3)(h:zb)(R:vvv) (H:∃b,b0=Td b/\∃c,zd h (YH (YH b 0) 0)=Td (aK c)/\zr Tp P=Ta/\aa4 P (S++#[]++Q) h (λd e=>d=.tuple #[]/\∃f,b0=Td f/\∃g,zd e (YH (YH f 0) 0)=Td (aK g)/\(hV ((g.len:Int)<=512)=Ta->∃i,b0=Td i/\∃j,zd e (YH (YH i 0) 0)=Td (aK j)/\∃k,b0=Td k/\∃l,zd e (YH (YH k 0) 1)=Td (aK l)/\let m:Sl->Sl->zb->Prop:=λ(n:Sl) (o:Sl) (p:zb)=>(CA Tp (YN #[29,29] 29 #[aK l,aK n]) p (λq r=>∃s,q=aK s/\∃t,b0=Td t/\wf Tp (YI 22 (.pointer (Td (YH (YH t 0) 0))) (aK o)) r (λu=>∃v,b0=Td v/\wf Tp (YI 29 (.pointer (Td (YH (YH v 0) 1))) (aK s)) u (λw=>R (.tuple #[]) w))));let x:Sl->Sl->zb->Prop:=λ(y:Sl) (z:Sl) (A:zb)=>(CA Tp (YN #[22,22] 22 #[aK j,aK z]) A (λB C=>∃D,B=aK D/\g6 C e ((YH (YH k 0) 1))/\m y D C));(let E:=e.push (.cells #[aa6 O] 9);g6 E e ((YH (YH k 0) 1))/\g6 E e ((YH (YH i 0) 0))/\(CA Tp (YN #[22,22] 22 #[aK j,.slice (Td (aa8 e)) 1 1]) E (λF G=>∃I,F=aK I/\g6 G e ((YH (YH k 0) 1))/\let J:=G.push (.cells #[iV (c.len:Int)] 3);g6 J e ((YH (YH k 0) 1))/\m (⟨Td (aa8 G),1,1⟩:Sl) I J))/\(let L:=E.push (.cells #[iV (c.len:Int)] 3);g6 L e ((YH (YH k 0) 1))/\g6 L e ((YH (YH i 0) 0))/\x (⟨Td (aa8 E),1,1⟩:Sl) (⟨Td (aa8 e),1,1⟩:Sl) L))/\(let M:=e.push (.cells #[iV (c.len:Int)] 3);g6 M e ((YH (YH k 0) 1))/\g6 M e ((YH (YH i 0) 0))/\let N:=M.push (.cells #[aa6 O] 9);g6 N e ((YH (YH k 0) 1))/\g6 N e ((YH (YH i 0) 0))/\x (⟨Td (aa8 e),1,1⟩:Sl) (⟨Td (aa8 M),1,1⟩:Sl) N))/\(hV ((g.len:Int)<=512)=Tc->R (.tuple #[]) e))):aa4 94 #[.pointer b0,aa6 O,.func (.func P) S Q] h R:=XF ⟨[(3,8000)],[],[]⟩ [] 46 func94 H
def X5(c0:n8)(c1:n8)(h:zb)(R:vvv) (H:∃b,zd h (YH c0 3)=Td (aK b)/\∃(c:ab7) (d:ab9),c 0 h/\∀e:Int,∀f:zb,c e f->((hV (e<b.len)=Ta->∃g,(b.a=Td g/\0<=e/\e<b.len)/\∃i j k l,zc f (g.add (e.toNat*4)) 0 (tL i j k l)/\let m:=f.push (.cells tC 25);wf Tp (YI 25 (aa7 (aa8 f)) (tA i j k l)) m (λn=>∃o:Option n8,zd n c1=Td (.pointer o)/\∃p q r s,zc n (aa8 f) 0 (tL p q r s)/\aa4 55 #[.pointer o,tA p q r s] n (λt u=>t=.tuple #[]/\(c (p3 (e+1)) u/\d (p3 (e+1)) u<d e f))))/\(hV (e<b.len)=Tc->R (.tuple #[]) f))):aa4 95 #[aa7 c0,aa7 c1] h R:=XF ⟨[],[(1,[(7,.one (.int .i64))])],[]⟩ [] 15 func95 H
def X6(c0:n8)(c1:n8)(h:zb)(R:vvv) (H:∃b,zd h (YH c0 3)=Td (aK b)/\∃(c:ab7) (d:ab9),c 0 h/\∀e:Int,∀f:zb,c e f->((hV (e<b.len)=Ta->∃g,(b.a=Td g/\0<=e/\e<b.len)/\∃i j k l,zc f (g.add (e.toNat*4)) 0 (tL i j k l)/\let m:=f.push (.cells tC 25);wf Tp (YI 25 (aa7 (aa8 f)) (tA i j k l)) m (λn=>∃o:Option n8,zd n c1=Td (.pointer o)/\∃p,zd n (YH c0 2)=Td (aK p)/\∃q,(p.a=Td q/\0<=e/\e<p.len)/\∃r,zd n (q.add (e.toNat*1))=Td (aa6 r)/\let s:Bt->zb->Prop:=λt (u:zb)=>(aa4 94 #[.pointer o,aa6 t,.func (.func 99) #[] #[aa7 c1,aa7 (aa8 f)]] u (λv w=>v=.tuple #[]/\(c (p3 (e+1)) w/\d (p3 (e+1)) w<d e f)));let x:Int->Bt->Sl->Sl->zb->Prop:=λy z (A:Sl) (B:Sl) (C:zb)=>(aa4 97 #[tA y z A B] C (λD E=>∃F,D=.string F/\qb (((⟨#[107]⟩:Bt)).size+F.size)/\g6 E n c1/\s ((⟨#[107]⟩:Bt)++F) E));(aa4 98 #[aa6 r] n (λG I=>∃J L M N,G=tA J L M N/\g6 I n c1/\(aa4 97 #[tA J L M N] I (λO P=>∃Q,O=.string Q/\qb (((⟨#[107]⟩:Bt)).size+Q.size)/\g6 P n c1/\g6 P n c1/\s ((⟨#[107]⟩:Bt)++Q) P))/\(g6 I n c1/\x J L M N I)))/\(g6 n n ((q.add (e.toNat*1)))/\g6 n n (YH c0 2)/\g6 n n c1/\aa4 98 #[aa6 r] n (λS T=>∃U V W X,S=tA U V W X/\g6 T n c1/\x U V W X T))))/\(hV (e<b.len)=Tc->R (.tuple #[]) f))):aa4 96 #[aa7 c0,aa7 c1] h R:=XF ⟨[(3,8000)],[(1,[(7,.one (.int .i64))])],[]⟩ [] 24 func96 H
def J7(c0:n8)(c1:n8)(h:zb)(R:vvv) (H:∃b:Option n8,zd h c0=Td (.pointer b)/\∃c d e f,zc h c1 0 (tL c d e f)/\aa4 55 #[.pointer b,tA c d e f] h (λg i=>g=.tuple #[]/\R (.tuple #[]) i)):aa4 99 #[aa7 c0,aa7 c1] h R:=XF ⟨[],[],[]⟩ [] 5 func99 H
def NC(r0:Option n8)(n1:Int)(h:zb)(R:vvv) (H:let b:=h.push (.cells tC 25);∃c,r0=Td c/\∃d,zd b (YH (YH c 0) 0)=Td (aK d)/\∃e,(d.a=Td e/\0<=n1/\n1<d.len)/\∃f,zd b (e.add (n1.toNat*1))=Td (aa6 f)/\((!((f.size:Int)==0))=Ta->(0<=(0:Int)/\(0:Int)<=1/\(1:Int)<=(f.size:Int)))/\∃g,((!(cond ((f.size:Int)==0) Ta (!((f.extract (0:Int).toNat (1:Int).toNat:Bt).toList==(⟨#[107]⟩:Bt).toList))))=Ta->r0=Td g)/\∃i,((!(cond ((f.size:Int)==0) Ta (!((f.extract (0:Int).toNat (1:Int).toNat:Bt).toList==(⟨#[107]⟩:Bt).toList))))=Ta->zd b (YH g 2)=Td (aK i))/\∃j,((!(cond ((f.size:Int)==0) Ta (!((f.extract (0:Int).toNat (1:Int).toNat:Bt).toList==(⟨#[107]⟩:Bt).toList))))=Ta->(i.a=Td j/\0<=n1/\n1<i.len))/\∃k,((!(cond ((f.size:Int)==0) Ta (!((f.extract (0:Int).toNat (1:Int).toNat:Bt).toList==(⟨#[107]⟩:Bt).toList))))=Ta->zd b (j.add (n1.toNat*1))=Td (aK k))/\((cond (cond ((f.size:Int)==0) Ta (!((f.extract (0:Int).toNat (1:Int).toNat:Bt).toList==(⟨#[107]⟩:Bt).toList))) Ta ((k.len:Int) != 1))=Ta->wf Tp (YI 25 (aa7 (aa8 h)) (tZ)) b (λl=>∃m n o p,zc l (aa8 h) 0 (tL m n o p)/\R (.tuple #[aa6 (⟨#[]⟩:Bt),tA m n o p,aa9 Tc]) l))/\((cond (cond ((f.size:Int)==0) Ta (!((f.extract (0:Int).toNat (1:Int).toNat:Bt).toList==(⟨#[107]⟩:Bt).toList))) Ta ((k.len:Int) != 1))=Tc->(0<=(1:Int)/\(1:Int)<=(f.size:Int)/\(f.size:Int)<=(f.size:Int))/\aa4 109 #[aa6 (f.extract (1:Int).toNat (f.size:Int).toNat)] b (λq r=>∃s t u v w,q=.tuple #[tA s t u v,aa9 w]/\let x:=r.push (.cells tC 25);wf Tp (YI 25 (aa7 (aa8 r)) (tA s t u v)) x (λy=>∃z,r0=Td z/\∃A,zd y (YH z 2)=Td (aK A)/\∃B,(A.a=Td B/\0<=n1/\n1<A.len)/\∃C,zd y (B.add (n1.toNat*1))=Td (aK C)/\∃D,(C.a=Td D/\0<=(0:Int)/\(0:Int)<(C.len:Int))/\∃E,zd y (D.add ((0:Int).toNat*1))=Td (iV E)/\aa4 61 #[.pointer r0,iV E] y (λF G=>∃I J L M N,F=.tuple #[tA I J L M,aa9 N]/\let O:=G.push (.cells tC 25);wf Tp (YI 25 (aa7 (aa8 G)) (tA I J L M)) O (λP=>∃Q,zd P (YH (aa8 r) 1)=Td (aa6 Q)/\∃S T U V,zc P (aa8 G) 0 (tL S T U V)/\let W:Bool->zb->Prop:=λX (Y:zb)=>(∃Z aa ab ac,zc Y (aa8 h) 0 (tL Z aa ab ac)/\R (.tuple #[aa6 Q,tA Z aa ab ac,aa9 X]) Y);let ad:Bool->zb->Prop:=λae (af:zb)=>(wf Tp (YI 25 (aa7 (aa8 h)) (tA S T U V)) af (λag=>W ae ag));let ah:Bool->zb->Prop:=λai (aj:zb)=>(W (cond (cond w N Tc) ai Tc) aj);let ak:Bool->zb->Prop:=λal (am:zb)=>((g6 am P (aa8 G)/\ad (cond (cond w N Tc) al Tc) am)/\(wf Tp (YI 25 (aa7 (aa8 h)) (tA S T U V)) am (λan=>ah al an)));let ao:Int->zb->Prop:=λap (aq:zb)=>(ah (ap==4) aq);let ar:Int->zb->Prop:=λau (av:zb)=>((g6 av P (aa8 G)/\ak (au==4) av)/\(wf Tp (YI 25 (aa7 (aa8 h)) (tA S T U V)) av (λaw=>ao au aw)));let ax:zb->Prop:=λ(ay:zb)=>(∃az,((cond w N Tc)=Ta->zd ay (YH (aa8 r) 0)=Td (iV az))/\ao az ay);let aA:zb->Prop:=λ(aB:zb)=>((∃aC,((cond w N Tc)=Ta->zd aB (YH (aa8 r) 0)=Td (iV aC))/\g6 aB P (aa8 G)/\ar aC aB)/\(wf Tp (YI 25 (aa7 (aa8 h)) (tA S T U V)) aB (λaD=>ax aD)));g6 P P (aa8 G)/\g6 P P (YH (aa8 r) 1)/\g6 P P (aa8 G)/\g6 P P (YH (aa8 r) 1)/\(g6 P P (aa8 G)/\g6 P P (YH (aa8 r) 1)/\(∃aE,((cond w N Tc)=Ta->zd P (YH (aa8 r) 0)=Td (iV aE))/\g6 P P (aa8 G)/\g6 P P (YH (aa8 r) 1)/\(g6 P P (aa8 G)/\g6 P P (YH (aa8 r) 1)/\(g6 P P (aa8 G)/\g6 P P (YH (aa8 r) 1)/\g6 P P (aa8 G)/\ad (cond (cond w N Tc) (aE==4) Tc) P)/\(g6 P P (aa8 G)/\ak (aE==4) P))/\(g6 P P (aa8 G)/\ar aE P))/\(g6 P P (aa8 G)/\aA P))/\(g6 P P (aa8 G)/\(g6 P P (aa8 G)/\aA P)/\(wf Tp (YI 25 (aa7 (aa8 h)) (tA S T U V)) P (λaF=>ax aF))))))))):aa4 108 #[.pointer r0,ab0 n1] h R:=XF ⟨[(6,8000)],[],[]⟩ [.tmp 4,.cell 5 25,.tmp 6] 72 func108 H
def X7(h:zb)(R:vvv) (H:R (.tuple #[]) h):aa4 100 #[] h R:=XF ⟨[],[],[]⟩ [] 0 func100 H
def yf(F:Sl)(G:Sl)(I:n5)(J:ab3)(L:ab3)(h:zb)(R:vvv) (H:(((F.len:Int) != (G.len:Int))=Ta->R (aa9 Tc) h)/\(((F.len:Int) != (G.len:Int))=Tc->∃(b:ab7) (c:ab9),b 0 h/\∀d:Int,∀e:zb,b d e->((hV (d<F.len)=Ta->∃f,(F.a=Td f/\0<=d/\d<F.len)/\∃g i j k,zc e (f.add (d.toNat*4)) 0 (tL g i j k)/\let l:=e.push (.cells tC 25);wf Tp (YI 25 (aa7 (aa8 e)) (tA g i j k)) l (λm=>∃n,(G.a=Td n/\0<=d/\d<G.len)/\∃o p q r,zc m (n.add (d.toNat*4)) 0 (tL o p q r)/\let s:=m.push (.cells tC 25);wf Tp (YI 25 (aa7 (aa8 m)) (tA o p q r)) s (λt=>∃u v w x,zc t (aa8 e) 0 (tL u v w x)/\∃y z A B,zc t (aa8 m) 0 (tL y z A B)/\zr Tp I=Ta/\aa4 I (J++#[tA u v w x,tA y z A B]++L) t (λC D=>∃E,C=.bool E/\((!E)=Ta->R (aa9 Tc) D)/\((!E)=Tc->(b (p3 (d+1)) D/\c (p3 (d+1)) D<c d e))))))/\(hV (d<F.len)=Tc->R (aa9 Ta) e)))):aa4 140 #[.slice F.a F.len F.cap,.slice G.a G.len G.cap,.func (.func I) J L] h R:=XF ⟨[],[(4,[(17,.one (.int .i64))])],[]⟩ [.tmp 6] 32 func140 H
def qd(aI:ac3)(aH:ac3)(aE:n5)(aG:ab3)(aF:ab3)(h:zb)(R:vvv) (H:∃b,At Tp (zch #[144] 3 #[.map aI]) h (iV b)/\∃c,At Tp (zch #[144] 3 #[.map aH]) h (iV c)/\((b != c)=Ta->R (aa9 Tc) h)/\((b != c)=Tc->CA Tp (zdm 144 (.map aI)) h (λd e=>∃f:Option n8,d=.pointer f/\∃(g:zb->Prop) (i:zb->Nat),g e/\∀j:zb,g j->(CA Tp (zcm (.pointer f) Tc 0) j (λk l=>(k=.tuple #[aa9 Tc]/\(Tc=Ta->CA Tp (zdc (.pointer f)) l (λm n=>∃o p:Value,m=.tuple #[o,p]/\let q:=n.push (.cells tC 25);wf Tp (YI 25 (aa7 (aa8 n)) p) q (λr=>∃s t u v w,At Tp (zc0 144 (.map aH) o Ta) r (.tuple #[tA s t u v,aa9 w])/\let x:=r.push (.cells tC 25);wf Tp (YI 25 (aa7 (aa8 r)) (tA s t u v)) x (λy=>∃z A B C,((!(!w))=Ta->zc y (aa8 n) 0 (tL z A B C))/\∃D E F G,((!(!w))=Ta->zc y (aa8 r) 0 (tL D E F G))/\∃I:vvv,((!(!w))=Ta->zr Tp aE=Ta/\aa4 aE (aG++#[tA z A B C,tA D E F G]++aF) y (λJ L=>∃M,J=.bool M/\I (aa9 M) L))/\((!(!w))=Tc->∃N,I (aa9 N) y)/\((!(!w))=Ta->∀O P,I O P->∃Q,O=.bool Q)/\∀S:Bool,∀T,I (aa9 S) T->((cond (!w) Ta (!S))=Ta->R (aa9 Tc) T)/\((cond (!w) Ta (!S))=Tc->(g T/\i T<i j))))))/\(Tc=Tc->R (aa9 Ta) l))\/∃U V:Value,k=.tuple #[aa9 Ta,U,V]/\(Ta=Ta->CA Tp (zdc (.pointer f)) l (λW X=>∃Y Z:Value,W=.tuple #[Y,Z]/\let aa:=X.push (.cells tC 25);wf Tp (YI 25 (aa7 (aa8 X)) Z) aa (λab=>∃ac ad ae af ag,At Tp (zc0 144 (.map aH) Y Ta) ab (.tuple #[tA ac ad ae af,aa9 ag])/\let ah:=ab.push (.cells tC 25);wf Tp (YI 25 (aa7 (aa8 ab)) (tA ac ad ae af)) ah (λai=>∃aj ak al am,((!(!ag))=Ta->zc ai (aa8 X) 0 (tL aj ak al am))/\∃an ao ap aq,((!(!ag))=Ta->zc ai (aa8 ab) 0 (tL an ao ap aq))/\∃ar:vvv,((!(!ag))=Ta->zr Tp aE=Ta/\aa4 aE (aG++#[tA aj ak al am,tA an ao ap aq]++aF) ai (λau av=>∃aw,au=.bool aw/\ar (aa9 aw) av))/\((!(!ag))=Tc->∃ax,ar (aa9 ax) ai)/\((!(!ag))=Ta->∀ay az,ar ay az->∃aA,ay=.bool aA)/\∀aB:Bool,∀aC,ar (aa9 aB) aC->((cond (!ag) Ta (!aB))=Ta->R (aa9 Tc) aC)/\((cond (!ag) Ta (!aB))=Tc->(g aC/\i aC<i j))))))/\(Ta=Tc->R (aa9 Ta) l)))))):aa4 141 #[.map aI,.map aH,.func (.func aE) aG aF] h R:=XF ⟨[],[(4,[])],[]⟩ [.tmp 6] 38 func141 H
end
end
section
open Go.RowKit
variable {h h' h'':zb} {M M' M'':Fr} {bs bs' b1 b2:List Nat} {b lo bv:Nat} {K:Value -> zb -> Prop}
theorem wr.own{h g:zb}(L:wr h M g M')(e:∀c∈bs,h.size<=c):wr h M g (MxL M' g bs):=by
 refine⟨L.aa1,L.le.trans (il L.ag bs),λc f=>?_,MxL.ag L.ag bs⟩;have i:c∉bs:=λb=>χ (e c b)
 rw[<-L.old c f];unfold MxL;rw[za i]
structure Grw (h:zb) (M:Fr) (b:Nat) (bs:List Nat) (h':zb) (M':Fr) (bs':List Nat):Prop where
 grow:h.size<=h'.size
 le:Fr.le M M'
 old:∀c,c<h.size->M' c=M c
 ag:AgM M' h'
 fr:∀j,j<h.size->j≠b->j∉bs->h'[j]?=h[j]?
 nw:∀c∈bs',c∈bs\/h.size<=c
theorem Grw.refl(ag:AgM M h):Grw h M b bs h M bs:=⟨YJ _,Fr.le.refl _,λ_ _=>rfl,ag,λ_ _ _ _=>rfl,λ_ c=>.inl c⟩
theorem Grw.trans{bs bs' e:ab1}(A:Grw h M b bs h' M' bs')(B:Grw h' M' b bs' h'' M'' e):Grw h M b bs h'' M'' e:=by have m:=A.grow;refine⟨zbd A.grow B.grow,A.le.trans B.le,λc f=>(B.old c ω).trans (A.old c f),B.ag,λj l h0 i=>(B.fr j ω h0 λk=>?_).trans (A.fr j l h0 i),λc f=>?_⟩;obtain h|h:=A.nw j k;exact i h;omega;obtain h|h:=B.nw c f;exact A.nw c h;exact .inr ω
theorem Grw.call(A:Grw h M b bs h' M' bs')(L:wr h' M' h'' M''):Grw h M b bs h'' M'' bs':=by have k:=A.grow;exact⟨zbd A.grow L.aa1.size,A.le.trans L.le,λc f=>(L.old c ω).trans (A.old c f),L.ag,λj e h0 i=>(L.aa1.get j ω).trans (A.fr j e h0 i),A.nw⟩
theorem Grw.ofCall(L:wr h M h' M')(A:Grw h' M' b bs h'' M'' bs')(l:∀c∈bs,c<h.size):Grw h M b bs h'' M'' bs':=by have f:=L.aa1.size;refine⟨zbd f A.grow,L.le.trans A.le,λc e=>(A.old c ω).trans (L.old c e),A.ag,λj k h0 i=>(A.fr j ω h0 i).trans (L.aa1.get j k),λc e=>?_⟩;obtain h|h:=A.nw c e;exact .inl h;exact .inr ω
structure TbS (lo:Nat) (h:zb) (M:Fr) (b:Nat) (S:List (Bt×Int)) (sl sf:Sl) (b1 b2:List Nat):Prop where
 box:Blk h b #[aK sl,aK sf]
 r1:Fd lo h M .str (S.map (·.1)) sl b1
 r2:Fd lo h M (.int .i64) (S.map (·.2)) sf b2
 dj:∀c∈b1,c∉b2
 n1:b∉b1
 n2:b∉b2
 nM:M b=Te
 lb:lo<=b
def Tb(lo:Nat)(h:zb)(M:Fr)(b:Nat)(S:List (Bt×Int))(bs:List Nat):Prop:=∃sl sf b1 b2,bs=b1++b2/\TbS lo h M b S sl sf b1 b2
theorem TbS.call{S:List (Bt×Int)}{sl sf:Sl}(B:TbS lo h M b S sl sf b1 b2)(L:wr h M h' M'):TbS lo h' M' b S sl sf b1 b2:= ⟨B.box.aa1 (L.aa1.get b B.box.lt),B.r1.call L,B.r2.call L,B.dj,B.n1,B.n2,(L.old b B.box.lt).trans B.nM,B.lb⟩
theorem Tb.call{S:List (Bt×Int)}(B:Tb lo h M b S bs)(L:wr h M h' M'):Tb lo h' M' b S bs:=by have⟨sl,sf,b1,b2,e,B⟩:=B;exact⟨sl,sf,b1,b2,e,B.call L⟩
theorem Tb.lt{S:List (Bt×Int)}(B:Tb lo h M b S bs):∀c∈bs,c<h.size:=by obtain⟨sl,sf,b1,b2,rfl,B⟩:=B;intro c e;obtain h|h:=ZF.1 e;exact(B.r1.own c h).2.1;exact(B.r2.own c h).2.1
theorem Tb.ltb{S:List (Bt×Int)}(B:Tb lo h M b S bs):b<h.size:=by obtain⟨sl,sf,b1,b2,rfl,B⟩:=B;exact B.box.lt
structure AdM (lo:Nat) (h:zb) (M:Fr) (b:Nat) (sl sf:Sl) (b0:List Nat) (g:zb) (X:List Bt) (s1:Sl) (c1:List Nat) (Y:List Int) (s2:Sl) (c2:List Nat):Prop where
 box:Blk g b #[aK sl,aK sf]
 r1:Fd lo g M .str X s1 c1
 r2:Fd lo g M (.int .i64) Y s2 c2
 dj:∀c∈c1,c∉c2
 n1:b∉c1
 n2:b∉c2
 gr:h.size<=g.size
 bh:b<h.size
 fr:∀j,j<h.size->j≠b->j∉b0->g[j]?=h[j]?
 w1:∀c∈c1,c∈b0\/h.size<=c
 w2:∀c∈c2,c∈b0\/h.size<=c
 ag:AgM M g
 nM:M b=Te
 lb:lo<=b
section
variable {lo : Nat} {h g : zb} {M : Fr} {b : Nat} {sl sf : Sl} {b0 : List Nat} {X : List Bt} {s1 : Sl} {c1 : List Nat} {Y : List Int} {s2 : Sl} {c2 : List Nat}
theorem AdM.start{S:List (Bt×Int)}(B:TbS lo h M b S sl sf b1 b2)(ag:AgM M h):AdM lo h M b sl sf (b1++b2) h (S.map (·.1)) sl b1 (S.map (·.2)) sf b2:= ⟨B.box,B.r1,B.r2,B.dj,B.n1,B.n2,YJ _,B.box.lt,λ_ _ _ _=>rfl,λc e=>.inl (YV _ e),λc e=>.inl (ZH _ e),ag,B.nM,B.lb⟩
theorem AdM.push(D:AdM lo h M b sl sf b0 g X s1 c1 Y s2 c2)(o:Obj):AdM lo h M b sl sf b0 (g.push o) X s1 c1 Y s2 c2:=by have k:Bk g.size g (g.push o):=rg _ _ (YJ _);have l:=D.gr;have m:(g.push o).size=g.size+1:=YW _;refine⟨D.box.aa3 k,D.r1.frame (λc e=>k.get c (D.r1.own c e).2.1) (Fr.le.refl _) λc e=>(D.r1.own c e).2.2,D.r2.frame (λc e=>k.get c (D.r2.own c e).2.1) (Fr.le.refl _) λc e=>(D.r2.own c e).2.2,D.dj,D.n1,D.n2,ω,D.bh,λj i h0 f=>(k.get j ω).trans (D.fr j i h0 f),D.w1,D.w2,D.ag.aa1 k,D.nM,D.lb⟩
theorem AdM.lab(D:AdM lo h M b sl sf b0 g X s1 c1 Y s2 c2)(p:lo<=h.size)(m:X.length<=1000000){x:Bt}(q:Blk g bv #[aa6 x]) (s:∀(l:Sl) (g':zb) (n:ab1),AdM lo h M b sl sf b0 g' (X++[x]) l n Y s2 c2->g.size<=g'.size->(∀j,j<g.size->j∉c1->g'[j]?=g[j]?)->K (aK l) g'):CA Tp (YN #[22,22] 22 #[aK s1,.slice (Td ⟨bv,0,Te⟩) 1 1]) g K:=by have t:=D.gr;refine Fd.app pU ω D.ag D.r1 ω (vs:=[aa6 x]) q rfl m λl g' n r z w f=>s l g' n ⟨D.box.aa1 (f b D.box.lt D.n1),r,D.r2.frame (λc k=>f c (D.r2.own c k).2.1 λi=>D.dj c i k) (Fr.le.refl _) λc k=>(D.r2.own c k).2.2,λc k i=>?_,λi=>?_,D.n2,ω,D.bh,λj o h0 m=>(f j ω λi=>?_).trans (D.fr j o h0 m),λc k=>?_,D.w2,λc cs e=>?_,D.nM,D.lb⟩ z f;obtain h|h:=w c k;exact D.dj c h i;have:=(D.r2.own c i).2.1;omega;obtain h|h:=w b i;exact D.n1 h;have:=D.bh;omega;obtain h|h:=D.w1 j i;exact m h;omega;obtain h|h:=w c k;exact D.w1 c h;exact .inr ω;have k:=D.ag.lt e;rw[f c k λi=>by have:=(D.r1.own c i).2.2;rw[this]at e;cases e];exact D.ag c cs e
theorem AdM.lef(D:AdM lo h M b sl sf b0 g X s1 c1 Y s2 c2)(p:lo<=h.size)(m:Y.length<=1000000){x:Int}(q:Blk g bv #[ab0 x]) (s:∀(l:Sl) (g':zb) (n:ab1),AdM lo h M b sl sf b0 g' X s1 c1 (Y++[x]) l n->g.size<=g'.size->(∀j,j<g.size->j∉c2->g'[j]?=g[j]?)->K (aK l) g'):CA Tp (YN #[29,29] 29 #[aK s2,.slice (Td ⟨bv,0,Te⟩) 1 1]) g K:=by have t:=D.gr;refine Fd.app lc ω D.ag D.r2 ω (vs:=[ab0 x]) q rfl m λl g' n r z w f=>s l g' n ⟨D.box.aa1 (f b D.box.lt D.n2),D.r1.frame (λc i=>f c (D.r1.own c i).2.1 λk=>D.dj c i k) (Fr.le.refl _) λc i=>(D.r1.own c i).2.2,r,λc i k=>?_,D.n1,λk=>?_,ω,D.bh,λj o h0 m=>(f j ω λk=>?_).trans (D.fr j o h0 m),D.w1,λc i=>?_,λc cs e=>?_,D.nM,D.lb⟩ z f;obtain h|h:=w c k;exact D.dj c i h;have:=(D.r1.own c i).2.1;omega;obtain h|h:=w b k;exact D.n2 h;have:=D.bh;omega;obtain h|h:=D.w2 j k;exact m h;omega;obtain h|h:=w c i;exact D.w2 c h;exact .inr ω;have i:=D.ag.lt e;rw[f c i λk=>by have:=(D.r2.own c k).2.2;rw[this]at e;cases e];exact D.ag c cs e
def uF:qq Tp 29=Ta:=κ
def tQ:jk Tp 29=1:=κ
theorem AdM.fin(D:AdM lo h M b sl sf b0 g X s1 c1 Y s2 c2){S:List (Bt×Int)}(o:X=S.map (·.1))(u:Y=S.map (·.2)){K:zb->Prop}(s:∀g' bs',Grw h M b b0 g' M bs'->Tb lo g' M b S bs'->K g'):wf Tp (YI 22 (.pointer (Td (YH (YH ⟨b,0,Te⟩ 0) 0))) (aK s1)) g λl=>wf Tp (YI 29 (.pointer (Td (YH (YH ⟨b,0,Te⟩ 0) 1))) (aK s2)) l K:=by subst o;subst u;have w:=D.gr;rw[PA,PA,zl];refine qj m3 pv D.box (by show 0<2;omega) rfl λl n x r=>?_;refine qj uF tQ n (by show 1<2;omega) rfl λm t z2 q=>?_;have f:∀j,j≠b->m[j]?=g[j]?:=λj k=>(q j k).trans (r j k);refine s m (c1++c2) ⟨ω,Fr.le.refl _,λ_ _=>rfl,λc cs e=>?_,λj k h0 p=>(f j h0).trans (D.fr j k h0 p),λc i=>?_⟩ ⟨s1,s2,c1,c2,rfl,t,D.r1.frame (λc i=>f c λe=>D.n1 (e ▸ i)) (Fr.le.refl _) λc i=>(D.r1.own c i).2.2,D.r2.frame (λc i=>f c λe=>D.n2 (e ▸ i)) (Fr.le.refl _) λc i=>(D.r2.own c i).2.2,D.dj,D.n1,D.n2,D.nM,D.lb⟩;rw[f c λh=>by subst h;rw[D.nM]at e;cases e];exact D.ag c cs e;obtain h|h:=ZF.1 i;exact D.w1 c h;exact D.w2 c h
end
end
section
def La(gl:Fr)(h:(List Bt)×List Int)(b1:(List Bt)×List Int)(R:ac4) (H:((cond ((DB h.1:Int) != (DB b1.1:Int)) Ta ((DB h.2:Int) != (DB b1.2:Int)))=Ta->R Tc)/\((cond ((DB h.1:Int) != (DB b1.1:Int)) Ta ((DB h.2:Int) != (DB b1.2:Int)))=Tc->∃(a:ac6) (b:Int->Nat),a 0/\∀c:Int,a c->((hV (c<DB h.1)=Ta->∃d,(0<=c/\h.1[c.toNat]?=Td d)/\∃e,(0<=c/\b1.1[c.toNat]?=Td e)/\((!(d.toList==e.toList))=Ta->R Tc)/\((!(d.toList==e.toList))=Tc->(a (p3 (c+1))/\b (p3 (c+1))<b c)))/\(hV (c<DB h.1)=Tc->∃(f:ac6) (g:Int->Nat),f 0/\∀i:Int,f i->((hV (i<DB h.2)=Ta->∃j,(0<=i/\h.2[i.toNat]?=Td j)/\∃k,(0<=i/\b1.2[i.toNat]?=Td k)/\((j != k)=Ta->R Tc)/\((j != k)=Tc->(f (p3 (i+1))/\g (p3 (i+1))<g i)))/\(hV (i<DB h.2)=Tc->R Ta)))))):aa5 gl 16 [qr (.pair (.row .str) (.row q0)) h,qr (.pair (.row .str) (.row q0)) b1] [.bool] R:=PF ⟨[],[],[(4,⟨[(5,.one (.dat q0))],[],[2,3],[100320]⟩),(9,⟨[(6,.one (.dat q0))],[],[2,3],[100384]⟩)],[]⟩ [.tmp 4] 59 func16 H
def UZ(gl:Fr)(f:(List Bt)×List Int)(e:Int)(R:ac4) (H:∃(a:ac6) (b:Int->Nat),a 0/\∀c:Int,a c->(((cond (hV (c<DB f.1)) (hV (c<=e)) Tc)=Ta->∃d,(0<=c/\f.1[c.toNat]?=Td d)/\(hV ((d.size:Int)>1024)=Ta->R Tc)/\(hV ((d.size:Int)>1024)=Tc->(a (p3 (c+1))/\b (p3 (c+1))<b c)))/\((cond (hV (c<DB f.1)) (hV (c<=e)) Tc)=Tc->R (cond (hV ((DB f.1:Int)<=e)) (hV ((DB f.2:Int)<=600)) Tc)))):aa5 gl 18 [qr (.pair (.row .str) (.row q0)) f,qr q0 e] [.bool] R:=PF ⟨[],[],[(2,⟨[(5,.one (.dat q0))],[],[2],[100320]⟩)],[]⟩ [.tmp 4] 36 func18 H
def JP(gl:Fr)(b:(List Bt)×List Int)(R:ac4) (H:aa5 gl 60 [qr (.pair (.row .str) (.row q0)) (b.1,b.2)] [.row q0,.bool] (λa:(List Int)×Bool=>R a.2)):aa5 gl 21 [qr (.pair (.row .str) (.row q0)) b] [.bool] R:=PF ⟨[],[],[],[]⟩ [.tmp 2] 11 func21 H
def Uu(gl:Fr)(h:(List Bt)×List Int)(R:ac4) (H:((cond ((DB h.1:Int) != (DB h.2:Int)) Ta (hV ((DB h.1:Int)>512)))=Ta->R Tc)/\((cond ((DB h.1:Int) != (DB h.2:Int)) Ta (hV ((DB h.1:Int)>512)))=Tc->∃(a:ac6) (b:Int->Nat),a 0/\∀c:Int,a c->((hV (c<DB h.2)=Ta->∃d,(0<=c/\h.2[c.toNat]?=Td d)/\∃e,((!(hV (d<0)))=Ta->(0<=c/\h.2[c.toNat]?=Td e))/\((cond (hV (d<0)) Ta (hV (e>c)))=Ta->R Tc)/\((cond (hV (d<0)) Ta (hV (e>c)))=Tc->∃(f:ac6) (g:Int->Nat),f 0/\∀i:Int,f i->((hV (i<c)=Ta->∃j,(0<=c/\h.2[c.toNat]?=Td j)/\∃k,(hV (j<=i)=Ta->(0<=c/\h.2[c.toNat]?=Td k))/\∃l,(hV (j<=i)=Ta->(0<=i/\h.2[i.toNat]?=Td l))/\((cond (hV (j<=i)) (hV (k>l)) Tc)=Ta->R Tc)/\((cond (hV (j<=i)) (hV (k>l)) Tc)=Tc->(f (p3 (i+1))/\g (p3 (i+1))<g i)))/\(hV (i<c)=Tc->(a (p3 (c+1))/\b (p3 (c+1))<b c)))))/\(hV (c<DB h.2)=Tc->R Ta)))):aa5 gl 22 [qr (.pair (.row .str) (.row q0)) h] [.bool] R:=PF ⟨[],[],[(4,⟨[(3,.one (.dat q0))],[],[1],[100192]⟩),(9,⟨[(4,.one (.dat q0))],[],[],[100256]⟩)],[]⟩ [.tmp 2] 65 func22 H
def Tv(gl:Fr)(f:ac7)(b1:ac7)(R:ac4) (H:(((DB f:Int) != (DB b1:Int))=Ta->R Tc)/\(((DB f:Int) != (DB b1:Int))=Tc->∃(a:ac6) (b:Int->Nat),a 0/\∀c:Int,a c->((hV (c<DB f)=Ta->∃d,(0<=c/\f[c.toNat]?=Td d)/\∃e,(0<=c/\b1[c.toNat]?=Td e)/\((d != e)=Ta->R Tc)/\((d != e)=Tc->(a (p3 (c+1))/\b (p3 (c+1))<b c)))/\(hV (c<DB f)=Tc->R Ta)))):aa5 gl 23 [qr (.row q0) f,qr (.row q0) b1] [.bool] R:=PF ⟨[],[],[(4,⟨[(5,.one (.dat q0))],[],[],[100320]⟩)],[]⟩ [.tmp 4] 26 func23 H
def X2(gl:Fr)(h:(List Bt)×List Int)(R:(List Int)->Prop) (H:aa5 gl 26 [qr (.pair (.row .str) (.row q0)) (h.1,h.2)] [.row q0] (λa:List Int=>∃(b:(List Int)->Int->Prop) (c:(List Int)->Int->Nat),b [] 0/\∀d:List Int,∀e:Int,b d e->((hV (e<DB a)=Ta->∃f,(0<=e/\a[e.toNat]?=Td f)/\(hV (f<0)=Ta->((DB d+za6 ([e]:ac7))*8<=140737488355328/\(b (d++[e]) (p3 (e+1))/\c (d++[e]) (p3 (e+1))<c d e)))/\(hV (f<0)=Tc->(b d (p3 (e+1))/\c d (p3 (e+1))<c d e)))/\(hV (e<DB a)=Tc->R d)))):aa5 gl 24 [qr (.pair (.row .str) (.row q0)) h] [.row q0] R:=PF ⟨[],[],[(3,⟨[(3,.one (.own 3 (.int .i64))),(9,.one (.dat q0))],[],[],[100192,100576]⟩)],[]⟩ [.tmp 2] 22 func24 H
def U9(gl:Fr)(h:(List Bt)×List Int)(R:(List Int)->Prop) (H:aa5 gl 27 [qr (.pair (.row .str) (.row q0)) (h.1,h.2)] [.row q0] (λa:List Int=>∃(b:(List Int)->Int->Prop) (c:(List Int)->Int->Nat),b [] 0/\∀d:List Int,∀e:Int,b d e->((hV (e<DB a)=Ta->∃f,(0<=e/\a[e.toNat]?=Td f)/\(hV (f<0)=Ta->((DB d+za6 ([e]:ac7))*8<=140737488355328/\(b (d++[e]) (p3 (e+1))/\c (d++[e]) (p3 (e+1))<c d e)))/\(hV (f<0)=Tc->(b d (p3 (e+1))/\c d (p3 (e+1))<c d e)))/\(hV (e<DB a)=Tc->R d)))):aa5 gl 25 [qr (.pair (.row .str) (.row q0)) h] [.row q0] R:=PF ⟨[],[],[(4,⟨[(4,.one (.own 3 (.int .i64))),(5,.one (.dat q0))],[],[],[100256,100320]⟩)],[]⟩ [.tmp 2] 24 func25 H
def Sq(gl:Fr)(b:(List Bt)×List Int)(R:(List Int)->Prop) (H:aa5 gl 60 [qr (.pair (.row .str) (.row q0)) (b.1,b.2)] [.row q0,.bool] (λa:(List Int)×Bool=>((!a.2)=Ta->R [])/\((!a.2)=Tc->R a.1))):aa5 gl 26 [qr (.pair (.row .str) (.row q0)) b] [.row q0] R:=PF ⟨[],[],[],[]⟩ [.tmp 2] 13 func26 H
def UO(gl:Fr)(h:(List Bt)×List Int)(R:(List Int)->Prop) (H:aa5 gl 22 [qr (.pair (.row .str) (.row q0)) (h.1,h.2)] [.bool] (λa:Bool=>∃(b:(List Int)->Int->Prop) (c:(List Int)->Int->Nat),b [] 0/\∀d:List Int,∀e:Int,b d e->(((cond (hV (e<DB h.2)) a Tc)=Ta->∃(f:(List Int)->Int->Int->Prop) (g:(List Int)->Int->Int->Nat),f d (-1) (p3 (e+1))/\∀i:List Int,∀j k:Int,f i j k->(((cond (hV (k<DB h.2)) (hV (j<0)) Tc)=Ta->∃l,(0<=k/\h.2[k.toNat]?=Td l)/\(hV (l<=e)=Ta->(f i k (p3 (k+1))/\g i k (p3 (k+1))<g i j k))/\(hV (l<=e)=Tc->(f i j (p3 (k+1))/\g i j (p3 (k+1))<g i j k)))/\((cond (hV (k<DB h.2)) (hV (j<0)) Tc)=Tc->((DB i+za6 ([j]:ac7))*8<=140737488355328/\(b (i++[j]) (p3 (e+1))/\c (i++[j]) (p3 (e+1))<c d e)))))/\((cond (hV (e<DB h.2)) a Tc)=Tc->R d)))):aa5 gl 27 [qr (.pair (.row .str) (.row q0)) h] [.row q0] R:=PF ⟨[],[],[(4,⟨[(4,.one (.own 3 (.int .i64))),(5,.one (.dat q0))],[],[1],[100256,100320]⟩),(8,⟨[(4,.one (.own 3 (.int .i64))),(6,.one (.dat q0)),(7,.one (.dat q0))],[],[],[100256,100384,100448]⟩)],[]⟩ [.tmp 2] 46 func27 H
def KX(gl:Fr)(h:(List Bt)×List Int)(R:(List Int)->Prop) (H:aa5 gl 22 [qr (.pair (.row .str) (.row q0)) (h.1,h.2)] [.bool] (λa:Bool=>∃(b:(List Int)->Int->Prop) (c:(List Int)->Int->Nat),b [] 0/\∀d:List Int,∀e:Int,b d e->(((cond (hV (e<DB h.2)) a Tc)=Ta->∃(f:(List Int)->Bool->Int->Prop) (g:(List Int)->Bool->Int->Nat),f d Ta (p3 (e+1))/\∀i:List Int,∀j:Bool,∀k:Int,f i j k->((hV (k<DB h.2)=Ta->∃l,(j=Ta->(0<=k/\h.2[k.toNat]?=Td l))/\∃m,(j=Ta->(0<=e/\h.2[e.toNat]?=Td m))/\(f i (cond j (l != m) Tc) (p3 (k+1))/\g i (cond j (l != m) Tc) (p3 (k+1))<g i j k))/\(hV (k<DB h.2)=Tc->(j=Ta->((DB i+za6 ([e]:ac7))*8<=140737488355328/\(b (i++[e]) (p3 (e+1))/\c (i++[e]) (p3 (e+1))<c d e)))/\(j=Tc->(b i (p3 (e+1))/\c i (p3 (e+1))<c d e)))))/\((cond (hV (e<DB h.2)) a Tc)=Tc->R d)))):aa5 gl 29 [qr (.pair (.row .str) (.row q0)) h] [.row q0] R:=PF ⟨[],[],[(4,⟨[(4,.one (.own 3 (.int .i64))),(5,.one (.dat q0))],[],[1],[100256,100320]⟩),(8,⟨[(4,.one (.own 3 (.int .i64))),(6,.one (.dat .bool)),(7,.one (.dat q0))],[],[],[100256,100384,100448]⟩)],[]⟩ [.tmp 2] 49 func29 H
def OK(gl:Fr)(f:Tr)(b1:Tr)(R:ac4) (H:aa5 gl 83 [qr .tree (Tr.mk f.Wf f.aa0 f.XK f.WT)] [.bool] (λa:Bool=>∃b:Bool->Prop,(a=Ta->aa5 gl 83 [qr .tree (Tr.mk b1.Wf b1.aa0 b1.XK b1.WT)] [.bool] b)/\∀c:Bool,(a=Ta->b c)->∃d:Bool->Prop,((cond a c Tc)=Ta->aa5 gl 84 [qr .tree (Tr.mk f.Wf f.aa0 f.XK f.WT),qr .tree (Tr.mk b1.Wf b1.aa0 b1.XK b1.WT)] [.bool] d)/\∀e:Bool,((cond a c Tc)=Ta->d e)->R (cond (cond a c Tc) e Tc))):aa5 gl 46 [qr .tree f,qr .tree b1] [.bool] R:=PF ⟨[],[],[],[]⟩ [.tmp 4] 16 func46 H
def Vp(gl:Fr)(c:Tr)(R:Tr->Prop) (H:aa5 gl 106 [qr .tree (Tr.mk c.Wf c.aa0 c.XK c.WT)] [.bool] (λa:Bool=>((!a)=Ta->R (Tr.mk 0 (⟨#[]⟩:Bt) [] []))/\((!a)=Tc->aa5 gl 107 [qr .tree (Tr.mk c.Wf c.aa0 c.XK c.WT)] [.tree] (λb:Tr=>R (Tr.mk b.Wf b.aa0 b.XK b.WT))))):aa5 gl 59 [qr .tree c] [.tree] R:=PF ⟨[],[],[],[]⟩ [.cell 2 25] 11 func59 H
def VX(gl:Fr)(e:(List Bt)×List Int)(b1:(List Bt)×List Int)(R:ac4) (H:aa5 gl 110 [qr (.row .str) e.1,qr (.row .str) b1.1] [.bool] (λa:Bool=>∃b:Bool->Prop,(a=Ta->aa5 gl 111 [qr (.row q0) e.2,qr (.row q0) b1.2] [.bool] b)/\∀c:Bool,(a=Ta->b c)->R (cond a c Tc))):aa5 gl 62 [qr (.pair (.row .str) (.row q0)) e,qr (.pair (.row .str) (.row q0)) b1] [.bool] R:=PF ⟨[],[],[],[]⟩ [.tmp 4] 17 func62 H
def TG(gl:Fr)(b:Tr)(R:Bt->Prop) (H:aa5 gl 126 [qr .tree (Tr.mk b.Wf b.aa0 b.XK b.WT)] [.str,.int .i64] (λa:Bt×Int=>R a.1)):aa5 gl 97 [qr .tree b] [.str] R:=PF ⟨[],[],[],[]⟩ [.tmp 2] 11 func97 H
def WO(gl:Fr)(c:Tr)(R:(Bt×Int)->Prop) (H:aa5 gl 57 [qr .tree (Tr.mk c.Wf c.aa0 c.XK c.WT)] [.bool] (λa:Bool=>((!a)=Ta->R ((⟨#[]⟩:Bt),1))/\((!a)=Tc->aa5 gl 132 [qr .tree (Tr.mk c.Wf c.aa0 c.XK c.WT),qr q0 (-1),qr q0 0] [.str] (λb:Bt=>R (b,0))))):aa5 gl 73 [qr .tree c] [.str,.int .i64] R:=PF ⟨[],[],[],[]⟩ [.tmp 2,.tmp 3] 11 func73 H
def It(gl:Fr)(A:Tr)(h:Int)(z:Int)(R:Bt->Prop) (H:((A.Wf==1)=Ta->R (⟨#[110,117,108,108]⟩:Bt))/\((A.Wf==1)=Tc->∀a:Bool->Prop,(∀b:Bool,((b=Ta->R A.aa0)/\(b=Tc->((A.Wf==4)=Ta->aa5 gl 131 [qr .str A.aa0] [.str,.int .i64] (λc:Bt×Int=>R c.1))/\((A.Wf==4)=Tc->∀d:Bt->Bt->Prop,(∀e f:Bt,((((A.WT.length:Int)==0)=Ta->qb (e.size+f.size)/\R (e++f))/\(((A.WT.length:Int)==0)=Tc->∃(g:Bt->Int->Prop) (i:Bt->Int->Nat),g e 0/\∀j:Bt,∀k:Int,g j k->((hV (k<A.WT.length)=Ta->∀l:Bt->Prop,(∀m:Bt,(∀n:Bt->Prop,(∀o:Bt,(∀p:Bt->Prop,(∀q:Bt,(∃r,(0<=k/\A.WT[k.toNat]?=Td r)/\aa5 gl 132 [qr .tree (Tr.mk r.Wf r.aa0 r.XK r.WT),qr q0 h,qr q0 (p3 (z+1))] [.str] (λs:Bt=>qb (q.size+s.size)/\(g (q++s) (p3 (k+1))/\i (q++s) (p3 (k+1))<i j k)))->p q)->((A.Wf==6)=Ta->∃t,(0<=k/\A.XK[k.toNat]?=Td t)/\aa5 gl 131 [qr .str t] [.str,.int .i64] (λu:Bt×Int=>qb (o.size+u.1.size)/\qb ((o++u.1).size+((⟨#[58]⟩:Bt)).size)/\(hV (h>=0)=Ta->qb (((o++u.1)++(⟨#[58]⟩:Bt)).size+((⟨#[32]⟩:Bt)).size)/\p (((o++u.1)++(⟨#[58]⟩:Bt))++(⟨#[32]⟩:Bt)))/\(hV (h>=0)=Tc->p ((o++u.1)++(⟨#[58]⟩:Bt)))))/\((A.Wf==6)=Tc->p o))->n o)->(hV (h>=0)=Ta->qb (m.size+((⟨#[10]⟩:Bt)).size)/\aa5 gl 204 [qr q0 (p3 (h*(p3 (z+1))))] [.str] (λv:Bt=>qb ((m++(⟨#[10]⟩:Bt)).size+v.size)/\n ((m++(⟨#[10]⟩:Bt))++v)))/\(hV (h>=0)=Tc->n m))->l m)->(hV (k>0)=Ta->qb (j.size+((⟨#[44]⟩:Bt)).size)/\l (j++(⟨#[44]⟩:Bt)))/\(hV (k>0)=Tc->l j))/\(hV (k<A.WT.length)=Tc->∀w:Bt->Prop,(∀x:Bt,(qb (x.size+f.size)/\R (x++f))->w x)->(hV (h>=0)=Ta->qb (j.size+((⟨#[10]⟩:Bt)).size)/\aa5 gl 204 [qr q0 (p3 (h*z))] [.str] (λy:Bt=>qb ((j++(⟨#[10]⟩:Bt)).size+y.size)/\w ((j++(⟨#[10]⟩:Bt))++y)))/\(hV (h>=0)=Tc->w j)))))->d e f)->((A.Wf==6)=Ta->d (⟨#[123]⟩:Bt) (⟨#[125]⟩:Bt))/\((A.Wf==6)=Tc->d (⟨#[91]⟩:Bt) (⟨#[93]⟩:Bt)))))->a b)->((A.Wf==2)=Ta->a (A.Wf==2))/\((A.Wf==2)=Tc->a (A.Wf==3)))):aa5 gl 132 [qr .tree A,qr q0 h,qr q0 z] [.str] R:=PF ⟨[],[],[(19,⟨[(11,.one (.dat .str)),(12,.one (.dat q0))],[],[3],[100704,100768]⟩)],[(6,⟨[(19,.one (.dat .bool))],[],[3],[101216]⟩),(15,⟨[(9,.one (.dat .str)),(10,.one (.dat .str))],[],[3],[100576,100640]⟩),(23,⟨[(11,.one (.dat .str))],[],[],[100704]⟩),(25,⟨[(11,.one (.dat .str))],[],[],[100704]⟩),(30,⟨[(11,.one (.dat .str))],[],[],[100704]⟩),(33,⟨[(11,.one (.dat .str))],[],[],[100704]⟩)]⟩ [.tmp 6] 108 func132 H
def Qz(gl:Fr)(f:List Bt)(h:List Bt)(R:ac4) (H:(((DB f:Int) != (DB h:Int))=Ta->R Tc)/\(((DB f:Int) != (DB h:Int))=Tc->∃(a:ac6) (b:Int->Nat),a 0/\∀c:Int,a c->((hV (c<DB f)=Ta->∃d,(0<=c/\f[c.toNat]?=Td d)/\∃e,(0<=c/\h[c.toNat]?=Td e)/\((!(d.toList==e.toList))=Ta->R Tc)/\((!(d.toList==e.toList))=Tc->(a (p3 (c+1))/\b (p3 (c+1))<b c)))/\(hV (c<DB f)=Tc->R Ta)))):aa5 gl 110 [qr (.row .str) f,qr (.row .str) h] [.bool] R:=PF ⟨[],[],[(4,⟨[(13,.one (.dat q0))],[],[],[100832]⟩)],[]⟩ [.tmp 4] 26 func110 H
def X8(gl:Fr)(f:ac7)(h:ac7)(R:ac4) (H:(((DB f:Int) != (DB h:Int))=Ta->R Tc)/\(((DB f:Int) != (DB h:Int))=Tc->∃(a:ac6) (b:Int->Nat),a 0/\∀c:Int,a c->((hV (c<DB f)=Ta->∃d,(0<=c/\f[c.toNat]?=Td d)/\∃e,(0<=c/\h[c.toNat]?=Td e)/\((d != e)=Ta->R Tc)/\((d != e)=Tc->(a (p3 (c+1))/\b (p3 (c+1))<b c)))/\(hV (c<DB f)=Tc->R Ta)))):aa5 gl 111 [qr (.row q0) f,qr (.row q0) h] [.bool] R:=PF ⟨[],[],[(4,⟨[(13,.one (.dat q0))],[],[],[100832]⟩)],[]⟩ [.tmp 4] 26 func111 H
def RI(gl:Fr)(f:Tr)(R:ac4) (H:aa5 gl 102 [qr .tree (Tr.mk f.Wf f.aa0 f.XK f.WT)] [.int .i64] (λa:Int=>∃b:Int->Prop,(hV (a<=4096)=Ta->aa5 gl 103 [qr .tree (Tr.mk f.Wf f.aa0 f.XK f.WT)] [.int .i64] b)/\∀c:Int,(hV (a<=4096)=Ta->b c)->∃d:Bool->Prop,((cond (hV (a<=4096)) (hV (c<=32)) Tc)=Ta->aa5 gl 104 [qr .tree (Tr.mk f.Wf f.aa0 f.XK f.WT),qr .bool Tc] [.bool] d)/\∀e:Bool,((cond (hV (a<=4096)) (hV (c<=32)) Tc)=Ta->d e)->R (cond (cond (hV (a<=4096)) (hV (c<=32)) Tc) e Tc))):aa5 gl 57 [qr .tree f] [.bool] R:=PF ⟨[],[],[],[]⟩ [.tmp 2] 15 func57 H
def Oq(gl:Fr)(b:Bt)(R:Tr->Prop) (H:R (Tr.mk 4 b [] [])):aa5 gl 105 [qr .str b] [.tree] R:=PF ⟨[],[],[],[]⟩ [.cell 2 25] 5 func105 H
def Kk(gl:Fr)(f:Tr)(e:Bt)(R:ac6) (H:∃(a:ac6) (b:Int->Nat),a 0/\∀c:Int,a c->((hV (c<f.XK.length)=Ta->∃d,(0<=c/\f.XK[c.toNat]?=Td d)/\((d.toList==e.toList)=Ta->R c)/\((d.toList==e.toList)=Tc->(a (p3 (c+1))/\b (p3 (c+1))<b c)))/\(hV (c<f.XK.length)=Tc->R (-1)))):aa5 gl 164 [qr .tree f,qr .str e] [.int .i64] R:=PF ⟨[],[],[(2,⟨[(5,.one (.dat q0))],[],[2],[100320]⟩)],[]⟩ [.tmp 4] 21 func164 H
end
section
open Go.RowKit
section
variable {v:Tr} {k:Bt}
def Cz{lo:Nat}{h:zb}{M:Fr}{b:Nat}{S t:List (Bt×Int)}{bs:ab1}{lab:Bt}{F:n5}{A C:ab3}(hF:zr Tp F=Ta)(H:Tb lo h M b S bs)(au:lo<=h.size)(Y:t.length<=513) (hk:aa4 F (A++#[]++C) h λv h1=>v=.tuple #[]/\∃f y,Grw h M b bs h1 f y/\Tb lo h1 f b t y) {K:vvv} (hK:∀h' M' bs',Grw h M b bs h' M' bs'->Tb lo h' M' b (ff (t++[(lab,(DB S:Int))])) bs'->K (.tuple #[]) h'):aa4 94 #[aa7 ⟨b,0,Te⟩,aa6 lab,.func (.func F) A C] h K:=by
 obtain⟨sl,sf,b1,b2,rfl,B⟩:=H;have l0:=B.r1.len;rw[YO]at l0;apply UM (Td ⟨b,0,Te⟩) lab F A C;refine⟨⟨b,0,Te⟩,rfl,sl,by rw[PA];exact B.box.aa2 (o:=0) (k:=0) rfl,hF,XC.mono hk ?_⟩;rintro v h4 ⟨rfl,f,y,T,c,e,r,d2,rfl,m⟩;have l1:=m.r1.len;have l2:=m.r2.len;rw[YO]at l1 l2;have ax:=T.grow;refine⟨rfl,⟨b,0,Te⟩,rfl,c,by rw[PA];exact m.box.aa2 (o:=0) (k:=0) rfl,λG=>?_,λG=>?_⟩
 ·have G:t.length<=512:=χ (zB G)
  have D:=AdM.start m T.ag;have aa:=m.box.lt;have fin:∀{g:zb} {s1:Sl} {c1:ab1} {s2:Sl} {c2:ab1},AdM lo h4 f b c e (r++d2) g (t.map (·.1)++[lab]) s1 c1 (t.map (·.2)++[(sl.len:Int)]) s2 c2->∃u:n8,Td (⟨b,0,Te⟩:n8)=Td u /\
   wf Tp (YI 22 (.pointer (Td (YH (YH u 0) 0))) (aK s1)) g (λg1=>∃w:n8,Td (⟨b,0,Te⟩:n8)=Td w/\wf Tp (YI 29 (.pointer (Td (YH (YH w 0) 1))) (aK s2)) g1 (λL=>K (.tuple #[]) L)):=by
   intro g s1 c1 s2 c2 x;refine⟨_,rfl,?_⟩;have:=x.fin (S:=t++[(lab,(sl.len:Int))]) ξ ξ (K:=λL=>K (.tuple #[]) L) λg' bs' T' B'=>hK g' f bs' (T.trans T') (by rw[<-FA Y,zi G,<-l0];exact B');exact wf.mono this λg1 h1=>⟨_,rfl,h1⟩
  refine⟨⟨b,0,Te⟩,rfl,c,by rw[PA];exact m.box.aa2 (o:=0) (k:=0) rfl,⟨b,0,Te⟩,rfl,e,by rw[PA];exact m.box.aa2 (o:=0) (k:=1) rfl,?_,?_⟩;intro l;have⟨ah,az,Z⟩:=yp (g:=l) rfl;have s:AdM lo h4 f b c e (r++d2) l _ _ _ _ _ _:=D.push _;clear_value l;have i:l[b]?=h4[b]?:=ah.get b aa;refine⟨i,i,?_,?_⟩;refine s.lab ω (by rw[YO];omega) Z λU g' c' x z' f'=>⟨U,rfl,?_,?_⟩;exact(f' b ω s.n1).trans i;intro z;have⟨ab,_,am⟩:=yp (g:=z) rfl;have an:AdM lo h4 f b c e (r++d2) z _ _ _ _ _ _:=x.push _;clear_value z;refine⟨(ab.get b x.box.lt).trans ((f' b ω s.n1).trans i),?_⟩;exact an.lef ω (by rw[YO];omega) am λs2 L c2 O _ _=>⟨s2,rfl,fin O⟩;intro p;have⟨P,ar,ai⟩:=yp (g:=p) rfl;have Q:AdM lo h4 f b c e (r++d2) p _ _ _ _ _ _:=s.push _;clear_value p;have J:p[b]?=h4[b]?:=(P.get b ω).trans i;refine⟨J,J,?_⟩;refine Q.lab ω (by rw[YO];omega) (Z.aa3 P) λU g' c' x z' f'=>⟨U,rfl,(f' b ω Q.n1).trans J,?_⟩;have hn:l.size∉r:=λhm=>χ ((m.r1.own _ hm).2.1)
  exact x.lef ω (by rw[YO];omega) (ai.aa1 (f' _ ω hn)) λs2 L c2 O _ _=>⟨s2,rfl,fin O⟩;intro n;have⟨aj,ap,ak⟩:=yp (g:=n) rfl;have af:AdM lo h4 f b c e (r++d2) n _ _ _ _ _ _:=D.push _;clear_value n;have E:n[b]?=h4[b]?:=aj.get b aa;refine⟨E,E,?_⟩;intro q;have⟨V,ay,ae⟩:=yp (g:=q) rfl;have N:AdM lo h4 f b c e (r++d2) q _ _ _ _ _ _:=af.push _;clear_value q;have I:q[b]?=h4[b]?:=(V.get b ω).trans E;refine⟨I,I,?_⟩;refine N.lab ω (by rw[YO];omega) ae λU g' c' x z' f'=>⟨U,rfl,(f' b ω N.n1).trans I,?_⟩;have hn:h4.size∉r:=λhm=>χ ((m.r1.own _ hm).2.1)
  exact x.lef ω (by rw[YO];omega) ((ak.aa3 V).aa1 (f' _ ω hn)) λs2 L c2 O _ _=>⟨s2,rfl,fin O⟩
 have G:¬t.length<=512:=χ (zC G)
 refine hK h4 f _ T ?_;rw[<-FA Y,za G];exact⟨c,e,r,d2,rfl,m⟩
def yK{gl:Fr}(c:GL gl)(b:Brn gl)(e:Sm v){R:Bt->Prop}(f:R (Qx v).1):aa5 gl 97 [qr .tree v] [.str] R:=by apply TG;simp only[Zp];exact VP c b e f
theorem Bc(h:dR v=Ta)(i:v.Wf≠5)(f:v.Wf≠6):v.WT=[]/\qh v=Ta:=by
 have hi:v.WT=[]:=by unfold dR zq at h;simp only[i,f,if_false]at h;by_cases h1:v.Wf=1;simp[h1]at h;exact h.2;by_cases h2:v.Wf=2;simp[h2]at h;exact h.2;by_cases e:v.Wf=3;simp[e]at h;exact h.2;by_cases b:v.Wf=4;simp[b]at h;exact h.2;by_cases c:v.Wf=7;simp[c]at h;simp[h1,h2,e,b,c]at h
 refine⟨hi,?_⟩;unfold qh wy;rw[yo,jR,y8,hi];simp only[YR,zA];refine⟨⟨by rw[Ze];omega,by rw[en];omega⟩,?_,by rfl⟩;unfold dR at h;simpa using h
def NN(h:xn (lb k)=Ta):dR (.mk 4 k [] [])=Ta:=by unfold dR zq;simpa[Tr.Wf,Tr.aa0,Tr.XK,Tr.WT]using h
theorem tW(h:xn (lb k)=Ta):qh (.mk 4 k [] [])=Ta:= (Bc (NN h) (show¬(4:Int)=5 by decide) (show¬(4:Int)=6 by decide)).2
theorem GM(h:dR v=Ta)(b:v.Wf≠5)(c:v.Wf≠6):(Qx v).1=fy v:=by unfold Qx fy;rw[zi (Bc h b c).2,za b,za c]
theorem Bj(h:xn (lb k)=Ta):(⟨#[107]⟩:Bt)++(Qx (.mk 4 k [] [])).1=gE k:=by unfold Qx gE;rw[zi (tW h),xx];show bl [107]++bl (eY (lb k)).1=_;rw[qf];rfl
end
section
def yz{g:zb}{M:Fr}(ag:AgM M g){k:Int}{s:Bt}{sk si:Sl}{K:zb->Prop}(c:∀g',wr g M g' M->g'.size=g.size+1->Blk g' g.size #[ab0 k,aa6 s,aK sk,aK si]->K g'):wf Tp (YI 25 (aa7 (aa8 g)) (.agg #[ab0 k,aa6 s,aK sk,aK si])) (zbq g (.cells #[ab0 0,aa6 ⟨#[]⟩,.slice Te 0 0,.slice Te 0 0] 25)) K:=by have e:Bk g.size g (zbq g (.cells #[ab0 0,aa6 ⟨#[]⟩,.slice Te 0 0,.slice Te 0 0] 25)):=rg _ _ (YJ _);have i:(zbq g (.cells #[ab0 0,aa6 ⟨#[]⟩,.slice Te 0 0,.slice Te 0 0] 25)).size=g.size+1:=YW _;have b:Blk (zbq g (.cells #[ab0 0,aa6 ⟨#[]⟩,.slice Te 0 0,.slice Te 0 0] 25)) g.size #[ab0 0,aa6 ⟨#[]⟩,.slice Te 0 0,.slice Te 0 0]:=Blk.new _ _ _;refine qt b λg' f z B=>c g' (up ag ⟨ω,λj h=>η⟩) ω B
def Hg{gl:Fr}(hg:GL gl)(hb:Brn gl){lo:Nat}:∀(n:Nat) (v:Tr),n<=1000000->cK v<=n->Qc dR v=Ta->Sm v->∀(h:zb) (M:Fr) (b:Nat) (S:List (Bt×Int)) (bs:ab1) (u:Value),AgM M h->Fr.le gl M->Tb lo h M b S bs->lo<=h.size->DB S<=513->RdV M .tree v u ->aa4 55 #[aa7 ⟨b,0,Te⟩,u] h λr h'=>r=.tuple #[]/\∃M' bs',Grw h M b bs h' M' bs'/\Tb lo h' M' b (ff (S++Qy v (DB S))) bs'
 |0,v,_,hz,_,_=>χ (Zn v)
 |n+1,v,hn,hz,hok,hsm=>by
  intro h M b S bs u ag hM HB aL hS hu;obtain⟨sk,si,rfl,rk,ri⟩:=yg hu;have z:=hok;rw[y8,YR]at z;have aP:v.WT.length<=1000000:=by have:=xq v.WT;rw[yo]at hz;omega
  have ih:∀(i:Nat) (hi:i<v.WT.length) (h:zb) (M:Fr) (S:List (Bt×Int)) (bs:ab1) (u:Value),AgM M h->Fr.le gl M->Tb lo h M b S bs->lo<=h.size->DB S<=513->RdV M .tree v.WT[i] u ->
   aa4 55 #[aa7 ⟨b,0,Te⟩,u] h λr h'=>r=.tuple #[]/\∃M' bs',Grw h M b bs h' M' bs'/\Tb lo h' M' b (ff (S++Qy v.WT[i] (DB S))) bs':=λi hi h M S bs u=>by
   have hm:=YY hi;have hs:=yc hm;have am:Qc dR v.WT[i]=Ta:=by rw[je,ZB]at z;exact z.2 _ hm
   exact Hg hg hb n v.WT[i] ω ω am (hsm.item hm) h M b S bs u
  have⟨li,_,_⟩:=Bx ri;have⟨lk,_,_⟩:=Bx rk;have aO:=HB.ltb;have ar:=HB.lt;apply Ue (Td ⟨b,0,Te⟩) v.Wf v.aa0 sk si;intro h1;have⟨k1,z1,P1⟩:=yp (g:=h1) rfl;clear_value h1;intro h2;have⟨k2,z2,T2⟩:=yp (g:=h2) rfl;clear_value h2;have P2:=P1.aa3 k2;have aH:Bk h.size h h2:=k1.trans k2 ω;have L2:wr h M h2 M:=up ag aH;have aa:=HB.call L2;have row:Qy v (DB S)=(ite (v.Wf=6) (J8 v.WT v.XK (DB S)) (ite (v.Wf=5) (eH v.WT (DB S)) []))++[(fy v,(DB S:Int))]:=oJ v _;have fin:∀(A:List (Bt×Int)) (lab:Bt) (F:n5) (C:ab3),Qy v (DB S)=A++[(lab,(DB S:Int))]->zr Tp F=Ta->(∀(h':zb) (M':Fr),wr h2 M h' M'->aa4 F (#[]++#[]++C) h' λw h1=>w=.tuple #[]/\∃J t,Grw h' M' b bs h1 J t/\Tb lo h1 J b (ff (S++A)) t) ->
   ∀(h':zb) (M':Fr),wr h2 M h' M'->aa4 94 #[aa7 ⟨b,0,Te⟩,aa6 lab,.func (.func F) #[] C] h' λr h3=>r=.tuple #[]/\Value.tuple #[]=Value.tuple #[]/\∃M' bs',Grw h M b bs h3 M' bs'/\Tb lo h3 M' b (ff (S++Qy v (DB S))) bs':=by
   intro A lab F C ak hF hk h' M' H;have aQ:=H.aa1.size;refine Cz hF (aa.call H) ω (qQ (S++A)) (hk h' M' H) λh3 M3 ae T3 B3=>⟨rfl,rfl,M3,ae,Grw.ofCall (L2.trans H) T3 ar,?_⟩;have:=ta (S++A) λ_=>[(lab,(DB S:Int))];rw[this,ZL,<-ak]at B3;exact B3
  refine⟨v.Wf,T2.aa2 (o:=0) (k:=0) rfl,λh5=>?_,λh5=>⟨λh6=>?_,λh6=>?_⟩⟩;have h5:v.Wf=5:=ψ h5
  refine⟨Td ⟨b,0,Te⟩,P2.cell (o:=0) rfl,?_⟩;refine fin (eH v.WT (DB S)) ⟨#[91]⟩ _ _ (by rw[row,za ω,zi h5];unfold fy;rw[zi h5]) κ (λh' M' H=>?_) h2 M (wr.refl L2.ag);show XC _ _ #[aa7 (aa8 h1),aa7 (aa8 h)] _ _;have z':=H.aa1.size;have T':Blk h' h1.size #[ab0 v.Wf,aa6 v.aa0,aK sk,aK si]:=T2.aa1 (H.aa1.get _ ω);have P':Blk h' h.size #[aa7 ⟨b,0,Te⟩]:=P2.aa1 (H.aa1.get _ ω);have ah:=aa.call H;apply X5 (aa8 h1) (aa8 h);refine⟨si,T'.aa2 (o:=0) (k:=3) rfl,λi g=>∃(m:Nat) (J:Fr) (t:ab1),i=(m:Int)/\m<=v.WT.length/\Grw h' M' b bs g J t/\Tb lo g J b (ff (S++eH (v.WT.take m) (DB S))) t,λi _=>v.WT.length-i.toNat,⟨0,M',bs,rfl,ZQ _,Grw.refl H.ag,by rw[zco,eH,ZY,mi hS];exact ah⟩,?_⟩;rintro i g ⟨m,J,t,rfl,hm,T,B⟩;have gz:=T.grow;refine⟨λhc=>?_,λhc=>?_⟩;have I:m<v.WT.length:=χ (zB hc)
  have⟨a,ck,ci,ea,ab,t1,t2⟩:=ie T.ag (ri.mono (H.le.trans T.le)) I;refine⟨a,⟨ea,ω,ω⟩,v.WT[m].Wf,v.WT[m].aa0,ck,ci,by rw[YL];exact ab,?_⟩;intro aC;refine yz T.ag λy E aG af=>?_;have Pg:Blk y h.size #[aa7 ⟨b,0,Te⟩]:=P'.aa1 ((E.aa1.get h.size ω).trans (T.fr h.size ω ω λhm=>η));refine⟨Td ⟨b,0,Te⟩,Pg.cell (o:=0) rfl,v.WT[m].Wf,v.WT[m].aa0,ck,ci,af.ld (cs:=[_,_,aK ck,aK ci]),?_⟩;refine XC.mono (ih m I y J _ t _ E.ag (hM.trans (H.le.trans T.le)) (B.call E) ω (qQ _) (qe t1 t2)) ?_;rintro r d ⟨rfl,M2,ap,ay,aJ⟩;refine⟨rfl,⟨m+1,M2,ap,by rw[qo I ω],I,T.trans (Grw.ofCall E ay λc hc=>B.lt c hc),?_⟩,?_⟩;simp_all[ta,yP];grind [qo];grind
  ·have h6:v.Wf=6:=ψ h6
   have aN:v.XK.length=v.WT.length:=by have:=z.1;unfold dR zq at this;simp[h6]at this;exact this.1.2
   have aB:∀k∈v.XK,xn (lb k)=Ta:=by have:=z.1;unfold dR zq yh at this;simp[h6]at this;exact this.1.1.1
   refine⟨Td ⟨b,0,Te⟩,P2.cell (o:=0) rfl,?_⟩;refine fin (J8 v.WT v.XK (DB S)) ⟨#[123]⟩ _ _ (by rw[row,zi h6];unfold fy;simp_all) κ (λh' M' H=>?_) h2 M (wr.refl L2.ag);show XC _ _ #[aa7 (aa8 h1),aa7 (aa8 h)] _ _;have z':=H.aa1.size;have T':Blk h' h1.size #[ab0 v.Wf,aa6 v.aa0,aK sk,aK si]:=T2.aa1 (H.aa1.get _ ω);have P':Blk h' h.size #[aa7 ⟨b,0,Te⟩]:=P2.aa1 (H.aa1.get _ ω);have ah:=aa.call H;apply X6 (aa8 h1) (aa8 h);refine⟨si,T'.aa2 (o:=0) (k:=3) rfl,λi g=>∃(m:Nat) (J:Fr) (t:ab1),i=(m:Int)/\m<=v.WT.length/\Grw h' M' b bs g J t/\Tb lo g J b (ff (S++J8 (v.WT.take m) v.XK (DB S))) t,λi _=>v.WT.length-i.toNat,⟨0,M',bs,rfl,ZQ _,Grw.refl H.ag,by rw[zco,J8,ZY,mi hS];exact ah⟩,?_⟩;rintro i g ⟨m,J,t,rfl,hm,T,B⟩;have gz:=T.grow;refine⟨λhc=>?_,λhc=>?_⟩
   ·have I:m<v.WT.length:=χ (zB hc)
    have Y:m<v.XK.length:=ω
    have V:=H.le.trans T.le;have⟨a,ck,ci,ea,ab,t1,t2⟩:=ie T.ag (ri.mono V) I;refine⟨a,⟨ea,ω,ω⟩,v.WT[m].Wf,v.WT[m].aa0,ck,ci,by rw[YL];exact ab,?_⟩;intro aC;refine yz T.ag λy E aG af=>?_;have Pg:Blk y h.size #[aa7 ⟨b,0,Te⟩]:=P'.aa1 ((E.aa1.get h.size ω).trans (T.fr h.size ω ω λhm=>η));have Tg:Blk y h1.size #[ab0 v.Wf,aa6 v.aa0,aK sk,aK si]:=T'.aa1 ((E.aa1.get h1.size ω).trans (T.fr h1.size ω ω λhm=>η));have⟨a2,aE,x,au,aA⟩:=gS E.ag (rk.mono V) Y (i:=(m:Int)) rfl (L:=sk.len) rfl (Q:=λx=>x=v.XK[m]) rfl;subst aA;refine⟨Td ⟨b,0,Te⟩,Pg.cell (o:=0) rfl,sk,Tg.aa2 (o:=0) (k:=2) rfl,a2,aE,v.XK[m],au,?_⟩;have aj:=aB _ (YY Y);have ax:Sm (.mk 4 v.XK[m] [] []):=⟨by rw[yo];simp[Ze],by rw[fi];refine⟨⟨?_,ZQ _,λk hk=>ε hk⟩,trivial⟩;have:=hsm.key (YY Y);simp_all⟩;have BB:=B.call E;have tail:∀(e:zb) (f:Fr) (kt:Bt),wr y J e f->kt=(Qx (.mk 4 v.XK[m] [] [])).1->aa4 94 #[aa7 ⟨b,0,Te⟩,aa6 ((⟨#[107]⟩:Bt)++kt),.func (.func 99) #[] #[aa7 (aa8 h),aa7 (aa8 g)]] e λw ai=>w=.tuple #[] /\
     (∃(q:Nat) (J:Fr) (t:ab1),p3 ((m:Int)+1)=(q:Int)/\q<=v.WT.length/\Grw h' M' b bs ai J t/\Tb lo ai J b (ff (S++J8 (v.WT.take q) v.XK (DB S))) t)/\v.WT.length-(p3 ((m:Int)+1)).toNat<v.WT.length-(m:Int).toNat:=by
     rintro e f kt l rfl;rw[Bj aj];have aM:=l.aa1.size;have P:=E.trans l;refine Cz κ (B.call P) ω (qQ (ff (S++J8 (v.WT.take m) v.XK (DB S))++Qy v.WT[m] (ff (S++J8 (v.WT.take m) v.XK (DB S))).length)) ?_ λh3 M3 ae T3 B3=>⟨rfl,⟨m+1,M3,ae,by rw[qo I ω],I,T.trans (Grw.ofCall P T3 λc hc=>B.lt c hc),?_⟩,?_⟩;show XC _ _ #[aa7 (aa8 h),aa7 (aa8 g)] _ _;apply J7 (aa8 h) (aa8 g);refine⟨Td ⟨b,0,Te⟩,(Pg.aa1 (l.aa1.get _ ω)).cell (o:=0) rfl,v.WT[m].Wf,v.WT[m].aa0,ck,ci,(af.aa1 (l.aa1.get _ ω)).ld (cs:=[_,_,aK ck,aK ci]),?_⟩;exact XC.mono (ih m I e f _ t _ l.ag (hM.trans (V.trans l.le)) (B.call P) ω (qQ _) (qe (t1.mono l.le) (t2.mono l.le))) λr h' O=>⟨O.1,rfl,O.2⟩;have e1:=ta (S++J8 (v.WT.take m) v.XK (DB S)) λk=>Qy v.WT[m] k++[(gE v.XK[m],(k:Int))];have e2:=ta (ff (S++J8 (v.WT.take m) v.XK (DB S))++Qy v.WT[m] (ff (S++J8 (v.WT.take m) v.XK (DB S))).length) λ_=>[(gE v.XK[m],((ff (S++J8 (v.WT.take m) v.XK (DB S))).length:Int))];rw[e2,ZL,e1,ZL,YM,<-AX I Y]at B3;exact B3;grind [qo]
    have Z:∀(p:zb) (s:Fr) (xk xi:Sl),wr y J p s->RdV s .tree (.mk 4 v.XK[m] [] []) (.agg #[ab0 4,aa6 v.XK[m],aK xk,aK xi])->∀{K:vvv},(∀e f,wr y J e f->wr p s e f->K (aa6 (Qx (.mk 4 v.XK[m] [] [])).1) e) ->
     aa4 97 #[.agg #[ab0 4,aa6 v.XK[m],aK xk,aK xi]] p K:=λp s xk xi D O K hK=>by
     refine(yK hg hb ax (R:=λr=>r=(Qx (.mk 4 v.XK[m] [] [])).1) rfl).go (vs:=[.agg #[ab0 4,aa6 v.XK[m],aK xk,aK xi]]) (hM.trans (V.trans D.le)) D.ag (zn O zw) λw e f r l N O=>?_;subst O;rw[gu N];exact hK e f (D.trans l) l
    have off:∀{K:vvv},(∀p s xk xi,wr y J p s->RdV s .tree (.mk 4 v.XK[m] [] []) (.agg #[ab0 4,aa6 v.XK[m],aK xk,aK xi])->K (.agg #[ab0 4,aa6 v.XK[m],aK xk,aK xi]) p)->aa4 98 #[aa6 v.XK[m]] y K:=λ {K} hK=>by refine(show aa5 gl 98 [qr .str v.XK[m]] [.tree] (λr=>r=.mk 4 v.XK[m] [] [])from by apply S0;rfl).go (hM.trans V) E.ag (zn (a:=qr .str _) (DH _) zw) λw p s r D N O=>?_;subst O;have O:=Yu.1 N;grind [yg]
    have U:qb ((⟨#[107]⟩:Bt).size+(Qx (.mk 4 v.XK[m] [] [])).1.size):=by have h1:=hsm.key (YY Y);unfold Qx;rw[zi (tW aj),xx];show qb ((bl [107]).size+(bl (eY (lb v.XK[m])).1).size);have:=qJ (lb v.XK[m]);exact Xr η
    have aI:b<y.size:=χ B.ltb
    have G:∀(e:zb) (f:Fr),wr y J e f->e[h.size]?=y[h.size]?:=λe f L=>L.aa1.get _ ω;refine⟨off λp s xk xi D O=>⟨_,_,xk,xi,rfl,G p s D,?_,G p s D,?_⟩,rfl,rfl,rfl,off λp s xk xi D O=>⟨_,_,xk,xi,rfl,G p s D,?_⟩⟩;exact Z p s xk xi D O λe f l _=>⟨_,rfl,U,G e f l,G e f l,tail e f _ l rfl⟩;exact Z p s xk xi D O λe f l _=>⟨_,rfl,U,G e f l,tail e f _ l rfl⟩;exact Z p s xk xi D O λe f l _=>⟨_,rfl,U,G e f l,tail e f _ l rfl⟩
   grind
  have h5:v.Wf≠5:=ψ h5
  have h6:v.Wf≠6:=ψ h6
  refine⟨Td ⟨b,0,Te⟩,P2.cell (o:=0) rfl,v.Wf,v.aa0,sk,si,T2.ld (cs:=[_,_,aK sk,aK si]),?_⟩;refine(yK hg hb hsm (R:=λr=>r=(Qx v).1) rfl).go (vs:=[.agg #[ab0 v.Wf,aa6 v.aa0,aK sk,aK si]]) hM L2.ag (zn hu zw) λw az aF r an N O=>?_;subst O;rw[gu N,GM z.1 h5 h6];refine⟨_,rfl,an.aa1.get h.size ω,?_⟩;refine fin [] (fy v) _ _ θ κ (λh' M' H=>?_) az aF an;show XC _ _ #[] _ _;apply X7;exact⟨rfl,M',bs,Grw.refl H.ag,by rw[ZY,mi hS];exact aa.call H⟩
end
end
section
open Go.Lib
variable {n i:Nat}
def aR(L:List Int)(i:Nat):Int:=L.getD i 0
def gO(L:List Int)(j:Nat):Bool:=hV (0<=aR L j)&&hV (aR L j<=j)&&(zac j).all λi=>!(hV (aR L j<=(i:Int))&&hV (aR L i<aR L j))
def fJ(L:List Int)(j:Nat):Bool:=(zac j).all (gO L)
def qc(t:List Bt×List Int):Bool:=hV (t.1.length=t.2.length)&&hV (t.1.length<=512)&&fJ t.2 t.2.length
def Jf(L:List Int)(n i:Nat):Int:=match (zac n).find? λj=>decide (i<j)&&hV (aR L j<=(i:Int))with
 |some j=>(j:Int)
 |none=>-1
def Qg(L:List Int):List Int:=(zac L.length).map (Jf L L.length)
def Jg(L:List Int)(j:Nat):List Nat:=(zac j).filter λi=>decide (Jf L j i<0)
def jo{L:ac7}{j:Nat}:gO L j=Ta↔0<=aR L j/\aR L j<=j/\∀i,i<j->aR L j<=(i:Int)->aR L j<=aR L i:=by unfold gO;grind
theorem Qj{L:ac7}{j:Nat}:fJ L j=Ta↔∀i,i<j->gO L i=Ta:=by unfold fJ;simp
def Cm{L:ac7}{j:Nat}(h:fJ L j=Ta)(h2:gO L j=Ta):fJ L (j+1)=Ta:=by grind [Qj]
def YA{p:Nat->Bool}:∀{n j:Nat},(zac n).find? p=Td j->j<n/\p j=Ta/\∀i,i<j->p i=Tc:=θ
theorem jv(L:ac7)(n i:Nat):(Jf L n i=-1/\∀j,i<j->j<n->(i:Int)<aR L j)\/∃p:Nat,Jf L n i=(p:Int)/\i<p/\p<n/\aR L p<=(i:Int)/\∀j,i<j->j<p->(i:Int)<aR L j:=by
 unfold Jf;cases e:(zac n).find? λj=>decide (i<j)&&hV (aR L j<=(i:Int))with
 |none=>simp_all
 |some p=>have⟨h1,h2,b⟩:=YA e;grind
theorem sZ{L:ac7}{n i p:Nat}(h1:i<p)(h2:p<n)(c:aR L p<=(i:Int))(b:∀j,i<j->j<p->(i:Int)<aR L j):Jf L n i=(p:Int):=by grind [jv]
theorem GK{L:ac7}(h:∀j,i<j->j<n->(i:Int)<aR L j):Jf L n i=-1:=by grind [jv]
theorem Aa(L:ac7)(n i:Nat)(hi:i<n):Jf L (n+1) i=ite (Jf L n i<0/\aR L n<=(i:Int)) (n:Int) (Jf L n i):=by obtain⟨e,h⟩|⟨p,e,a,b,c,d⟩:=jv L n i;by_cases f:aR L n<=(i:Int);rw[zi ⟨ω,f⟩];grind [sZ];rw[za (λq=>f q.2),e];grind [GK];rw[za (λq=>ω),e];exact sZ a ω c d
theorem uR(L:ac7)(n:Nat):Jf L (n+1) n=-1:=GK λj h1 h2=>ω
def AU{L:ac7}{j:Nat}(h:fJ L j=Ta):∀(k i:Nat),j-i<=k->i<j->∃r,r<j/\Jf L j r=-1/\i<=r/\aR L r<=aR L i
 |0,i,hk,hi=>ω
 |k+1,i,hk,hi=>by obtain⟨e,_⟩|⟨p,e,a,b,c,_⟩:=jv L j i;grind;have⟨r,l,m,f,n⟩:=AU h k p ω b;rw[Qj]at h;have:=(jo.1 (h p b)).2.2 i a c;grind
theorem yN{L:ac7}{j i:Nat}:i∈Jg L j↔i<j/\Jf L j i=-1:=by unfold Jg;rw[List.mem_filter,zaz,zA];grind [jv]
def YD{L:ac7}{j:Nat}(h:fJ L j=Ta)(h0:0<=aR L j)(h1:aR L j<=j)(h2:∀r∈Jg L j,aR L j<=(r:Int)->aR L j<=aR L r):gO L j=Ta:=by refine jo.2 ⟨h0,h1,λi hi k=>?_⟩;have⟨r,c,b,f,e⟩:=AU h (j-i) i (YJ _) hi;have:=h2 r (yN.2 ⟨c,b⟩) ω;omega
theorem JJ(L:ac7)(j:Nat):Jg L (j+1)=(Jg L j).filter (λi:Nat=>decide ((i:Int)<aR L j))++[j]:=by unfold Jg;rw[zbv,List.filter_append,List.filter_filter];congr 1;refine List.filter_congr λi hi=>?_;rw[zaz]at hi;rw[Aa L j i hi,ZI,YR,zA,zA,zA];omega;rw[zbl,zi (by rw[uR];decide)];rfl
def Vb(L:ac7)(j:Nat):(Jg L j).Pairwise (· < ·):=by unfold Jg;exact zdk.sublist List.filter_sublist zc1
def Gd:∀{l:ab1},l.Pairwise (· < ·)->∀{x:Int} {m:Nat},m<=DB l->(∀i (h:i<DB l),i<m->(l[i]:Int)<x)->(∀i (h:i<DB l),m<=i->x<=(l[i]:Int))->l.filter (λi:Nat=>decide ((i:Int)<x))=l.take m
 |[],_,x,m,_,_,_=>ξ
 |a::l,hp,x,m,hm,h1,h2=>by
  cases m with
  |zero=>rw[zco,List.filter_eq_nil_iff];intro b c;obtain⟨i,hi,rfl⟩:=zbt.1 c;simp_all
  |succ m=>rw[zbl,zi (by have:=h1 0 ξ ω;grind),zcj];congr 1;exact Gd (za4.1 hp).2 (ψ hm) (λi h hi=>η) (λi h hi=>by have:=h2 (i+1) (ψ h) ω;grind)
def FN{L:ac7}(h:i<DB L):L[i]?=Td (aR L i):=by unfold aR;simp_all
theorem qH{L:ac7}(h:i<DB L):(Qg L)[i]?=Td (Jf L (DB L) i):=by unfold Qg;simp_all
theorem xo(L:ac7):(Qg L).length=DB L:=by unfold Qg;simp
end
section
open Go.RowKit
variable {M:Fr} {a b:Ty} {h g:zb} {n q bo bt i:Nat} {ts:Sl} {ct:Array Value}
def mn{x:El (.row a)×El (.row b)}{u:Value}(h:RdV M (.pair (.row a) (.row b)) x u):∃s1 s2:Sl,u=.agg #[aK s1,aK s2]/\Rd M (.row a) x.1 [aK s1]/\Rd M (.row b) x.2 [aK s2]:=by unfold RdV at h;simp only[fh,if_true]at h;obtain⟨cs,rfl,c1,c2,rfl,h1,h2⟩:=h;obtain⟨i,rfl,e⟩:=h1;obtain⟨f,rfl,c⟩:=h2;obtain⟨s1,rfl,l⟩:=lr (M:=M) (t:=a) (xs:=x.1) ((eC rfl).2 ⟨i,rfl,e⟩);obtain⟨s2,rfl,k⟩:=lr (M:=M) (t:=b) (xs:=x.2) ((eC rfl).2 ⟨f,rfl,c⟩);grind
def xg{x:El (.row a)×El (.row b)}{s1 s2:Sl}(h1:Rd M (.row a) x.1 [aK s1])(h2:Rd M (.row b) x.2 [aK s2]):RdV M (.pair (.row a) (.row b)) x (.agg #[aK s1,aK s2]):=by unfold RdV;simp only[fh,if_true];exact⟨[_,_],rfl,[_],[_],rfl,h1,h2⟩
theorem LX(z:Value)(n:Nat):madeCells #[z] n=(zay n z).toArray:=by apply Array.ext;simp[madeCells];intro i h1 h2;simp[madeCells,Nat.mod_one]
def AY{t e:TypeId}{z:Value}{bytes:Nat}(E:GS Tp t e z 1 bytes)(o:z.cells=#[z])(f:bytes<=1000)(p:n<=1000000){K:vvv}(m:K (aK ⟨Td (aa8 h),n,n⟩) (h.push (.cells (zay n z).toArray e))):CA Tp (Instr.makeSlice t (ab0 (n:Int)) (ab0 (n:Int))) h K:=by intro B d;have⟨i,hi,b,l,k⟩:=E.info;have q:(bytes:Int)*(n:Int)<=1000*1000000:=Int.mul_le_mul ω ω ω ω;have c:=run_make (P:=Tp) (mk B d h) t e i z E.slice hi b .i64 .i64 (n:Int) (n:Int) ω (Int.le_refl _) (ο k) ω;rw[YL,l,zbf,o,LX]at c;exact⟨_,_,_,c,m⟩
theorem CR.pop{els:List (List Value)}{sl:Sl}{b:Nat}{cs:ab3}(H:CR g 1 els sl b cs)(f:q<=DB els):CR g 1 (els.take q) ⟨sl.a,q,sl.cap⟩ b cs:=by have h:=H.ln;have c:=H.ro.le;refine⟨⟨η,?_⟩,θ,λi e hi=>?_⟩;obtain⟨h1,h2⟩|h1:=H.ro.at_;grind;grind;rw[List.getElem?_take]at hi;split at hi;exact H.el i e hi;cases hi
structure ParI (h:zb) (n bo:Nat) (T:List Nat) (outs:List Int) (ts:Sl) (bt:Nat) (ct:Array Value) (g:zb):Prop where
 k:Bk bo h g
 out:Blk g bo (outs.map (zad .i64)).toArray
 ln:outs.length=n
 top:CR g 1 (T.map λi:Nat=>[zad .i64 (i:Int)]) ts bt ct
 hb:bo<bt
theorem ParI.len{T:ab1}{outs:ac7}(S:ParI h n bo T outs ts bt ct g):ts.len=DB T:=by rw[S.top.ln,YO]
theorem ParI.cell{T:ab1}{outs:ac7}(S:ParI h n bo T outs ts bt ct g)(hi:i<DB T):ts.a=Td ⟨bt,0,Te⟩/\zd g ⟨bt,0+i,Te⟩=Td (ab0 ((T[i]:Nat):Int)):=by
 have b:(T.map λi:Nat=>[zad .i64 (i:Int)])≠[]:=λe=>θ
 have⟨c,B⟩:=S.top.blk b;have⟨_,f⟩:=S.top.el i [ab0 ((T[i]:Nat):Int)] θ;refine⟨c,B.cell ?_⟩;have:=oS f (q:=0) ω;simp_all
theorem ParI.set{T:ab1}{outs:ac7}(S:ParI h n bo T outs ts bt ct g)(hi:i<n){x:Int}{K:zb->Prop}(l:∀g',ParI h n bo T (outs.set i x) ts bt ct g'->g'.size=g.size->K g'):wf Tp (YI 3 (.pointer (Td ((⟨bo,0,Te⟩:n8).add (i*1)))) (ab0 x)) g K:=by have b:=S.ln;have c:=S.hb;rw[zl,ZO,zbf];refine qj iS κ S.out φ rfl λg' m e f'=>l g' ⟨⟨χ S.k.size,λj f=>(f' j ω).trans (S.k.get j f)⟩,?_,θ,S.top.frame λ_=>f' bt ω,c⟩ e;simp_all
theorem N2{s:Sl}{i:Int}(h1:i=(q:Int)):(⟨eL s.a 1 (0:Int).toNat ((s.cap:Nat):Int).toNat,i.toNat-(0:Int).toNat,((s.cap:Nat):Int).toNat-(0:Int).toNat⟩:Sl)=⟨s.a,q,s.cap⟩:=by simp_all[HF]
def xP{gl:Fr}{t:List Bt×List Int}{R:List Int×Bool->Prop}(hR:R (ite (qc t=Ta) (Qg t.2,Ta) ([],Tc))):aa5 gl 60 [qr (.pair (.row .str) (.row q0)) t] [.row q0,.bool] R:=by
 intro h M vs hM ag ha
 match vs,ha with
 |[u],⟨hu,_⟩=>
  obtain⟨s1,s2,rfl,r1,r2⟩:=mn (show RdV M (.pair (.row .str) (.row q0)) t u from hu);apply PX.of;have⟨l1,_,_⟩:=Bx r1;have⟨l2,b2,_⟩:=Bx r2;apply Kr s1 s2;intro h1;have⟨k1,z1,D⟩:=yp (g:=h1) rfl;clear_value h1;have bad:∀g:zb,qc t=Tc->Bk h.size h g->∃M' r,wr h M g M'/\x7 M' [.row q0,.bool] r (.tuple #[.slice Te 0 0,aa9 Tc])/\R r:=λg e k=>⟨M,([],Tc),up ag k,⟨[_,_],⟨_,_,rfl,(eC rfl).2 J5,_,rfl,Fk _⟩,rfl⟩,θ⟩;refine⟨s1,D.aa2 (o:=0) (k:=0) rfl,s2,D.aa2 (o:=0) (k:=1) rfl,s1,λ_=>D.aa2 (o:=0) (k:=0) rfl,λf=>?_,λf=>?_⟩;refine bad _ ?_ k1;cases l:qc t with
  |false=>rfl
  |true=>unfold qc at l;grind
  have s:s1.len=s2.len:=by by_cases e:s1.len=s2.len;exact e;grind
  have aA:s1.len<=512:=by
   have:((s1.len:Int) != (s2.len:Int))=Tc:=φ
   rw[this]at f;have:=zC f;omega
  refine⟨s2,D.aa2 (o:=0) (k:=1) rfl,?_⟩;refine AY (E:=(lc:GS _ _ _ _ 1 8)) rfl ω ω ⟨⟨Td (aa8 h1),s2.len,s2.len⟩,rfl,s2,?_,?_⟩;exact(D.keepN (n:=h1.size) (rg _ _ (YJ _)) ω).aa2 (o:=0) (k:=1) rfl;obtain⟨L,I⟩:∃L,L=t.2:=⟨_,rfl⟩;have hn:L.length=s2.len:=by rw[I,l2]
  have nr:∀m,m<DB L->gO L m=Tc->qc t=Tc:=λm hm e=>by
   cases l:qc t with
   |false=>rfl
   |true=>unfold qc at l;simp only[YR,zA]at l;rw[I]at hm e;have:=Qj.1 l.2 m hm;simp_all
  refine⟨λts j g=>∃(m:Nat) (outs:ac7) (bt:Nat) (ct:ab3),j=(m:Int)/\m<=DB L/\fJ L m=Ta/\ParI h1 (DB L) h1.size (Jg L m) outs ts bt ct g/\∀i,i<m->outs[i]?=Td (Jf L m i),λ_ j _=>DB L-j.toNat,?_,?_⟩;refine⟨0,zay (DB L) 0,h1.size+1,#[],rfl,ZQ _,rfl,⟨rg _ _ (YJ _),?_,zb3,⟨⟨ZQ _,.inl ⟨rfl,rfl⟩⟩,rfl,λi e hi=>by simp[Jg]at hi⟩,ω⟩,λi hi=>ω⟩;rw[List.map_replicate,hn];exact Blk.new _ _ _;rintro ts j g ⟨m,outs,bt,ct,rfl,hm,O,S,hv⟩;refine⟨λf=>?_,λf=>?_⟩;have s:m<DB L:=χ (zB f)
  have G:Bk h.size h g:=k1.trans S.k ω;have Y:AgM M g:=ag.aa1 G;have⟨b,o,e1,J⟩:=hP Y r2 (k:=m) ω;have hx:t.2[m]' ω=aR L m:=by subst I;unfold aR;rw[zaf,YS s];rfl
  rw[hx]at J;refine⟨⟨b,o,Te⟩,⟨e1,ω,ω⟩,aR L m,by rw[zm,YL];exact J,λh3=>?_,λh3=>?_⟩;refine bad _ (nr m s ?_) G;cases e:gO L m with
  |false=>rfl
  |true=>have⟨a1,a2,_⟩:=jo.1 e;grind
  have a0:0<=aR L m:=by by_cases e:aR L m<0;simp_all;omega
  have a1:aR L m<=m:=by rw[zE (show¬aR L m<0 by omega)]at h3;have:=zC h3;omega
  generalize C:aR L m=lf at *;have hT:∀k,(V:k<(Jg L m).length)->(Jg L m)[k]<m:=λk V=>(yN.1 (YY V)).1;refine⟨λts g=>∃(q:Nat) (outs:ac7) (ct:ab3),q<=(Jg L m).length/\ParI h1 (DB L) h1.size ((Jg L m).take q) outs ts bt ct g/\(∀i,i<m->outs[i]?=Td (ite (i∈(Jg L m).drop q) (m:Int) (Jf L m i)))/\∀r∈(Jg L m).drop q,lf<=(r:Int)/\lf<=aR L r,λts _=>ts.len,?_,?_⟩;exact⟨(Jg L m).length,outs,ct,YJ _,θ,λi hi=>θ,λr l=>θ⟩;rintro d g' ⟨q,B,A,hq,x,U,hp⟩;have aB:d.len=q:=by rw[x.len,ZV,zci hq]
  have N:Bk h.size h g':=k1.trans x.k ω;have an:=x.top.ro.le;have aC:m<=512:=ω
  have ar:q<=512:=by
   have:(Jg L m).length<=m:=by unfold Jg;exact zbd (List.length_filter_le _ _) ξ
   omega
  obtain⟨k,V⟩:∃k,k=(Jg L m).getD (q-1) 0:=⟨_,rfl⟩;obtain⟨a,p1⟩:∃a:n8,0<q->d.a=Td a/\zd g' (a.add ((q-1)*1))=Td (ab0 (k:Int)):=by by_cases h0:0<q;have⟨e3,e4⟩:=x.cell (i:=q-1) η;refine⟨_,λ_=>⟨e3,?_⟩⟩;rw[zl,zbf,e4,List.getElem_take,V,zaf,YS ω];rfl;exact⟨⟨0,0,Te⟩,λh=>absurd h h0⟩
  have w:0<q->p3 (((d.len:Nat):Int)-1)=((q-1:Nat):Int):=λh0=>by rw[Fm ω ω];omega
  have ae:0<q->k<m/\k∈Jg L m/\(Jg L m).drop (q-1)=k::(Jg L m).drop q:=λh0=>by grind [ZG]
  refine⟨a,λf=>?_,(k:Int),λf=>?_,λf=>?_,λf=>?_⟩;grind;have h0:0<q:=χ (zB f)
  rw[w h0,YL];exact(p1 h0).2;have h0:0<q:=by by_cases e:0<q;exact e;rw[zE (show¬((d.len:Nat):Int)>0 by omega)]at f;cases f
  rw[zD (show((d.len:Nat):Int)>0 by omega)]at f;have au:lf<=(k:Int):=χ (zB f)
  have⟨am,ax,H⟩:=ae h0;have w:=w h0;have⟨b3,o3,e3,e4⟩:=hP (ag.aa1 N) r2 (k:=k) ω;have ak:t.2[k]' ω=aR L k:=by subst I;unfold aR;rw[zaf,YS ω];rfl
  rw[ak]at e4;refine⟨a,⟨(p1 h0).1,ο w,ο w⟩,(k:Int),by rw[w,YL];exact(p1 h0).2,s2,(D.keepN x.k ω).aa2 (o:=0) (k:=1) rfl,⟨b3,o3,Te⟩,⟨e3,ω,ω⟩,aR L k,by rw[zm,YL];exact e4,λh4=>?_,λh4=>?_⟩;refine bad _ (nr m s ?_) N;cases e:gO L m with
  |false=>rfl
  |true=>have:=(jo.1 e).2.2 k am ω;grind
  have h5:lf<=aR L k:=χ (zC h4)
  have ai:q<=d.cap:=ω
  have P:(0:Int)<=0/\0<=p3 (((d.len:Nat):Int)-1)/\p3 (((d.len:Nat):Int)-1)<=((d.cap:Nat):Int)/\((d.cap:Nat):Int)<=((d.cap:Nat):Int):=ο w
  have Q:∀z,ParI h1 (DB L) h1.size ((Jg L m).take q) (B.set k (m:Int)) d bt A z->(∃(q2:Nat) (outs:ac7) (ct:ab3),q2<=(Jg L m).length/\ParI h1 (DB L) h1.size ((Jg L m).take q2) outs ⟨eL d.a 1 (0:Int).toNat ((d.cap:Nat):Int).toNat,(p3 (((d.len:Nat):Int)-1)).toNat-(0:Int).toNat,((d.cap:Nat):Int).toNat-(0:Int).toNat⟩ bt ct z/\(∀i,i<m->outs[i]?=Td (ite (i∈(Jg L m).drop q2) (m:Int) (Jf L m i)))/\∀r∈(Jg L m).drop q2,lf<=(r:Int)/\lf<=aR L r)/\(p3 (((d.len:Nat):Int)-1)).toNat-(0:Int).toNat<d.len:=λz c=>by rw[N2 w];refine⟨⟨q-1,_,A,ω,⟨c.k,c.out,c.ln,?_,c.hb⟩,λi hi=>?_,λr l=>?_⟩,ο w⟩;have:=c.top.pop (q:=q-1) η;grind [List.map_take];rw[List.getElem?_set,H];by_cases e:k=i;grind;rw[za e,U i hi];congr 1;by_cases J:i∈(Jg L m).drop q;grind;grind;rw[H]at l;obtain rfl|l:=YT.1 l;omega;grind
  refine⟨(aa8 h1),⟨rfl,ω,η⟩,⟨.inl rfl,P,?_⟩,?_⟩;rw[YL];exact x.set ω λz c _=>Q z c;rw[YL];exact x.set ω λz c _=>⟨.inl rfl,P,Q z c⟩;have F:0<q->(k:Int)<lf:=λh0=>η
  have y:=Vb L m;have Z:(Jg L m).filter (λi:Nat=>decide ((i:Int)<aR L m))=(Jg L m).take q:=by
   rw[C];refine Gd y hq (λi hi af=>?_) λi hi af=>?_;have h0:0<q:=ω
   have h1:=F h0;have e:k=(Jg L m)[q-1]' ω:=by rw[V,zaf,YS ω];rfl
   obtain h2|h2:=Nat.lt_or_ge i (q-1);have:=List.pairwise_iff_getElem.1 y i (q-1) hi ω h2;omega;grind;exact(hp _ (by rw[List.mem_drop_iff_getElem];exact⟨i-q,ω,by congr 1;omega⟩)).1
  have ab:gO L m=Ta:=YD O ω ω λr l aj=>by
   rw[C]at aj ⊢;have az:r∉(Jg L m).take q:=λh=>η
   rw[<-zba q (Jg L m)]at l;grind
  refine⟨(aa8 h1),⟨rfl,ω,η⟩,?_⟩;rw[YL];refine x.set ω λz c z2=>?_;intro g3;have⟨k3,z3,B3⟩:=yp (g:=g3) rfl;clear_value g3;have aE:=c.k.size;have ay:=c.out.lt;have ap:=c.hb;have T3:CR g3 1 (((Jg L m).take q).map λi:Nat=>[zad .i64 (i:Int)]) d bt A:=c.top.frame λhx=>k3.get bt (by obtain⟨e5,e6⟩|⟨_,e6,_⟩:=c.top.ro.at_;grind;exact e6.lt);refine CR.app (E:=(lc:GS _ _ _ _ 1 8)) ω T3 B3 rfl (by intro u hu;simp at hu;rw[hu];rfl) η λs' g4 b' c4 T4 z4 w4 l4 f4=>⟨s',rfl,⟨m+1,_,b',c4,by rw[Fm ω ω];omega,s,Cm O ab,⟨⟨ω,λj hj=>?_⟩,?_,c.ln,?_,?_⟩,λi hi=>?_⟩,?_⟩;rw[f4 j ω ω,k3.get j ω];exact c.k.get j hj;refine c.out.aa1 ?_;rw[f4 h1.size ω ω,k3.get _ ω];rw[JJ,Z,zaa];exact T4;omega;rw[List.getElem?_set];by_cases e:m=i;subst e;rw[zi rfl,zi (by rw[x.ln];exact s),uR];rw[za e,U i ω,Aa L m i ω,C];congr 1;have aa:i∈Jg L m↔Jf L m i<0:=by rw[yN];obtain⟨e7,_⟩|⟨p,e7,_⟩:=jv L m i;omega;omega
  by_cases J:i∈(Jg L m).drop q;grind;rw[za J,za];rintro⟨h6,h7⟩;have h8:=aa.2 h6;rw[<-zba q (Jg L m)]at h8;grind;grind [qo,YL];have ah:m=DB L:=χ (zC f)
  subst ah;have l:qc t=Ta:=by unfold qc;simp only[YR,zA];exact⟨⟨ω,ω⟩,θ⟩
  rw[l]at hR;have G:Bk h.size h g:=k1.trans S.k ω;have Y:AgM M g:=ag.aa1 G;have ho:outs=Qg t.2:=by rw[<-I];apply zar;intro i;by_cases hi:i<DB L;rw[hv i hi,qH hi];rw[zcp (by rw[S.ln];omega),zcp (by rw[xo];omega)]
  refine⟨MxL M g [h1.size],(outs,Ta),MxL.later ag G θ,⟨[_,_],⟨_,_,rfl,(eC rfl).2 ⟨_,rfl,Td (aa8 h1),s2.len,?_,⟨?_,?_⟩,.inr ⟨h1.size,0,_,rfl,MxL.at ξ S.out,λi hi=>?_⟩⟩,_,rfl,Fk _⟩,rfl⟩,η⟩;show zb2 _ _ _=zb2 _ _ _;rw[S.ln,hn];show (DB outs)<=_;rw[S.ln];omega;show (DB outs)<=_;rw[S.ln];omega;show cut (outs.map (zad .i64)).toArray (0+i*1) 1=[zad .i64 outs[i]];refine X0 rfl λq hq=>?_;simp_all
end
section
open Go.ChangeMaps
variable {P:Program} {kt:TypeId}
def ka(l:List (Int×Value))(k:Int):Option Value:=match l with
 |[]=>Te
 |p::l=>if p.1=k then Td p.2 else ka l k
def jN(l:List (Int×Value))(k:Int)(v:Value):List (Int×Value):=match l with
 |[]=>[(k,v)]
 |p::l=>if p.1=k then(k,v)::l else p::jN l k v
def iA(l:List (Int×Value)):List (Value×Value):=l.map λp=>(zad .i64 p.1,p.2)
structure MapTI (P:Program) (t kt et:TypeId):Prop where
 map:P.underlying t=Td (.map kt et)
 key:P.underlying kt=Td (.int .i64)
theorem HP(k:Int):∀(f:List MapEntry) (l:List (Int×Value)) (i:Nat),f.map (λe=>(e.key,e.val))=l.map (λp=>(zad .i64 p.1,p.2)) ->
  (ka l k=Te/\zb5 (.int .i64) (.int .i64 k) f i=Td Te)\/(∃j v e,ka l k=Td v/\f[j]?=Td e/\e.key=.int .i64 k/\e.val=v/\zb5 (.int .i64) (.int .i64 k) f i=Td (Td (i+j,v)) /\ ∀w,(f.modify j λe=>{ e with key:=.int .i64 k,val:=w }).map (λe=>(e.key,e.val))=(jN l k w).map λp=>(zad .i64 p.1,p.2))
 |[],l,i,h=>by
  have:l=[]:=by cases l <;> simp_all
  subst this;exact .inl ⟨rfl,rfl⟩
 |e::f,l,i,h=>by
  cases l with
  |nil=>simp at h
  |cons p l=>
   simp only[ZC,za7,za5]at h;obtain⟨⟨h1,h2⟩,o⟩:=h;by_cases c:p.1=k;refine .inr ⟨0,p.2,e,by simp[ka,c],rfl,by rw[h1,c],h2,?_,λw=>?_⟩;have b:(k==p.1)=Ta:=by simpa using c.symm
   simp[zb5,zdj,h1,h2,b];simp[jN,c,o];have b:(k==p.1)=Tc:=by simpa using λe=>c e.symm
   obtain⟨m,n⟩|⟨j,v,e',m,n,t,q,s,r⟩:=HP k f l (i+1) o;refine .inl ⟨by simp[ka,c,m],?_⟩;simp[zb5,zdj,h1,b,n];refine .inr ⟨j+1,v,e',by simp[ka,c,m],by simpa using n,t,q,?_,λw=>?_⟩;simp[zb5,zdj,h1,b,s];omega;simp[jN,c,h1,h2,r w]
def T7(c:P.underlying kt=Td (.int .i64))(b:Bool)(k:Int)(h:zb):At P (Instr.checkKey b 10000 kt (ab0 k)) h ():=by intro B d;have e:=ur (h:=h) c B d;unfold Instr.checkKey;simp_all
theorem EL(c:P.underlying kt=Td (.int .i64))(k:Int)(b:List MapEntry)(r:Option (Nat×Value))(h:zb)(e:zb5 (.int .i64) (ab0 k) b 0=Td r):At P (Instr.findKey kt (ab0 k) b) h r:=by intro B d;have f:=ur (h:=h) c B d;unfold Instr.findKey;simp_all
theorem Ll{l:List (Int×Value)}{k:Int}{v:Value}(g:ka l k=Te):jN l k v=l++[(k,v)]:=by
 induction l with
 |nil=>rfl
 |cons p l c=>simp only[ka]at g;split at g;cases g;rename_i b;simp[jN,b,c g]
def Nq{t kt et:TypeId}(T:MapTI P t kt et){h:zb}{m:Nat}{l:List (Int×Value)}(H:JT h m (iA l))(k:Int)(v:Value){K:zb->Prop}(w:∀h':zb,JT h' m (iA (jN l k v))->h'.size=h.size->(∀i,i≠m->h'[i]?=h[i]?)->K h'):wf P (zbk t (.map (Td m)) (ab0 k) v) h K:=by
 have f:=H.lt;have⟨b,c,h1,h2,J,G⟩:=H;intro B d;have z:=ur (h:=h) T.map B d;have u:=Yg (P:=P) h1 B d;have A:=T7 T.key Tc k h B d;have n:∀o:Obj,(setObj m o).run P (mk B d h)=.ok () (mk B d (h.setIfInBounds m o)):=by intro o;have:(mk B d h).heap[m]?=Td (.map b c):=h1;simp[setObj,Sem.run,this];rfl
 unfold zbk;obtain⟨y,q⟩|⟨j,M,e,y,q,F,I,E,C⟩:=HP k b.toList l 0 h2;refine⟨d,h.setIfInBounds m (.map (b.push { key:=.int .i64 k,val:=v,born:=c }) (c+1)),?_,w _ ⟨b.push { key:=.int .i64 k,val:=v,born:=c },c+1,ϑ f,?_,?_,?_⟩ ξ (λi hi=>η)⟩;rw[DM,z];simp only[D0,DM,u,A];rw[EL T.key k b.toList Te h q B d];simp_all;rw[Ll y];unfold iA at h2 ⊢;simp[h2];grind;grind;have x:j<b.size:=by have:=(ZN.1 q).1;simpa using this
 have s:((b.modify j λe=>{ e with key:=.int .i64 k,val:=v }).toList.map (·.born))=b.toList.map (·.born):=by apply zar;intro i;simp only[Array.toList_modify,zav,zax];by_cases D:j=i;simp_all;simp_all
 refine⟨d,_,?_,w (h.setIfInBounds m (.map (b.modify j λe=>{ e with key:=.int .i64 k,val:=v }) c)) ⟨b.modify j λe=>{ e with key:=.int .i64 k,val:=v },c,ϑ f,?_,?_,?_⟩ ξ (λi hi=>η)⟩;rw[DM,z];simp only[D0,DM,u,A];rw[EL T.key k b.toList _ h E B d];simp only[D0,ZO];have p:((b[j]?).map (·.key)).getD (ab0 k)=.int .i64 k:=by
  have:b[j]?=Td e:=ψ q
  rw[this];exact F
 rw[p];have L:zcn (ab0 k) (ab0 k)=pure (ab0 k):=by unfold zcn;rw[zi (by show((zaw==zaw)&&(k==k))=Ta;simp)]
 simp_all;have:=C v;unfold iA;grind;intro e' r;have:e'.born∈((b.modify j λe=>{ e with key:=.int .i64 k,val:=v }).toList.map (·.born)):=zab.2 ⟨e',r,rfl⟩;grind;simp_all
end
section
open Go.Lib
section
variable {i n:Nat}
def gG(L:List Int):List Nat:=(zac L.length).filter λi=>(zac L.length).all λj=>decide (j<=i)||decide (aR L j≠aR L i)
theorem LD{L:ac7}:i∈gG L↔i<DB L/\∀j,i<j->j<DB L->aR L j≠aR L i:=by unfold gG;grind
def FD(L:ac7):(gG L).Pairwise (· < ·):=by unfold gG;exact zdk.sublist List.filter_sublist zc1
def i3(L:List Int)(m:Nat):List Nat->List Nat
 |[]=>[m]
 |p::P=>if aR L p=aR L m then m::P else p::i3 L m P
def gL(L:List Int):Nat->List Nat
 |0=>[]
 |m+1=>i3 L m (gL L m)
def kI(L:List Int)(i:Nat):Int×Value:=(aR L i,.int .i64 (i:Int))
theorem Bz(L:ac7)(m:Nat):∀P:List Nat,jN (P.map (kI L)) (aR L m) (ab0 (m:Int))=(i3 L m P).map (kI L)
 |[]=>rfl
 |p::P=>by rw[ZC,jN,i3];by_cases h:aR L p=aR L m;rw[zi h,zi (show(kI L p).1=aR L m from h),ZC];rfl;rw[za h,za (show¬(kI L p).1=aR L m from h),ZC,Bz L m P]
theorem xI{L:ac7}{m:Nat}:∀{P:ab1},(P.map (aR L)).Nodup->∀i,i∈i3 L m P↔i=m\/(i∈P/\aR L i≠aR L m)
 |[],_,i=>by simp[i3]
 |p::P,hn,i=>by rw[ZC,zbh]at hn;rw[i3];by_cases h:aR L p=aR L m;grind;rw[za h,YT,YT,xI hn.2 i];grind
def FS{L:ac7}{m:Nat}:∀{P:ab1},(P.map (aR L)).Nodup->((i3 L m P).map (aR L)).Nodup
 |[],_=>by simp[i3]
 |p::P,hn=>by have f:=hn;rw[ZC,zbh]at hn;rw[i3];by_cases h:aR L p=aR L m;simp_all;rw[za h,ZC,zbh];refine⟨λb=>?_,FS hn.2⟩;have⟨q,c,e⟩:=zab.1 b;obtain rfl|⟨h2,_⟩:=(xI hn.2 q).1 c;omega;simp_all
def vz(L:ac7):∀m,((gL L m).map (aR L)).Nodup/\∀i,i∈gL L m↔i<m/\∀j,i<j->j<m->aR L j≠aR L i
 |0=>⟨zdq,λi=>by simp[gL]⟩
 |m+1=>by have⟨h1,h2⟩:=vz L m;refine⟨FS h1,λi=>?_⟩;rw[gL,xI h1,h2];grind
def Ec{α β:Type}{f:α->β}{l:List α}(h:(l.map f).Nodup):l.Nodup:=by
 induction l with
 |nil=>simp
 |cons x l b=>grind
def YF(L:ac7):(gL L (DB L)).Perm (gG L):=by have⟨h1,h2⟩:=vz L (DB L);refine(List.perm_ext_iff_of_nodup (Ec h1) ((FD L).imp λh=>Nat.ne_of_lt h)).2 λi=>?_;rw[h2,LD]
def zz(L:List Int)(n:Nat):List Nat:=(zac L.length).filter λi=>decide (Jf L L.length i=(n:Int))
theorem Y6{L:ac7}:i∈zz L n↔i<DB L/\Jf L (DB L) i=(n:Int):=by unfold zz;simp
theorem Y7{L:ac7}(h:fJ L (DB L)=Ta)(hi:i<DB L)(f:Jf L (DB L) i=(n:Int)):i<n/\n<DB L/\aR L n<=(i:Int)/\aR L n<=aR L i/\∀j,i<j->j<n->(i:Int)<aR L j:=by
 obtain⟨e,_⟩|⟨p,e,a,b,c,d⟩:=jv L (DB L) i;omega;have:p=n:=ω
 subst this;rw[Qj]at h;exact⟨a,b,c,(jo.1 (h p b)).2.2 i a c,d⟩
end
section
variable {n:Nat}
def OkX(n:Nat)(X:List (Bt×Int)):Prop:=∀j (h:j<X.length),(n:Int)<=X[j].2/\X[j].2<=((n+j:Nat):Int)/\∀i (hi:i<X.length),i<j->X[j].2<=((n+i:Nat):Int)->X[j].2<=X[i].2
theorem OkX.nil(n:Nat):OkX n []:=λj h=>absurd h (zcd j)
theorem OkX.app{X Y:List (Bt×Int)}(k:OkX n X)(l:OkX (n+DB X) Y):OkX n (X++Y):=by intro j e;rw[YM]at e;by_cases h1:j<DB X;rw[zb6 h1];have⟨a,b,c⟩:=k j h1;grind;rw[zb0 ω];have⟨a,b,c⟩:=l (j-DB X) ω;refine⟨ω,ω,λi hi f h=>?_⟩;by_cases h2:i<DB X;omega;rw[zb0 ω];exact c (i-DB X) ω ω ω
theorem OkX.root{X:List (Bt×Int)}(e:OkX n X)(s:Bt):OkX n (X++[(s,(n:Int))]):=by
 intro j f;rw[YM,zbp]at f;by_cases h1:j<DB X;rw[zb6 h1];have⟨a,b,c⟩:=e j h1;grind;have:j=DB X:=ω
 subst this;rw[zb0 (YJ _)];refine⟨ξ,φ,λi hi h k=>?_⟩;rw[zb6 ω];have:=(e i ω).1;grind
mutual
def pM:∀(v:Tr) (n:Nat),OkX n (Qy v n)
 |.mk k s ks xs,n=>by rw[Qy];refine OkX.root ?_ _;split;exact Gj xs ks n;split;exact D4 xs n;exact OkX.nil n
def D4:∀(l:List Tr) (n:Nat),OkX n (eH l n)
 |[],n=>by rw[eH];exact OkX.nil n
 |x::l,n=>by rw[eH];exact(pM x n).app (D4 l _)
def Gj:∀(l:List Tr) (ks:List Bt) (n:Nat),OkX n (J8 l ks n)
 |[],_,n=>by rw[J8];exact OkX.nil n
 |x::l,ks,n=>by rw[J8];have h1:=(pM x n).root (gE ks.head!);have h2:=h1.app (Y:=J8 l ks.tail (n+(Qy x n).length+1)) (by rw[YM,zbp,<-Nat.add_assoc];exact Gj l _ _);simp_all
end
def fM(X:List (Bt×Int)):List Bt×List Int:=(X.map (·.1),X.map (·.2))
def Kf{w:Tr}(h:xd w<=512):qc (fM (Qy w 0))=Ta:=by
 have k:=wa w 0;unfold qc fM;simp only[YR,zA,YO];refine⟨⟨ξ,ω⟩,Qj.2 λj f=>jo.2 ?_⟩;have e:∀i (hi:i<(Qy w 0).length),aR ((Qy w 0).map (·.2)) i=(Qy w 0)[i].2:=λi hi=>by unfold aR;grind
 have⟨a,b,c⟩:=pM w 0 j f;grind
def So(L:List Int):Nat->List Nat->Nat->Prop
 |a,[],r=>a=r
 |a,e::es,r=>a<e/\aR L (e-1)=(a:Int)/\(∀i,a<=i->i<e->(a:Int)<=aR L i)/\So L e es r
theorem So.le{L:ac7}:∀{b:ab1} {a r:Nat},So L a b r->a<=r/\(∀e∈b,a<e/\e<=r)/\b.Pairwise (· < ·)/\∀i,a<=i->i<r->(a:Int)<=aR L i
 |[],a,r,h=>by have h:a=r:=h;simp_all;omega
 |e::b,a,r,⟨h1,h2,h3,h4⟩=>by have⟨m,f,k,l⟩:=h4.le;refine⟨ω,λx c=>?_,za4.2 ⟨λx c=>(f x c).1,k⟩,λi hi n=>?_⟩;grind;grind
theorem So.par{L:ac7}{r:Nat}(f:r<DB L):∀{b:ab1} {a:Nat},So L a b r->aR L r<=(a:Int)->∀i,a<=i->i<r->(Jf L (DB L) i=(r:Int)↔i+1∈b)
 |[],a,h,_,i,h1,h2=>by have h:a=r:=h;omega
 |e::b,a,⟨h1,h2,h3,h4⟩,hl,i,hi,hir=>by have⟨m,o,p,l⟩:=h4.le;by_cases c:i<e;by_cases c2:i+1=e;grind [sZ];refine⟨λk=>?_,λn=>?_⟩;grind [jv];grind;rw[So.par f h4 ω i ω hir,YT];grind
theorem FJ:∀{a b:ab1},a.Pairwise (· < ·)->b.Pairwise (· < ·)->(∀i,i∈a↔i∈b)->a=b
 |[],[],_,_,_=>rfl
 |[],y::b,_,_,h=>absurd ((h y).2 ZD) ξ
 |x::a,[],_,_,h=>absurd ((h x).1 ZD) ξ
 |x::a,y::b,ha,hb,h=>by
  rw[za4]at ha hb;have c:x=y:=by have h1:=(h x).1 ZD;have h2:=(h y).2 ZD;obtain e|e:=YT.1 h1;exact e;grind
  subst c;rw[FJ ha.2 hb.2 λi=>?_];grind
def BC(L:ac7)(n:Nat):(zz L n).Pairwise (· < ·):=zdk.sublist List.filter_sublist zc1
theorem So.kids{L:ac7}{r a:Nat}{c:ab1}(b:r<DB L)(H:So L a c r)(w:aR L r=(a:Int)):zz L r=c.map λe=>e-1:=by
 have⟨u,k,n,o⟩:=H.le;refine FJ (BC L r) (List.pairwise_map.2 ?_) λi=>?_;exact zdk.imp_of_mem (λ {x y} B z h=>η) n;rw[Y6,zab];constructor;rintro⟨h1,h2⟩;have f:i<r/\a<=i:=by obtain⟨l,_⟩|⟨p,l,t,A,q,s⟩:=jv L (DB L) i;omega;grind
 exact⟨i+1,(H.par b ω i f.2 f.1).1 h2,ω⟩;rintro⟨e,m,rfl⟩;have:=k e m;exact⟨ω,(H.par b ω (e-1) ω ω).2 η⟩
end
end
section
open Go.RowKit
section
variable {g:zb} {b:Nat} {v:Tr}
def Uh:qq Tp 31=Ta:=κ
def UK:jk Tp 31=2:=κ
def X9{x y:Value}(B:Blk g b #[x,y]){s1 s2:Sl}{K:zb->Prop}(f:∀g',(∀j,j≠b->g'[j]?=g[j]?)->g'.size=g.size->Blk g' b #[aK s1,aK s2]->K g'):wf Tp (YI 31 (aa7 ⟨b,0,Te⟩) (.agg #[aK s1,aK s2])) g K:=by refine Jn (vs:=[aK s1,aK s2]) Uh B rfl UK (YJ _) (λu c=>?_) λg' e i h=>f g' h i e;simp at c;obtain rfl|rfl:=c <;> rfl
theorem wr.stay{h g g':zb}{M M':Fr}(L:wr h M g M')(l:h.size<=b)(k:M' b=Te)(f:∀j,j≠b->g'[j]?=g[j]?)(z:g'.size=g.size):wr h M g' M':= ⟨⟨χ L.aa1.size,λj i=>by rw[f j ω];exact L.aa1.get j i⟩,L.le,L.old,λc cs e=>by rw[f c (λh=>by subst h;rw[k]at e;cases e)];exact L.ag c cs e⟩
def fX(v:Tr):(List Bt×List Int)×Int:=if qh v=Ta then(if 512<xd (zh v)then(([],[]),6)else(fM (Qy (zh v) 0),0))else(([],[]),1)
theorem vC(h:qh v=Ta):jh v=zh v:=by unfold jh;rw[zi (Wz h)]
def FW{gl:Fr}(S:GL gl)(hb:Brn gl)(Z:Sm v){R:(List Bt×List Int)×Int->Prop}(s:R (fX v)):aa5 gl 14 [qr .tree v] [.pair (.row .str) (.row q0),.int .i64] R:=by
 intro h M vs Y ag ha
 match vs,ha with
 |[u],⟨N,_⟩=>
  have N:RdV M .tree v u:=N;have E:=N;obtain⟨sk,si,rfl,rk,ri⟩:=yg N;apply PX.of;apply YB v.Wf v.aa0 sk si;intro h1;have⟨k1,z1,B1⟩:=yp (g:=h1) rfl;clear_value h1;intro h2;have⟨k2,z2,R2⟩:=yp (g:=h2) rfl;clear_value h2;have B2:=B1.aa3 k2;have V:Bk h.size h h2:=k1.trans k2 ω;have L2:wr h M h2 M:=up ag V;have done:∀(g:zb) (M':Fr) (t:List Bt×List Int) (e:Int) (s1 s2:Sl),wr h2 M g M'->Rd M' (.row .str) t.1 [aK s1]->Rd M' (.row q0) t.2 [aK s2]->R (t,e) ->
   wf Tp (YI 31 (aa7 (aa8 h1)) (.agg #[aK s1,aK s2])) g λg'=>∃O P:Sl,zc g' (aa8 h1) 0 [aK O,aK P]/\∃M2 q,wr h M g' M2/\x7 M2 [.pair (.row .str) (.row q0),.int .i64] q (.tuple #[.agg #[aK O,aK P],ab0 e])/\R q:=by
   intro g M' t e s1 s2 L O P J;have nR:M' h1.size=Te:=by rw[L.old _ ω];exact ag.none ω
   refine X9 (R2.aa1 (L.aa1.get _ ω)) λg' f z B=>⟨s1,s2,B.ld (cs:=[aK s1,aK s2]),M',(t,e),wr.stay (L2.trans L) ω nR f z,⟨[_,_],⟨_,_,rfl,xg O P,_,rfl,Zj _ _⟩,rfl⟩,J⟩
  refine⟨v.Wf,v.aa0,sk,si,B2.ld (cs:=[_,_,aK sk,aK si]),?_⟩;refine(HO S Z (R:=λr=>r=qh v) rfl).go (vs:=[.agg #[ab0 v.Wf,aa6 v.aa0,aK sk,aK si]]) Y L2.ag (zn E zw) λw H M8 r F n J=>?_;subst J;refine⟨_,ez n,λp=>?_,λp=>?_⟩
  ·have p:qh v=Tc:=ψ p
   unfold fX at s;rw[za (υ p)]at s;exact done H M8 ([],[]) 1 ⟨Te,0,0⟩ ⟨Te,0,0⟩ F J5 J5 s
  have p:qh v=Ta:=ψ p
  unfold fX at s;rw[zi p]at s;have z8:=F.aa1.size;intro x;have⟨aa,ae,Q⟩:=yp (g:=x) rfl;clear_value x;have l:wr h2 M x M8:=F.trans (up F.ag aa);refine⟨v.Wf,v.aa0,sk,si,(B2.aa1 (l.aa1.get _ ω)).ld (cs:=[_,_,aK sk,aK si]),?_⟩;refine(Vo S Z (R:=λr=>r=jh v) rfl).go (vs:=[.agg #[ab0 v.Wf,aa6 v.aa0,aK sk,aK si]]) (Y.trans l.le) l.ag (zn (E.mono l.le) zw) λw G y r i n J=>?_;subst J;have D:=Yu.1 n;obtain⟨xk,xi,rfl,y1,y2⟩:=yg D;refine⟨_,_,xk,xi,rfl,?_⟩;have hs:=vC p;have ab:qh (jh v)=Ta:=by rw[BX];exact p
  have⟨q1,q2,q3,q4⟩:=Y5 ab;have af:=i.aa1.size;have nB:y H.size=Te:=by rw[i.old _ ω];exact F.ag.none ω
  have HB:Tb H.size G y H.size [] []:=⟨⟨Te,0,0⟩,⟨Te,0,0⟩,[],[],rfl,Q.aa1 (i.aa1.get _ ω),Fd.nil,Fd.nil,λc b=>(ε b),λb=>(ε b),λb=>(ε b),nB,YJ _⟩;refine XC.mono (Hg S hb (cK (jh v)) (jh v) ω (YJ _) q3 (Am Z) G y H.size [] [] _ i.ag (Y.trans (l.le.trans i.le)) HB ω (ZQ _) D) ?_;rintro w a ⟨rfl,A,bs,T,s1,s2,b1,b2,rfl,B⟩;rw[zal,ZW,hs]at B;have ah:=T.grow;have I:wr h2 M a A:=by have hk:=l.aa1;refine⟨⟨ω,λj hj=>?_⟩,l.le.trans (i.le.trans T.le),λc b=>?_,T.ag⟩;rw[T.fr j ω ω ξ,i.aa1.get j ω];exact hk.get j hj;rw[T.old c ω,i.old c ω];exact l.old c b
  have m:=B.r1.len;rw[YO]at m;have ai:=wa (zh v) 0;refine⟨rfl,s1,by rw[PA];exact B.box.aa2 (o:=0) (k:=0) rfl,λb=>?_,λb=>?_⟩
  ·have b:=zB b;have:512<xd (zh v):=by unfold ff at m;rw[ZV]at m;omega
   rw[zi this]at s;exact done a A ([],[]) 6 ⟨Te,0,0⟩ ⟨Te,0,0⟩ I J5 J5 s
  ·have b:=zC b;have:¬512<xd (zh v):=by unfold ff at m;rw[ZV]at m;omega
   rw[za this]at s;have C:=mi (X:=Qy (zh v) 0) ω;rw[C]at B;refine⟨s1,s2,by rw[PA];exact B.box.ld (cs:=[aK s1,aK s2]),?_⟩;have own:∀c∈b1++b2,h2.size<=c:=λc b=>by obtain h|h:=ZF.1 b;have:=(B.r1.own c h).1;omega;have:=(B.r2.own c h).1;omega
   have U:wr h2 M a (MxL A a (b1++b2)):=wr.own I own;exact done a _ (fM (Qy (zh v) 0)) 0 s1 s2 U (B.r1.rd T.ag (λc b=>YV _ b) (by rw[YO];omega)) (B.r2.rd T.ag (λc b=>ZH _ b) (by rw[YO];omega)) s
end
section
variable {x y:Bool} {a b:Int} {gl:Fr} {R:Bool -> Prop}
theorem ig(a b:Bt):(a.toList==b.toList)=hV (a=b):=by rw[Qp,Qp,ZI,beq_iff_eq,zA,oP]
theorem vd:(cond x Ta y)=Ta↔x=Ta\/y=Ta:=ξ
theorem iY:(cond x Ta y)=Tc↔x=Tc/\y=Tc:=ξ
def hX:(cond x y Tc)=Ta↔x=Ta/\y=Ta:=ξ
def kP:(cond x y Tc)=Tc↔x=Tc\/y=Tc:=η
def fo(h:hV (a<b)=Ta):a<b:=zB h
def fL(h:hV (a<b)=Tc):¬a<b:=zC h
def jG{L:ac7}{m:Nat}(h:m<DB L):(0:Int)<=(m:Int)/\L[((m:Nat):Int).toNat]?=Td (aR L m):=⟨ω,by rw[YL];exact FN h⟩
def Zx{t:List Bt×List Int}(h:qc t=Ta):t.1.length=DB t.2/\DB t.2<=512/\fJ t.2 (DB t.2)=Ta:=by unfold qc at h;grind
def wV{t:List Bt×List Int}(b:R (qc t)):aa5 gl 21 [qr (.pair (.row .str) (.row q0)) t] [.bool] R:=by apply JP;refine xP (t:=t) (R:=λr=>R r.2) ?_;grind
def vF{t:List Bt×List Int}{R:List Int->Prop}(b:R (ite (qc t=Ta) (Qg t.2) [])):aa5 gl 26 [qr (.pair (.row .str) (.row q0)) t] [.row q0] R:=by apply Sq;refine xP (t:=t) (R:=λr=>((!r.2)=Ta->R ([]:ac7))/\((!r.2)=Tc->R r.1)) ?_;grind
def sC{t:List Bt×List Int}(z:R (qc t)):aa5 gl 22 [qr (.pair (.row .str) (.row q0)) t] [.bool] R:=by
 apply Uu;refine⟨λn=>?_,λn=>?_⟩;have:qc t=Tc:=by
  cases h:qc t with
  |false=>rfl
  |true=>have⟨a,b,_⟩:=Zx h;grind
 simp_all;have⟨h1,h2⟩:=iY.1 n;have h1:(DB t.1:Int)=DB t.2:=ψ h1
 have h2:t.1.length<=512:=χ (zC h2)
 have key:∀b,fJ t.2 (DB t.2)=b->R b:=λb p=>by
  have:qc t=b:=by unfold qc;rw[p,zD (show (DB t.1)=t.2.length by omega),zD h2];rfl
  simp_all
 refine⟨λj=>∃m:Nat,j=m/\m<=DB t.2/\fJ t.2 m=Ta,λj=>DB t.2-j.toNat,⟨0,rfl,ZQ _,rfl⟩,?_⟩;rintro j ⟨m,rfl,x,ok⟩;refine⟨λn=>?_,λn=>?_⟩;have c:m<DB t.2:=χ (fo n)
 have bad:gO t.2 m=Tc->R Tc:=λp=>key Tc (by
  cases h:fJ t.2 (DB t.2) with
  |false=>rfl
  |true=>have:=Qj.1 h m c;simp_all)
 refine⟨aR t.2 m,jG c,aR t.2 m,λ_=>jG c,λl=>bad ?_,λl=>?_⟩;cases ho:gO t.2 m with
 |false=>rfl
 |true=>have⟨a,b,_⟩:=jo.1 ho;grind
 have⟨l,q⟩:=iY.1 l;have l:=fL l;have q:=zC q;refine⟨λi=>∃k:Nat,i=k/\k<=m/\∀r,r<k->aR t.2 m<=(r:Int)->aR t.2 m<=aR t.2 r,λi=>m-i.toNat,⟨0,rfl,ZQ _,λr w=>ω⟩,?_⟩;rintro i ⟨k,rfl,y,u⟩;refine⟨λe=>?_,λe=>?_⟩;have e:k<m:=χ (fo e)
 refine⟨aR t.2 m,jG c,aR t.2 m,λ_=>jG c,aR t.2 k,λ_=>jG ω,λf=>bad ?_,λf=>?_⟩;have⟨f,s⟩:=hX.1 f;have f:=zB f;have s:=zB s;cases ho:gO t.2 m with
 |false=>rfl
 |true=>have:=(jo.1 ho).2.2 k e f;omega
 rw[qo e ω];grind;have e:k=m:=χ (fL e)
 subst e;rw[qo c ω];exact⟨⟨k+1,rfl,ω,Cm ok (jo.2 ⟨ω,ω,λi hi o=>u i hi o⟩)⟩,η⟩;grind
def Sa{L:ac7}{q n i:Nat}(h:¬Jf L q i<0)(k:q<=n):Jf L n i=Jf L q i:=by obtain⟨e,_⟩|⟨p,e,f,l,b,c⟩:=jv L q i;omega;grind [sZ]
def uM{t:List Bt×List Int}{R:List Int->Prop}(l:R (ite (qc t=Ta) (Qg t.2) [])):aa5 gl 27 [qr (.pair (.row .str) (.row q0)) t] [.row q0] R:=by
 apply UO;refine sC (t:=t) ?_;cases hr:qc t with
 |false=>rw[hr]at l;refine⟨λo i=>o=[],λ_ _=>0,rfl,λo i u=>⟨λh=>?_,λ_=>?_⟩⟩;simp_all;simp_all
 |true=>
  rw[hr]at l;have⟨y,z,_⟩:=Zx hr;refine⟨λo i=>∃m:Nat,i=m/\m<=DB t.2/\o=(zac m).map (Jf t.2 (DB t.2)),λ_ i=>DB t.2-i.toNat,⟨0,rfl,ZQ _,rfl⟩,?_⟩;rintro o i ⟨m,rfl,x,rfl⟩;refine⟨λn=>?_,λn=>?_⟩;have c:m<DB t.2:=χ (fo (hX.1 n).1)
  rw[qo c ω];refine⟨λo p j=>∃q:Nat,j=q/\m+1<=q/\q<=DB t.2/\o=(zac m).map (Jf t.2 (DB t.2))/\p=Jf t.2 q m,λ_ _ j=>DB t.2-j.toNat,⟨m+1,rfl,YJ _,c,rfl,(uR _ _).symm⟩,?_⟩;rintro o p j ⟨q,rfl,h1,h2,rfl,rfl⟩;refine⟨λk=>?_,λk=>?_⟩;have⟨a,b⟩:=hX.1 k;have e:q<DB t.2:=χ (fo a)
  have b:=fo b;rw[qo e ω];have w:=Aa t.2 q m ω;refine⟨aR t.2 q,jG e,λs=>⟨⟨q+1,rfl,ω,e,rfl,?_⟩,η⟩,λs=>⟨⟨q+1,rfl,ω,e,rfl,?_⟩,η⟩⟩;simp_all;grind;have r:Jf t.2 q m=Jf t.2 (DB t.2) m:=by obtain h|h:=kP.1 k;grind;exact(Sa (fL h) h2).symm
  rw[r,YO,zc9,zbp];exact⟨ω,⟨m+1,rfl,c,by rw[zbv,zaa];rfl⟩,η⟩;have f:m=DB t.2:=by obtain h|h:=kP.1 n;grind;cases h
  rw[f];exact l
def j3(P:List Int)(m:Nat):List Nat:=(zac m).filter λi=>decide (aR P i<0)
def qY{P:ac7}(f:P.length<=1000000){R:List Int->Prop}(l:R ((j3 P (DB P)).map λi:Nat=>(i:Int))):∃(I:(List Int)->Int->Prop) (μ:(List Int)->Int->Nat),I ([]:ac7) 0/\∀out:List Int,∀x:Int,I out x->(((hV ((x:Int)<((za6 P:Nat):Int)))=Ta->∃y:Int,(0<=(x:Int)/\P[(x:Int).toNat]?=Td y)/\((hV ((y:Int)<0))=Ta->((za6 out+za6 ([x]:ac7))*8<=140737488355328/\(I (out++([x]:ac7)) (p3 (x+1))/\μ (out++([x]:ac7)) (p3 (x+1))<μ out x)))/\((hV ((y:Int)<0))=Tc->(I out (p3 (x+1))/\μ out (p3 (x+1))<μ out x)))/\((hV ((x:Int)<((za6 P:Nat):Int)))=Tc->R out)):=by
 refine⟨λo i=>∃m:Nat,i=m/\m<=DB P/\o=(j3 P m).map λi:Nat=>(i:Int),λ_ i=>DB P-i.toNat,⟨0,rfl,ZQ _,rfl⟩,?_⟩;rintro o i ⟨m,rfl,k,rfl⟩;refine⟨λc=>?_,λc=>?_⟩;have b:m<DB P:=χ (fo c)
 rw[qo b ω];have e:(j3 P m).length<=m:=by unfold j3;exact zbd (List.length_filter_le _ _) ξ
 refine⟨aR P m,jG b,λh=>⟨η,⟨m+1,rfl,b,?_⟩,η⟩,λh=>⟨⟨m+1,rfl,b,?_⟩,η⟩⟩;unfold j3;rw[zbv,List.filter_append,zbl,zi h,zaa];rfl;unfold j3;rw[zbv,List.filter_append,zbl,za (by rw[h];simp),List.filter_nil,ZY];grind
theorem Bn{t:List Bt×List Int}(h:qc t=Ta):j3 (Qg t.2) (Qg t.2).length=Jg t.2 (DB t.2):=by unfold j3 Jg;rw[xo];refine List.filter_congr λi hi=>?_;have:=FN (L:=Qg t.2) (i:=i) (by rw[xo];simp_all);rw[qH (zaz.1 hi)]at this;simp_all
def yX{t:List Bt×List Int}{R:List Int->Prop}(b:R (ite (qc t=Ta) ((Jg t.2 (DB t.2)).map (λi:Nat=>(i:Int))) [])):aa5 gl 24 [qr (.pair (.row .str) (.row q0)) t] [.row q0] R:=by
 apply X2;refine vF (t:=t) ?_;cases h:qc t with
 |false=>rw[h]at b;exact qY (P:=[]) ξ b
 |true=>have⟨_,c,_⟩:=Zx h;rw[h]at b;refine qY (P:=Qg t.2) (by rw[xo];omega) ?_;rw[Bn h];exact b
def Kv{t:List Bt×List Int}{R:List Int->Prop}(b:R (ite (qc t=Ta) ((Jg t.2 (DB t.2)).map (λi:Nat=>(i:Int))) [])):aa5 gl 25 [qr (.pair (.row .str) (.row q0)) t] [.row q0] R:=by
 apply U9;refine uM (t:=t) ?_;cases h:qc t with
 |false=>rw[h]at b;exact qY (P:=[]) ξ b
 |true=>have⟨_,c,_⟩:=Zx h;rw[h]at b;refine qY (P:=Qg t.2) (by rw[xo];omega) ?_;rw[Bn h];exact b
def mc(L:List Int)(m:Nat):List Nat:=(zac m).filter λi=>(zac L.length).all λj=>decide (j<=i)||decide (aR L j≠aR L i)
def Ud{t:List Bt×List Int}{R:List Int->Prop}(l:R (ite (qc t=Ta) ((gG t.2).map (λi:Nat=>(i:Int))) [])):aa5 gl 29 [qr (.pair (.row .str) (.row q0)) t] [.row q0] R:=by
 apply KX;refine sC (t:=t) ?_;cases hr:qc t with
 |false=>rw[hr]at l;refine⟨λo i=>o=[],λ_ _=>0,rfl,λo i w=>⟨λh=>?_,λ_=>?_⟩⟩;simp_all;simp_all
 |true=>
  rw[hr]at l;have⟨y,z,_⟩:=Zx hr;refine⟨λo i=>∃m:Nat,i=m/\m<=DB t.2/\o=(mc t.2 m).map λi:Nat=>(i:Int),λ_ i=>DB t.2-i.toNat,⟨0,rfl,ZQ _,rfl⟩,?_⟩;rintro o i ⟨m,rfl,x,rfl⟩;refine⟨λn=>?_,λn=>?_⟩;have c:m<DB t.2:=χ (fo (hX.1 n).1)
  rw[qo c ω];refine⟨λo b j=>∃q:Nat,j=q/\m+1<=q/\q<=DB t.2/\o=(mc t.2 m).map (λi:Nat=>(i:Int))/\(b=Ta↔∀r,m<r->r<q->aR t.2 r≠aR t.2 m),λ_ _ j=>DB t.2-j.toNat,⟨m+1,rfl,YJ _,c,rfl,⟨λ_ r h1 h2=>ω,λ_=>rfl⟩⟩,?_⟩;rintro o b j ⟨q,rfl,h1,h2,rfl,p⟩;refine⟨λk=>?_,λk=>?_⟩;have e:q<DB t.2:=χ (fo k)
  rw[qo e ω];refine⟨aR t.2 q,λ_=>jG e,aR t.2 m,λ_=>jG c,⟨q+1,rfl,ω,e,rfl,?_⟩,η⟩;grind;have e:q=DB t.2:=χ (fL k)
  subst e;have s:(mc t.2 m).length<=m:=by unfold mc;exact zbd (List.length_filter_le _ _) ξ
  have u:b=(zac (DB t.2)).all λj=>decide (j<=m)||decide (aR t.2 j≠aR t.2 m):=by rw[ZI,p,ZB];constructor;grind;grind
  refine⟨λh=>⟨η,⟨m+1,rfl,c,?_⟩,η⟩,λh=>⟨⟨m+1,rfl,c,?_⟩,η⟩⟩;unfold mc;rw[zbv,List.filter_append,zbl,zi η,zaa];rfl;unfold mc;rw[zbv,List.filter_append,zbl,za η,List.filter_nil,ZY];have f:m=DB t.2:=by obtain h|h:=kP.1 n;grind;cases h
  rw[f];exact l
def oO{α:Type}{a b:List α}(c:a.length=DB b){k:Nat}(e:a.length<=k)(h:∀i (h1:i<DB a) (h2:i<DB b),i<k->a[i]=b[i]):a=b:=List.ext_getElem c λi h1 h2=>h i h1 h2 ω
def xL{a b:ac7}(o:a.length<=1000000)(f:∀r,(r=Ta↔a=b)->R r):aa5 gl 23 [qr (.row q0) a,qr (.row q0) b] [.bool] R:=by
 apply Tv;refine⟨λl=>f _ ⟨λh=>(ε h),λh=>η⟩,λl=>?_⟩;have l:(DB a:Int)=DB b:=ψ l
 have e:a.length=DB b:=ω
 refine⟨λi=>∃k:Nat,i=k/\k<=DB a/\∀i (h1:i<DB a) (h2:i<DB b),i<k->a[i]=b[i],λi=>DB a-i.toNat,⟨0,rfl,ZQ _,λi _ _ h=>ω⟩,?_⟩;rintro i ⟨k,rfl,p,m⟩;refine⟨λc=>?_,λc=>?_⟩;have c:k<DB a:=χ (fo c)
 rw[qo c ω];refine⟨a[k],⟨ω,ξ⟩,b[k],⟨ω,ξ⟩,λn=>f _ ⟨λh=>(ε h),λh=>?_⟩,λn=>⟨⟨k+1,rfl,c,λi h1 h2 q=>?_⟩,η⟩⟩;simp_all;grind;have c:k=DB a:=χ (fL c)
 exact f _ ⟨λ_=>oO e (Nat.le_of_eq c.symm) m,λ_=>rfl⟩
def Dz{a b:List Bt×List Int}(h1:a.1.length<=1000000)(h2:a.2.length<=1000000)(l:∀r,(r=Ta↔a=b)->R r):aa5 gl 16 [qr (.pair (.row .str) (.row q0)) a,qr (.pair (.row .str) (.row q0)) b] [.bool] R:=by
 apply La;refine⟨λm=>l _ ⟨λh=>(ε h),λh=>θ⟩,λm=>?_⟩;have⟨c1,c2⟩:=iY.1 m;have c1:(DB a.1:Int)=DB b.1:=ψ c1
 have c2:(DB a.2:Int)=DB b.2:=ψ c2
 have o:a.1.length=DB b.1:=ω
 have q:a.2.length=DB b.2:=ω
 refine⟨λi=>∃k:Nat,i=k/\k<=DB a.1/\∀i (h1:i<DB a.1) (h2:i<DB b.1),i<k->a.1[i]=b.1[i],λi=>DB a.1-i.toNat,⟨0,rfl,ZQ _,λi _ _ h=>ω⟩,?_⟩;rintro i ⟨k,rfl,n,e⟩;refine⟨λc=>?_,λc=>?_⟩;have c:k<DB a.1:=χ (fo c)
 rw[qo c ω];refine⟨a.1[k],⟨ω,ξ⟩,b.1[k],⟨ω,ξ⟩,λf=>l _ ⟨λh=>(ε h),λh=>?_⟩,λf=>⟨⟨k+1,rfl,c,λi h1 h2 p=>?_⟩,η⟩⟩;simp_all;grind [ig];have c:k=DB a.1:=χ (fL c)
 have s:a.1=b.1:=oO o (Nat.le_of_eq c.symm) e;refine⟨λi=>∃k:Nat,i=k/\k<=DB a.2/\∀i (h1:i<DB a.2) (h2:i<DB b.2),i<k->a.2[i]=b.2[i],λi=>DB a.2-i.toNat,⟨0,rfl,ZQ _,λi _ _ h=>ω⟩,?_⟩;rintro i ⟨k,rfl,n,e⟩;refine⟨λc=>?_,λc=>?_⟩;have c:k<DB a.2:=χ (fo c)
 rw[qo c ω];refine⟨a.2[k],⟨ω,ξ⟩,b.2[k],⟨ω,ξ⟩,λf=>l _ ⟨λh=>(ε h),λh=>?_⟩,λf=>⟨⟨k+1,rfl,c,λi h1 h2 p=>?_⟩,η⟩⟩;simp_all;grind;have c:k=DB a.2:=χ (fL c)
 have t:a.2=b.2:=oO q (Nat.le_of_eq c.symm) e;grind
def VA{t:List Bt×List Int}{most:Nat}(o:most<=100000)(f:∀r,(r=Ta->DB t.1<=most/\DB t.2<=600/\∀s∈t.1,s.size<=1024)->R r):aa5 gl 18 [qr (.pair (.row .str) (.row q0)) t,qr q0 (most:Int)] [.bool] R:=by
 apply UZ;refine⟨λi=>∃k:Nat,i=k/\k<=DB t.1/\∀i (h:i<DB t.1),i<k->t.1[i].size<=1024,λi=>DB t.1-i.toNat,⟨0,rfl,ZQ _,λi _ h=>ω⟩,?_⟩;rintro i ⟨k,rfl,p,q⟩;refine⟨λc=>?_,λc=>f _ λe=>?_⟩;have⟨c,e⟩:=hX.1 c;have c:k<DB t.1:=χ (fo c)
 have e:=zB e;rw[qo (n:=k+1) ω ω];refine⟨t.1[k],⟨ω,ξ⟩,λ_=>f _ λh=>(ε h),λu=>⟨⟨k+1,rfl,c,λi h1 h2=>?_⟩,η⟩⟩;grind;have⟨a,b⟩:=hX.1 e;have a:=zB a;have b:=zB b;have l:k=DB t.1:=by obtain h|h:=kP.1 c;grind;grind
 refine⟨ω,ω,λs m=>?_⟩;obtain⟨i,hi,rfl⟩:=zbt.1 m;simp_all
end
end
section
open Go.Lib
section
variable {Ls:List Bt} {b:Nat} {w x:Tr} {K:List Nat} {s:Bt}
def kO(v:Tr):Bt:=if qh v=Ta then bl (j9 Tc 0 v 0)else⟨#[]⟩
def fj:Tr:=.mk 0 ⟨#[]⟩ [] []
def wo(Ls:List Bt)(i:Nat):Bt:=Ls.getD i ⟨#[]⟩
def ym(s:Bt):Tr×Bool:=((qg (lb s)).1,hV ((qg (lb s)).2.2=0)&&(hV ((qg (lb s)).1.WT.length=0)&&(hV ((qg (lb s)).1.Wf<5)&&hV (kO (qg (lb s)).1=s))))
def eK(Ls:List Bt)(L:List Int)(rd:Nat->Tr×Bool)(k:Nat):Bt×Tr×Bool:=
 match zz L k with
 |[j]=>if(lb (wo Ls k)).head?=Td 107 then((ym (bl (lb (wo Ls k)).tail)).1.aa0,(rd j).1,(ym (bl (lb (wo Ls k)).tail)).2&&((rd j).2&&hV ((ym (bl (lb (wo Ls k)).tail)).1.Wf=4)))else(⟨#[]⟩,fj,Tc)
 |_=>(⟨#[]⟩,fj,Tc)
def dK(Ls:List Bt)(L:List Int):Nat->Nat->Tr×Bool
 |0,_=>(fj,Tc)
 |f+1,n=>
  if wo Ls n=bl [91]then(if(zz L n).all (λk=>(dK Ls L f k).2)=Ta then(.mk 5 ⟨#[]⟩ [] ((zz L n).map λk=>(dK Ls L f k).1),Ta)else(fj,Tc))
  else if wo Ls n=bl [123]then(if(zz L n).all (λk=>(eK Ls L (dK Ls L f) k).2.2)=Ta then(.mk 6 ⟨#[]⟩ ((zz L n).map λk=>(eK Ls L (dK Ls L f) k).1) ((zz L n).map λk=>(eK Ls L (dK Ls L f) k).2.1),Ta)else(fj,Tc))
  else((ym (wo Ls n)).1,(ym (wo Ls n)).2&&hV (zz L n=[]))
def gh(Ls:List Bt)(L:List Int)(rd:Nat->Tr×Bool)(i:Nat):Bt×Tr×Bool:=
 if(lb (wo Ls i)).head?=Td 107/\(qg (lb (wo Ls i)).tail).2.2=0/\(qg (lb (wo Ls i)).tail).1.Wf=4/\aR L i<(i:Int)/\aR L (i-1)=aR L i then((qg (lb (wo Ls i)).tail).1.aa0,rd (i-1))else(⟨#[]⟩,fj,Tc)
def cR(Ls:List Bt)(L:List Int):Nat->Nat->Tr×Bool
 |0,_=>(fj,Tc)
 |f+1,n=>
  if wo Ls n=bl [91]then(if(zz L n).all (λk=>(cR Ls L f k).2)=Ta then(.mk 5 ⟨#[]⟩ [] ((zz L n).map λk=>(cR Ls L f k).1),Ta)else(fj,Tc))
  else if wo Ls n=bl [123]then(if(zz L n).all (λk=>(gh Ls L (cR Ls L f) k).2.2)=Ta then(.mk 6 ⟨#[]⟩ ((zz L n).map λk=>(gh Ls L (cR Ls L f) k).1) ((zz L n).map λk=>(gh Ls L (cR Ls L f) k).2.1),Ta)else(fj,Tc))
  else((ym (wo Ls n)).1,(ym (wo Ls n)).2&&hV (aR L n=(n:Int)))
structure Nv (Ls:List Bt) (L:List Int) (b:Nat) (X:List (Bt×Int)):Prop where
 le:b+X.length<=L.length
 at_:∀i (h:i<X.length),wo Ls (b+i)=X[i].1/\aR L (b+i)=X[i].2
theorem Nv.left{L:ac7}{X Y:List (Bt×Int)}(S:Nv Ls L b (X++Y)):Nv Ls L b X:=by have:=S.le;rw[YM]at this;refine⟨ω,λi h=>?_⟩;have:=S.at_ i η;simp_all
theorem Nv.right{L:ac7}{X Y:List (Bt×Int)}(S:Nv Ls L b (X++Y)):Nv Ls L (b+DB X) Y:=by have:=S.le;rw[YM]at this;refine⟨ω,λi h=>?_⟩;have:=S.at_ (DB X+i) θ;grind
def Uf{X:List (Bt×Int)}:Nv (fM X).1 (fM X).2 0 X:=by refine⟨by simp[fM],λi h=>?_⟩;unfold wo aR fM;simp_all
def Jt(w:Tr):0<xd w:=by rw[se];omega
def lJ{L:ac7}(S:Nv Ls L b (Qy w b)):b+xd w<=DB L/\wo Ls (b+xd w-1)=fy w/\aR L (b+xd w-1)=(b:Int)/\∀i,b<=i->i<b+xd w->(b:Int)<=aR L i:=by
 have m:=wa w b;have l:=Jt w;have k:=S.le;have c:∀(h:xd w-1<(Qy w b).length),(Qy w b)[xd w-1]=(fy w,(b:Int)):=λh=>by have e:=oJ w b;grind
 have⟨f,a2⟩:=S.at_ (xd w-1) ω;rw[c ω,show b+(xd w-1)=b+xd w-1 by omega]at f a2;refine⟨ω,f,a2,λi h1 h2=>?_⟩;have⟨_,c2⟩:=S.at_ (i-b) ω;rw[show b+(i-b)=i by omega]at c2;rw[c2];exact(pM w b (i-b) ω).1
def gP(d:Nat):List Tr->Nat->List Nat
 |[],_=>[]
 |x::l,n=>(n+xd x+d)::gP d l (n+xd x+d)
def Gt{Ls:List Bt}{L:ac7}:∀(l:List Tr) (b:Nat),Nv Ls L b (eH l b)->So L b (gP 0 l b) (b+eE 0 l)
 |[],b,_=>by rw[gP,eE];exact rfl
 |x::l,b,S=>by rw[eH]at S;have⟨m,k,f,e⟩:=lJ S.left;have h:=Jt x;have c:=S.right;rw[wa]at c;rw[gP,eE];refine⟨ω,f,λi h1 h2=>e i h1 ω,?_⟩;have:=Gt l (b+xd x) c;grind
def G0{L:ac7}{l:List Tr}{ks:List Bt}(S:Nv Ls L b (J8 (x::l) ks b)):Nv Ls L b (Qy x b)/\wo Ls (b+xd x)=gE ks.head!/\aR L (b+xd x)=(b:Int)/\b+xd x<DB L/\Nv Ls L (b+xd x+1) (J8 l ks.tail (b+xd x+1)):=by rw[J8]at S;have c:=S.right;rw[wa]at c;have h0:=c.at_ 0 ξ;have h1:=c.le;rw[YU]at h1;have e:=Nv.right (X:=[(gE ks.head!,(b:Int))]) c;exact⟨S.left,h0.1,h0.2,ω,e⟩
def Cg{Ls:List Bt}{L:ac7}:∀(l:List Tr) (ks:List Bt) (b:Nat),Nv Ls L b (J8 l ks b)->So L b (gP 1 l b) (b+eE 1 l)
 |[],_,b,_=>by rw[gP,eE];exact rfl
 |x::l,ks,b,S=>by have⟨e,f,k2,n,c⟩:=G0 S;have⟨m,k,o,h⟩:=lJ e;rw[gP,eE];refine⟨ω,k2,λi h1 h2=>?_,?_⟩;grind;have:=Cg l ks.tail (b+xd x+1) c;grind
theorem ML{L:ac7}(S:Nv Ls L b (Qy x b))(h1:b+xd x<DB L)(h2:aR L (b+xd x)=(b:Int)):zz L (b+xd x)=[b+xd x-1]:=by have⟨k,l,f,e⟩:=lJ S;have h:=Jt x;have B:So L b [b+xd x] (b+xd x):=⟨ω,f,λi a c=>e i a c,rfl⟩;rw[B.kids h1 h2];rfl
theorem Bi(c:qh w=Ta)(f:w.Wf<5)(hi:w.WT=[])(b:(j9 Tc 0 w 0).length<=65536):ym (bl (j9 Tc 0 w 0))=(w,Ta):=by have⟨n,e⟩:=tO (ln:=Tc) (N:=0) c b;unfold ym kO;simp_all
def FT(b:qh w=Ta){c:UInt8}(i:c=91\/c=123):j9 Tc 0 w 0≠[c]:=λe=>by
 have⟨n,h⟩:=tO (ln:=Tc) (N:=0) b (by rw[e];simp);rw[e]at h;have h:=congrArg (·.2.2) h;have f:hV ((qg [91]).2.2=0)=Tc:=κ
 have k:hV ((qg [123]).2.2=0)=Tc:=κ
 grind
def BL(h:dR w=Ta)(hi:w.WT=[]):qh w=Ta:=by unfold qh wy;rw[y8,yo,jR,hi];simp only[Ze,en,gA,Bool.and_true];exact h
def Ce{rd:Nat->Tr×Bool}{xs:List Tr}(h:K.map rd=xs.map λx=>(x,Ta)):K.all (λk=>(rd k).2)=Ta/\K.map (λk=>(rd k).1)=xs:=by
 have b:K.all (λk=>(rd k).2)=(K.map rd).all (·.2):=by rw[zc4];rfl
 have c:K.map (λk=>(rd k).1)=(K.map rd).map (·.1):=by rw[zak];rfl
 rw[b,c,h,zc4,zak];exact⟨ZB.2 λ_ _=>rfl,by rw[show((·.1) ∘ λx:Tr=>(x,Ta))=id from rfl,zdz]⟩
def Hh{rd:Nat->Bt×Tr×Bool}{b:List (Bt×Tr)}(h:K.map rd=b.map λp=>(p.1,p.2,Ta)):K.all (λk=>(rd k).2.2)=Ta/\K.map (λk=>(rd k).1)=b.map (·.1)/\K.map (λk=>(rd k).2.1)=b.map (·.2):=by
 have c:K.all (λk=>(rd k).2.2)=(K.map rd).all (·.2.2):=by rw[zc4];rfl
 have f:K.map (λk=>(rd k).1)=(K.map rd).map (·.1):=by rw[zak];rfl
 have e:K.map (λk=>(rd k).2.1)=(K.map rd).map (·.2.1):=by rw[zak];rfl
 simp_all
theorem vp{Ls:List Bt}{L:ac7}{rd:Nat->Tr×Bool}{e:Nat}:∀(l:List Tr) (b:Nat),Nv Ls L b (eH l b)->b+eE 0 l<=e->(∀x∈l,∀c,Nv Ls L c (Qy x c)->c+xd x<=e->rd (c+xd x-1)=(x,Ta)) ->((gP 0 l b).map λe=>e-1).map rd=l.map λx=>(x,Ta)
 |[],_,_,_,_=>rfl
 |x::l,b,S,he,H=>by rw[eH]at S;rw[eE]at he;have f:=S.right;rw[wa]at f;rw[gP,ZC,ZC,ZC,Nat.add_zero,H x ZD b S.left ω,vp l _ f ω λy h=>H y (ZA _ h)]
theorem xS{Ls:List Bt}{L:ac7}{rd:Nat->Bt×Tr×Bool}{e:Nat}:∀(l:List Tr) (ks:List Bt) (b:Nat),DB ks=DB l->Nv Ls L b (J8 l ks b)->b+eE 1 l<=e->(∀p∈ks.zip l,∀c,Nv Ls L c (Qy p.2 c)->wo Ls (c+xd p.2)=gE p.1->aR L (c+xd p.2)=(c:Int)->c+xd p.2<DB L->c+xd p.2<e->rd (c+xd p.2)=(p.1,p.2,Ta)) ->((gP 1 l b).map λe=>e-1).map rd=(ks.zip l).map λp=>(p.1,p.2,Ta)
 |[],_,_,h,_,_,_=>by rw[List.zip_nil_right];rfl
 |x::l,[],_,h,_,_,_=>by simp at h
 |x::l,k::ks,b,h,S,he,H=>by have⟨o,f,k2,m,i⟩:=G0 S;rw[eE]at he;rw[gP,ZC,ZC,zbe,ZC,Nat.add_sub_cancel,H (k,x) ZD b o f k2 m η,xS l ks _ (ψ h) i ω λy n=>H y (ZA _ n)]
theorem FZ(h:lb s=[]):s=⟨#[]⟩:=by rw[<-Zz s,h]
def Dm{s k:Bt}(b:s=gE k)(c:xn (lb k)=Ta)(f:s.size<=65536):(lb s).head?=Td 107/\ym (bl (lb s).tail)=(.mk 4 k [] [],Ta)/\(qg (lb s).tail).2.2=0/\(qg (lb s).tail).1=.mk 4 k [] []:=by
 subst b;have e:lb (gE k)=107::j9 Tc 0 (.mk 4 k [] []) 0:=by unfold gE;rw[yr,xx];rfl
 have h:qh (.mk 4 k [] [])=Ta:=BL (by unfold dR zq;grind) rfl;grind [iU,tO,Bi]
def Fb{Ls:List Bt}{L:ac7}(J:∀i,i<DB L->(wo Ls i).size<=65536):∀(m:Nat) (w:Tr) (b:Nat),cK w<=m->Qc dR w=Ta->Nv Ls L b (Qy w b)->∀f,b+xd w<=f ->dK Ls L f (b+xd w-1)=(w,Ta)/\cR Ls L f (b+xd w-1)=(w,Ta)
 |0,w,b,h,_,_,_,_=>by rw[yo]at h;omega
 |m+1,w,b,hm,ok,S,f,hf=>by
  have⟨g1,r,N,g4⟩:=lJ S;have z:=Jt w;obtain⟨f,rfl⟩:∃f',f=f'+1:=⟨f-1,ω⟩;have I:b+xd w-1<DB L:=ω
  have o:=m7 ok;have C:=se w;have D:=J _ I;have M:∀x∈w.WT,∀c,Nv Ls L c (Qy x c)->c+xd x<=f->dK Ls L f (c+xd x-1)=(x,Ta)/\cR Ls L f (c+xd x-1)=(x,Ta):=λx A c l n=>Fb J m x c (χ (yc A)) (Y2 ok A) l f n;have aa:w.Wf<5->w.WT=[]->dK Ls L (f+1) (b+xd w-1)=(w,Ta)/\cR Ls L (f+1) (b+xd w-1)=(w,Ta):=λhk hi=>by
   have h1:xd w=1:=by rw[C,za ω,za ω]
   have u:=BL o hi;have E:fy w=bl (j9 Tc 0 w 0):=by unfold fy;rw[za ω,za ω]
   rw[E]at r;have hl:(j9 Tc 0 w 0).length<=65536:=by rw[r,<-iU,yr]at D;exact D
   have F:¬bl (j9 Tc 0 w 0)=bl [91]:=λe=>FT u (.inl rfl) (yU.1 e);have n2:¬bl (j9 Tc 0 w 0)=bl [123]:=λe=>FT u (.inr rfl) (yU.1 e);have n3:zz L (b+xd w-1)=[]:=by
    have B:So L b [] (b+xd w-1):=by show b=b+xd w-1;omega
    rw[B.kids I N];rfl
   rw[dK,cR,r,za F,za n2,za F,za n2,Bi u hk hi hl,n3,N,h1];simp
  obtain⟨k,_,_,i⟩|⟨k,_,_,i⟩|⟨k,_,_,i⟩|⟨k,_,_,i⟩|⟨k,t,ks⟩|⟨k,Q,kl,t⟩:=nS o;simp_all;simp_all;simp_all;simp_all;rw[k]at C;simp only[za (show¬(5:Int)=6 by decide),if_true]at C;have y:Nv Ls L b (eH w.WT b):=by rw[oJ,k]at S;simp only[za (show¬(5:Int)=6 by decide),if_true]at S;exact S.left
  have E:fy w=bl [91]:=by unfold fy;rw[zi k]
  rw[E]at r;have s:zz L (b+xd w-1)=(gP 0 w.WT b).map λe=>e-1:=by refine So.kids I ?_ N;have:=Gt w.WT b y;rw[show b+xd w-1=b+eE 0 w.WT by omega];exact this
  have⟨Z,a2⟩:=Ce (vp (rd:=dK Ls L f) (e:=f) w.WT b y ω λx A c l n=>(M x A c l n).1);have⟨G,V⟩:=Ce (vp (rd:=cR Ls L f) (e:=f) w.WT b y ω λx A c l n=>(M x A c l n).2);have u:Tr.mk 5 ⟨#[]⟩ [] w.WT=w:=by cases w;simp only[Tr.Wf,Tr.aa0,Tr.XK,Tr.WT]at k t ks ⊢;rw[k,ks,FZ t]
  rw[dK,cR,r,zi rfl,zi rfl,s,zi Z,zi G,a2,V,u];simp;rw[k]at C;simp only[if_true]at C;have y:Nv Ls L b (J8 w.WT w.XK b):=by rw[oJ,k]at S;simp only[if_true]at S;exact S.left
  have E:fy w=bl [123]:=by unfold fy;rw[za ω,zi k]
  rw[E]at r;have s:zz L (b+xd w-1)=(gP 1 w.WT b).map λe=>e-1:=by refine So.kids I ?_ N;have:=Cg w.WT w.XK b y;rw[show b+xd w-1=b+eE 1 w.WT by omega];exact this
  have ku:∀q∈w.XK,xn (lb q)=Ta:=by unfold yh at Q;rw[YR,ZB]at Q;exact Q.1
  have⟨Z,a2,G⟩:=Hh (xS (rd:=eK Ls L (dK Ls L f)) (e:=f) w.WT w.XK b kl y ω λp z c l U q2 H q4=>by have⟨P,Y,_⟩:=Dm U (ku _ (List.of_mem_zip z).1) (J _ H);have O:=Jt p.2;unfold eK;rw[ML l H q2];dsimp only;rw[zi P,Y,(M p.2 (List.of_mem_zip z).2 c l ω).1];rfl);have⟨V,a5,a6⟩:=Hh (xS (rd:=gh Ls L (cR Ls L f)) (e:=f) w.WT w.XK b kl y ω λp z c l U q2 H q4=>by have⟨P,_,Y,r3⟩:=Dm U (ku _ (List.of_mem_zip z).1) (J _ H);have O:=Jt p.2;have⟨_,_,s3,_⟩:=lJ l;unfold gh;rw[zi ⟨P,Y,ϕ r3,ω,by rw[s3,q2]⟩,r3,(M p.2 (List.of_mem_zip z).2 c l ω).2]);have u:Tr.mk 6 ⟨#[]⟩ w.XK w.WT=w:=by cases w;simp only[Tr.Wf,Tr.aa0,Tr.XK,Tr.WT]at k t ⊢;rw[k,FZ t]
  have z1:(w.XK.zip w.WT).map (·.1)=w.XK:=by rw[zdh ω]
  have z2:(w.XK.zip w.WT).map (·.2)=w.WT:=by rw[List.map_snd_zip ω]
  rw[z1]at a2 a5;rw[z2]at G a6;have F:¬bl [123]=bl [91]:=λe=>θ
  rw[dK,cR,r,za F,zi rfl,za F,zi rfl,s,zi Z,zi V,a2,G,a5,a6,u];simp
end
section
theorem mZ(s:Bs):((qg s).2.2=0->qh (qg s).1=Ta)/\Sm (qg s).1:=by
 by_cases c:(xh s).2.2=0;have⟨f,_,i⟩:=SF c;have b:(qg s).1=Yd s (xh s).1.2 33 0:=by unfold qg;rw[zi c]
 simp_all;have b:(qg s).1=.mk 0 (bl []) [] []:=by unfold qg;rw[za c]
 refine⟨λh=>?_,?_⟩;unfold qg at h;simp_all;rw[b];refine⟨by rw[yo];simp[Ze],?_⟩;rw[fi];exact⟨⟨ZQ _,ZQ _,λk e=>ε e⟩,trivial⟩
theorem mC:Sm fj:=by refine⟨by rw[yo];simp[fj,Tr.WT,Ze],?_⟩;unfold fj;rw[fi];exact⟨⟨ZQ _,ZQ _,λk b=>ε b⟩,trivial⟩
theorem uQ(s:Bt):Sm (ym s).1/\((ym s).2=Ta->cK (ym s).1=1):=by refine⟨(mZ (lb s)).2,λh=>?_⟩;unfold ym at h ⊢;simp only[YR,zA]at h;have hi:=za2.1 h.2.1;rw[yo,hi];rfl
def Au{L:ac7}{n:Nat}:∀(K:ab1) (a:Nat),K.Pairwise (λi j:Nat=>(i:Int)<aR L j)->(∀k∈K,(a:Int)<=aR L k/\aR L k<=k/\k<n)->a<=n->(K.map λk=>k+1-(aR L k).toNat).sum<=n-a
 |[],a,_,_,_=>ξ
 |k::K,a,hp,hk,han=>by rw[za4]at hp;have⟨h1,h2,c⟩:=hk k ZD;have:=Au K (k+1) hp.2 (λj b=>⟨η,(hk j (ZA _ b)).2⟩) ω;grind
def QF{L:ac7}(h:fJ L (DB L)=Ta)(n:Nat):(zz L n).Pairwise (λi j:Nat=>(i:Int)<aR L j):=by refine zdk.imp_of_mem (λ {i j} hi c b=>?_) (BC L n);have⟨h1,h2⟩:=Y6.1 hi;have⟨f,e⟩:=Y6.1 c;exact(Y7 h h1 h2).2.2.2.2 j b (Y7 h f e).1
def Dl{f:Nat->Tr}{g:Nat->Nat}:∀{K:ab1},(∀k∈K,cK (f k)<=g k)->Ze (K.map f)<=(K.map g).sum
 |[],_=>by simp[Ze]
 |k::K,h=>by rw[ZC,ZC,List.sum_cons,Ze];have h1:=h k ZD;have h2:=Dl (K:=K) λj b=>h j (ZA _ b);omega
def Fw{m:Nat}{f:Nat->Tr}:∀{K:ab1},(∀k∈K,fi m (f k))->ge m (K.map f)
 |[],_=>by rw[zbg,ge];trivial
 |k::K,h=>by rw[ZC,ge];exact⟨h k ZD,Fw λj b=>h j (ZA _ b)⟩
def sd{L:ac7}(c:fJ L (DB L)=Ta)(s:L.length<=512){n:Nat}(m:n<DB L){kd:Int}{ks:List Bt}{f:Nat->Tr}(e:∀k∈zz L n,cK (f k)<=k+1-(aR L k).toNat/\fi 1048576 (f k))(b:ks.length<=1048576/\∀k∈ks,k.size<=1048576):Sm (.mk kd ⟨#[]⟩ ks ((zz L n).map f))/\cK (.mk kd ⟨#[]⟩ ks ((zz L n).map f))<=n+1-(aR L n).toNat:=by
 have h:=Qj.1 c;have⟨r,a2,_⟩:=jo.1 (h n m);have h1:=Dl (K:=zz L n) λk b=>(e k b).1;have h2:=Au (n:=n) (zz L n) (aR L n).toNat (QF c n) (λk b=>by have⟨h1,h2⟩:=Y6.1 b;have⟨i,p,t,o,q⟩:=Y7 c h1 h2;exact⟨ω,(jo.1 (h k h1)).2.1,i⟩) ω;have l:cK (.mk kd ⟨#[]⟩ ks ((zz L n).map f))<=n+1-(aR L n).toNat:=by rw[yo];show 1+Ze ((zz L n).map f)<=_;omega
 refine⟨⟨ω,?_⟩,l⟩;rw[fi];exact⟨⟨ZQ _,b.1,b.2⟩,Fw λk b=>(e k b).2⟩
def Hv{v:Tr}(h:Sm v):v.aa0.size<=1048576:=by have:=h.tx;cases v;rw[fi]at this;exact this.1.1
def mP{Ls:List Bt}{L:ac7}(b:fJ L (DB L)=Ta)(l:L.length<=512):∀(f n:Nat),n<L.length ->(Sm (dK Ls L f n).1/\((dK Ls L f n).2=Ta->cK (dK Ls L f n).1<=n+1-(aR L n).toNat))/\(Sm (cR Ls L f n).1/\((cR Ls L f n).2=Ta->cK (cR Ls L f n).1<=n+1-(aR L n).toNat))
 |0,n,_=>⟨⟨mC,λh=>ε h⟩,⟨mC,λh=>ε h⟩⟩
 |f+1,n,hn=>by
  have r:=Qj.1 b;have⟨E,a2,_⟩:=jo.1 (r n hn);have w:(zz L n).length<=512:=by unfold zz;exact zbd (List.length_filter_le _ _) φ
  have low:∀{i k:Nat},i∈zz L k->i<DB L/\i<k/\aR L k<=aR L i:=λ {i k} hi=>by have⟨h1,h2⟩:=Y6.1 hi;have⟨q,p,G,C,D⟩:=Y7 b h1 h2;omega
  have e:([]:List Bt).length<=1048576/\∀k∈([]:List Bt),k.size<=1048576:=⟨ZQ _,λk c=>ε c⟩;have lf:Sm (ym (wo Ls n)).1/\((ym (wo Ls n)).2=Ta->cK (ym (wo Ls n)).1<=n+1-(aR L n).toNat):=⟨(uQ _).1,λh=>by rw[(uQ _).2 h];omega⟩;constructor;rw[dK];split;split;rename_i h;rw[ZB]at h;have⟨q,p⟩:=sd (kd:=5) (ks:=[]) b l hn (f:=λk=>(dK Ls L f k).1) (λk c=>by have⟨⟨o,m⟩,_⟩:=mP (Ls:=Ls) b l f k (low c).1;exact⟨m (h k c),o.tx⟩) e;simp_all;simp[mC];split;split;rename_i h;rw[ZB]at h;have key:∀k∈zz L n,(cK (eK Ls L (dK Ls L f) k).2.1<=k+1-(aR L k).toNat/\fi 1048576 (eK Ls L (dK Ls L f) k).2.1)/\(eK Ls L (dK Ls L f) k).1.size<=1048576:=λk c=>by
   have h2:=h k c;revert h2;unfold eK;split;rename_i j z;split;intro h2;simp only[YR]at h2;have t:j∈zz L k:=υ z
   have⟨A,F,B⟩:=low t;have⟨⟨o,m⟩,_⟩:=mP (Ls:=Ls) b l f j A;have y:=m h2.2.1;have⟨b1,b2,_⟩:=jo.1 (r k (low c).1);exact⟨⟨by dsimp only;omega,o.tx⟩,Hv (uQ _).1⟩;simp;simp
  have⟨q,p⟩:=sd (kd:=6) (ks:=(zz L n).map λk=>(eK Ls L (dK Ls L f) k).1) b l hn (f:=λk=>(eK Ls L (dK Ls L f) k).2.1) (λk c=>(key k c).1) ⟨η,λs u=>by obtain⟨k,c,rfl⟩:=zab.1 u;grind⟩;simp_all;simp[mC];simp_all;rw[cR];split;split;rename_i h;rw[ZB]at h;have⟨q,p⟩:=sd (kd:=5) (ks:=[]) b l hn (f:=λk=>(cR Ls L f k).1) (λk c=>by have⟨_,⟨o,m⟩⟩:=mP (Ls:=Ls) b l f k (low c).1;exact⟨m (h k c),o.tx⟩) e;simp_all;simp[mC];split;split;rename_i h;rw[ZB]at h;have key:∀k∈zz L n,(cK (gh Ls L (cR Ls L f) k).2.1<=k+1-(aR L k).toNat/\fi 1048576 (gh Ls L (cR Ls L f) k).2.1)/\(gh Ls L (cR Ls L f) k).1.size<=1048576:=λk c=>by have h2:=h k c;revert h2;unfold gh;split;rename_i x;intro h2;have h2:(cR Ls L f (k-1)).2=Ta:=h2;have⟨_,⟨o,m⟩⟩:=mP (Ls:=Ls) b l f (k-1) η;have y:=m h2;have⟨b1,b2,_⟩:=jo.1 (r k (low c).1);have c1:=x.2.2.2.1;have c2:=x.2.2.2.2;exact⟨⟨φ,o.tx⟩,Hv (mZ _).2⟩;simp
  have⟨q,p⟩:=sd (kd:=6) (ks:=(zz L n).map λk=>(gh Ls L (cR Ls L f) k).1) b l hn (f:=λk=>(gh Ls L (cR Ls L f) k).2.1) (λk c=>(key k c).1) ⟨η,λs u=>by obtain⟨k,c,rfl⟩:=zab.1 u;grind⟩;simp_all;simp[mC];grind
def Q4(w:Tr)(t:List Bt×List Int):Prop:=qh w=Ta/\zh w=w/\xd w<=512/\t=fM (Qy w 0)
def ya{w:Tr}{t:List Bt×List Int}(h:Q4 w t)(o:∀s∈t.1,s.size<=65536):qc t=Ta/\0<DB t.2/\aR t.2 (DB t.2-1)=0/\dK t.1 t.2 (DB t.2) (DB t.2-1)=(w,Ta)/\cR t.1 t.2 (DB t.2) (DB t.2-1)=(w,Ta):=by
 obtain⟨h1,h2,k,rfl⟩:=h;have c:=wa w 0;have f:=Jt w;have S:=Uf (X:=Qy w 0);have l:(fM (Qy w 0)).2.length=xd w:=by unfold fM;rw[YO,c]
 have q:(fM (Qy w 0)).1.length=xd w:=by unfold fM;rw[YO,c]
 have⟨n,p,e,m⟩:=lJ S;have ok:Qc dR w=Ta:=by unfold qh at h1;rw[YR]at h1;exact h1.2
 have b:=Fb (Ls:=(fM (Qy w 0)).1) (L:=(fM (Qy w 0)).2) (λi hi=>by unfold wo;simp_all) (cK w) w 0 (YJ _) ok S (xd w) ω;rw[ZO]at e b;rw[l];exact⟨Kf k,f,e,b.1,b.2⟩
end
end
section
open Go.RowKit
section
variable {M M':Fr} {x:Tr} {g' g:zb} {bv rb n:Nat} {K:Value -> zb -> Prop} {xk xi s1 s2 s3:Sl} {Ls:List Bt}
theorem He(v:Tr):(Qx v).1=kO v:=by unfold Qx kO;split <;> rfl
theorem jD{b:Bool}{u:Value}(h:RdV M .tree x u):x7 M [.tree,.bool] (x,b) (.tuple #[u,aa9 b]):=⟨[_,_],⟨_,_,rfl,h,_,rfl,Fk _⟩,rfl⟩
def A4{gl:Fr}(I:GL gl)(Y:Brn gl){s:Bt}{R:Tr×Bool->Prop}(hR:R (ym s)):aa5 gl 109 [qr .str s] [.tree,.bool] R:=by
 intro h M vs H ag ha
 match vs,ha with
 |[u],⟨hu,_⟩=>
 cases y0 hu;apply PX.of;apply RA s;intro h1;have S:Bk h.size h h1:=rg _ _ (YJ _);have z1:h1.size=h.size+1:=YW _;have E:Blk h1 h.size #[ab0 0,aa6 ⟨#[]⟩,.slice Te 0 0,.slice Te 0 0]:=Blk.new _ _ _;clear_value h1;have P:wr h M h1 M:=up ag S;have n1:M h.size=Te:=ag.none (YJ _);have t:=Ow (gl:=gl) I (s:=lb s) (R:=λr=>r=qg (lb s)) rfl;rw[Zz]at t;refine t.go (vs:=[aa6 s]) H P.ag (zn (a:=qr .str s) (DH _) zw) λw B q r y c A=>?_;have A:r=qg (lb s):=A;obtain⟨us,⟨x1,ab,rfl,D,x2,V,rfl,q2,x3,rfl,q3⟩,rfl⟩:=c;obtain⟨xk,xi,rfl,rk,ri⟩:=yg D;cases qn q2;cases qn q3;refine⟨_,_,xk,xi,_,_,rfl,?_⟩;intro Z;refine yz y.ag λl b aa i=>⟨_,_,xk,xi,i.ld (cs:=[_,_,aK xk,aK xi]),xi,λ_=>i.aa2 (o:=0) (k:=3) rfl,?_⟩;have O:=(Bx ri).1;intro C;have J:wr h M l q:=P.trans (y.trans b);have n:Blk l h.size #[ab0 0,aa6 ⟨#[]⟩,.slice Te 0 0,.slice Te 0 0]:=E.aa1 ((y.trans b).aa1.get _ E.lt);have G:q h.size=Te:=by rw[y.old _ E.lt];exact n1
 have fin:∀(g:zb) (Mg:Fr) (x:Bt),wr l q g Mg->((cond (cond ((r.2.2:Int)==0) (((xi.len:Nat):Int)==0) Tc) (hV (r.1.Wf<5)) Tc)=Ta->x=kO r.1) ->
  wf Tp (YI 25 (aa7 ⟨ZK h,0,Te⟩) (.agg #[ab0 r.1.Wf,aa6 r.1.aa0,aK xk,aK xi])) g (λg'=>C (cond (cond (cond ((r.2.2:Int)==0) (((xi.len:Nat):Int)==0) Tc) (hV (r.1.Wf<5)) Tc) ((x:Bt).toList==(s:Bt).toList) Tc) g'):=λg Mg x L m=>by
  refine qt (n.aa1 (L.aa1.get _ n.lt)) λg' f z U=>⟨_,_,xk,xi,U.ld (cs:=[_,_,aK xk,aK xi]),Mg,(r.1,_),wr.stay (J.trans L) (YJ _) (by rw[L.old _ n.lt];exact G) f z,jD (D.mono (b.le.trans L.le)),?_⟩;rw[O];rw[O]at m;subst A;have e:(cond (cond (cond ((qg (lb s)).2.2==0) (((za6 (qg (lb s)).1.WT:Nat):Int)==0) Tc) (hV ((qg (lb s)).1.Wf<5)) Tc) (x.toList==s.toList) Tc)=(ym s).2:=by unfold ym;by_cases h1:(qg (lb s)).2.2=0;by_cases h2:(qg (lb s)).1.WT.length=0;by_cases B:(qg (lb s)).1.Wf<5;have m:=m (by simp[h1,h2,B]);subst m;rw[ig];simp[h1,h2,B];simp[B];simp[h2];simp[h1]
  rw[e];exact hR
 refine⟨rfl,rfl,r.1.Wf,λ_=>i.aa2 (o:=0) (k:=0) rfl,rfl,rfl,r.1.Wf,r.1.aa0,xk,xi,λ_=>i.ld (cs:=[_,_,aK xk,aK xi]),rfl,λv g=>∃Mg,wr l q g Mg/\∃x:Bt,v=.string x/\((cond (cond ((r.2.2:Int)==0) (((xi.len:Nat):Int)==0) Tc) (hV (r.1.Wf<5)) Tc)=Ta->x=kO r.1),λQ=>?_,λQ=>⟨⟨#[]⟩,q,wr.refl b.ag,_,rfl,λh=>by rw[Q]at h;cases h⟩,λ_ v g ⟨_,_,x,e,_⟩=>⟨x,e⟩,?_⟩;have F:Sm r.1:=by rw[A];exact(mZ (lb s)).2
 refine(yK I Y F (R:=λx=>x=kO r.1) (He _)).go (vs:=[.agg #[ab0 r.1.Wf,aa6 r.1.aa0,aK xk,aK xi]]) (H.trans J.le) b.ag (zn (a:=qr .tree r.1) (D.mono b.le) zw) λw g Mg x p c m=>?_;exact⟨x,gu c,Mg,p,x,rfl,λ_=>m⟩;rintro x g ⟨Mg,p,x',e,m⟩;cases e;have N:=p.aa1.get _ i.lt;exact⟨N,⟨N,fin g Mg x p m⟩,fin g Mg x p m⟩
structure VbM (lo:Nat) (h0:zb) (M0:Fr) (b:Nat) (k:Int) (z2 z3:Sl) (g:zb) (M:Fr) (ks:List Bt) (xs:List Tr) (sk si:Sl) (bk bi:List Nat):Prop where
 L:wr h0 M0 g M
 box:Blk g b #[.int .i64 k,.string ⟨#[]⟩,aK z2,aK z3]
 XK:Fd lo g M .str ks sk bk
 WT:Fd lo g M .tree xs si bi
 dj:∀c∈bk,c∉bi
 hb:h0.size<=b
 bl:b<lo
 lg:lo<=g.size
 nB:M b=Te
section
variable {lo : Nat} {h0 : zb} {M0 : Fr} {b : Nat} {k : Int} {z2 z3 : Sl} {g : zb} {M : Fr} {ks : List Bt} {xs : List Tr} {sk si : Sl} {bk bi : List Nat}
theorem VbM.call(V:VbM lo h0 M0 b k z2 z3 g M ks xs sk si bk bi)(L:wr g M g' M'):VbM lo h0 M0 b k z2 z3 g' M' ks xs sk si bk bi:= ⟨V.L.trans L,V.box.aa1 (L.aa1.get b V.box.lt),V.XK.call L,V.WT.call L,V.dj,V.hb,V.bl,by have:=V.lg;have:=L.aa1.size;omega,by rw[L.old b V.box.lt];exact V.nB⟩
theorem VbM.push(V:VbM lo h0 M0 b k z2 z3 g M ks xs sk si bk bi)(o:Obj):VbM lo h0 M0 b k z2 z3 (g.push o) M ks xs sk si bk bi:=V.call (wr.push V.L.ag o)
theorem VbM.key(V:VbM lo h0 M0 b k z2 z3 g M ks xs sk si bk bi)(t:ks.length<=1000000){x:Bt}(y:Blk g bv #[aa6 x]) (p:∀m g' n,VbM lo h0 M0 b k z2 z3 g' M (ks++[x]) xs m si n bi->g.size<=g'.size->(∀j,j<g.size->j∉bk->g'[j]?=g[j]?)->K (aK m) g'):CA Tp (YN #[22,22] 22 #[aK sk,.slice (Td ⟨bv,0,Te⟩) 1 1]) g K:=by have A:=V.bl;have q:=V.lg;have s:=V.hb;refine Fd.app pU ω V.L.ag V.XK V.lg (vs:=[aa6 x]) y rfl t λm g' o r z w f=>p m g' o ⟨⟨⟨χ V.L.aa1.size,λj u=>?_⟩,V.L.le,V.L.old,λc cs e=>?_⟩,V.box.aa1 (f b V.box.lt λi=>?_),r,V.WT.frame (λc l=>f c (V.WT.own c l).2.1 λi=>V.dj c i l) (Fr.le.refl _) (λc l=>(V.WT.own c l).2.2),λc l i=>?_,V.hb,V.bl,ω,V.nB⟩ z f;rw[f j ω λi=>χ ((V.XK.own j i).1)];exact V.L.aa1.get j u;rw[f c (V.L.ag.lt e) λi=>by have:=(V.XK.own c i).2.2;rw[this]at e;cases e];exact V.L.ag c cs e;have:=(V.XK.own b i).1;omega;obtain h|h:=w c l;exact V.dj c h i;have:=(V.WT.own c i).2.1;omega
def XD(b:RdV M .tree x (.agg #[ab0 x.Wf,aa6 x.aa0,aK xk,aK xi])):Rd M .tree x [ab0 x.Wf,aa6 x.aa0,aK xk,aK xi]:=by
 unfold RdV at b;simp only[fh,if_true]at b;have⟨cs,e,c⟩:=b;injection e with e;have:cs=[ab0 x.Wf,aa6 x.aa0,aK xk,aK xi]:=by have:=congrArg Array.toList e;simpa using this.symm
 rw[<-this];exact c
theorem VbM.item(V:VbM lo h0 M0 b k z2 z3 g M ks xs sk si bk bi)(u:xs.length<=1000000)(A:Blk g bv #[ab0 x.Wf,aa6 x.aa0,aK xk,aK xi])(t:RdV M .tree x (.agg #[ab0 x.Wf,aa6 x.aa0,aK xk,aK xi])) (p:∀m g' n,VbM lo h0 M0 b k z2 z3 g' M ks (xs++[x]) sk m bk n->g.size<=g'.size->(∀j,j<g.size->j∉bi->g'[j]?=g[j]?)->K (aK m) g'):CA Tp (YN #[23,23] 23 #[aK si,.slice (Td ⟨bv,0,Te⟩) 1 1]) g K:=by have B:=V.bl;have q:=V.lg;have s:=V.hb;refine Fd.app xV ω V.L.ag V.WT V.lg (vs:=[ab0 x.Wf,aa6 x.aa0,aK xk,aK xi]) A (XD t) u λm g' o r z w f=>p m g' o ⟨⟨⟨χ V.L.aa1.size,λj y=>?_⟩,V.L.le,V.L.old,λc cs e=>?_⟩,V.box.aa1 (f b V.box.lt λi=>?_),V.XK.frame (λc l=>f c (V.XK.own c l).2.1 λi=>V.dj c l i) (Fr.le.refl _) (λc l=>(V.XK.own c l).2.2),r,λc l i=>?_,V.hb,V.bl,ω,V.nB⟩ z f;rw[f j ω λi=>χ ((V.WT.own j i).1)];exact V.L.aa1.get j y;rw[f c (V.L.ag.lt e) λi=>by have:=(V.WT.own c i).2.2;rw[this]at e;cases e];exact V.L.ag c cs e;have:=(V.WT.own b i).1;omega;obtain h|h:=w c i;exact V.dj c l h;have:=(V.XK.own c l).2.1;omega
theorem VbM.turn(V:VbM lo h0 M0 b k z2 z3 g M ks xs sk si bk bi){l:Int}{i h:Sl}(B:Blk g' b #[ab0 l,aa6 ⟨#[]⟩,aK i,aK h])(z:g'.size=g.size)(f:∀j,j≠b->g'[j]?=g[j]?):VbM lo h0 M0 b l i h g' M ks xs sk si bk bi:=by have m:=V.bl;exact⟨wr.stay V.L V.hb V.nB f z,B,V.XK.frame (λc e=>f c (χ ((V.XK.own c e).1))) (Fr.le.refl _) (λc e=>(V.XK.own c e).2.2),V.WT.frame (λc e=>f c (χ ((V.WT.own c e).1))) (Fr.le.refl _) (λc e=>(V.WT.own c e).2.2),V.dj,V.hb,V.bl,by rw[z];exact V.lg,V.nB⟩
theorem VbM.st2(V:VbM lo h0 M0 b k z2 z3 g M ks xs sk si bk bi){K:zb->Prop}(c:∀g',VbM lo h0 M0 b k sk z3 g' M ks xs sk si bk bi->g'.size=g.size->(∀j,j≠b->g'[j]?=g[j]?)->K g'):wf Tp (YI 22 (.pointer (Td (YH ⟨b,0,Te⟩ 2))) (aK sk)) g K:=by rw[zl];exact qj m3 pv V.box (by show 2<4;omega) rfl λg' B z f=>c g' (V.turn B z f) z f
theorem VbM.st3(V:VbM lo h0 M0 b k z2 z3 g M ks xs sk si bk bi){K:zb->Prop}(c:∀g',VbM lo h0 M0 b k z2 si g' M ks xs sk si bk bi->g'.size=g.size->(∀j,j≠b->g'[j]?=g[j]?)->K g'):wf Tp (YI 23 (.pointer (Td (YH ⟨b,0,Te⟩ 3))) (aK si)) g K:=by rw[zl];exact qj xJ tX V.box (by show 3<4;omega) rfl λg' B z f=>c g' (V.turn B z f) z f
theorem VbM.fin(V:VbM lo h0 M0 b k z2 z3 g M ks xs sk si bk bi)(f:ks.length<=1000000/\DB xs<=1000000):wr h0 M0 g (MxL M g (bk++bi))/\RdV (MxL M g (bk++bi)) .tree (.mk k ⟨#[]⟩ ks xs) (.agg #[ab0 k,aa6 ⟨#[]⟩,aK sk,aK si]):=by have l:=V.bl;have i:=V.hb;refine⟨wr.own V.L λc e=>?_,qe (v:=.mk k ⟨#[]⟩ ks xs) (V.XK.rd V.L.ag (λc e=>YV _ e) f.1) (V.WT.rd V.L.ag (λc e=>ZH _ e) f.2)⟩;obtain h|h:=ZF.1 e;have:=(V.XK.own c h).1;omega;have:=(V.WT.own c h).1;omega
end
def mj(L:List Int):List (List Int):=(zac L.length).map λk=>(zz L k).map λi:Nat=>(i:Int)
structure RC (M:Fr) (rb:Nat) (Ls:List Bt) (L:List Int) (s1 s2 s3:Sl):Prop where
 at_:M rb=Td #[aK s1,aK s2,aK s3]
 r1:Rd M (.row .str) Ls [aK s1]
 r3:Rd M (.row (.row q0)) (mj L) [aK s3]
theorem RC.mono{L:ac7}(H:RC M rb Ls L s1 s2 s3)(le:Fr.le M M'):RC M' rb Ls L s1 s2 s3:=⟨le _ _ H.at_,H.r1.mono le,H.r3.mono le⟩
def Mh{xs:List (List Int)}{s:Sl}(H:Rd M (.row (.row q0)) xs [aK s]){k:Nat}(l:k<DB xs):∃(a:n8) (f:Sl),s.a=Td a/\(∀g,AgM M g->zd g (a.add (k*1))=Td (aK f))/\Rd M (.row q0) xs[k] [aK f]:=by
 have⟨b,o,cs,m,n,h⟩:=Go.X.SM H l;obtain⟨f,i⟩:∃f:Sl,cut cs (o+k*sz (.row q0)) (sz (.row q0))=[aK f]:=by have⟨w,e,a,c,q,_⟩:=h;exact⟨⟨a,_,c⟩,by rw[e,q];rfl⟩
 rw[i]at h;exact⟨_,f,m,λg ag=>by rw[zm];exact lD ag n i,h⟩
theorem zR(L:ac7):(mj L).length=DB L:=by unfold mj;rw[YO,zc9]
theorem RC.kids{L:ac7}(H:RC M rb Ls L s1 s2 s3)(c:n<DB L):∃(a:n8) (sk:Sl),(s3.a=Td a/\(0:Int)<=(n:Int)/\(n:Int)<(s3.len:Int))/\(∀g,AgM M g->zd g (a.add (((n:Nat):Int).toNat*1))=Td (aK sk))/\Rd M (.row q0) ((zz L n).map λi:Nat=>(i:Int)) [aK sk]:=by
 have⟨a,e,f,l,b⟩:=Mh H.r3 (k:=n) (by rw[zR];exact c);have h:=(Bx H.r3).1;rw[zR]at h;refine⟨a,e,⟨f,ω,ω⟩,λg ag=>by rw[YL];exact l g ag,?_⟩;have:(mj L)[n]'(by rw[zR];exact c)=(zz L n).map λi:Nat=>(i:Int):=by unfold mj;rw[zby,List.getElem_range]
 rw[this]at b;exact b
theorem RC.lab{L:ac7}(H:RC M rb Ls L s1 s2 s3)(ag:AgM M g)(b:n<DB Ls):∃a:n8,(s1.a=Td a/\(0:Int)<=(n:Int)/\(n:Int)<(s1.len:Int))/\zd g (a.add (((n:Nat):Int).toNat*1))=Td (aa6 (wo Ls n)):=by have⟨a,h1,x,h2,c⟩:=gS ag H.r1 b (i:=(n:Int)) rfl (L:=s1.len) rfl (Q:=λx=>x=wo Ls n) (by unfold wo;rw[zaf,YS b];rfl);subst c;exact⟨a,h1,h2⟩
theorem RC.c0{L:ac7}(H:RC M rb Ls L s1 s2 s3)(ag:AgM M g):zd g (YH (YH ⟨rb,0,Te⟩ 0) 0)=Td (aK s1):=by rw[zl,zl];exact lD ag H.at_ rfl
theorem RC.c2{L:ac7}(H:RC M rb Ls L s1 s2 s3)(ag:AgM M g):zd g (YH ⟨rb,0,Te⟩ 2)=Td (aK s3):=by rw[zl];exact lD ag H.at_ rfl
end
section
variable {M:Fr} {w:Value} {Ls:List Bt} {k:Nat}
def iQ{r:Tr×Bool}(h:x7 M [.tree,.bool] r w):∃sk si:Sl,w=.tuple #[.agg #[ab0 r.1.Wf,aa6 r.1.aa0,aK sk,aK si],aa9 r.2]/\RdV M .tree r.1 (.agg #[ab0 r.1.Wf,aa6 r.1.aa0,aK sk,aK si]):=by
 obtain⟨vs,⟨f,rest,rfl,c,e,rfl,b⟩,rfl⟩:=h;obtain⟨sk,si,rfl,_,_⟩:=yg c;have b:e=.bool r.2:=by have:=(eC rfl).1 b;simpa[Rd]using this
 subst b;exact⟨sk,si,rfl,c⟩
def K3{r:Bt×Tr×Bool}(h:x7 M [.str,.tree,.bool] r w):∃sk si:Sl,w=.tuple #[aa6 r.1,.agg #[ab0 r.2.1.Wf,aa6 r.2.1.aa0,aK sk,aK si],aa9 r.2.2]/\RdV M .tree r.2.1 (.agg #[ab0 r.2.1.Wf,aa6 r.2.1.aa0,aK sk,aK si]):=by
 obtain⟨vs,⟨k,e,rfl,c,l,rest,rfl,f,i,rfl,b⟩,rfl⟩:=h;obtain⟨sk,si,rfl,_,_⟩:=yg f;have b:i=.bool r.2.2:=by have:=(eC rfl).1 b;simpa[Rd]using this
 have c:k=.string r.1:=by have:=(eC rfl).1 c;simpa[Rd]using this
 subst b;subst c;exact⟨sk,si,rfl,f⟩
def Cf{s:Bt}{x:Tr}{b:Bool}{u:Value}(h:RdV M .tree x u):x7 M [.str,.tree,.bool] (s,x,b) (.tuple #[aa6 s,u,aa9 b]):=⟨[_,_,_],⟨_,_,rfl,DH _,_,_,rfl,h,_,rfl,Fk _⟩,rfl⟩
def mJ:RdV M .tree fj (.agg #[ab0 0,aa6 ⟨#[]⟩,aK ⟨Te,0,0⟩,aK ⟨Te,0,0⟩]):=qe (v:=fj) J5 J5
theorem BD{l:Bs}:(cond ((((bl l).size:Nat):Int)==0) Ta (!(((bl l).extract (0:Int).toNat (1:Int).toNat:Bt).toList==(⟨#[107]⟩:Bt).toList)))=!hV (l.head?=Td 107):=by
 rw[show(0:Int).toNat=0 from rfl,show(1:Int).toNat=1 from rfl,qa,zf,ig];cases l with
 |nil=>rfl
 |cons c t=>
  have e:((((c::t).length:Nat):Int)==0)=Tc:=by rw[beq_eq_false_iff_ne,YU];omega
  have b:(bl (((c::t).drop 0).take (1-0))=(⟨#[107]⟩:Bt))↔(c=107):=by rw[List.drop_zero,show 1-0=0+1 from rfl,zcj,zco];constructor;intro h;have:=congrArg lb h;rw[yr]at this;have h2:lb (⟨#[107]⟩:Bt)=[107]:=rfl;rw[h2]at this;injection this;rintro rfl;rfl
  rw[e,zG];congr 1;rw[ZI,zA,zA,b];simp
def QE{L:ac7}{rd:Nat->Tr×Bool}(h:(lb (wo Ls k)).head?≠Td 107\/(zz L k).length≠1):eK Ls L rd k=(⟨#[]⟩,fj,Tc):=by unfold eK;split;rename_i j b;rw[b]at h;rw[za];obtain h|h:=h;exact h;exact absurd rfl h;rfl
theorem KJ{L:ac7}{rd:Nat->Tr×Bool}{k j:Nat}(h:(lb (wo Ls k)).head?=Td 107)(b:zz L k=[j]):eK Ls L rd k=((ym (bl (lb (wo Ls k)).tail)).1.aa0,(rd j).1,(ym (bl (lb (wo Ls k)).tail)).2&&((rd j).2&&hV ((ym (bl (lb (wo Ls k)).tail)).1.Wf=4))):=by unfold eK;rw[b];dsimp only;rw[zi h]
def NP{gl:Fr}(hg:GL gl)(hb:Brn gl){rb:Nat}{L:ac7}{s1 s2 s3:Sl}(aF:Ls.length=DB L){rd:Nat->Tr×Bool}{n:Nat}(hn:n<DB L) (H:∀j∈zz L n,∀(h:zb) (M:Fr),Fr.le gl M->AgM M h->RC M rb Ls L s1 s2 s3->PX Tp 61 #[aa7 ⟨rb,0,Te⟩,ab0 (j:Int)] h M [.tree,.bool] (λr=>r=rd j)){h:zb} (hM:Fr.le gl M) (ag:AgM M h) (S:RC M rb Ls L s1 s2 s3):PX Tp 108 #[aa7 ⟨rb,0,Te⟩,ab0 (n:Int)] h M [.str,.tree,.bool] (λr=>r=eK Ls L rd n):=by
 apply PX.of;apply NC (Td ⟨rb,0,Te⟩) (n:Int);intro h1;have u:wr h M h1 M:=wr.push ag _;have⟨_,z1,B1⟩:=yp (g:=h1) rfl;clear_value h1;have⟨a,ah,af⟩:=S.lab u.ag (n:=n) ω;have⟨c,sk,aA,ak,V⟩:=S.kids hn;have J:=(Bx V).1;rw[YO]at J;obtain⟨l,hl⟩:∃l,wo Ls n=bl l:=⟨lb (wo Ls n),(Zz _).symm⟩;rw[hl]at af;have O:lb (wo Ls n)=l:=by rw[hl,yr]
 refine⟨⟨rb,0,Te⟩,rfl,s1,S.c0 u.ag,a,ah,bl l,af,λq=>?_,⟨rb,0,Te⟩,λ_=>rfl,s3,λ_=>S.c2 u.ag,c,λ_=>aA,sk,λ_=>ak _ u.ag,λq=>?_,λq=>?_⟩;have:((bl l).size:Int)≠0:=λe=>by rw[e]at q;simp at q
 refine⟨ω,ω,ω⟩;rw[BD,vd]at q;have aa:eK Ls L rd n=(⟨#[]⟩,fj,Tc):=QE (by
  rw[O];obtain h|h:=q;exact .inl (ψ h);refine .inr λe=>?_
  rw[J,e]at h;simp at h)
 refine qt (k:=0) (s:=⟨#[]⟩) (sk:=⟨Te,0,0⟩) (si:=⟨Te,0,0⟩) B1 λg f z B=>⟨_,_,_,_,B.ld (cs:=[ab0 0,aa6 ⟨#[]⟩,aK ⟨Te,0,0⟩,aK ⟨Te,0,0⟩]),M,_,wr.stay u (YJ _) (ag.none (YJ _)) f z,Cf mJ,aa.symm⟩
 ·rw[BD,iY]at q;have hh:l.head?=Td 107:=ψ q.1
  have ar:(zz L n).length=1:=by
   have:=q.2;rw[J]at this;have:((zz L n).length:Int)=1:=ψ this
   omega
  have⟨j,hj⟩:=List.length_eq_one_iff.1 ar;rw[hj]at V;have aB:1<=(bl l).size:=by
   rw[zf];cases l with
   |nil=>simp at hh
   |cons c t=>simp
  refine⟨⟨ω,ω,ω⟩,?_⟩;have ex:(bl l).extract (1:Int).toNat (((bl l).size:Nat):Int).toNat=bl l.tail:=by rw[YL,zf,show(1:Int).toNat=1 from rfl,qa];congr 1;rw[List.drop_one,za0 ξ]
  rw[ex];refine(A4 hg hb (s:=bl l.tail) (R:=λr=>r=ym (bl l.tail)) rfl).go (vs:=[aa6 (bl l.tail)]) (hM.trans u.le) u.ag (zn (a:=qr .str _) (DH _) zw) λw P ay r y Q hr=>?_;subst hr;obtain⟨xk,xi,rfl,aL⟩:=iQ Q;refine⟨_,_,xk,xi,_,rfl,?_⟩;have E:=u.trans y;have aC:=y.aa1.size;intro aJ;refine yz y.ag λan x aH am=>?_;have i:=x.ag;have I:=S.mono (E.le.trans x.le);have⟨c',au,U,Y,p⟩:=I.kids hn;rw[hj]at p;have Z:=(Bx p).1;have⟨b3,o3,e3,e4⟩:=hP i p (k:=0) ξ;refine⟨⟨rb,0,Te⟩,rfl,s3,I.c2 i,c',U,au,Y _ i,⟨b3,o3,Te⟩,⟨e3,Int.le_refl _,υ Z⟩,(j:Int),by rw[zm];exact e4,?_⟩;refine(H j (υ hj) an ay (hM.trans (E.le.trans x.le)) i I).go λw aM N r A F hr=>?_;subst hr;obtain⟨C,D,rfl,ai⟩:=iQ F;refine⟨_,_,C,D,_,rfl,?_⟩;intro aG;have aI:=A.aa1.size;refine yz A.ag λb G aE aj=>?_;have ab:Blk b P.size #[ab0 (ym (bl l.tail)).1.Wf,aa6 (ym (bl l.tail)).1.aa0,aK xk,aK xi]:=(am.aa1 (A.aa1.get _ ω)).aa1 (G.aa1.get _ ω);have m:wr h1 M b N:=y.trans (x.trans (A.trans G));have ae:Blk b h.size #[ab0 0,aa6 ⟨#[]⟩,.slice Te 0 0,.slice Te 0 0]:=B1.aa1 (m.aa1.get _ ω);have ap:N h.size=Te:=by rw[m.old _ ω];exact ag.none (YJ _)
  have kc:∀g:zb,(∀j,j≠h.size->g[j]?=b[j]?)->zd g (YH (aa8 P) 0)=Td (ab0 (ym (bl l.tail)).1.Wf):=λg f=>(ab.aa1 (f _ ω)).aa2 (o:=0) (k:=0) rfl;have az:(cond (cond ((ym (bl l.tail)).2) ((rd j).2) Tc) (hV ((ym (bl l.tail)).1.Wf=4)) Tc)=((ym (bl l.tail)).2&&((rd j).2&&hV ((ym (bl l.tail)).1.Wf=4))):=by cases(ym (bl l.tail)).2 <;> cases(rd j).2 <;> rfl
  have ax:((ym (bl l.tail)).1.Wf==4)=hV ((ym (bl l.tail)).1.Wf=4):=by rw[ZI,beq_iff_eq,zA]
  have done:∀{g:zb},(∀j,j≠h.size->g[j]?=b[j]?)->g.size=b.size->∃M' r,wr h M g M'/\x7 M' [.str,.tree,.bool] r (.tuple #[aa6 (ym (bl l.tail)).1.aa0,.agg #[ab0 (rd j).1.Wf,aa6 (rd j).1.aa0,aK C,aK D],aa9 (cond (cond ((ym (bl l.tail)).2) ((rd j).2) Tc) ((ym (bl l.tail)).1.Wf==4) Tc)])/\r=eK Ls L rd n:=λ {g} f z=>
   ⟨N,_,wr.stay (u.trans m) (YJ _) ap f z,Cf (ai.mono G.le),by rw[KJ (ϖ O hh) hj,O,ax,az]⟩
  refine⟨_,ab.aa2 (o:=0) (k:=1) rfl,_,_,C,D,aj.ld (cs:=[_,_,aK C,aK D]),?_⟩;repeat' first
   |exact rfl
   |exact qt ae λg f z B=>⟨_,_,C,D,B.ld (cs:=[_,_,aK C,aK D]),done f z⟩
   |exact qt ae λg f z B=>⟨_,λ_=>kc g f,_,_,C,D,B.ld (cs:=[_,_,aK C,aK D]),done f z⟩
   |refine⟨_,λ_=>kc b λ_ _=>rfl,?_⟩
   |refine⟨?_,?_⟩
end
section
def wA(L:ac7)(n:Nat):(zz L n).length<=DB L:=by unfold zz;grind
theorem VbM.new{h0 g:zb}{M0 M:Fr}{b:Nat}{k:Int}(L:wr h0 M0 g M)(B:Blk g b #[ab0 k,aa6 ⟨#[]⟩,.slice Te 0 0,.slice Te 0 0])(e:h0.size<=b)(f:b<g.size)(i:M b=Te):VbM (b+1) h0 M0 b k ⟨Te,0,0⟩ ⟨Te,0,0⟩ g M [] [] ⟨Te,0,0⟩ ⟨Te,0,0⟩ [] []:= ⟨L,B,Fd.nil,Fd.nil,λc h=>(ε h),e,Nat.lt_succ_self _,f,i⟩
section
variable {lo : Nat} {h0 : zb} {M0 : Fr} {b : Nat} {k : Int} {g : zb} {M : Fr} {ks : List Bt} {xs : List Tr} {sk si : Sl} {bk bi : List Nat}
theorem VbM.done(V:VbM lo h0 M0 b k sk si g M ks xs sk si bk bi)(t:ks.length<=1000000/\DB xs<=1000000){q:Tr×Bool}(w:q=(.mk k ⟨#[]⟩ ks xs,Ta)):∃(o:Int) (l:Bt) (f e:Sl),zc g ⟨b,0,Te⟩ 0 [ab0 o,aa6 l,aK f,aK e]/\wf Tp (YI 25 (aa7 ⟨b,0,Te⟩) (.agg #[ab0 o,aa6 l,aK f,aK e])) g λc=>∃(i:Int) (s:Bt) (n m:Sl),zc c ⟨b,0,Te⟩ 0 [ab0 i,aa6 s,aK n,aK m]/\∃h r,wr h0 M0 c h/\x7 h [.tree,.bool] r (.tuple #[.agg #[ab0 i,aa6 s,aK n,aK m],aa9 Ta])/\r=q:=by subst w;refine⟨_,_,sk,si,V.box.ld (cs:=[_,_,aK sk,aK si]),?_⟩;refine qt V.box λx u z2 p=>⟨_,_,sk,si,p.ld (cs:=[_,_,aK sk,aK si]),?_⟩;have⟨L,r⟩:=(V.turn p z2 u).fin t;grind [jD]
theorem VbM.bad{z2 z3:Sl}(V:VbM lo h0 M0 b k z2 z3 g M ks xs sk si bk bi){g':zb}{M':Fr}(L:wr g M g' M'){q:Tr×Bool}(o:q=(fj,Tc)):wf Tp (YI 25 (aa7 ⟨b,0,Te⟩) (.agg #[ab0 0,aa6 ⟨#[]⟩,.slice Te 0 0,.slice Te 0 0])) g' λc=>∃(h:Int) (m:Bt) (l i:Sl),zc c ⟨b,0,Te⟩ 0 [ab0 h,aa6 m,aK l,aK i]/\∃f r,wr h0 M0 c f/\x7 f [.tree,.bool] r (.tuple #[.agg #[ab0 h,aa6 m,aK l,aK i],aa9 Tc])/\r=q:=by subst o;have e:=V.call L;refine qt (k:=0) (s:=⟨#[]⟩) (sk:=⟨Te,0,0⟩) (si:=⟨Te,0,0⟩) e.box λt n z2 p=>⟨_,_,_,_,p.ld (cs:=[ab0 0,aa6 ⟨#[]⟩,aK ⟨Te,0,0⟩,aK ⟨Te,0,0⟩]),M',_,wr.stay e.L e.hb e.nB n z2,jD mJ,rfl⟩
end
def zH{gl:Fr}(hg:GL gl)(hb:Brn gl){rb:Nat}{Ls:List Bt}{L:ac7}{s1 s2 s3:Sl}(az:Ls.length=DB L)(hL:L.length<=512)(an:fJ L (DB L)=Ta):∀(f n:Nat),n<f->n<DB L->∀(h:zb) (M:Fr),Fr.le gl M->AgM M h->RC M rb Ls L s1 s2 s3 ->PX Tp 61 #[aa7 ⟨rb,0,Te⟩,ab0 (n:Int)] h M [.tree,.bool] (λr=>r=dK Ls L f n)
 |0,n,h,_=>absurd h (zcd n)
 |f+1,n,hf,hn=>by
  intro h M hM ag S;have low:∀{i k:Nat},i∈zz L k->i<k/\i<DB L:=λ {i k} hi=>by have⟨h1,h2⟩:=Y6.1 hi;exact⟨(Y7 an h1 h2).1,h1⟩
  have ih:∀j,j∈zz L n->∀(h:zb) (M:Fr),Fr.le gl M->AgM M h->RC M rb Ls L s1 s2 s3->PX Tp 61 #[aa7 ⟨rb,0,Te⟩,ab0 (j:Int)] h M [.tree,.bool] (λr=>r=dK Ls L f j):=λj Y=>by have⟨h1,h2⟩:=low Y;exact zH hg hb az hL an f j ω h2
  have im:∀j,j∈zz L n->∀(h:zb) (M:Fr),Fr.le gl M->AgM M h->RC M rb Ls L s1 s2 s3->PX Tp 108 #[aa7 ⟨rb,0,Te⟩,ab0 (j:Int)] h M [.str,.tree,.bool] (λr=>r=eK Ls L (dK Ls L f) j):=λj Y h M hM ag S=>by have⟨h1,h2⟩:=low Y;exact NP hg hb az h2 (λi hi=>by have⟨h3,h4⟩:=low hi;exact zH hg hb az hL an f i ω h4) hM ag S
  have bD:=wA L n;apply PX.of;apply XO (Td ⟨rb,0,Te⟩) (n:Int);intro h1;have L1:wr h M h1 M:=wr.push ag _;have⟨_,z1,B1⟩:=yp (g:=h1) rfl;clear_value h1;have⟨a,aE,aT⟩:=S.lab L1.ag (n:=n) ω;have nB:M h.size=Te:=ag.none (YJ _);refine⟨⟨rb,0,Te⟩,rfl,s1,S.c0 L1.ag,a,aE,wo Ls n,aT,λp=>?_,λp=>⟨λZ=>?_,λZ=>?_⟩⟩;rw[ig]at p;have p:wo Ls n=bl [91]:=zB p;rw[dK,zi p];refine qj (o:=0+0) iS κ B1 ξ rfl λh6 B6 z6 f6=>?_;have B6:Blk h6 h.size #[ab0 5,aa6 ⟨#[]⟩,.slice Te 0 0,.slice Te 0 0]:=B6;have L6:wr h M h6 M:=wr.stay L1 (YJ _) nB f6 z6;have⟨c,sk,O,F,q⟩:=S.kids hn;have E:=(Bx q).1;rw[YO]at E;refine⟨⟨rb,0,Te⟩,rfl,s3,S.c2 L6.ag,c,O,sk,F _ L6.ag,λi g=>∃(m:Nat) (M':Fr) (si:Sl) (bi:ab1),i=(m:Int)/\m<=(zz L n).length/\(∀j (Y:j<(zz L n).length),j<m->(dK Ls L f (zz L n)[j]).2=Ta)/\VbM (h.size+1) h M h.size 5 ⟨Te,0,0⟩ si g M' [] (((zz L n).take m).map λk=>(dK Ls L f k).1) ⟨Te,0,0⟩ si [] bi,λi _=>(zz L n).length-i.toNat,⟨0,M,⟨Te,0,0⟩,[],rfl,ZQ _,λj _ h=>absurd h (zcd j),VbM.new L6 B6 (YJ _) ω nB⟩,?_⟩;rintro i g ⟨m,M',si,bi,rfl,hm,aJ,V⟩;have N:(((zz L n).take m).map λk=>(dK Ls L f k).1).length=m:=by rw[YO,ZV,zci hm]
  refine⟨λhc=>?_,λhc=>?_⟩;have b:m<(zz L n).length:=χ (fo hc)
  have Sg:=S.mono V.L.le;have⟨b3,o3,e3,e4⟩:=hP V.L.ag (q.mono V.L.le) (k:=m) θ;rw[zby]at e4;refine⟨⟨b3,o3,Te⟩,⟨e3,ω,ω⟩,(((zz L n)[m]:Nat):Int),by rw[zm,YL];exact e4,?_⟩;refine(ih _ (YY b) g M' (hM.trans V.L.le) V.L.ag Sg).go λw bL bn r ap e hr=>?_;subst hr;obtain⟨yk,yi,rfl,I⟩:=iQ e;refine⟨_,_,yk,yi,_,rfl,?_⟩;intro bB;refine yz ap.ag λbE aA bI bq=>⟨λy=>?_,λy=>?_⟩;have aC:(dK Ls L f (zz L n)[m]).2=Tc:=ψ y
  refine V.bad (ap.trans aA) ?_;grind;have aC:(dK Ls L f (zz L n)[m]).2=Ta:=ψ y
  have aL:=V.call (ap.trans aA);refine⟨si,by have:=aL.box.aa2 (o:=0) (k:=3) rfl;exact this,_,_,yk,yi,bq.ld (cs:=[_,_,aK yk,aK yi]),?_⟩;intro bG;have ba:=aL.push (.cells #[ab0 (dK Ls L f (zz L n)[m]).1.Wf,aa6 (dK Ls L f (zz L n)[m]).1.aa0,aK yk,aK yi] 25);refine ba.item (ο N) (Blk.new _ _ _) (I.mono aA.le) λs' g2 ab V2 z2 U=>⟨s',rfl,?_⟩;refine V2.st3 λg3 V3 z3 f3=>⟨⟨m+1,bn,s',ab,by rw[qo b ω],b,λj Y h=>?_,?_⟩,by rw[qo b ω];grind⟩;grind;rw[YP b,zaa];exact V3;have am:m=(zz L n).length:=χ (fL hc)
  subst am;rw[ZX]at V;refine V.done ⟨ZQ _,η⟩ ?_;rw[zi (ZB.2 λx p=>?_)];obtain⟨j,Y,rfl⟩:=zbt.1 p;grind
  ·rw[ig]at p Z;have p:¬wo Ls n=bl [91]:=zC p;have Z:wo Ls n=bl [123]:=zB Z;rw[dK,za p,zi Z];refine qj (o:=0+0) iS κ B1 ξ rfl λh6 B6 z6 f6=>?_;have B6:Blk h6 h.size #[ab0 6,aa6 ⟨#[]⟩,.slice Te 0 0,.slice Te 0 0]:=B6;have L6:wr h M h6 M:=wr.stay L1 (YJ _) nB f6 z6;have⟨c,sk,O,F,q⟩:=S.kids hn;have E:=(Bx q).1;rw[YO]at E;refine⟨⟨rb,0,Te⟩,rfl,s3,S.c2 L6.ag,c,O,sk,F _ L6.ag,λi g=>∃(m:Nat) (M':Fr) (sk si:Sl) (bk bi:ab1),i=(m:Int)/\m<=(zz L n).length/\(∀j (Y:j<(zz L n).length),j<m->(eK Ls L (dK Ls L f) (zz L n)[j]).2.2=Ta)/\VbM (h.size+1) h M h.size 6 sk si g M' (((zz L n).take m).map λk=>(eK Ls L (dK Ls L f) k).1) (((zz L n).take m).map λk=>(eK Ls L (dK Ls L f) k).2.1) sk si bk bi,λi _=>(zz L n).length-i.toNat,⟨0,M,⟨Te,0,0⟩,⟨Te,0,0⟩,[],[],rfl,ZQ _,λj _ h=>absurd h (zcd j),VbM.new L6 B6 (YJ _) ω nB⟩,?_⟩;rintro i g ⟨m,M',P,G,bk,bi,rfl,hm,aJ,V⟩;have N:(((zz L n).take m).map λk=>(eK Ls L (dK Ls L f) k).1).length=m:=by rw[YO,ZV,zci hm]
   have au:(((zz L n).take m).map λk=>(eK Ls L (dK Ls L f) k).2.1).length=m:=by rw[YO,ZV,zci hm]
   refine⟨λhc=>?_,λhc=>?_⟩
   ·have b:m<(zz L n).length:=χ (fo hc)
    have Sg:=S.mono V.L.le;have⟨b3,o3,e3,e4⟩:=hP V.L.ag (q.mono V.L.le) (k:=m) θ;rw[zby]at e4;refine⟨⟨b3,o3,Te⟩,⟨e3,ω,ω⟩,(((zz L n)[m]:Nat):Int),by rw[zm,YL];exact e4,?_⟩;refine(im _ (YY b) g M' (hM.trans V.L.le) V.L.ag Sg).go λw D t r ax e hr=>?_;generalize aQ:eK Ls L (dK Ls L f) (zz L n)[m]=rr at hr;subst hr;obtain⟨yk,yi,rfl,I⟩:=K3 e;refine⟨_,_,_,yk,yi,_,rfl,?_⟩;intro bC;refine yz ax.ag λai aN bF bg=>⟨λy=>?_,λy=>?_⟩;have aC:(eK Ls L (dK Ls L f) (zz L n)[m]).2.2=Tc:=by rw[aQ];simpa using y
    refine V.bad (ax.trans aN) ?_;grind
    ·have aC:(eK Ls L (dK Ls L f) (zz L n)[m]).2.2=Ta:=by rw[aQ];simpa using y
     have aj:=V.call ax;have aa:=aj.call aN;have bH:=aj.lg;have aZ:=aa.box.aa2 (o:=0) (k:=3) rfl;have aY:=aa.box.aa2 (o:=0) (k:=2) rfl;have aU:∀c,c∈bk->c<D.size:=λc hc=>(aj.XK.own c hc).2.1;have ae:h.size∉bk:=λhm=>χ ((aj.XK.own _ hm).1)
     have a1:D.size∉bk:=λhm=>η
     have bA:h.size<D.size:=ω
     have fin:∀{g:zb} {s2 s3:Sl} {b2 b3:ab1},VbM (h.size+1) h M h.size 6 P G g t ((((zz L n).take m).map λk=>(eK Ls L (dK Ls L f) k).1)++[r.1]) ((((zz L n).take m).map λk=>(eK Ls L (dK Ls L f) k).2.1)++[r.2.1]) s2 s3 b2 b3 ->
      wf Tp (YI 22 (.pointer (Td (YH (aa8 h) 2))) (aK s2)) g λa8=>wf Tp (YI 23 (.pointer (Td (YH (aa8 h) 3))) (aK s3)) a8 λg=>(∃(m2:Nat) (M':Fr) (sk si:Sl) (bk bi:ab1),p3 ((m:Int)+1)=(m2:Int)/\m2<=(zz L n).length/\(∀j (Y:j<(zz L n).length),j<m2->(eK Ls L (dK Ls L f) (zz L n)[j]).2.2=Ta)/\VbM (h.size+1) h M h.size 6 sk si g M' (((zz L n).take m2).map λk=>(eK Ls L (dK Ls L f) k).1) (((zz L n).take m2).map λk=>(eK Ls L (dK Ls L f) k).2.1) sk si bk bi)/\(zz L n).length-(p3 ((m:Int)+1)).toNat<(zz L n).length-((m:Nat):Int).toNat:=by
      intro g s2 s3 b2 b3 W;refine W.st2 λg1 W1 _ _=>W1.st3 λg2 W2 _ _=>⟨⟨m+1,t,s2,s3,b2,b3,by rw[qo b ω],b,λj Y h=>?_,?_⟩,by rw[qo b ω];omega⟩;grind;grind [YP]
     refine⟨P,aY,G,aZ,_,_,yk,yi,bg.ld (cs:=[_,_,aK yk,aK yi]),?_,?_⟩;intro af;have⟨u,bJ,aO⟩:=yp (g:=af) rfl;have aI:VbM (h.size+1) h M h.size 6 P G af t _ _ P G bk bi:=aa.push _;clear_value af;refine⟨u.get D.size ω,u.get h.size ω,u.get h.size ω,?_,?_⟩;refine aI.key (ο N) aO λs' g2 aB W2 z2 U=>⟨s',rfl,(U D.size ω a1).trans (u.get D.size ω),(U h.size ω ae).trans (u.get h.size ω),?_⟩;intro ar;have⟨aV,_,a7⟩:=yp (g:=ar) rfl;have bj:VbM (h.size+1) h M h.size 6 P G ar t _ _ s' G aB bi:=W2.push _;clear_value ar;refine⟨(aV.get h.size ω).trans ((U h.size ω ae).trans (u.get h.size ω)),?_⟩;exact bj.item (ο au) a7 I λH g3 ab W3 _ _=>⟨H,rfl,fin W3⟩;intro ah;have⟨aH,bz,a6⟩:=yp (g:=ah) rfl;have be:VbM (h.size+1) h M h.size 6 P G ah t _ _ P G bk bi:=aI.push _;clear_value ah;have ay:ah[h.size]?=ai[h.size]?:=(aH.get _ ω).trans (u.get _ ω);refine⟨ay,ay,?_⟩;refine be.key (ο N) (aO.aa3 aH) λs' g2 aB W2 z2 U=>⟨s',rfl,(U h.size ω ae).trans ay,?_⟩;exact W2.item (ο au) (a6.aa1 (U af.size ω λhm=>η)) I λH g3 ab W3 _ _=>⟨H,rfl,fin W3⟩;intro C;have⟨aP,bu,aF⟩:=yp (g:=C) rfl;have aG:VbM (h.size+1) h M h.size 6 P G C t _ _ P G bk bi:=aa.push _;clear_value C;have Q:C[h.size]?=ai[h.size]?:=aP.get _ ω;refine⟨Q,Q,?_⟩;intro A;have⟨ak,br,aS⟩:=yp (g:=A) rfl;have aM:VbM (h.size+1) h M h.size 6 P G A t _ _ P G bk bi:=aG.push _;clear_value A;have J:A[h.size]?=ai[h.size]?:=(ak.get _ ω).trans Q;refine⟨J,J,?_⟩;refine aM.key (ο N) aS λs' g2 aB W2 z2 U=>⟨s',rfl,(U h.size ω ae).trans J,?_⟩;exact W2.item (ο au) ((aF.aa3 ak).aa1 (U ai.size ω λhm=>η)) I λH g3 ab W3 _ _=>⟨H,rfl,fin W3⟩
   have am:m=(zz L n).length:=χ (fL hc)
   subst am;rw[ZX]at V;refine V.done ⟨η,η⟩ ?_;rw[zi (ZB.2 λx p=>?_)];obtain⟨j,Y,rfl⟩:=zbt.1 p;grind
  ·rw[ig]at p Z;have p:¬wo Ls n=bl [91]:=zC p;have Z:¬wo Ls n=bl [123]:=zC Z;rw[dK,za p,za Z];refine⟨⟨rb,0,Te⟩,rfl,s1,S.c0 L1.ag,a,aE,wo Ls n,aT,?_⟩;refine(A4 hg hb (s:=wo Ls n) (R:=λr=>r=ym (wo Ls n)) rfl).go (vs:=[aa6 (wo Ls n)]) (hM.trans L1.le) L1.ag (zn (a:=qr .str _) (DH _) zw) λw h2 M2 r L2 e hr=>?_;subst hr;obtain⟨xk,xi,rfl,bm⟩:=iQ e;refine⟨_,_,xk,xi,_,rfl,?_⟩;have n2:M2 h.size=Te:=by rw[L2.old _ ω];exact nB
   refine qt (B1.aa1 (L2.aa1.get _ ω)) λg f z B=>?_;have Lg:wr h M g M2:=wr.stay (L1.trans L2) (YJ _) n2 f z;have Sg:=S.mono Lg.le;have⟨c,sk,O,F,q⟩:=Sg.kids hn;have E:=(Bx q).1;rw[YO]at E;have hq:(cond ((ym (wo Ls n)).2) (((sk.len:Nat):Int)==0) Tc)=((ym (wo Ls n)).2&&hV (zz L n=[])):=by
    rw[E];cases hk:zz L n with
    |nil=>simp
    |cons a l=>grind
   have AG:∀{g':zb},(∀j,j≠h.size->g'[j]?=g[j]?)->g'.size=g.size->wr h M g' M2:=λf z=>wr.stay Lg (YJ _) n2 f z;have fin:∀{g':zb},(∀j,j≠h.size->g'[j]?=g[j]?)->g'.size=g.size->∃M' r,wr h M g' M'/\x7 M' [.tree,.bool] r (.tuple #[.agg #[ab0 (ym (wo Ls n)).1.Wf,aa6 (ym (wo Ls n)).1.aa0,aK xk,aK xi],aa9 (cond ((ym (wo Ls n)).2) (((sk.len:Nat):Int)==0) Tc)])/\r=((ym (wo Ls n)).1,(ym (wo Ls n)).2&&hV (zz L n=[])):=λf z=>
    ⟨M2,_,AG f z,jD bm,ϕ hq⟩
   repeat' first
    |exact rfl
    |refine⟨⟨rb,0,Te⟩,λ_=>rfl,?_⟩
    |refine⟨s3,λ_=>Sg.c2 Lg.ag,?_⟩
    |refine⟨s3,λ_=>Sg.c2 (AG f' z').ag,?_⟩
    |refine⟨c,λ_=>O,?_⟩
    |refine⟨sk,λ_=>F _ Lg.ag,?_⟩
    |refine⟨sk,λ_=>F _ (AG f' z').ag,?_⟩
    |exact⟨_,_,xk,xi,B'.ld (cs:=[_,_,aK xk,aK xi]),fin f' z'⟩
    |refine⟨_,_,xk,xi,B.ld (cs:=[_,_,aK xk,aK xi]),?_⟩
    |refine qt B λg' f' z' B'=>?_
    |refine⟨?_,?_⟩
end
end
section
open Go.Lib
variable {ks:List Bt} {v x y a b:Tr}
theorem XW{ys:List Tr}(c:ks.Nodup)(b:ks.length=DB ys):(ks.map λq=>eW (ks.zip ys) q)=ys:=by have:=congrArg (List.map (·.2)) (nX ks ys c b);rw[zak,List.map_snd_zip ω]at this;exact this
theorem T5(h:ks.Nodup):(y9 ks).Nodup:=(jb ks).nodup_iff.2 h
def F8:∀(n:Nat) (v:Tr),cK v<=n->Qc zq v=Ta->zh (zh v)=zh v
 |0,v,h,_=>χ (Zn v)
 |n+1,v,hz,hok=>by
  rw[y8,YR,je,ZB]at hok;have⟨f,l⟩:=hok;have p:∀x∈v.WT,zh (zh x)=zh x:=λx b=>F8 n x (χ (yc b)) (l x b);have S:=rE f;have hi:∀x∈(zh v).WT,zh x=x:=λx b=>by obtain⟨y,o,rfl⟩:=zab.1 (S.ip.mem_iff.1 b);exact p y o
  have i:(zh v).WT.map zh=(zh v).WT:=by
   conv=>rhs;rw[<-zdz (zh v).WT]
   exact zck λx b=>hi x b
  rw[yw (zh v),S.k,i];by_cases c:v.Wf=6;rw[zi c];have⟨r,m⟩:=Js f c;have e:(zh v).XK=y9 v.XK:=by rw[yw,zi c]
  have q:y9 (zh v).XK=(zh v).XK:=by rw[e];exact Zw (jb _)
  rw[q,XW (by rw[e];exact T5 r) (by rw[S.kp.length_eq,S.ip.length_eq,YO];exact m),<-S.k];simp;rw[za c];have e:(zh v).XK=[]:=by rw[yw,za c]
  rw[<-e,<-S.k];simp
def IH(h:qh v=Ta):Qc dR v=Ta/\Qc zq v=Ta:=by have e:qh v=(wy v&&Qc dR v):=rfl;rw[e,YR]at h;exact⟨h.2,pu (λx b=>by unfold dR at b;simp_all) v h.2⟩
def Gg(h:Zo v=Ta):Qc zq v=Ta:=by unfold Zo at h;simp_all
theorem GZ(b:qh v=Ta)(c:xd (zh v)<=512):Q4 (zh v) (fM (Qy (zh v) 0)):= ⟨by rw[E4 (Wz b)];exact b,F8 _ v (YJ _) (IH b).2,c,rfl⟩
def vV{α:Type}[DecidableEq α]:∀{xs ys:List α},xs.Nodup->(∀x∈xs,x∈ys)->DB xs<=DB ys
 |[],ys,_,_=>ZQ _
 |x::xs,ys,hn,h=>by
  rw[zbh]at hn;have c:=h x ZD;have:=vV (ys:=ys.erase x) hn.2 λy b=>η
  grind
def UW{xs ys:List Bt}(c:xs.Nodup)(b:ys.Nodup)(f:xs.length=DB ys)(h:∀x∈xs,x∈ys):xs.Perm ys:=by
 refine(List.perm_ext_iff_of_nodup c b).2 λz=>⟨h z,λi=>?_⟩;refine zce λe=>?_;have:=vV (xs:=z::xs) (ys:=ys) (zbh.2 ⟨e,c⟩) λy b=>η
 grind
theorem uB(f:Tr->Tr)(q:Bt):∀(ks:List Bt) (ys:List Tr),DB ks=DB ys->q∈ks->eW (ks.zip (ys.map f)) q=f (eW (ks.zip ys) q)
 |[],_,_,h=>by cases h
 |z::ks,[],h,_=>by simp at h
 |z::ks,y::ys,h,hk=>by rw[ZC,zbe,zbe,eW,eW];by_cases b:z=q;simp_all;rw[za b,za b];obtain e|e:=YT.1 hk;simp_all;exact uB f q ks ys (ψ h) e
def gB(kb:List Bt)(ys:List Tr)(q:Tr->Tr->Bool)(k:Bt)(x:Tr):Bool:=hV (k∈kb)&&q x (eW (kb.zip ys) k)
noncomputable def ga(x y:Tr):Bool:=@hV (zh x=zh y) (Classical.propDecidable _)
theorem ny:ga x y=Ta↔zh x=zh y:=@decide_eq_true_iff _ (Classical.propDecidable _)
theorem wZ(h:¬zh x=zh y):ga x y=Tc:=@decide_eq_false _ (Classical.propDecidable _) h
theorem O9(u:zq a=Ta)(r:zq b=Ta)(n:a.Wf=6)(t:a.Wf=b.Wf)(o:a.aa0=b.aa0)(w:a.WT.length=b.WT.length):((a.XK.zip a.WT).all λp=>gB b.XK b.WT ga p.1 p.2)=Ta↔zh a=zh b:=by
 have⟨na,m⟩:=Js u n;have⟨s,lb⟩:=Js r ω;have k:=nX a.XK a.WT na m;rw[yw a,yw b,zi n,zi ω,ZB];have key:∀q∈a.XK,q∈b.XK->(gB b.XK b.WT ga q (eW (a.XK.zip a.WT) q)=Ta↔eW (a.XK.zip (a.WT.map zh)) q=eW (b.XK.zip (b.WT.map zh)) q):=λq c l=>by rw[uB zh q _ _ m c,uB zh q _ _ lb l];unfold gB;rw[YR,zA,ny];simp_all
 constructor;intro H;have c:∀q∈a.XK,gB b.XK b.WT ga q (eW (a.XK.zip a.WT) q)=Ta:=λq c=>by
  have:(q,eW (a.XK.zip a.WT) q)∈a.XK.zip a.WT:=by rw[<-k];exact zab.2 ⟨q,c,ϕ k⟩
  exact H _ this
 have f:∀q∈a.XK,q∈b.XK:=λq h=>by have:=c q h;unfold gB at this;simp_all
 have e:=UW na s ω f;rw[<-Zw e,t,o];congr 1;refine zck λq h=>?_;have h:=(jb _).mem_iff.1 h;simp_all;intro H p e;injection H with e1 e2 e3 e4;have i:a.XK.Perm b.XK:=(jb a.XK).symm.trans (e3 ▸ jb b.XK);rw[<-e3]at e4;rw[<-k]at e;obtain⟨q,c,rfl⟩:=zab.1 e;exact(key q c (i.mem_iff.1 c)).2 (List.map_inj_left.1 e4 q ((jb _).mem_iff.2 c))
theorem Et:∀(xs ys:List Tr),DB xs=DB ys->(((xs.zip ys).all λp=>ga p.1 p.2)=Ta↔xs.map zh=ys.map zh)
 |[],[],_=>ξ
 |[],_::_,h=>by simp at h
 |_::_,[],h=>by simp at h
 |x::xs,y::ys,h=>by rw[zbe,List.all_cons,YR,Et xs ys (ψ h),ZC,ZC,za7];rw[ny]
theorem Uz(c:¬a.Wf=6)(f:a.Wf=b.Wf)(e:a.aa0=b.aa0)(h:a.WT.length=b.WT.length):((a.WT.zip b.WT).all λp=>ga p.1 p.2)=Ta↔zh a=zh b:=by rw[Et _ _ h,yw a,yw b,za c,za ω,f,e];simp
theorem ul(c:zq a=Ta)(f:zq b=Ta)(h:a.Wf≠b.Wf\/a.aa0≠b.aa0\/a.WT.length≠b.WT.length):¬zh a=zh b:=λe=>by have A:=rE c;have B:=rE f;obtain h|h|h:=h;exact h (by rw[<-A.k,<-B.k,e]);exact h (by rw[<-A.t,<-B.t,e]);refine h ?_;have h1:=A.ip.length_eq;have h2:=B.ip.length_eq;simp_all
theorem FK(d:Nat):∀l:List Tr,eE d l=(l.map λx=>xd x+d).sum
 |[]=>rfl
 |x::l=>by rw[eE,FK d l,ZC,List.sum_cons]
end
section
open Go.RowKit
section
variable {u m:Nat} {M:Fr} {w:Value}
def Nt:GS Tp 74 29 (.slice Te 0 0) 1 24:=⟨κ,⟨Tryz.t29,κ,κ,κ,κ⟩,rfl,ζ⟩
structure KdS (lo:Nat) (h0:zb) (M0:Fr) (kb rb:Nat) (c1 c2 c3:Sl) (g:zb) (M:Fr) (K:List (List Int)) (ss:List Sl) (bf:Nat->List Nat):Prop where
 L:wr h0 M0 g M
 kbk:Blk g kb (ss.map aK).toArray
 rbk:Blk g rb #[aK c1,aK c2,aK c3]
 ln:ss.length=K.length
 row:∀i (hi:i<K.length) (hi2:i<ss.length),Fd lo g M (.int .i64) K[i] ss[i] (bf i)
 dj:∀i j,i<K.length->j<K.length->i≠j->∀c∈bf i,c∉bf j
 hk:h0.size<=kb
 kr:kb<rb
 rl:rb<lo
 lg:lo<=g.size
 nk:M kb=Te
 nr:M rb=Te
section
variable {lo : Nat} {h0 : zb} {M0 : Fr} {kb rb : Nat} {c1 c2 c3 : Sl} {g : zb} {M : Fr} {K : List (List Int)} {ss : List Sl} {bf : Nat -> List Nat}
theorem KdS.push(S:KdS lo h0 M0 kb rb c1 c2 c3 g M K ss bf)(o:Obj):KdS lo h0 M0 kb rb c1 c2 c3 (g.push o) M K ss bf:=by have L:=wr.push S.L.ag o;exact⟨S.L.trans L,S.kbk.aa3 L.aa1,S.rbk.aa3 L.aa1,S.ln,λi hi a=>(S.row i hi a).call L,S.dj,S.hk,S.kr,S.rl,by have:=S.lg;have:=L.aa1.size;omega,S.nk,S.nr⟩
theorem KdS.add(S:KdS lo h0 M0 kb rb c1 c2 c3 g M K ss bf)(n:u<DB K)(s:u<DB ss)(J:K[u].length<=1000000){bv:Nat}{x:Int}(P:Blk g bv #[ab0 x]){Q:zb->Prop} (E:∀g' p y,KdS lo h0 M0 kb rb c1 c2 c3 g' M (K.set u (K[u]++[x])) (ss.set u p) y->Q g'):CA Tp (YN #[29,29] 29 #[aK ss[u],.slice (Td ⟨bv,0,Te⟩) 1 1]) g λv q=>∃z:Sl,v=aK z/\q[rb]?=g[rb]?/\wf Tp (YI 29 (.pointer (Td ((⟨kb,0,Te⟩:n8).add (u*1)))) (aK z)) q Q:=by
 have H:=S.hk;have N:=S.kr;have O:=S.rl;have F:=S.lg;have own:∀i,i<DB K->∀c∈bf i,lo<=c/\c<g.size/\M c=Te:=λi hi=>(S.row i hi (by rw[S.ln];exact hi)).own;refine Fd.app lc ω S.L.ag (S.row u n s) F (vs:=[ab0 x]) P rfl J λp q B r z w f=>⟨p,rfl,f rb ω (λb=>χ ((own u n _ b).1)),?_⟩;rw[zl,ZO,zbf];have D:q[kb]?=g[kb]?:=f kb ω λb=>χ ((own u n _ b).1)
 have I:q[rb]?=g[rb]?:=f rb ω λb=>χ ((own u n _ b).1)
 have m:∀c∈B,lo<=c/\c<q.size/\M c=Te:=r.own;refine qj uF tQ (S.kbk.aa1 D) (by simp;exact s) rfl λG U z2 t=>E G p (λj=>ite (j=u) B (bf j)) ⟨⟨⟨χ S.L.aa1.size,λj o=>?_⟩,S.L.le,S.L.old,λc cs e=>?_⟩,?_,?_,by rw[zcq,zcq];exact S.ln,λi hi a=>?_,λi j hi o l c k b=>?_,H,N,O,ω,S.nk,S.nr⟩;rw[t j ω,f j ω λb=>χ ((own u n _ b).1)];exact S.L.aa1.get j o;rw[t c (λh=>by subst h;rw[S.nk]at e;cases e),f c (S.L.ag.lt e) λb=>by have:=(own u n _ b).2.2;rw[this]at e;cases e];exact S.L.ag c cs e;have e:(ss.map aK).toArray.setIfInBounds u (aK p)=((ss.set u p).map aK).toArray:=by rw[List.map_set];simp
 rw[<-e];exact U;exact(S.rbk.aa1 I).aa1 (t rb ω);rw[zcq]at hi a;by_cases e:i=u;subst e;rw[zc8,zc8];simp only[zi];exact r.frame (λc k=>t c (χ ((m c k).1))) (Fr.le.refl _) λc k=>(m c k).2.2;rw[List.getElem_set_ne (λh=>e h.symm),List.getElem_set_ne (λh=>e h.symm)];simp only[za e];refine(S.row i hi a).frame (λc k=>?_) (Fr.le.refl _) λc k=>(own i hi c k).2.2;rw[t c (χ ((own i hi c k).1))];exact f c (own i hi c k).2.1 λb=>S.dj i u hi n e c k b;rw[zcq]at hi o;by_cases e:i=u;subst e;have A:¬j=i:=λh=>l h.symm;simp only[zi]at k;simp only[za A]at b;obtain h|h:=w c k;exact S.dj i j hi o l c h b;have:=(own j o c b).2.1;omega;simp only[za e]at k;by_cases C:j=u;subst C;simp only[zi]at b;obtain h|h:=w c b;exact S.dj i j hi o l c k h;have:=(own i hi c k).2.1;omega;simp only[za C]at b;exact S.dj i j hi o l c k b
theorem KdS.fin(S:KdS lo h0 M0 kb rb c1 c2 c3 g M K ss bf)(o:K.length<=1000000)(k:∀x∈K,DB x<=1000000):∃M',wr h0 M0 g M'/\Fr.le M M'/\M' rb=Td #[aK c1,aK c2,aK c3]/\Rd M' (.row (.row q0)) K [aK ⟨Td ⟨kb,0,Te⟩,DB K,DB K⟩]:=by
 have h:=S.hk;have p:=S.kr;have r:=S.rl;have m:=S.lg;have own:∀i,i<DB K->∀c∈bf i,lo<=c/\c<g.size/\M c=Te:=λi hi=>(S.row i hi (by rw[S.ln];exact hi)).own;refine⟨MxL M g (kb::rb::(zac (DB K)).flatMap bf),wr.own S.L λc b=>?_,il S.L.ag _,MxL.at ξ S.rbk,⟨_,rfl,Td ⟨kb,0,Te⟩,DB K,rfl,⟨ω,ω⟩,.inr ⟨kb,0,_,rfl,MxL.at ξ S.kbk,λi hi=>?_⟩⟩⟩;obtain rfl|b:=YT.1 b;exact h;obtain rfl|b:=YT.1 b;omega;have⟨i,hi,l⟩:=zbz.1 b;have:=(own i (zaz.1 hi) c l).1;omega;have a:i<DB ss:=by rw[S.ln];exact hi
 have e:cut (ss.map aK).toArray (0+i*sz (.row q0)) (sz (.row q0))=[aK ss[i]]:=by
  show cut (ss.map aK).toArray (0+i*1) 1=[aK ss[i]];refine X0 rfl λq n=>?_;have f:q=0:=ω
  subst f;simp[a]
 rw[e];exact(S.row i hi a).rd S.L.ag (λc b=>ZA _ (ZA _ (zbz.2 ⟨i,zaz.2 hi,b⟩))) (k _ (YY hi))
end
def fA(L:List Int)(m:Nat):List (List Int):=(zac L.length).map λk:Nat=>((zac m).filter λi=>decide (Jf L L.length i=(k:Int))).map λi:Nat=>(i:Int)
theorem mY(L:ac7)(m:Nat):(fA L m).length=DB L:=by unfold fA;rw[YO,zc9]
theorem QP(L:ac7):fA L (DB L)=mj L:=rfl
theorem MF(L:ac7):fA L 0=zay (DB L) []:=by unfold fA;apply List.ext_getElem;simp;intro i h1 h2;simp
theorem Og{L:ac7}(h:Jf L (DB L) m<0):fA L (m+1)=fA L m:=by unfold fA;refine zck λk _=>?_;rw[zbv,List.filter_append,zbl,za (by rw[zA];omega),List.filter_nil,ZY]
theorem Oi{L:ac7}(h:Jf L (DB L) m=(u:Int))(c:u<(fA L m).length):fA L (m+1)=(fA L m).set u ((fA L m)[u]++[(m:Int)]):=by apply List.ext_getElem;rw[zcq,mY,mY];intro i h1 h2;rw[mY]at h1;have e:∀m,(b:i<(fA L m).length)->(fA L m)[i]=((zac m).filter λj=>decide (Jf L (DB L) j=(i:Int))).map λj:Nat=>(j:Int):=λm b=>ZZ ((YS b).symm.trans (by unfold fA;rw[zav,List.getElem?_range h1];rfl));rw[e];by_cases hi:u=i;subst hi;rw[zc8,e,zbv,List.filter_append,zbl,zi (zD h),zaa];rfl;rw[List.getElem_set_ne hi,e,zbv,List.filter_append,zbl,za (by rw[zA];omega),List.filter_nil,ZY]
def D8{L:ac7}:∀x∈fA L m,DB x<=m:=λx b=>by unfold fA at b;obtain⟨k,_,rfl⟩:=zab.1 b;rw[YO];exact zbd (List.length_filter_le _ _) ξ
def IT{r:List Int×Bool}(h:x7 M [.row q0,.bool] r w):∃s:Sl,w=.tuple #[aK s,aa9 r.2]/\Rd M (.row q0) r.1 [aK s]:=by
 obtain⟨vs,⟨i,rest,rfl,f,e,rfl,b⟩,rfl⟩:=h;obtain⟨s,rfl,c⟩:=lr f;have b:e=.bool r.2:=by have:=(eC rfl).1 b;simpa[Rd]using this
 subst b;exact⟨s,rfl,c⟩
def um{r:(List Bt×List Int)×Int}(h:x7 M [.pair (.row .str) (.row q0),.int .i64] r w):∃s1 s2:Sl,w=.tuple #[.agg #[aK s1,aK s2],ab0 r.2]/\Rd M (.row .str) r.1.1 [aK s1]/\Rd M (.row q0) r.1.2 [aK s2]:=by obtain⟨vs,⟨f,rest,rfl,c,e,rfl,b⟩,rfl⟩:=h;obtain⟨s1,s2,rfl,h1,h2⟩:=mn c;rw[qn b];exact⟨s1,s2,rfl,h1,h2⟩
end
section
variable {gl:Fr} {R:Bool -> Prop}
def Nk{a b:List Bt}(o:a.length<=1000000)(f:∀r,(r=Ta↔a=b)->R r):aa5 gl 110 [qr (.row .str) a,qr (.row .str) b] [.bool] R:=by
 apply Qz;refine⟨λl=>f _ ⟨λh=>(ε h),λh=>η⟩,λl=>?_⟩;have l:(DB a:Int)=DB b:=ψ l
 have e:a.length=DB b:=ω
 refine⟨λi=>∃k:Nat,i=k/\k<=DB a/\∀i (h1:i<DB a) (h2:i<DB b),i<k->a[i]=b[i],λi=>DB a-i.toNat,⟨0,rfl,ZQ _,λi _ _ h=>ω⟩,?_⟩;rintro i ⟨k,rfl,p,m⟩;refine⟨λc=>?_,λc=>?_⟩;have c:k<DB a:=χ (fo c)
 rw[qo c ω];refine⟨a[k],⟨ω,ξ⟩,b[k],⟨ω,ξ⟩,λn=>f _ ⟨λh=>(ε h),λh=>?_⟩,λn=>⟨⟨k+1,rfl,c,λi h1 h2 q=>?_⟩,η⟩⟩;simp_all;grind [ig];have c:k=DB a:=χ (fL c)
 exact f _ ⟨λ_=>oO e (Nat.le_of_eq c.symm) m,λ_=>rfl⟩
def R5{a b:ac7}(o:a.length<=1000000)(f:∀r,(r=Ta↔a=b)->R r):aa5 gl 111 [qr (.row q0) a,qr (.row q0) b] [.bool] R:=by
 apply X8;refine⟨λl=>f _ ⟨λh=>(ε h),λh=>η⟩,λl=>?_⟩;have l:(DB a:Int)=DB b:=ψ l
 have e:a.length=DB b:=ω
 refine⟨λi=>∃k:Nat,i=k/\k<=DB a/\∀i (h1:i<DB a) (h2:i<DB b),i<k->a[i]=b[i],λi=>DB a-i.toNat,⟨0,rfl,ZQ _,λi _ _ h=>ω⟩,?_⟩;rintro i ⟨k,rfl,p,m⟩;refine⟨λc=>?_,λc=>?_⟩;have c:k<DB a:=χ (fo c)
 rw[qo c ω];refine⟨a[k],⟨ω,ξ⟩,b[k],⟨ω,ξ⟩,λn=>f _ ⟨λh=>(ε h),λh=>?_⟩,λn=>⟨⟨k+1,rfl,c,λi h1 h2 q=>?_⟩,η⟩⟩;simp_all;grind;have c:k=DB a:=χ (fL c)
 exact f _ ⟨λ_=>oO e (Nat.le_of_eq c.symm) m,λ_=>rfl⟩
def IL{a b:List Bt×List Int}(h1:a.1.length<=1000000)(h2:a.2.length<=1000000)(f:∀r,(r=Ta↔a=b)->R r):aa5 gl 62 [qr (.pair (.row .str) (.row q0)) a,qr (.pair (.row .str) (.row q0)) b] [.bool] R:=by apply VX;refine Nk h1 λr e=>⟨λc=>(c=Ta↔a.2=b.2),λ_=>R5 h2 λr e=>e,λc h=>f _ ?_⟩;grind
def BR(v:Tr):(fX v).1.1.length<=512/\(fX v).1.2.length<=512:=by unfold fX;split;split;simp;rename_i h;have:=wa (zh v) 0;unfold fM;simp_all;simp
def HQ{v:Tr}{t:List Bt×List Int}(h:fX v=(t,0)):Q4 (zh v) t:=by unfold fX at h;split at h;rename_i c;split at h;simp_all;rename_i b;have:=congrArg Prod.fst h;grind [GZ];simp_all
theorem HJ{w:Tr}{t:List Bt×List Int}(h:Q4 w t):fX w=(t,0):=by obtain⟨h1,h2,b,rfl⟩:=h;unfold fX;simp_all
def Cs(hg:GL gl)(hb:Brn gl){t:List Bt×List Int}(hs:∀s∈t.1,s.size<=65536){R:Tr×Bool->Prop}(hT:∀w,Q4 w t->R (w,Ta))(hF:(∀w,¬Q4 w t)->R (fj,Tc)):aa5 gl 19 [qr (.pair (.row .str) (.row q0)) t] [.tree,.bool] R:=by
 intro h M vs hM ag ha
 match vs,ha with
 |[u],⟨hu,_⟩=>
  obtain⟨s1,s2,rfl,r1,r2⟩:=mn (show RdV M (.pair (.row .str) (.row q0)) t u from hu);apply PX.of;have⟨l1,_,_⟩:=Bx r1;have⟨l2,_,_⟩:=Bx r2;apply KW s1 s2;intro g1;have⟨k1,z1,B1⟩:=yp (g:=g1) rfl;clear_value g1;intro g2;have⟨k2,z2,R2⟩:=yp (g:=g2) rfl;clear_value g2;have B2:=B1.aa3 k2;have L2:wr h M g2 M:=up ag (k1.trans k2 ω);have done:∀(g:zb) (M':Fr) (x:Tr) (b:Bool) (xk xi:Sl),wr g2 M g M'->RdV M' .tree x (.agg #[ab0 x.Wf,aa6 x.aa0,aK xk,aK xi])->R (x,b) ->
   wf Tp (YI 25 (aa7 (aa8 g1)) (.agg #[ab0 x.Wf,aa6 x.aa0,aK xk,aK xi])) g λg'=>∃(y1:Int) (y2:Bt) (y3 y4:Sl),zc g' (aa8 g1) 0 [ab0 y1,aa6 y2,aK y3,aK y4]/\∃M2 q,wr h M g' M2/\x7 M2 [.tree,.bool] q (.tuple #[.agg #[ab0 y1,aa6 y2,aK y3,aK y4],aa9 b])/\R q:=by
   intro g M' x b xk xi L rx hr;have nR:M' g1.size=Te:=by rw[L.old _ ω];exact ag.none ω
   exact qt (R2.aa1 (L.aa1.get _ ω)) λg' f z B=>⟨_,_,xk,xi,B.ld (cs:=[_,_,aK xk,aK xi]),M',(x,b),wr.stay (L2.trans L) ω nR f z,jD rx,hr⟩
  have bad:∀(g:zb) (M':Fr),wr g2 M g M'->(∀w,¬Q4 w t)->wf Tp (YI 25 (aa7 (aa8 g1)) (.agg #[ab0 0,aa6 ⟨#[]⟩,.slice Te 0 0,.slice Te 0 0])) g λg'=>∃(y1:Int) (y2:Bt) (y3 y4:Sl),zc g' (aa8 g1) 0 [ab0 y1,aa6 y2,aK y3,aK y4]/\∃M2 q,wr h M g' M2/\x7 M2 [.tree,.bool] q (.tuple #[.agg #[ab0 y1,aa6 y2,aK y3,aK y4],aa9 Tc])/\R q:=λg M' L hn=>done g M' fj Tc ⟨Te,0,0⟩ ⟨Te,0,0⟩ L mJ (hF hn);refine⟨s1,s2,B2.ld (cs:=[aK s1,aK s2]),?_⟩;refine(xP (gl:=gl) (t:=t) (R:=λr=>r=ite (qc t=Ta) (Qg t.2,Ta) ([],Tc)) rfl).go (vs:=[.agg #[aK s1,aK s2]]) hM L2.ag (zn (a:=qr (.pair (.row .str) (.row q0)) t) (xg r1 r2) zw) λw l A r O D hr=>?_;subst hr;obtain⟨sp,rfl,rp⟩:=IT D;have z6:=O.aa1.size;have B6:=B2.aa1 (O.aa1.get h.size ω);refine⟨sp,_,rfl,s2,λ_=>B6.aa2 (o:=0) (k:=1) rfl,?_⟩;by_cases I:¬(qc t=Ta/\0<DB t.2);have ae:(cond (!(ite (qc t=Ta) (Qg t.2,Ta) ([],Tc)).2) Ta (((sp.len:Nat):Int)==0))=Ta:=by
   have hl:=(Bx rp).1;cases hr:qc t with
   |false=>rfl
   |true=>rw[hr]at hl;simp only[if_true,xo]at hl;grind
  rw[ae];refine⟨⟨0,0,Te⟩,λV=>(ε V),0,λV=>(ε V),λ_=>?_,λV=>(ε V)⟩;exact bad l A O λw U=>I ⟨(ya U hs).1,(ya U hs).2.1⟩;have⟨hr,bE⟩:=Classical.not_not.1 I;have⟨q1,q2,q3⟩:=Zx hr;have H:t.2.length-1<DB t.2:=ω
  rw[zi hr]at rp ⊢;have hl:=(Bx rp).1;rw[xo]at hl;have a1:p3 (((sp.len:Nat):Int)-1)=((DB t.2-1:Nat):Int):=by rw[Fm ω ω];omega
  have aT:(cond (!(Qg t.2,Ta).2) Ta (((sp.len:Nat):Int)==0))=Tc:=by show(((sp.len:Nat):Int)==0)=Tc;rw[beq_eq_false_iff_ne];omega
  rw[aT,a1];have⟨b2,o2,e3,e4⟩:=hP O.ag (r2.mono O.le) (k:=DB t.2-1) H;have V:t.2[DB t.2-1]=aR t.2 (DB t.2-1):=by unfold aR;rw[zaf,YS H];rfl
  rw[V]at e4;refine⟨⟨b2,o2,Te⟩,λ_=>⟨e3,ω,ω⟩,aR t.2 (DB t.2-1),λ_=>by rw[zm,YL];exact e4,λC=>?_,λC=>?_⟩;refine bad l A O λw U=>?_;have:=(ya U hs).2.2.1;grind;have aU:aR t.2 (DB t.2-1)=0:=ψ C
  refine⟨s1,s2,B6.ld (cs:=[aK s1,aK s2]),?_⟩;rw[hl];refine AY (E:=Nt) rfl ω ω ⟨⟨Td (aa8 l),DB t.2,DB t.2⟩,rfl,(rg l _ (YJ _)).get h.size ω,?_⟩;have ax:Bk l.size l (l.push (.cells (zay (DB t.2) (zb2 Te 0 0)).toArray 29)):=rg _ _ (YJ _);have aY:(l.push (.cells (zay (DB t.2) (zb2 Te 0 0)).toArray 29)).size=l.size+1:=YW _;have aJ:Blk (l.push (.cells (zay (DB t.2) (zb2 Te 0 0)).toArray 29)) l.size (zay (DB t.2) (zb2 Te 0 0)).toArray:=Blk.new _ _ _;generalize (l.push (.cells (zay (DB t.2) (zb2 Te 0 0)).toArray 29))=g20 at ax aY aJ ⊢;intro aj;have⟨aG,bJ,bA⟩:=yp (g:=aj) rfl;clear_value aj;have bC:wr l A aj A:=up O.ag (ax.trans aG ω);have nk:A l.size=Te:=O.ag.none (YJ _);have nr:A g20.size=Te:=O.ag.none ω;refine⟨λi g=>∃(m:Nat) (ss:List Sl) (bf:ab6),i=(m:Int)/\m<=DB t.2/\KdS (g20.size+1) l A l.size g20.size s1 s2 ⟨Td (aa8 l),DB t.2,DB t.2⟩ g A (fA t.2 m) ss bf,λi _=>DB t.2-i.toNat,⟨0,zay (DB t.2) ⟨Te,0,0⟩,λ_=>[],rfl,ZQ _,⟨bC,?_,bA,by rw[mY,zb3],λi hi T=>?_,λi j _ _ _ c C=>(ε C),YJ _,ω,Nat.lt_succ_self _,ω,nk,nr⟩⟩,?_⟩;have:(zay (DB t.2) (⟨Te,0,0⟩:Sl)).map aK=zay (DB t.2) (zb2 Te 0 0):=by rw[List.map_replicate];rfl
  rw[this];exact aJ.aa3 aG;grind [MF,Fd.nil];rintro i g ⟨m,ss,bf,rfl,hm,S⟩;have kl:=mY t.2 m;refine⟨λC=>?_,λC=>?_⟩;have N:m<DB t.2:=χ (fo C)
  have⟨b3,o3,e5,e6⟩:=hP S.L.ag (rp.mono S.L.le) (k:=m) (by rw[xo];exact N);have aO:(Qg t.2)[m]' η=Jf t.2 (DB t.2) m:=by have:=qH (L:=t.2) N;rw[YS η]at this;exact ZZ this
  rw[aO]at e6;have aA:=qo N ω;refine⟨⟨b3,o3,Te⟩,⟨e5,ω,ω⟩,Jf t.2 (DB t.2) m,by rw[zm,YL];exact e6,λhp=>?_,λhp=>?_⟩;have hp:=zB hp;obtain⟨u,hu,aL⟩:∃u:Nat,Jf t.2 (DB t.2) m=(u:Int)/\u<DB t.2:=by obtain⟨e,_⟩|⟨p,e,p1,p2,_⟩:=jv t.2 (DB t.2) m;omega;grind
  have an:u<(fA t.2 m).length:=by rw[kl];exact aL
  have aE:u<DB ss:=by rw[S.ln,kl];exact aL
  have ai:zd g (((aa8 l):n8).add (u*1))=Td (aK ss[u]):=by rw[zm];exact S.kbk.cell (ϑ aE)
  rw[hu];refine⟨(aa8 g20),rfl,_,S.rbk.aa2 (o:=0) (k:=2) rfl,(aa8 g20),rfl,_,S.rbk.aa2 (o:=0) (k:=2) rfl,(aa8 l),⟨rfl,ω,η⟩,ss[u],by rw[YL];exact ai,?_⟩;intro Y;have⟨aC,bI,be⟩:=yp (g:=Y) rfl;have bq:KdS (g20.size+1) l A l.size g20.size s1 s2 ⟨Td (aa8 l),DB t.2,DB t.2⟩ Y A (fA t.2 m) ss bf:=S.push _;clear_value Y;have bH:=S.lg;have er:Y[g20.size]?=g[g20.size]?:=aC.get _ ω;refine⟨by rw[zm];exact aC.get l.size ω,er,er,?_⟩;have bP:=D8 (L:=t.2) (m:=m) _ (YY an);refine CA.mono (bq.add an aE ω be (Q:=λg'=>(∃(m2:Nat) (ss:List Sl) (bf:ab6),p3 ((m:Int)+1)=(m2:Int)/\m2<=DB t.2/\KdS (g20.size+1) l A l.size g20.size s1 s2 ⟨Td (aa8 l),DB t.2,DB t.2⟩ g' A (fA t.2 m2) ss bf)/\DB t.2-(p3 ((m:Int)+1)).toNat<DB t.2-((m:Nat):Int).toNat) λg' s' bg S'=>⟨⟨m+1,_,bg,aA,N,by rw[Oi hu an];exact S'⟩,ω⟩) ?_;rintro v K ⟨z,rfl,fr,aP⟩;exact⟨z,rfl,(aa8 l),⟨rfl,ω,η⟩,fr.trans er,by rw[YL];exact aP⟩;have hp:=zC hp;rw[aA];exact⟨⟨m+1,ss,bf,rfl,N,by rw[Og ω];exact S⟩,η⟩
  ·have aM:m=DB t.2:=χ (fL C)
   subst aM;have⟨M7,L7,bO,bB,aF⟩:=S.fin (ο kl) λx V=>χ (D8 x V)
   rw[kl,QP]at aF;have ap:wr g2 M g M7:=O.trans L7;have ST:RC M7 g20.size t.1 t.2 s1 s2 ⟨Td (aa8 l),DB t.2,DB t.2⟩:=⟨bB,r1.mono ap.le,aF⟩;refine(zH hg hb (rb:=g20.size) (Ls:=t.1) (L:=t.2) q1 q2 q3 (DB t.2) (DB t.2-1) H H g M7 (hM.trans ap.le) L7.ag ST).go λw a7 aZ r af D G=>?_;have⟨ay,_⟩:=(mP (Ls:=t.1) q3 q2 (DB t.2) (DB t.2-1) H).1;rw[<-G]at ay;obtain⟨yk,yi,rfl,au⟩:=iQ D;refine⟨_,_,yk,yi,_,rfl,?_⟩;intro bG;refine yz af.ag λaV ah bF aI=>?_;refine⟨_,_,yk,yi,aI.ld (cs:=[_,_,aK yk,aK yi]),?_⟩;have aa:wr g2 M aV aZ:=ap.trans (af.trans ah);refine(FW hg hb ay (R:=λq=>q=fX r.1) rfl).go (vs:=[.agg #[ab0 r.1.Wf,aa6 r.1.aa0,aK yk,aK yi]]) (hM.trans aa.le) ah.ag (zn (a:=qr .tree _) au zw) λw aN J fr y ak aB=>?_;obtain⟨f1,f2,rfl,bz,bm⟩:=um ak;refine⟨f1,f2,_,rfl,?_⟩;intro az;have⟨bn,bL,aQ⟩:=yp (g:=az) rfl;clear_value az;refine X9 aQ λP bD bj a8=>?_;have F:wr aN J P J:=wr.stay (up y.ag bn) (YJ _) (y.ag.none (YJ _)) bD bj;have n:wr g2 M P J:=aa.trans (y.trans F);have bN:=af.aa1.size;have bQ:=y.aa1.size;have Bt:Blk P h.size #[aK s1,aK s2]:=B2.aa1 (n.aa1.get _ ω);have ba:=BR r.1;rw[<-aB]at ba;have ab:=IL (gl:=gl) (a:=fr.1) (b:=t) ω ω (R:=λq=>(q=Ta↔fr.1=t)) λq hq=>hq;refine⟨f1,f2,λ_=>a8.ld (cs:=[aK f1,aK f2]),s1,s2,λ_=>Bt.ld (cs:=[aK s1,aK s2]),λv g'=>∃M',wr P J g' M'/\∃b,v=.bool b/\(b=Ta↔fr.1=t),λ_=>?_,λ_=>⟨hV (fr.1=t),J,wr.refl F.ag,_,rfl,decide_eq_true_iff⟩,λ_ v g' hv=>?_,?_⟩;refine ab.go (vs:=[.agg #[aK f1,aK f2],.agg #[aK s1,aK s2]]) (hM.trans n.le) F.ag (zn (a:=qr (.pair (.row .str) (.row q0)) _) (xg bz bm) (zn (a:=qr (.pair (.row .str) (.row q0)) _) (xg (r1.mono n.le) (r2.mono n.le)) zw)) λw bM aS q br ar hq=>?_;exact⟨q,ez ar,aS,br,q,by rfl,hq⟩;grind;rintro b d ⟨aH,am,b',e,bu⟩;cases e;have Z:=n.trans am;refine⟨λC=>?_,λC=>?_⟩;refine bad d aH Z λw U=>?_;have⟨_,_,_,p1,_⟩:=ya U hs;rw[p1]at G;subst G;rw[HJ U]at aB;grind
   ·have a6:Blk d a7.size #[ab0 r.1.Wf,aa6 r.1.aa0,aK yk,aK yi]:=(aI.aa1 ((y.trans F).aa1.get _ ω)).aa1 (am.aa1.get _ ω);refine⟨_,_,yk,yi,a6.ld (cs:=[_,_,aK yk,aK yi]),?_⟩;rw[iY,iY]at C;have⟨⟨c1,c2⟩,c3⟩:=C;have c1:r.2=Ta:=ψ c1
    have c2:fr.2=0:=ψ c2
    have c3:b=Ta:=ψ c3
    have c4:=bu.1 c3;have U:Q4 (zh r.1) t:=HQ η;have⟨_,_,_,p1,_⟩:=ya U hs;have bS:r.1=zh r.1:=by rw[p1]at G;exact congrArg Prod.fst G
    refine done d aH r.1 Ta yk yi Z (au.mono (ah.le.trans (y.le.trans (F.le.trans am.le)))) ?_;grind
end
end
section
def Vi(b:Int)(c:Bt)(d:Sl)(e:Sl)(h:zb)(R:vvv) (H:let f:=h.push (.cells #[iV b,aa6 c,aK d,aK e] 25);let g:=f.push (.cells #[.slice Te 0 0,.slice Te 0 0] 31);∃i j k l,zc g (aa8 h) 0 (tL i j k l)/\aa4 57 #[tA i j k l] g (λm n=>∃o,m=.bool o/\((!o)=Ta->wf Tp (YI 31 (aa7 (aa8 f)) (.agg #[.slice Te 0 0,.slice Te 0 0])) n (λp=>∃q r,zc p (aa8 f) 0 [aK q,aK r]/\R (.tuple #[.agg #[aK q,aK r],iV 1]) p))/\((!o)=Tc->∃s t u v,zc n (aa8 h) 0 (tL s t u v)/\aa4 59 #[tA s t u v] n (λw x=>∃y z A B,w=tA y z A B/\aa4 58 #[.agg #[.slice Te 0 0,.slice Te 0 0],tA y z A B] x (λC D=>∃E F,C=.agg #[aK E,aK F]/\let G:=D.push (.cells #[.slice Te 0 0,.slice Te 0 0] 31);wf Tp (YI 31 (aa7 (aa8 D)) (.agg #[aK E,aK F])) G (λI=>∃J,zd I (YH (aa8 D) 0)=Td (aK J)/\(hV ((J.len:Int)>512)=Ta->wf Tp (YI 31 (aa7 (aa8 f)) (.agg #[.slice Te 0 0,.slice Te 0 0])) I (λL=>∃M N,zc L (aa8 f) 0 [aK M,aK N]/\R (.tuple #[.agg #[aK M,aK N],iV 6]) L))/\(hV ((J.len:Int)>512)=Tc->∃O P,zc I (aa8 D) 0 [aK O,aK P]/\wf Tp (YI 31 (aa7 (aa8 f)) (.agg #[aK O,aK P])) I (λQ=>∃S T,zc Q (aa8 f) 0 [aK S,aK T]/\R (.tuple #[.agg #[aK S,aK T],iV 0]) Q)))))))):aa4 15 #[.agg #[ab0 b,aa6 c,.slice d.a d.len d.cap,.slice e.a e.len e.cap]] h R:=XF ⟨[],[],[]⟩ [.cell 2 31,.tmp 3] 21 func15 H
end
section
open Go.Shelf Go.RowKit
def QC:Go.Shelf.Ren:=⟨fun|189=>64|125=>114|257=>113|128=>177|129=>178|294=>168|295=>169|296=>170|297=>171|298=>172|299=>173|216=>174|300=>175|301=>176|328=>235|329=>236|330=>237|331=>238|332=>239|215=>240|343=>294|n=>n,fun|28=>29|3=>3|46=>123|0=>0|51=>176|53=>178|4=>4|183=>168|182=>167|131=>173|5=>5|9=>9|218=>245|222=>249|228=>299|229=>300|n=>n,fun|n=>n⟩
def GR:Go.Proofs.Lays.n189 Tp QC:=by constructor <;> intros <;> kernel_rfl
open Go.Sort Go.RowKit in
def S9(blk off cap:Nat)(c:ac7)(w:World)(h:Holds (zad .i64) w blk off c.toArray)(b:blk<w.heap.size)(f:c.length<4611686018427387904):Calls Tp 64 #[.slice (Td ⟨blk,off,Te⟩) (DB c) cap] w λe w'=>e=.returned (.tuple #[])/\∃n os,w'=grow (putRow (zad .i64) (Sort.ahead w n) blk off (c.mergeSort λx y=>decide (x<=y)).toArray) os:=Any.slices_Sort_int GR blk off cap c w h b f
open Go.RowKit Go.Sort in
def NG(p:Option n8)(cap:Nat)(w:World):Calls Tp 64 #[.slice p 0 cap] w λe w'=>e=.returned (.tuple #[])/\w'=w:=Any.slices_Sort_int_none GR p cap w
end
section
open Go.RowKit Go.Sort Go.Shelf
variable {h:zb} {s:Sl}
theorem Rh{x:Int}{K:vvv}:zU Tp 29 1 (ab0 x) h K=K (.slice (Td (aa8 h)) 1 1) (h.push (.cells #[ab0 x] 3)):=κ
def mapII:MapTI Tp 79 3 3:=⟨κ,κ⟩
theorem uT{base:Nat}{xs:ac7}(H:DP h base 3 1 s (xs.map (zad .i64))):s.len=xs.length:=by have:=H.length;grind
def UB{base:Nat}{xs:ac7}(H:DP h base 3 1 s (xs.map (zad .i64)))(q:xs.length<=1000000):aa4 64 #[.slice s.a s.len s.cap] h λv h'=>v=.tuple #[]/\DP h' base 3 1 s ((xs.mergeSort λx y=>decide (x<=y)).map (zad .i64))/\h.size<=h'.size/\∀i,i<h.size->(∀p,s.a=Td p->i≠p.block)->h'[i]?=h[i]?:=by refine XC.of_below λB d=>?_;have t:s.len=DB xs:=uT H;obtain⟨m,h0⟩|⟨g,cap,k,m,l,C,G,F,A,I⟩:=H.2;have E:xs=[]:=ZU ω;subst E;rw[h0];refine(NG s.a s.cap (mk B d h)).mono ?_;rintro e w' ⟨rfl,rfl⟩;exact⟨_,rfl,rfl,rfl,rfl,rfl,by rw[List.mergeSort_nil];exact H,YJ _,λ_ _ _=>rfl⟩;simp only[zai]at m;obtain⟨u,_,rfl⟩:=m;have c:(mk B d h).heap[g]?=Td (.cells k 3 (0,0)):=C;have o:g<(mk B d h).heap.size:=(YZ.1 c).1;have D:Holds (zad .i64) (mk B d h) g 0 xs.toArray:=holds_of_blockI c θ;have z:=S9 g 0 s.cap xs (mk B d h) D o ω;rw[<-t]at z;rw[u];refine z.mono ?_;rintro e w' ⟨rfl,n,os,rfl⟩;have b:=grownBy_sortedI (w:=mk B d h) (g:=g) (n:=n) (os:=os) (xs.mergeSort λx y=>decide (x<=y)).toArray;refine⟨_,rfl,b.os,b.tape,b.output,rfl,?_,b.size,λi hi f=>b.block i hi λe=>f _ rfl (ψ e)⟩;have r:=ownsRow_sortedI (w:=mk B d h) (base:=base) (n:=n) (os:=os) (ss:=xs) (ts:=xs.mergeSort λx y=>decide (x<=y)) ξ l c ω F (ψ A);rw[<-t]at r;show World.ownsRow _ base _ 1 (.slice s.a s.len s.cap) s.len _;rw[u];exact r
theorem DP.frzI{h g:zb}{M M':Fr}(L:wr h M g M'){ks:ac7}{base:Nat}(o:DP g base 3 1 s (ks.map (zad .i64)))(B:h.size<=base)(D:ks.length<=1000000):∃m,wr h M g m/\Rd m (.row q0) ks [aK s]:=by
 have p:=uT o;obtain⟨k,h0⟩|⟨b,cap,f,k,n,r,A,C,z,u⟩:=o.2;have t:ks=[]:=ZU ω;subst t;simp only[zai]at k;refine⟨M',L,⟨_,rfl,s.a,s.cap,?_,⟨ξ,ξ⟩,.inl rfl⟩⟩;show aK s=_;unfold aK;rw[h0];rfl;simp only[zai]at k;have⟨w,_,y⟩:=k;have x:Blk g b f:=⟨_,r⟩;refine⟨MxL M' g [b],wr.own L (λc y=>η),⟨_,rfl,s.a,s.cap,?_,⟨ω,ω⟩,.inr ⟨b,0,f,w,MxL.at ξ x,λi hi=>?_⟩⟩⟩;show aK s=_;unfold aK;rw[p];show cut f (0+i*1) 1=[ab0 ks[i]];refine X0 rfl λq E=>?_
 have l:q=0:=ω
 subst l;have e:(f.toList.take (s.len*1))[i]?=(ks.map (zad .i64))[i]?:=ϕ u
 grind
theorem Vh{L:ac7}{xs:ab1}(h:xs.Perm (gG L)):((xs.map λi:Nat=>(i:Int)).mergeSort λx y=>decide (x<=y))=(gG L).map λi:Nat=>(i:Int):=by refine List.Perm.eq_of_pairwise (le:=λa b:Int=>decide (a<=b)=Ta) (λa b _ _ h1 h2=>?_) (List.pairwise_mergeSort (λa b c h1 h2=>?_) (λa b=>?_) _) (List.pairwise_map.2 ((FD L).imp λh=>zD ω)) ((zcw _ _).trans (h.map _));grind;grind;grind
def v9{gl:Fr}{t:List Bt×List Int}{R:List Int->Prop}(hR:R (ite (qc t=Ta) ((gG t.2).map (λi:Nat=>(i:Int))) [])):aa5 gl 28 [qr (.pair (.row .str) (.row q0)) t] [.row q0] R:=by
 intro h M vs hM ag ha
 match vs,ha with
 |[u],⟨hu,_⟩=>
  obtain⟨s1,s2,rfl,r1,r2⟩:=mn (show RdV M (.pair (.row .str) (.row q0)) t u from hu);apply PX.of;have⟨l2,_,_⟩:=Bx r2;apply Sw s1 s2;intro h1;have L1:wr h M h1 M:=wr.push ag _;have⟨_,z1,B1⟩:=yp (g:=h1) rfl;clear_value h1;refine⟨s1,s2,B1.ld (cs:=[aK s1,aK s2]),?_⟩;refine(wV (gl:=gl) (t:=t) (R:=λr=>r=qc t) rfl).go (vs:=[.agg #[aK s1,aK s2]]) hM L1.ag (zn (a:=qr (.pair (.row .str) (.row q0)) t) (xg r1 r2) zw) λw f O r P V hr=>?_;subst hr;have D:=L1.trans P;have z5:=P.aa1.size;refine⟨_,ez V,λl=>?_,λl=>?_⟩;have l:qc t=Tc:=ψ l
  rw[l]at hR;exact⟨O,[],D,Yu.2 ((eC rfl).2 (J5 (T:=.int .i64))),hR⟩;have l:qc t=Ta:=ψ l
  rw[l,zi rfl]at hR;have⟨q1,q2,q3⟩:=Zx l;obtain⟨L,hL⟩:∃L,L=t.2:=⟨_,rfl⟩;rw[<-hL]at hR q2 q3 r2 l2;intro G;have k7:Bk f.size f G:=rg _ _ (YJ _);have z7:G.size=f.size+1:=YW _;have W7:JT G f.size []:=JT.new _;clear_value G;have B7:Blk G h.size #[aK s1,aK s2]:=(B1.aa1 (P.aa1.get _ ω)).aa3 k7;refine⟨s2,B7.aa2 (o:=0) (k:=1) rfl,λi g=>∃m:Nat,i=(m:Int)/\m<=DB L/\g.size=G.size/\(∀j,j≠f.size->g[j]?=G[j]?)/\JT g f.size (iA ((gL L m).map (kI L))),λi _=>DB L-i.toNat,⟨0,rfl,ZQ _,rfl,λ_ _=>rfl,W7⟩,?_⟩;rintro i g ⟨m,rfl,hm,zg,fg,W⟩;have kg:Bk f.size f g:=⟨ω,λj z=>by rw[fg j ω];exact k7.get j z⟩;have Lg:wr f O g O:=up P.ag kg;refine⟨λC=>?_,λC=>?_⟩;have y:m<DB L:=χ (fo C)
  have⟨b,o,e1,e2⟩:=hP Lg.ag (r2.mono D.le) (k:=m) y;have S:L[m]=aR L m:=by unfold aR;rw[zaf,YS y];rfl
  rw[S]at e2;refine⟨⟨b,o,Te⟩,⟨e1,ω,ω⟩,aR L m,by rw[zm,YL];exact e2,?_⟩;refine Nq mapII W (aR L m) (ab0 (m:Int)) λg' W' z' f'=>⟨⟨m+1,by rw[qo y ω],y,ω,λj z=>(f' j z).trans (fg j z),?_⟩,by grind [qo]⟩;rw[Bz]at W';exact W';have aa:m=DB L:=χ (fL C)
  subst aa;have⟨Z,s⟩:=vz L (DB L);have B:((iA ((gL L (DB L)).map (kI L))).map (·.1))=((gL L (DB L)).map (aR L)).map (zad .i64):=by unfold iA;rw[zak,zak,zak];rfl
  have ae:((iA ((gL L (DB L)).map (kI L))).map (·.1)).Nodup:=by rw[B];exact zdk.map _ (λa b af e=>af (by injection e)) Z
  refine xA mapII.map W λab ap ai Q=>⟨Td (aa8 g),rfl,?_⟩;have aj:Bk f.size f ab:=kg.trans ai ω;refine⟨λout A=>∃xs:List Nat,xs.Nodup/\(∀x∈xs,x∈gL L (DB L))/\RK A g.size f.size (iA ((gL L (DB L)).map (kI L))) (xs.reverse.map λi=>zad .i64 (aR L i))/\DP A (g.size+1) 3 1 out ((xs.map λi:Nat=>(i:Int)).map (zad .i64))/\g.size+1<=A.size/\Bk f.size f A,λ_ A=>KK A g.size f.size,⟨[],zdq,λx l=>(ε l),Q,DP.nil _ _ _ _,ω,aj⟩,?_⟩;rintro out A ⟨xs,Y,F,it,o,ar,K2⟩;have an:xs.length<=DB L:=by have:=vV (xs:=xs) (ys:=zac (DB L)) Y λx l=>zaz.2 ((s x).1 (F x l)).1;rwa[zc9]at this
  refine yG it ae ω (λN=>.inl ⟨rfl,(λC=>(by cases C)),λ_=>?_⟩) λk v H hk q ak U z3 f3 re=>.inr ⟨k,v,rfl,λ_=>xT U ⟨k,v,rfl,?_⟩,λC=>(by cases C)⟩;have c:xs.Perm (gG L):=by refine((List.perm_ext_iff_of_nodup Y (Ec Z)).2 λp=>⟨F p,λc=>?_⟩).trans (YF L);have ah:=N (ab0 (aR L p),ab0 (p:Int)) (by unfold iA;rw[zak];exact zab.2 ⟨p,c,rfl⟩);have⟨x,l,e⟩:=zab.1 ah;injection e with _ e;have l:=List.mem_reverse.1 l;have⟨a1,a2⟩:=(s x).1 (F x l);have⟨b1,b2⟩:=(s p).1 c;obtain h|h|h:=Nat.lt_trichotomy x p;grind;grind;simp_all
  refine XC.mono (UB o η) ?_;rintro v g4 ⟨rfl,o4,z4,f4⟩;rw[Vh c]at o4;have Lf:wr f O g4 O:=up P.ag ⟨ω,λj z=>by rw[f4 j ω λp c=>χ (o.base_le p c)];exact K2.get j z⟩;have⟨M6,L6,rd⟩:=DP.frzI Lf o4 ω (by rw[YO,c.symm.length_eq];omega);exact⟨rfl,M6,_,D.trans L6,Yu.2 ((eC rfl).2 rd),hR⟩;obtain⟨i,hi,rfl,rfl⟩:∃i,i∈gL L (DB L)/\k=.int .i64 (aR L i)/\v=.int .i64 (i:Int):=by unfold iA at H;rw[zak]at H;have⟨i,hi,e⟩:=zab.1 H;injection e with e1 e2;exact⟨i,hi,e1.symm,e2.symm⟩
  have am:i∉xs:=λhm=>hk (zab.2 ⟨i,List.mem_reverse.2 hm,rfl⟩);rw[Rh];have E:Bk q.size q (q.push (.cells #[ab0 (i:Int)] 3)):=rg _ _ (YJ _);have z8:(q.push (.cells #[ab0 (i:Int)] 3)).size=q.size+1:=YW _;have V8:Blk (q.push (.cells #[ab0 (i:Int)] 3)) q.size #[ab0 (i:Int)]:=Blk.new _ _ _;generalize (q.push (.cells #[ab0 (i:Int)] 3))=h8 at E z8 V8 ⊢;have o3:DP q (g.size+1) 3 1 out ((xs.map λi:Nat=>(i:Int)).map (zad .i64)):=o.aa1 λp c=>f3 _ (χ (o.base_le p c));have I:=o3.keepN E;have hl:=uT o;rw[YO]at hl;refine Wi (lc:GS _ _ _ _ 1 8) I (src:=⟨Td (aa8 q),1,1⟩) (news:=[ab0 (i:Int)]) (n:=h8.size) ?_ rfl (by simp[Value.oneCell']) η η ω λs' h4 p1 p2 J p4 p5=>⟨s',rfl,⟨xs++[i],?_,?_,?_,?_,ω,?_⟩,?_⟩;refine .inr ⟨q.size,0,rfl,ω,λi v S=>?_⟩
  match i,S with
  |0,S=>cases S;exact V8.cell rfl
  grind;grind;rw[List.reverse_append];refine ak.aa1 ?_ ?_;rw[J _ ω λp c=>χ (I.base_le p c)];exact E.get _ ω;rw[J _ ω λp c=>χ (I.base_le p c)];exact E.get _ ω;rw[zaa,zaa];exact p2;refine⟨ω,λj z=>?_⟩;rw[J j ω λp c=>χ (I.base_le p c),E.get j ω,f3 j ω];exact K2.get j z;show KK h4 g.size f.size<KK A g.size f.size;rw[KK.aa1 (h:=q) ?_ ?_];exact re;rw[J _ ω λp c=>χ (I.base_le p c)];exact E.get _ ω;rw[J _ ω λp c=>χ (I.base_le p c)];exact E.get _ ω
end
section
open Go.RowKit
variable {gl:Fr} {v:Tr} {h2 g:zb} {s:Sl} {K:Value -> zb -> Prop} {lv:Nat}
def Gw(f:GL gl)(c:Sm v){R:ac4}(h:R (qh v)):aa5 gl 57 [qr .tree v] [.bool] R:=by
 apply RI;rw[Zp];refine xM v c.sz ⟨λr=>r=(eM v:Int),λ_=>zQ v c.sz rfl,λr k=>⟨λb=>b=Qc (λx=>decide (x.Wf≠7)&&zq x) v,λ_=>y6 f Tc v c (EW (λx=>η) v),λb i=>?_⟩⟩;have e:(cond (hV ((cK v:Int)<=4096)) (hV (r<=32)) Tc)=wy v:=by
  unfold wy;cases hc:hV ((cK v:Int)<=4096)with
  |false=>grind
  |true=>grind
 rw[e]at i ⊢;unfold qh at h;grind
def mb:Bt:=⟨#[48,49,50,51,52,53,54,55,56,57,97,98,99,100,101,102]⟩
def Ix:(zac 32).all (λk=>(k==8||k==9||k==10||k==12||k==13)||(hV (iL (gC (ZR k))=[92,117,48,48,ze mb (YG .u8 ((k:Int).tdiv 16)).toNat,ze mb ((k:Int).tmod 16).toNat]) && (hV (0<=YG .u8 ((k:Int).tdiv 16))&&hV (YG .u8 ((k:Int).tdiv 16)<16)&&hV (0<=(k:Int).tmod 16)&&hV ((k:Int).tmod 16<16))))=Ta:=κ
def MQ{c:UInt8}(h:c.toNat<32)(k:c.toNat≠8)(i:c.toNat≠9)(b:c.toNat≠10)(f:c.toNat≠12)(e:c.toNat≠13):iL (gC c)=[92,117,48,48,ze mb (YG .u8 ((c.toNat:Int).tdiv 16)).toNat,ze mb ((c.toNat:Int).tmod 16).toNat]/\0<=YG .u8 ((c.toNat:Int).tdiv 16)/\YG .u8 ((c.toNat:Int).tdiv 16)<16/\0<=(c.toNat:Int).tmod 16/\(c.toNat:Int).tmod 16<16:=by have:=ZB.1 Ix c.toNat (zaz.2 h);simp_all
theorem GO(l:Bs):(iL l).length=DB l:=by unfold iL;simp
structure QB (h2 g:zb) (s:Sl) (xs:List Int):Prop where
 k:Bk h2.size h2 g
 o:DP g h2.size 5 1 s (xs.map (zad .u8))
theorem QB.len{xs:ac7}(Q:QB h2 g s xs):s.len=DB xs:=by have:=Q.o.1;rw[YO,zbf]at this;exact this.symm
theorem QB.next{h2 g g':zb}{s b:Sl}{xs X:ac7}(Q:QB h2 g s xs)(o:DP g' h2.size 5 1 b (xs.map (zad .u8)++X.map (zad .u8)))(f:∀i,i<g.size->(∀p,s.a=Td p->i≠p.block)->g'[i]?=g[i]?)(z:g.size<=g'.size):QB h2 g' b (xs++X):= ⟨⟨χ Q.k.size,λi hi=>(f i (χ Q.k.size) λp c=>χ (Q.o.base_le p c)).trans (Q.k.get i hi)⟩,by rw[zaa];exact o⟩
theorem QB.lit{xs:ac7}(Q:QB h2 g s xs)(X:ac7)(A:xs.length+DB X<=140737488355328)(l:∀b g',QB h2 g' b (xs++X)->K (aK b) g'):CA Tp (YN #[87,87] 87 #[aK s,.slice (Td (aa8 g)) (DB X) (DB X)]) (g.push (.cells (X.map (zad .u8)).toArray 5)) K:=by have e:=Q.len;have⟨c,w,b1⟩:=yp (h:=g) (cs:=(X.map (zad .u8)).toArray) (T:=5) rfl;have f:QB h2 (g.push (.cells (X.map (zad .u8)).toArray 5)) s xs:=⟨Q.k.trans c Q.k.size,Q.o.keepN c⟩;refine Wi RM f.o (src:=⟨Td (aa8 g),DB X,DB X⟩) (news:=X.map (zad .u8)) (n:=(g.push (.cells (X.map (zad .u8)).toArray 5)).size) (.inr ⟨g.size,0,rfl,ω,λi v r=>?_⟩) ξ (λu q=>?_) (by simp only;omega) (by simp only;omega) (χ Q.k.size) λb g' y t m p z=>l b g' (f.next t m p);exact b1.cell (by rw[ZO];simpa using r);obtain⟨x,_,rfl⟩:=zab.1 q;rfl
theorem QB.str{xs:ac7}(Q:QB h2 g s xs)(X:Bs)(p:xs.length+DB X<=140737488355328)(h:∀c g',QB h2 g' c (xs++iL X)->K (aK c) g'):CA Tp (YN #[87,9] 87 #[aK s,aa6 (bl X)]) g K:=by
 have e:=Q.len;have b:=zf X;refine Wq RM Q.o (x:=.string (bl X)) (m:=(bl X).size) (news:=(iL X).map (zad .u8)) (λB d=>?_) (ο b) (ο b) Q.k.size λc g' q l i f r=>h c g' (Q.next l i f);have:=Src.ofString (P:=Tp) (w:=Go.X.mk B d g) rG (bl X);have n:byteCells (bl X)=(iL X).map (zad .u8):=by unfold byteCells iL;have:(bl X).data.toList=X:=yr X;rw[this,zak];rfl
 rw[n]at this;exact this
def AZ{t:Bs}(hl:t.length<=1000000000){R:Bt×Int->Prop}(h:R (bl (eY t).1,(eY t).2)):aa5 gl 131 [qr .str (bl t)] [.str,.int .i64] R:=by
 intro h0 M vs hM ag ha
 match vs,ha with
 |[u],⟨hu,_⟩=>
 cases y0 (s:=bl t) hu;apply PX.of;apply JC (bl t);refine(GD (gl:=gl) (l:=t) ω (R:=λr=>r.2=xn t) λk=>rfl).go (vs:=[aa6 (bl t)]) hM ag (zn (a:=qr .str _) (DH _) zw) λw h2 M2 r L2 G L=>?_;have L:r.2=xn t:=L;obtain⟨us,⟨x1,aa,rfl,q1,x2,rfl,U⟩,rfl⟩:=G;cases qn q1;have U:x2=.bool r.2:=by have:=(eC rfl).1 U;simpa[Rd]using this
 subst U;unfold eY at h;have done:∀{g:zb} (s:Bt) (e:Int),Bk h2.size h2 g->R (s,e)->∃M' r,wr h0 M g M'/\x7 M' [.str,.int .i64] r (.tuple #[aa6 s,ab0 e])/\R r:=λs e k hR=>⟨M2,(s,e),L2.trans (up L2.ag k),tH s e,hR⟩;refine⟨_,_,rfl,λx=>?_,λx=>?_⟩
 ·have x:xn t=Tc:=by rw[<-L];simpa using x
  rw[x]at h;exact done _ _ (Bk.refl _ _) h
 have x:xn t=Ta:=by rw[<-L];simpa using x
 rw[x,zi rfl]at h;intro y;have I0:QB h2 y ⟨Td (aa8 h2),1,1⟩ (iL (34::Jd (t.take 0))):=⟨rg _ _ (YJ _),⟨rfl,.inr ⟨h2.size,1,#[.int .u8 34],rfl,YJ _,jc _ _,YJ _,by unfold maxLen;omega,rfl,rfl⟩⟩⟩;clear_value y;refine⟨λout i g=>∃k:Nat,i=k/\k<=DB t/\QB h2 g out (iL (34::Jd (t.take k))),λ_ i _=>DB t-i.toNat,⟨0,rfl,ZQ _,I0⟩,?_⟩;rintro out i g ⟨k,rfl,hk,Q⟩;rw[zf];have ab:(Jd (t.take k)).length<=6*DB t:=by have:=r7 (t.take k);rw[ZV]at this;omega
 have O:(iL (34::Jd (t.take k))).length<=6*DB t+1:=by rw[GO,YU];omega
 refine⟨λP=>?_,λP=>?_⟩
 ·have p:k<DB t:=χ (fo P)
  have hb:ze (bl t) ((k:Nat):Int).toNat=((t[k]:UInt8).toNat:Int):=by rw[YL,zx,YS p];rfl
  rw[hb,qo p ω];generalize V:t[k]=c;have A:Jd (t.take (k+1))=Jd (t.take k)++gC c:=by rw[YP p,vN,V];congr 1;unfold Jd;simp
  have fin:∀{X:ac7} {m:Sl} {g':zb},X=iL (gC c)->QB h2 g' m (iL (34::Jd (t.take k))++X)->(∃k2:Nat,((k+1:Nat):Int)=k2/\k2<=DB t/\QB h2 g' m (iL (34::Jd (t.take k2))))/\DB t-((k+1:Nat):Int).toNat<DB t-((k:Nat):Int).toNat:=by rintro X m g' rfl f;refine⟨⟨k+1,rfl,p,?_⟩,ω⟩;rw[A];rw[<-Cy]at f;exact f
  have B:∀n:Nat,n<256->(((c.toNat:Int)==(n:Int))=Ta↔c=ZR n):=λn Z=>by rw[beq_iff_eq];constructor;intro e;apply zcc.1;simp;omega;simp_all;omega
  have ne:∀n:Nat,n<256->((c.toNat:Int)==(n:Int))=Tc->c≠ZR n:=λn Z e h=>θ
  refine⟨⟨ω,ω⟩,λh1=>?_,λh1=>⟨λh2=>?_,λh2=>⟨λI=>?_,λI=>⟨λJ=>?_,λJ=>⟨λy=>?_,λy=>⟨λN=>?_,λN=>⟨λE=>?_,λE=>?_⟩⟩⟩⟩⟩⟩⟩;have:c=34\/c=92:=by obtain h|h:=vd.1 h1;exact .inl ((B 34 ω).1 h);exact .inr ((B 92 ω).1 h)
  refine Q.lit [92,(c.toNat:Int)] (by simp only[YU,ZW];omega) λm g' f=>⟨m,rfl,fin ?_ f⟩;unfold gC;rw[zi this];rfl;all_goals have⟨C,D⟩:=iY.1 h1
  all_goals have C:=ne 34 ω C
  all_goals have D:=ne 92 ω D
  all_goals have nn:¬(c=34\/c=92):=by rintro(e|e);exact C e;exact D e
  have e:=(B 8 ω).1 h2;exact Q.str [92,98] (by simp only[YU,ZW];omega) λm g' f=>⟨m,rfl,fin (π e) f⟩;have e:=(B 12 ω).1 I;exact Q.str [92,102] (by simp only[YU,ZW];omega) λm g' f=>⟨m,rfl,fin (π e) f⟩;have e:=(B 10 ω).1 J;exact Q.str [92,110] (by simp only[YU,ZW];omega) λm g' f=>⟨m,rfl,fin (π e) f⟩;have e:=(B 13 ω).1 y;exact Q.str [92,114] (by simp only[YU,ZW];omega) λm g' f=>⟨m,rfl,fin (π e) f⟩;have e:=(B 9 ω).1 N;exact Q.str [92,116] (by simp only[YU,ZW];omega) λm g' f=>⟨m,rfl,fin (π e) f⟩;have E:c.toNat<32:=χ (zB E)
  have H:∀n:Nat,n<256->((c.toNat:Int)==(n:Int))=Tc->c.toNat≠n:=λn Z e h=>θ
  have⟨e,b1,b2,b3,b4⟩:=MQ E (H 8 ω h2) (H 9 ω N) (H 10 ω J) (H 12 ω I) (H 13 ω y);refine⟨rfl,ζ,rfl,ζ,?_⟩;intro Y;have F:Y g:=Q.lit [92,117,48,48,ze mb (YG .u8 ((c.toNat:Int).tdiv 16)).toNat,ze mb ((c.toNat:Int).tmod 16).toNat] (by simp only[YU,ZW];omega) λm g' f=>⟨m,rfl,fin e.symm f⟩;exact⟨⟨⟨b1,b2⟩,⟨b3,b4⟩,F⟩,⟨b3,b4⟩,⟨b1,b2⟩,F⟩;have E:¬c.toNat<32:=χ (zC E)
  refine Q.lit [(c.toNat:Int)] (by simp only[YU,ZW];omega) λm g' f=>⟨m,rfl,fin ?_ f⟩;unfold gC;rw[za nn,za (show¬c=8 from ne 8 ω h2),za (show¬c=12 from ne 12 ω I),za (show¬c=10 from ne 10 ω J),za (show¬c=13 from ne 13 ω y),za (show¬c=9 from ne 9 ω N),za E];rfl
 ·have S:k=DB t:=χ (fL P)
  subst S;rw[ZX]at Q O;refine Q.lit [34] (by simp only[YU,ZW];omega) λm g' f=>⟨m,rfl,?_⟩;have e:iL (34::Jd t)++([34]:ac7)=iL (34::Jd t++[34]):=by rw[Cy];rfl
  rw[e]at f;have q:=f.len;rw[GO]at q;obtain F|⟨b,o,ea,_,z⟩:=f.o.arr;rw[List.map_eq_nil_iff]at F;simp[iL]at F
  ·have⟨sa,sl,sc⟩:=m;cases ea;have q:sl=(34::Jd t++[34]).length:=q;subst q;refine Cr (l:=34::Jd t++[34]) (λj hj=>z j _ ?_) ⟨_,rfl,done _ _ f.k h⟩;rw[zav];unfold iL;rw[zav,YS hj];rfl
def I7{ps:List Bs}{n:Nat}(h:n<DB ps)(lv:Nat):(wq Tc 0 lv (ps.take n)).length+ps[n].length+(ite (n=0) 0 1)<=(wq Tc 0 lv ps).length:=by have h1:=pH Tc 0 lv (ps:=ps) (n:=n+1) h;rw[ti Tc 0 lv h,YM,YM,YM]at h1;grind
def xy(v:Tr)(lv:Nat):List Bs:=if v.Wf=6 then List.zipWith (fa Tc) v.XK (v.WT.map λx=>j9 Tc 0 x (lv+1))else v.WT.map λx=>j9 Tc 0 x (lv+1)
def Vz(h:v.Wf=6->v.XK.length=v.WT.length):(xy v lv).length=v.WT.length:=by unfold xy;grind
def Lc(h:v.Wf=5\/v.Wf=6):j9 Tc 0 v lv=(ite (v.Wf=6) 123 91)::wq Tc 0 (lv+1) (xy v lv)++[ite (v.Wf=6) 125 93]:=by
 have b:∀ps,Wx Tc 0 lv ps=wq Tc 0 (lv+1) ps:=λps=>by unfold Wx jl;split <;> simp
 rw[xx];unfold xy;grind
def FC{gl:Fr}:∀(n:Nat) (v:Tr) (lv:Nat),cK v<=n->n<=5000->Sm v->Qc dR v=Ta->lv+eM v<=90->∀{R:Bt->Prop},R (bl (j9 Tc 0 v lv))->aa5 gl 132 [qr .tree v,qr q0 (-1),qr q0 (lv:Int)] [.str] R
 |0,v,_,h,_,_,_,_,_,_=>χ (Zn v)
 |n+1,v,lv,hz,hn,hsm,hok,hd,R,hR=>by
  have o:=m7 hok;have ae:=uK (ln:=Tc) (N:=0) ω (cK v) v lv (YJ _) hsm hd;have m:(j9 Tc 0 v lv).length<=200000000000:=by have:cK v*20000000<=5001*20000000:=Nat.mul_le_mul_right _ ω;omega
  apply It;refine⟨λh1=>?_,λh1=>?_⟩;have h1:v.Wf=1:=ψ h1
  rw[xx,zi h1]at hR;exact hR;have h1:¬v.Wf=1:=ψ h1
  intro K2 U;suffices h23:K2 (v.Wf==2||v.Wf==3)by grind
  refine U _ ⟨λh2=>?_,λh2=>⟨λA=>?_,λA=>?_⟩⟩;have h2:v.Wf=2\/v.Wf=3:=ψ h2
  rw[xx,za h1,za ω,za ω,za ω,Zz]at hR;exact hR;have A:v.Wf=4:=ψ A
  rw[xx,za h1,zi A]at hR;have x:=AZ (gl:=gl) (t:=lb v.aa0) (χ hsm.aa0) (R:=λr=>R r.1) hR;rw[Zz]at x;exact x;have A:¬v.Wf=4:=ψ A
  have h2:¬(v.Wf=2\/v.Wf=3):=ψ h2
  have Y:v.Wf=5\/v.Wf=6:=by obtain⟨k,_⟩|⟨k,_⟩|⟨k,_⟩|⟨k,_⟩|⟨k,_⟩|⟨k,_⟩:=nS o <;> omega
  have B:v.Wf=6->v.XK.length=v.WT.length:=λc=>by unfold dR at o;rw[YR]at o;exact(Js o.2 c).2
  have O:=Vz (lv:=lv) B;have Z:=Lc (lv:=lv) Y;rw[Z]at hR m;obtain⟨z,f⟩:∃z:UInt8,z=(ite (v.Wf=6) 123 91):=⟨_,rfl⟩;obtain⟨M,p⟩:∃M:UInt8,M=(ite (v.Wf=6) 125 93):=⟨_,rfl⟩;rw[<-f,<-p]at hR m;rw[YM,YU,zbp]at m;intro K6 S;suffices main:K6 (bl [z]) (bl [M])by
   refine⟨λc=>?_,λc=>?_⟩;have c:v.Wf=6:=ψ c
   rw[zi c]at f p;rw[f,p]at main;exact main;have c:¬v.Wf=6:=ψ c
   rw[za c]at f p;rw[f,p]at main;exact main
  refine S _ _ ⟨λh0=>?_,λh0=>?_⟩;have h0:v.WT.length=0:=ψ h0
  refine⟨Xr ξ,?_⟩;have:xy v lv=[]:=ZU ω;rw[this]at hR;rw[qf];exact hR;refine⟨λs i=>∃k:Nat,i=k/\k<=v.WT.length/\s=bl (z::wq Tc 0 (lv+1) ((xy v lv).take k)),λ_ i=>v.WT.length-i.toNat,⟨0,rfl,ZQ _,rfl⟩,?_⟩;rintro s i ⟨k,rfl,hk,rfl⟩;have ai:=pH Tc 0 (lv+1) (ps:=xy v lv) (n:=k) ω;refine⟨λhc=>?_,λhc=>?_⟩;have u:k<v.WT.length:=χ (fo hc)
  have J:k<(xy v lv).length:=ω
  have C:=I7 J (lv+1);have aa:=ti Tc 0 (lv+1) J;have w:=YY u;have aj:=yc w;have ah:=qF w;rw[qo u (χ hsm.WT)];have P:p3 ((lv:Int)+1)=((lv+1:Nat):Int):=by rw[bR ω];omega
  rw[P];obtain⟨pre,b⟩:∃pre:Bs,pre=z::wq Tc 0 (lv+1) ((xy v lv).take k)++(ite (k=0) [] [44]):=⟨_,rfl⟩;have ab:pre.length=1+(wq Tc 0 (lv+1) ((xy v lv).take k)).length+(ite (k=0) 0 1):=by rw[b];by_cases h0:k=0;rw[zi h0,zi h0,ZY,YU];omega;rw[za h0,za h0,YM,YU,zbp];omega
  intro Q D;suffices hmain:Q (bl pre)by
   refine⟨λhi=>?_,λhi=>?_⟩;have hi:¬k=0:=χ (zB hi)
   rw[za hi]at b;refine⟨Xr φ,?_⟩;have e:bl (z::wq Tc 0 (lv+1) ((xy v lv).take k))++(⟨#[44]⟩:Bt)=bl pre:=by rw[b];exact qf _ _
   rw[e];exact hmain;have hi:k=0:=χ (zC hi)
   rw[zi hi,ZY]at b;rw[<-b];exact hmain
  refine D _ λak E=>?_;refine⟨λh=>(by cases h),λ_=>E _ λy G=>?_⟩;have l:∀q:Bs,(xy v lv)[k]=q++j9 Tc 0 v.WT[k] (lv+1)->y (bl (pre++q)):=λq x=>G _ ⟨v.WT[k],⟨ω,kB u⟩,by rw[Zp];refine FC n v.WT[k] (lv+1) ω ω (hsm.item w) (Y2 hok w) ω ?_;rw[x,YM]at C;refine⟨Xr φ,⟨k+1,rfl,u,?_⟩,φ⟩;rw[qf,aa,x,b];congr 1;simp[jl]⟩;refine⟨λc=>?_,λc=>?_⟩;have c:v.Wf=6:=ψ c
  have H:k<v.XK.length:=χ (B c)
  have x:(xy v lv)[k]=((eY (lb v.XK[k])).1++[58])++j9 Tc 0 v.WT[k] (lv+1):=by unfold xy fa;simp[c]
  have L:=l _ x;have I:=AZ (gl:=gl) (t:=lb v.XK[k]) (χ (hsm.key (YY H))) (R:=λr=>qb ((bl pre).size+r.1.size)/\qb ((bl pre++r.1).size+(⟨#[58]⟩:Bt).size)/\(Tc=Ta->qb (((bl pre++r.1)++(⟨#[58]⟩:Bt)).size+(⟨#[32]⟩:Bt).size)/\y (((bl pre++r.1)++(⟨#[58]⟩:Bt))++(⟨#[32]⟩:Bt)))/\(Tc=Tc->y ((bl pre++r.1)++(⟨#[58]⟩:Bt)))) (by
   rw[x,YM,YM]at C;refine⟨Xr ω,?_,λh=>(by cases h),λ_=>?_⟩;show qb ((bl pre++bl (eY (lb v.XK[k])).1).size+(bl [58]).size);rw[qf];exact Xr φ;have:(bl pre++bl (eY (lb v.XK[k])).1)++(⟨#[58]⟩:Bt)=bl (pre++((eY (lb v.XK[k])).1++[58])):=by show(bl pre++bl (eY (lb v.XK[k])).1)++bl [58]=_;rw[qf,qf,ZL]
   rw[this];exact L)
  rw[Zz]at I;exact⟨v.XK[k],⟨ω,lN H⟩,I⟩;have c:¬v.Wf=6:=ψ c
  have L:=l [] (by unfold xy;simp[c]);rw[ZY]at L;exact L;have V:k=v.WT.length:=χ (fL hc)
  rw[V,<-O,ZX];intro af F;refine⟨λh=>(by cases h),λ_=>F _ ⟨Xr φ,?_⟩⟩;rw[qf];exact hR
def Al(f:GL gl)(c:Sm v){R:Bt×Int->Prop}(b:R (Qx v)):aa5 gl 73 [qr .tree v] [.str,.int .i64] R:=by
 apply WO;simp only[Zp];refine Gw f c ?_;unfold Qx at b;cases hr:qh v with
 |false=>rw[hr]at b;exact⟨λ_=>b,λh=>(by cases h)⟩
 |true=>rw[hr]at b;have⟨k,l,e,i⟩:=Y5 hr;exact⟨λh=>(by cases h),λ_=>FC (cK v) v 0 (YJ _) ω c e ω b⟩
end
end Go.X
