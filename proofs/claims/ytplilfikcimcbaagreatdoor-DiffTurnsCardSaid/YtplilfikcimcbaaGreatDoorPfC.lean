/- A part of the proof: nothing is stated here for its own sake. -/
import Derived.Test.YtplilfikcimcbaaGreatDoorPfB
import Derived.Test.YtplilfikcimcbaaGreatDoorTie
import Derived.Test.YtplilfikcimcbaaGreatDoorCards
import Derived.PinnedBridge
import Derived.Lay
import Derived.HandedShaped
import Derived.Lib.AppendZerosOnto
import Derived.Maps.RangeRun
open _root_.Go.Addr renaming add->zab
open _root_.Array renaming ext'->zfb,ext_getElem?->ze4,getElem?_eq_getElem->zcl,getElem?_eq_some_iff->zat,getElem?_push->ze0,getElem?_setIfInBounds_ne->zb4,getElem?_setIfInBounds_self_of_lt->zc2,getElem?_toList->zbh,replicate->zc4,size_push->zaf,toList->zdu
open _root_.BitVec renaming ofInt->zco
open _root_.Bool renaming and_eq_true->zam,and_true->zfe,cond_false_right->zem,eq_false_iff->zen,eq_iff_iff->zbe,false_eq_true->zcj,not_eq_true'->zd4,true_and->zct
open _root_.Go.Builtin renaming append_->zao,clear_->zer,copy_->zd9,lenOf->zfn,len_->zdm,zeroCells->zb7
open _root_.Go.Extern.AbiNoEscape renaming same->zfp
open _root_.Go.Instr renaming entry->zes,keyThatStays->zdy,lookup->zc1,makeSlice->zbp,mapUpdate->zcz,next->zdx,range->ze5,storeAt->zag
open _root_.Int renaming toNat_natCast->zae
open _root_.Go.IntKind renaming bits->zb1,wrap->zaa
open _root_.List renaming all_append->zei,all_cons->zdf,all_eq_true->za7,append_assoc->za9,cons_append->zbz,drop_drop->zdh,drop_eq_getElem_cons->zbt,drop_eq_nil_of_le->zce,drop_length->zec,drop_take->ze7,drop_zero->zcm,eq_nil_of_length_eq_zero->zbb,exists_cons_of_ne_nil->zcw,ext_getElem?->zbd,filter_cons->zed,flatMap_append->zdt,flatMap_cons->zcd,getD_eq_getElem?_getD->zar,getElem?_append_left->zdk,getElem?_append_right->zdi,getElem?_drop->zb6,getElem?_eq_getElem->zai,getElem?_eq_none->zby,getElem?_eq_some_iff->za5,getElem?_map->zcc,getElem?_take->zbk,getElem_append_left->zcp,getElem_append_right->zcx,getElem_mem->zak,getElem_of_mem->zdj,length->zcf,length_append->zah,length_cons->zaw,length_drop->zb8,length_eq_zero_iff->zds,length_map->zap,length_pos_iff->zb9,length_replicate->zdl,length_singleton->zcu,length_take->zbl,map_append->zbc,map_cons->za1,map_drop->zff,map_id->zfl,map_map->zav,map_take->ze3,mem_append->zaj,mem_append_left->zau,mem_append_right->zbf,mem_cons->zan,mem_cons_self->za2,mem_flatMap->zbw,mem_iff_getElem->zdr,mem_map->zay,mem_of_getElem?->zcg,mem_of_mem_drop->zde,mem_of_mem_take->zcq,mem_or_eq_of_mem_set->zd1,mem_range->zbn,mem_singleton->za6,nil_append->zck,nodup_append->zb2,nodup_cons->zbq,nodup_nil->zdq,range->zaq,range_succ->zej,replicate->zcv,take_append_drop->zca,take_length->zba,take_of_length_le->zbu,take_succ_cons->zea,take_succ_eq_append_getElem->zal,take_take->zet,take_zero->zeu,zip_cons_cons->zdc
open _root_.List.cons renaming injEq->zc9
open _root_.Nat renaming add_mul->zcs,add_zero->zew,le_of_lt->zey,le_refl->zac,le_trans->zch,lt_or_ge->zb0,min_eq_left->zda,mul_comm->zd7,mul_le_mul->zd0,mul_le_mul_right->za8,mul_one->zbm,one_mul->zd6,pow_succ->ze8,sub_self->ze9,succ_mul->zdn,zero_add->zas,zero_le->za0,zero_mul->zeg
open _root_.Go.Next renaming value->zep
open _root_.Go.Op renaming bytesLess->zdv
open _root_.Option renaming bind_some->zcr,map_eq_some_iff->zc6,map_some->zd2
open _root_.Option.some renaming inj->zbi,injEq->zad
open _root_.Go.Proofs.Tryz renaming prog->zbj,underlying5->zex
open _root_.UInt8 renaming ofNat->zc7,toNat_inj->zd3
open _root_.Go.Utf8 renaming encode->zfg
open _root_.Go.Value renaming agg->zfo,int->zcn,slice->zfm,string->zaz
open _root_.Go.Value.slice renaming injEq->zbo
set_option linter.unusedVariables false
set_option maxRecDepth 100000
namespace Go.X
end Go.X
namespace Go.Proofs
end Go.Proofs
open Go Go.X Go.Proofs
open _root_.Bool renaming true->Ta,false->Tc
open _root_.Option renaming some->Td,none->Te
namespace Go.X
section
variable {gl:Fr} {l:Bs} {R:Bool -> Prop}
theorem xO(t:Tabs gl)(y:l.length<=4611686018427387904){R:Int×Bool->Prop}(h:∀k,R (k,Qq l)):PC Tp gl 196 [Arg.mk .str (bl l)] [.int .i64,.bool] R:=by
 apply TG;refine XS t y ⟨λn=>?_,λn=>?_⟩;have:=h ((bl l).size:Int);rw[n]at this;exact this;refine⟨λp=>p.1=bl l/\p.2<=l.length/\Qq (l.drop p.2)=Tc,λp=>l.length-p.2,⟨rfl,by omega,by simpa using n⟩,?_⟩;rintro⟨_,p⟩ ⟨rfl,w,c⟩;simp only at w c ⊢;rw[rU,qO];refine⟨λm=>⟨m,m,λq=>?_,λq=>⟨?_,?_⟩⟩,λm=>?_⟩;have f:p<l.length:=by simpa using m
 have b:l.drop p≠[]:=λe=>by have:=congrArg zcf e;simp at this;omega
 have o:jO (dec (l.drop p))=Tc:=by
  unfold jO;have:¬(dec (l.drop p)).1=65533:=λe=>by rw[e]at q;simp at q
  simp[this]
 rw[Ju b,o]at c;simp only[zcj,if_false,zdh]at c;rw[nK l p f];have x:=Qa (l.drop p);have j:=zP b;simp only[zb8]at j;exact⟨⟨trivial,by omega,c⟩,by omega⟩;have f:p<l.length:=by simpa using m
 rw[zu];omega;have f:p<l.length:=by simpa using m
 have b:l.drop p≠[]:=λe=>by have:=congrArg zcf e;simp at this;omega
 rw[zu,NU (k:=p) rfl];refine ZS t ?_;have r:(bl (l.drop p)).size≠0:=by rw[zu];simp;omega
 have u:Lib.decodeGo (bl (l.drop p))=dec (l.drop p):=by unfold Lib.decodeGo;rw[zv r,BX,yo,zcm]
 rw[u];refine⟨λi=>?_,λi=>?_⟩;have:=h (p:Int);have z:Qq l=Tc:=n;rw[z]at this;exact this;have o:jO (dec (l.drop p))=Tc:=by
  unfold jO;have:¬(dec (l.drop p)).2=1:=λe=>by rw[e]at i;simp at i
  simp[this]
 rw[Ju b,o]at c;simp only[zcj,if_false,zdh]at c;rw[nK l p f];have x:=Qa (l.drop p);have j:=zP b;simp only[zb8]at j;exact⟨⟨trivial,by omega,c⟩,by omega⟩;have:l.drop p=[]:=zce (by(have:¬p<l.length:=by simpa using m);omega);rw[this,y6]at c;cases c
theorem KO(b:Tabs gl)(c:l.length<=4611686018427387904)(h:R (Qq l)):PC Tp gl 137 [Arg.mk .str (bl l)] [.bool] R:=by apply TQ;exact xO b c λk=>h
theorem Fy(b:Tabs gl)(c:l.length<=4611686018427387904)(h:R (Qq l)):PC Tp gl 149 [Arg.mk .str (bl l)] [.bool] R:=by apply MU;exact xO b c λk=>h
structure GL (gl:Fr):Prop where
 tabs:Tabs gl
 pow:rZ gl
 max:yX gl
 err:A0 gl
theorem yD(s:Bs)(h:s.length<=1152921504606846976):(ye s).1.2.1.length<=4611686018427387904:=by
 unfold ye;split;simp;rename_i x f;have h1:=EJ f;split;simp;split;simp;simp only;generalize (if x.low=Ta then-(zn (x.exp.dropWhile (· == 48)):Int)else zn (x.exp.dropWhile (· == 48)))=e;split;simp;rename_i b;have c:(jr (x.whole++x.rest)).length<=(x.whole++x.rest).length:=by unfold jr;rw[List.length_reverse];refine zch (Zh _ _) ?_;rw[List.length_reverse];exact Zh _ _
 rw[zah]at c;split;show(jr (x.whole++x.rest)).length<=_;omega;simp
theorem wH(f:GL gl){s:Bs}(b:s.length<=1152921504606846976){R:(Bool×Bt×Int)×Bool->Prop}(h:R (om (kR s).1,(kR s).2)):PC Tp gl 148 [Arg.mk .str (bl s)] [tN,.bool] R:=by
 apply SV;refine Cx b ?_;refine⟨λt=>t=bl (Xi (ye s).1),λ_=>Gk f.pow (yD s b) rfl,λr c=>?_⟩;have e:(bif ((ye s).2==0)then(r.toList==(bl s).toList)else Tc)=(kR s).2:=by
  unfold kR;cases hc:((ye s).2==0)with
  |false=>rfl
  |true=>rw[c hc,zK,lK];rfl
 simp only at e ⊢;rw[e];exact h
theorem Ni(n:Nat):Lib.repeatL [48] n=zcv n 48:=by
 induction n with
 |zero=>rfl
 |succ n b=>rw[Lib.repeatL,b];rfl
theorem NG(A:GL gl){n:Nm}(E:n.2.1.length<=4611686018427387904){R:Int×Bool->Prop}(h:R (vh n)):PC Tp gl 209 [Arg.mk tN (om n)] [.int .i64,.bool] R:=by
 apply MH;refine A9 E ?_;unfold vh at h;cases hr:j5 n with
 |false=>rw[hr]at h;exact⟨λ_=>by simpa using h,λl=>by simp at l⟩
 |true=>
  obtain⟨F,D,C⟩:=E9 hr;rw[hr]at h;simp only[zct]at h;simp only[zu];rw[io (by omega)];refine⟨λl=>?_,λl=>?_⟩;rw[zv]at h;exact h;simp at l ⊢;omega;have z:0<=n.2.2/\(n.2.1.length:Int)+n.2.2<=19:=by simp at l;omega
  rw[zA (by simp;omega)]at h;rw[<-PH]at h;obtain⟨e,x⟩:∃e:Nat,n.2.2=(e:Int):=⟨n.2.2.toNat,by omega⟩;show PC Tp gl 200 [Arg.mk .str (bl [48]),Arg.mk PJ n.2.2] [.str] _;rw[x];refine y4 (by omega) (by rw[zu];simp;omega) ?_;rw[yo,Ni,wj];have o:n.2.1++zcv e 48=Jy n:=by rw[Jy,x,zae]
  have q:(Jy n).length<=19:=by rw[<-o];simp;omega
  have w:=Sf hr;rw[o];refine⟨oy (a:=n.2.1) (by rw[zdl];omega),?_⟩;rw[show(⟨#[]⟩:Bt)=bl []from rfl,show(⟨#[45]⟩:Bt)=bl [45]from rfl];simp only[wj];intro K B;have key:∀t:Bs,t=(if n.1 then [45]else [])++Jy n->K (bl t):=by
   intro t c;refine B _ ⟨λhz=>?_,λhz=>?_⟩;have u:t=[]:=by have:=lK t [];rw[this]at hz;simpa using hz
   rw[u]at c;have k:n.1=Tc:=by cases hb:n.1 <;> simp[hb]at c;rfl
   have i:Jy n=[]:=by simp[k]at c;exact c
   rw[k,i]at h;exact h;have j:t≠[]:=by intro e;rw[e,lK]at hz;simp at hz
   refine Mf A.err (by rw[zu,c];split <;> simp <;> omega) ?_;rw[yo,c];have i:Jy n≠[]:=by
    intro r;cases hb:n.1 with
    |false=>rw[c,hb,r]at j;exact j rfl
    |true=>
     have y:n.2.1=[]:=by rw[Jy]at r;exact(List.append_eq_nil_iff.1 r).1
     have:=MA hr y;unfold mJ at this;rw[hb]at this;simp at this
   unfold AI;rw[NS n.1 w q i];cases hb:n.1 with
   |true=>rw[hb]at h;simp only[if_true]at h ⊢;by_cases m:zn (Jy n)<=9223372036854775808;rw[zA (by omega)]at h;rw[zA m];exact⟨λf=>(by cases f),λ_=>h⟩;rw[zv (by omega)]at h;rw[zv m];exact⟨λ_=>h,λf=>(by cases f)⟩
   |false=>rw[hb]at h;simp only[zcj,if_false]at h ⊢;by_cases m:zn (Jy n)<=9223372036854775807;rw[zA (by omega)]at h;rw[zA m];exact⟨λf=>(by cases f),λ_=>h⟩;rw[zv (by omega)]at h;rw[zv m];exact⟨λ_=>h,λf=>(by cases f)⟩
  refine⟨λb=>⟨oy (a:=[45]) (by simp;omega),?_⟩,λb=>?_⟩;exact key _ (by rw[zA (by simpa using b)]);exact key _ (by rw[zv (by simpa using b)];rfl)
end
end Go.X
namespace Go.Proofs.YtplilfikcimcbaaGreatDoor
section
open Go.ChangeShapes Go.WideShapes Go.ChangeAt Go.RowKit Go.Lib
open Go.ChangeMaps (open_string shut_string)
set_option linter.unusedVariables false
section
variable {H:Type} {g:Nat} {t:TypeId}
theorem Tryz.own:ownKnob zbj.godebug=none:=by kernel_rfl
theorem Tryz.laidOut:laidOutB zbj=true:=by kernel_rfl
theorem Lh{enc:TypeId×Value->H}{a:Assume}{C:Checked}{os:Os}{f:FuncId}{fn:Func}{s:ChangeSpec}{n:List PathCond}{apart fresh h l:Bool}{X:World->Array Value->Prop} (L:∀(w w':World) (args:Array Value),w.heap=w'.heap->X w args->X w' args) (own:ownKnob C.prog.godebug=none) (m:os.Started) (q:C.prog.inits.idxOf? f=none) (G:C.prog.funcs[f]?=some fn) (o:∃(w:World) (b:Tape) (i:Input),w.os=os/\(w.forCall b i).Shaped C.prog/\i.vars=[]/\Input.okWide C.prog (w.forCall b i) .any w.heap.size f i /\ ((s.pre enc C.prog fn n apart (w.forCall b i).memory i.args/\X (w.forCall b i).memory i.args)/\sizedMet enc C.prog fn (OpenSpec.ofChange s) apart (w.forCall b i).memory i.args)/\a.holds C.prog (lone (Frame.enter C.prog f i.args .normal) [] (w.forCall b i))) (k:∀(W:World) (base:Nat) (args:Array Value) (z y:List (DataW H)) (c:List MemPlace),(∀(j:Nat) t v,fn.params[j]?=some t->args[j]?=some v->Value.okWide C.prog W .any base t v) -> DataW.Whole enc C.prog fn.params.toList s.vars apart W args.toList z y c -> (DataW.weightsEach C.prog (fn.params.toList++s.plain.varTypes C.prog) (z++y)).all (·<=reachBytes)=true -> X W args->W.ShapedOpen C.prog -> Calls C.prog f args W λe I=>∃v,e=.returned v/\s.post enc C.prog fn apart fresh h l W args v I):
  ReturnsInHanded a C os f .any (λw args=>(s.pre enc C.prog fn n apart w args/\X w args)/\sizedMet enc C.prog fn (OpenSpec.ofChange s) apart w args) (s.post enc C.prog fn apart fresh h l):=by
 refine returnsInHanded_of_calls own m q o ?_;intro w b i _ E _ D x A;obtain⟨_,_,_,F,u,_,_,_,_,r⟩:=D;have e:F=fn:=zbi (u.symm.trans G);subst e;obtain⟨⟨⟨z,y,c,J,P⟩,N⟩,hz⟩:=x;have B:=DataW.Whole.of_heap (w':=w.forCall b i) (by rfl) J;refine(k (w.forCall b i) w.heap.size i.args z y c r B (hz.weights J) (L _ _ _ (by rfl) N) E).mono λe I ⟨v,O,M⟩=>?_;subst O;exact ChangeSpec.post_blind M
theorem vU{P:Program}{W:World}{n:String}{k:IntKind}{l:List Int}{t e:TypeId}{m:Nat}(o:P.globalNamed n=some g)(r:(P.globals[g]?).map (·.type)=some t)(u:P.underlying t=some (.array m e))(w:P.underlying e=some (.int k))
  (c:P.cellsOf e=1) (j:P.cellsOf t=m) (h:VarReads P W n (tabData k l)):∃cs:Array Value,Fz W g=some cs/\cs.toList=l.map λz=>zcn k z:=by
 obtain⟨g',t',cs,fuel,p,i,f,b,q⟩:=h;obtain rfl:=zbi (o.symm.trans i);obtain rfl:=zbi (r.symm.trans f);exact⟨cs,Fz.var o b,cells_of_tab u w c j q⟩
theorem qa6{W : World}(h : VarReads Tryz.prog W "unicode/utf8.first" Pinned.utf8First): ∃ cs : Array Value, Fz W 0 = some cs ∧ ∀ c, c < 256 → cs[c]? = some (.int .u8 (Lib.firstT c)) := by rw[Pinned.utf8First_eq]at h;obtain⟨cs,h1,h2⟩:=vU (g:=0) (t:=305) (e:=5) (m:=256) (by kernel_rfl) (by kernel_rfl) (by kernel_rfl) (by kernel_rfl) (by kernel_rfl) (by kernel_rfl) h;refine⟨cs,h1,λc hc=>?_⟩;rw[<-Array.getElem?_toList,h2];simp[firstTab,hc]
theorem O9{W : World}(h : VarReads Tryz.prog W "unicode/utf8.acceptRanges" acceptData): ∃ cs : Array Value, Fz W 1 = some cs ∧ ∀ i, i < 16 → cs[2 * i]? = some (.int .u8 (Lib.accLo i)) ∧ cs[2 * i + 1]? = some (.int .u8 (Lib.accHi i)) := by
 obtain⟨g,t,cs,fuel,p,hg,hty,hvar,hd⟩:=h;obtain rfl := Option.some.inj ((show Tryz.prog.globalNamed "unicode/utf8.acceptRanges" = some 1 by kernel_rfl).symm.trans hg);obtain rfl:=Option.some.inj ((show(Tryz.prog.globals[1]?).map (·.type)=some 308 by kernel_rfl).symm.trans hty);refine⟨cs,Fz.var hg hvar,λi hi=>?_⟩;obtain⟨fuel',d,q,hdi,he⟩:=array_elem (show Tryz.prog.underlying 308=some (.array 16 307)by kernel_rfl) hd i hi;simp only[List.getElem?_map,List.getElem?_range hi,Option.map_some,Option.some.injEq]at hdi;subst hdi;have hc:Tryz.prog.cellsOf 307=2:=by kernel_rfl
 have c5:zbj.cellsOf 5=1:=by kernel_rfl
 have u5:zbj.underlying 5=some (.int .u8):=by kernel_rfl
 rw[hc]at he;have hcs:=ints_of_struct Tryz.underlying307 (λj f hj=>by
  match j,hj with
  |0,hj=>simp at hj;subst hj;exact⟨u5,rfl,c5⟩
  |1,hj=>simp at hj;subst hj;exact⟨u5,rfl,c5⟩
  |j+2,hj=>simp at hj) (by rw[hc];rfl) he
 have e0:=congrArg (·[0]?) hcs;have e1:=congrArg (·[1]?) hcs;simp only[zbk,zb6]at e0 e1;constructor;rw[<-zbh];simpa[zd7]using e0;rw[<-zbh];simpa[zd7]using e1
theorem Ma{W : World}{d : DataW Unit}(hd : d = tabData .u64 Lib.pow10Tab)(h : VarReads Tryz.prog W "internal/strconv.uint64pow10" d): rZ (Fz W) := by subst hd;obtain⟨cs,h1,h2⟩:=vU (g:=2) (t:=349) (e:=178) (m:=20) (by kernel_rfl) (by kernel_rfl) (by kernel_rfl) (by kernel_rfl) (by kernel_rfl) (by kernel_rfl) h;exact⟨_,cs,by kernel_rfl,h1,by rw[<-h2]⟩
theorem Cv{W:World}{n:String}{ms:Array (String×TypeId)}{m:String}{d:DataW Unit}(j:zbj.globalNamed n=some g)(q:(zbj.globals[g]?).map (·.type)=some t)(o:zbj.underlying t=some (.interface ms))(h:VarReads zbj W n (.iface m d)):
  ∃(cs:Array Value) (e:Value),Fz W g=some cs/\cs[0]?=some e/\(e=.nilIface\/∃l r,e=.iface l r):=by
 obtain⟨g',t',cs,fuel,p,i,c,b,k⟩:=h;obtain rfl:=zbi (j.symm.trans i);obtain rfl:=zbi (q.symm.trans c);obtain⟨w,u,v,f,_,_⟩:=iface_of_trod o k;exact⟨cs,.iface u v,Fz.var j b,by rw[<-zbh,f];rfl,.inr ⟨u,v,rfl⟩⟩
theorem Lj{W:World}(h:W.ShapedOpen zbj):yX (Fz W):=by obtain⟨m,f⟩:=cell_of_shapedOpen_int (P:=zbj) (g:=3) (t:=3) (zero:=#[.int .i64 0]) (k:=.i64) h (by decide +kernel) (by kernel_rfl) rfl (by kernel_rfl) (by kernel_rfl) (by kernel_rfl);obtain⟨b,o,c,e,h1,i⟩:=Fz.cell f;cases e;exact⟨c,m,h1,i⟩
def kI:List (String×DataW Unit):=Rows.diffReportsRow.laid
theorem ZQ{W:World}(h:laidMetH zbj kI W)(f:W.ShapedOpen zbj):GL (Fz W):=by
 have c:laidMet zbj kI W:=by rw[MakeChecks.laidMetH_plain _ _ _ (by kernel_rfl)]at h;exact h
 have b:∀(i:Nat) (n:String) (d:DataW Unit),kI[i]?=some (n,d)->VarReads zbj W n d:=λi n d e=>Go.Lib.laidMet.reads c (zcg e);exact {
  tabs:=⟨qa6 (b 6 _ _ rfl),O9 (by
   have e:(Rows.laid_unicode_utf8_acceptRanges:DataW Unit)=acceptData:=by kernel_rfl
   rw[<-e];exact b 3 _ _ rfl)⟩
  pow:=Ma (by kernel_rfl) (b 2 _ _ rfl)
  max:=Lj f
  err:=⟨Cv (g:=4) (t:=91) (by kernel_rfl) (by kernel_rfl) Tryz.underlying91 (b 5 _ _ rfl),Cv (g:=5) (t:=91) (by kernel_rfl) (by kernel_rfl) Tryz.underlying91 (b 4 _ _ rfl)⟩ }
noncomputable def Bz(os:Os):World:=World.laidAll zbj os kI
theorem YV(os:Os)(args:Array Value):((Bz os).forCall (λ_ _=>0) ⟨#[],args,[]⟩).Shaped zbj:=World.shaped_of_ZipB (by kernel_rfl) (by kernel_rfl)
theorem Lm(os:Os)(args:Array Value):laidMetH zbj kI ((Bz os).forCall (λ_ _=>0) ⟨#[],args,[]⟩).memory:=by rw[MakeChecks.laidMetH_plain _ _ _ (by kernel_rfl)];exact laidMet_laidAll _ (by kernel_rfl) (by kernel_rfl)
theorem Im{enc:TypeId×Value->H}{W:World}{sp:Nat->Bool}{held:Bool}(fuel:Nat)(cs:List Value)(x:DataW H×List MemPlace)(h:DataW.trod enc zbj W 0 sp held fuel 25 cs=some x)(b:oC zbj 25 x.1):∃t:Tr,Rd (Fz W) .tree t cs:= KB (tk:=3) (ts:=9) (tss:=22) (tvs:=23) Tryz.underlying25 (by kernel_rfl) ⟨rfl,rfl,rfl,rfl,rfl,rfl,rfl,rfl⟩ (by kernel_rfl) (by kernel_rfl) (by kernel_rfl) (by kernel_rfl) (by kernel_rfl) (by kernel_rfl) (by kernel_rfl) (by kernel_rfl) (by decide +kernel) (by decide +kernel) fuel cs x h b
theorem CQ{ts:List TypeId}{b:List (DataW H)}(h:(DataW.weightsEach zbj ts b).all (·<=reachBytes)=true){j:Nat}{d:DataW H}(e:ts[j]?=some t)(c:b[j]?=some d):oC zbj t d:=λn f=>by have:=za7.1 h n (DataW.weights_mem_each e c n f);simpa using this
end
end
end Go.Proofs.YtplilfikcimcbaaGreatDoor
namespace Go.X
section
section
theorem Po(f:Int)(e:Int)(h:zc)(R:Value->zc->Prop) (H:XC Tp 249 #[iV f,iV e] h (λa b=>∃c,a=.string c/\R (.string c) b)):
  XC Tp 199 #[.int .i64 f,.int .i64 e] h R:=
 XF ⟨[],[],[]⟩ [.tmp 4] 8 Tryz.func199 H
theorem Zr(b:Int)(h:zc)(R:Value->zc->Prop) (H:R (.bool ((w6 (((zco (zb1 .i64) b) &&& (zco (zb1 .i64) (w6 (b-1)))).toNat:Int):Int)==0)) h):
  XC Tp 354 #[.int .i64 b] h R:=
 XF ⟨[],[],[]⟩ [.tmp 2] 8 Tryz.func354 H
theorem Yu(i:Int)(h:zc)(R:Value->zc->Prop) (H:(Tc=Ta->XC Tp 383 #[.int .u32 (zaa .u32 i)] h (λa b=>∃c,a=iV c/\R (iV c) b))/\(Tc=Tc->XC Tp 384 #[.int .u64 i] h (λd e=>∃f,d=iV f/\R (iV f) e))):
  XC Tp 355 #[.int .u64 i] h R:=
 XF ⟨[],[],[]⟩ [.tmp 2] 8 Tryz.func355 H
theorem Qu(c:Int)(h:zc)(R:Value->zc->Prop) (H:((c==0)=Ta->R (iV 64) h)/\((c==0)=Tc->∃a:Addr,(Td ⟨7,0,Te⟩=Td a/\0<=((zaa .u64 ((zaa .u64 (((zco (zb1 .u64) c) &&& (zco (zb1 .u64) (zaa .u64 (0-c)))).toNat:Int))*285870213051353865):Int).fdiv (2 ^ 58):Int)/\((zaa .u64 ((zaa .u64 (((zco (zb1 .u64) c) &&& (zco (zb1 .u64) (zaa .u64 (0-c)))).toNat:Int))*285870213051353865):Int).fdiv (2 ^ 58):Int)<((64:Nat):Int))/\∃b,zd h (a.add (((zaa .u64 ((zaa .u64 (((zco (zb1 .u64) c) &&& (zco (zb1 .u64) (zaa .u64 (0-c)))).toNat:Int))*285870213051353865):Int).fdiv (2 ^ 58):Int).toNat*1))=Td (.int .u8 b)/\R (iV (w6 b)) h)):
  XC Tp 384 #[.int .u64 c] h R:=
 XF ⟨[],[],[]⟩ [.tmp 2] 14 Tryz.func384 H
theorem NB(e:Int)(h:zc)(R:Value->zc->Prop) (H:∀a:Bool->zc->Prop,(∀b:Bool,∀c:zc,((b=Ta->R (.int .u8 (zaa .u8 e)) c)/\(b=Tc->((e==8)=Ta->R (.int .u8 98) c)/\((e==8)=Tc->((e==12)=Ta->R (.int .u8 102) c)/\((e==12)=Tc->((e==10)=Ta->R (.int .u8 110) c)/\((e==10)=Tc->((e==13)=Ta->R (.int .u8 114) c)/\((e==13)=Tc->((e==9)=Ta->R (.int .u8 116) c)/\((e==9)=Tc->R (.int .u8 0) c)))))))->a b c)->((e==34)=Ta->a (e==34) h)/\((e==34)=Tc->a (e==92) h)):
  XC Tp 197 #[.int .i32 e] h R:=
 XF ⟨[],[],[(4,[(4,.one (.bool))])]⟩ [.tmp 2] 19 Tryz.func197 H
end
section
theorem WM(s0:Bt)(h:zc)(R:Value->zc->Prop) (H:XC Tp 196 #[.string s0] h (λa b=>∃c d,a=.tuple #[iV c,.bool d]/\((!d)=Ta->R (.tuple #[.string (⟨#[]⟩:Bt),iV 2]) b)/\((!d)=Tc->let e:=b.push (.cells #[.pointer Te,.slice Te 0 0] 89);XC Tp 133 #[.pointer (Td ⟨b.size,0,Te⟩),.int .u8 34] e (λf g=>∃i:Value,f=i/\let j:=g.push (.stringIter s0 0);∃(k:zc->Prop) (l:zc->Nat),k j/\∀m:zc,k m->(qu Tp (zdx (.pointer (Td ⟨g.size,0,Te⟩)) Ta 0) m (λn o=>(n=.tuple #[.bool Tc]/\(Tc=Ta->False)/\(Tc=Tc->XC Tp 133 #[.pointer (Td ⟨b.size,0,Te⟩),.int .u8 34] o (λp q=>∃r:Value,p=r/\XC Tp 70 #[.pointer (Td ⟨b.size,0,Te⟩)] q (λs t=>∃u,s=.string u/\R (.tuple #[.string u,iV 0]) t))))\/∃v w:Int,n=.tuple #[.bool Ta,iV v,.int .i32 w]/\(Ta=Ta->XC Tp 197 #[.int .i32 w] o (λx y=>∃z,x=.int .u8 z/\((z != 0)=Ta->XC Tp 133 #[.pointer (Td ⟨b.size,0,Te⟩),.int .u8 92] y (λA B=>∃C:Value,A=C/\XC Tp 133 #[.pointer (Td ⟨b.size,0,Te⟩),.int .u8 z] B (λD E=>∃F:Value,D=F/\(k E/\l E<l m))))/\((z != 0)=Tc->(decide (w>=32)=Ta->XC Tp 198 #[.pointer (Td ⟨b.size,0,Te⟩),.int .i32 w] y (λG I=>∃J,∃L:Value,G=.tuple #[iV J,L]/\(k I/\l I<l m)))/\(decide (w>=32)=Tc->XC Tp 199 #[iV (w6 w),iV 16] y (λM N=>∃O,M=.string O/\XC Tp 200 #[.string (⟨#[48]⟩:Bt),iV (w6 (4-(O.size:Int)))] N (λP Q=>∃S,P=.string S/\j6 (((⟨#[92,117]⟩:Bt)).size+S.size)/\j6 (((⟨#[92,117]⟩:Bt)++S).size+O.size)/\XC Tp 68 #[.pointer (Td ⟨b.size,0,Te⟩),.string (((⟨#[92,117]⟩:Bt)++S)++O)] Q (λT U=>∃V,∃W:Value,T=.tuple #[iV V,W]/\(k U/\l U<l m))))))))/\(Ta=Tc->XC Tp 133 #[.pointer (Td ⟨b.size,0,Te⟩),.int .u8 34] o (λX Y=>∃Z:Value,X=Z/\XC Tp 70 #[.pointer (Td ⟨b.size,0,Te⟩)] Y (λaa ab=>∃ac,aa=.string ac/\R (.tuple #[.string ac,iV 0]) ab))))))))):
  XC Tp 125 #[.string s0] h R:=
 XF ⟨[],[(7,[])],[]⟩ [.tmp 2,.tmp 3] 48 Tryz.func125 H
theorem Qv(b0:Option Addr)(q:Int)(h:zc)(R:Value->zc->Prop) (H:XC Tp 123 #[.pointer b0] h (λb c=>b=.tuple #[]/\∃d,b0=Td d/\∃e,zd c (zab d 1)=Td (aK e)/\∃f,b0=Td f/\∃g,zd c (zab f 1)=Td (aK g)/\XC Tp 248 #[aK g,.int .i32 q] c (λi j=>∃k,i=aK k/\∃l,b0=Td l/\XRunU Tp (zag 87 (.pointer (Td (zab l 1))) (aK k)) j (λm=>∃n,b0=Td n/\∃o,zd m (zab n 1)=Td (aK o)/\R (.tuple #[iV (w6 ((o.len:Int)-(e.len:Int))),.nilIface]) m)))):
  XC Tp 198 #[.pointer b0,.int .i32 q] h R:=
 XF ⟨[],[],[]⟩ [.tmp 4,.tmp 5] 30 Tryz.func198 H
theorem Qc(aa:Sl)(u1:Int)(Y:Int)(Z:Bool)(b:Bool)(h:zc)(R:Value->zc->Prop) (H:∀c:zc->Prop,(∀d:zc,(let e:=d.push (.cells q0 350);∀f:Int->zc->Prop,(∀g:Int,∀i:zc,(∀j:Int->zc->Prop,(∀k:Int,∀l:zc,(∀m:Int->zc->Prop,(∀n:Int,∀o:zc,((b=Ta->(0<=n/\n<=(65:Int)/\(65:Int)<=(65:Int))/\qu Tp (zao #[87,87] 87 #[aK aa,.slice (x9 (Td ⟨d.size,0,Te⟩) 1 n.toNat 65) ((65:Int).toNat-n.toNat) (65-n.toNat)]) o (λp q=>∃r,p=aK r/\R (.tuple #[aK r,.string (⟨#[]⟩:Bt)]) q))/\(b=Tc->(0<=n/\n<=(65:Int)/\(65:Int)<=(65:Int))/\qu Tp (convert 87 9 (.slice (x9 (Td ⟨d.size,0,Te⟩) 1 n.toNat 65) ((65:Int).toNat-n.toNat) (65-n.toNat))) o (λs t=>∃u,s=.string u/\R (.tuple #[.slice Te 0 0,.string u]) t)))->m n o)->(Z=Ta->∃v:Addr,(Td ⟨d.size,0,Te⟩=Td v/\0<=(w6 (k-1))/\(w6 (k-1))<((65:Nat):Int))/\XRunU Tp (zag 5 (.pointer (Td (v.add ((w6 (k-1)).toNat*1)))) (.int .u8 45)) l (λw=>m (w6 (k-1)) w))/\(Z=Tc->m k l))->j k l)->XC Tp 354 #[iV Y] i (λx y=>∃z,x=.bool z/\(z=Ta->XC Tp 355 #[.int .u64 (zaa .u64 Y)] y (λA B=>∃C,A=iV C/\∃(D:Int->Int->zc->Prop) (E:Int->Int->zc->Nat),D g 65 B/\∀F G:Int,∀I:zc,D F G I->((decide (F>=(zaa .u64 Y))=Ta->(0<=(zaa .u64 (((zco (zb1 .u64) F) &&& (zco (zb1 .u64) (zaa .u64 ((zaa .u64 Y)-1)))).toNat:Int):Int)/\(zaa .u64 (((zco (zb1 .u64) F) &&& (zco (zb1 .u64) (zaa .u64 ((zaa .u64 Y)-1)))).toNat:Int):Int)<(((⟨#[48,49,50,51,52,53,54,55,56,57,97,98,99,100,101,102,103,104,105,106,107,108,109,110,111,112,113,114,115,116,117,118,119,120,121,122]⟩:Bt)).size:Int))/\∃J:Addr,(Td ⟨d.size,0,Te⟩=Td J/\0<=(w6 (G-1))/\(w6 (G-1))<((65:Nat):Int))/\XRunU Tp (zag 5 (.pointer (Td (J.add ((w6 (G-1)).toNat*1)))) (.int .u8 (yf (⟨#[48,49,50,51,52,53,54,55,56,57,97,98,99,100,101,102,103,104,105,106,107,108,109,110,111,112,113,114,115,116,117,118,119,120,121,122]⟩:Bt) (zaa .u64 (((zco (zb1 .u64) F) &&& (zco (zb1 .u64) (zaa .u64 ((zaa .u64 Y)-1)))).toNat:Int):Int).toNat))) I (λL=>0<=(zaa .u64 C)/\(D (F.fdiv (2 ^ (min (zaa .u64 C).toNat 64))) (w6 (G-1)) L/\E (F.fdiv (2 ^ (min (zaa .u64 C).toNat 64))) (w6 (G-1)) L<E F G I)))/\(decide (F>=(zaa .u64 Y))=Tc->(0<=F/\F<(((⟨#[48,49,50,51,52,53,54,55,56,57,97,98,99,100,101,102,103,104,105,106,107,108,109,110,111,112,113,114,115,116,117,118,119,120,121,122]⟩:Bt)).size:Int))/\∃M:Addr,(Td ⟨d.size,0,Te⟩=Td M/\0<=(w6 (G-1))/\(w6 (G-1))<((65:Nat):Int))/\XRunU Tp (zag 5 (.pointer (Td (M.add ((w6 (G-1)).toNat*1)))) (.int .u8 (yf (⟨#[48,49,50,51,52,53,54,55,56,57,97,98,99,100,101,102,103,104,105,106,107,108,109,110,111,112,113,114,115,116,117,118,119,120,121,122]⟩:Bt) F.toNat))) I (λN=>j (w6 (G-1)) N)))))/\(z=Tc->∃(O:Int->Int->zc->Prop) (P:Int->Int->zc->Nat),O g 65 y/\∀Q S:Int,∀T:zc,O Q S T->((decide (Q>=(zaa .u64 Y))=Ta->IntKind.u64=IntKind.u64/\(zaa .u64 Y)≠0/\(0<=(zaa .u64 (Q-(zaa .u64 ((zaa .u64 (Q.tdiv (zaa .u64 Y)))*(zaa .u64 Y)))):Int)/\(zaa .u64 (Q-(zaa .u64 ((zaa .u64 (Q.tdiv (zaa .u64 Y)))*(zaa .u64 Y)))):Int)<(((⟨#[48,49,50,51,52,53,54,55,56,57,97,98,99,100,101,102,103,104,105,106,107,108,109,110,111,112,113,114,115,116,117,118,119,120,121,122]⟩:Bt)).size:Int))/\∃U:Addr,(Td ⟨d.size,0,Te⟩=Td U/\0<=(w6 (S-1))/\(w6 (S-1))<((65:Nat):Int))/\XRunU Tp (zag 5 (.pointer (Td (U.add ((w6 (S-1)).toNat*1)))) (.int .u8 (yf (⟨#[48,49,50,51,52,53,54,55,56,57,97,98,99,100,101,102,103,104,105,106,107,108,109,110,111,112,113,114,115,116,117,118,119,120,121,122]⟩:Bt) (zaa .u64 (Q-(zaa .u64 ((zaa .u64 (Q.tdiv (zaa .u64 Y)))*(zaa .u64 Y)))):Int).toNat))) T (λV=>(O (zaa .u64 (Q.tdiv (zaa .u64 Y))) (w6 (S-1)) V/\P (zaa .u64 (Q.tdiv (zaa .u64 Y))) (w6 (S-1)) V<P Q S T)))/\(decide (Q>=(zaa .u64 Y))=Tc->(0<=Q/\Q<(((⟨#[48,49,50,51,52,53,54,55,56,57,97,98,99,100,101,102,103,104,105,106,107,108,109,110,111,112,113,114,115,116,117,118,119,120,121,122]⟩:Bt)).size:Int))/\∃W:Addr,(Td ⟨d.size,0,Te⟩=Td W/\0<=(w6 (S-1))/\(w6 (S-1))<((65:Nat):Int))/\XRunU Tp (zag 5 (.pointer (Td (W.add ((w6 (S-1)).toNat*1)))) (.int .u8 (yf (⟨#[48,49,50,51,52,53,54,55,56,57,97,98,99,100,101,102,103,104,105,106,107,108,109,110,111,112,113,114,115,116,117,118,119,120,121,122]⟩:Bt) Q.toNat))) T (λX=>j (w6 (S-1)) X))))))->f g i)->(Z=Ta->f (zaa .u64 (0-u1)) e)/\(Z=Tc->f u1 e))->c d)->((bif (bif (decide (Y<2))then Ta else(Y==10))then Ta else(decide (Y>36)))=Ta->False)/\((bif (bif (decide (Y<2))then Ta else(Y==10))then Ta else(decide (Y>36)))=Tc->c h)):
  XC Tp 303 #[.slice aa.a aa.len aa.cap,.int .u64 u1,.int .i64 Y,.bool Z,.bool b] h R:=
 XF ⟨[],[(11,[(1,.one (.int .u64)),(13,.one (.int .i64))]),(18,[(1,.one (.int .u64)),(13,.one (.int .i64))])],[(3,[]),(7,[(1,.one (.int .u64))]),(25,[(13,.one (.int .i64))]),(28,[(13,.one (.int .i64))])]⟩ [.tmp 10,.tmp 11] 102 Tryz.func303 H
theorem Ql(B:Int)(A:Int)(h:zc)(R:Value->zc->Prop) (H:((A==10)=Ta->((bif (decide ((0:Int)<=B))then(decide (B<100))else Tc)=Ta->XC Tp 300 #[iV B] h (λb c=>∃d,b=.string d/\R (.string d) c))/\((bif (decide ((0:Int)<=B))then(decide (B<100))else Tc)=Tc->let e:=h.push (.cells q01 309);∀f:Int->zc->Prop,(∀g:Int,∀i:zc,(XC Tp 301 #[.int .u64 g] i (λj k=>∃l,j=iV l/\(0<=(1:Int)/\(1:Int)<=(w6 (1+l))/\(w6 (1+l))<=(24:Int))/\XC Tp 302 #[.slice (x9 (Td ⟨h.size,0,Te⟩) 1 ((1:Int).toNat) 24) ((w6 (1+l)).toNat-(1:Int).toNat) (24-(1:Int).toNat),.int .u64 g] k (λm n=>m=.tuple #[]/\(decide (B<0)=Ta->∃o:Addr,(Td ⟨h.size,0,Te⟩=Td o/\0<=(0:Int)/\(0:Int)<((24:Nat):Int))/\XRunU Tp (zag 5 (.pointer (Td (o.add ((0:Int).toNat*1)))) (.int .u8 45)) n (λp=>(0<=(0:Int)/\(0:Int)<=(w6 (1+l))/\(w6 (1+l))<=(24:Int))/\qu Tp (convert 87 9 (.slice (x9 (Td ⟨h.size,0,Te⟩) 1 ((0:Int).toNat) 24) ((w6 (1+l)).toNat-(0:Int).toNat) (24-(0:Int).toNat))) p (λq r=>∃s,q=.string s/\R (.string s) r)))/\(decide (B<0)=Tc->(0<=(1:Int)/\(1:Int)<=(w6 (1+l))/\(w6 (1+l))<=(24:Int))/\qu Tp (convert 87 9 (.slice (x9 (Td ⟨h.size,0,Te⟩) 1 ((1:Int).toNat) 24) ((w6 (1+l)).toNat-(1:Int).toNat) (24-(1:Int).toNat))) n (λt u=>∃v,t=.string v/\R (.string v) u)))))->f g i)->(decide (B<0)=Ta->f (zaa .u64 (0-(zaa .u64 B))) e)/\(decide (B<0)=Tc->f (zaa .u64 B) e)))/\((A==10)=Tc->XC Tp 303 #[.slice Te 0 0,.int .u64 (zaa .u64 B),iV A,.bool (decide (B<0)),.bool Tc] h (λw x=>∃y z,w=.tuple #[aK y,.string z]/\R (.string z) x))):
  XC Tp 249 #[.int .i64 B,.int .i64 A] h R:=
 XF ⟨[],[],[(8,[(6,.one (.int .u64))])]⟩ [.tmp 4] 54 Tryz.func249 H
end
section
variable {gl:Fr} {R:Bool -> Prop}
theorem PG(c:GL gl){s:Bs}(b:s.length<=1152921504606846976)(h:R (vM s)):PC Tp gl 150 [Arg.mk .str (bl s)] [.bool] R:=by apply Um;refine wH c b (NG c (n:=(kR s).1) (yD s b) ?_);simp only[zem];exact h
theorem Y3(v:Tr):Tr.mk v.kind v.text v.keys v.items=v:=by cases v;rfl
theorem vn{l:List Tr}{k:Nat}(h:k<l.length):l[((k:Int)).toNat]?=Td l[k]:=by rw[zae,zai h]
theorem FX{gl:Fr}(v:Tr)(r:aR v<=1000000000000){R:Int->Prop}(h:R (aR v:Int)):PC Tp gl 43 [Arg.mk .tree v] [.int .i64] R:=by
 apply MW;have f:=wy v.items;have e:=ql v;refine⟨λn i=>∃k:Nat,i=k/\k<=v.items.length/\n=((1+wa (v.items.take k):Nat):Int),λ_ i=>v.items.length-i.toNat,⟨0,rfl,by omega,by simp[wa]⟩,?_⟩;rintro n i ⟨k,rfl,q,rfl⟩;refine⟨λc=>?_,λc=>?_⟩;have b:k<v.items.length:=by simp at c;omega
 refine⟨v.items[k],⟨by omega,vn b⟩,?_⟩;rw[Y3];have l:v.items[k]∈v.items:=zak b;have j:=qo l;have m:wa (v.items.take (k+1))<=wa v.items:=by have:=xr (v.items.take (k+1)) (v.items.drop (k+1));rw[zca]at this;omega
 have o:=UV b;refine FX (v.items[k]) (by omega) ?_;rw[je b (by omega),io (by omega)];exact⟨⟨k+1,rfl,by omega,by omega⟩,by simp only[zae];omega⟩;have b:k=v.items.length:=by simp at c;omega
 subst b;rw[zba,<-e];exact h
termination_by aR v
theorem Fq{gl:Fr}(v:Tr)(t:aR v<=1000000000000){R:Int->Prop}(h:R (cR v:Int)):PC Tp gl 144 [Arg.mk .tree v] [.int .i64] R:=by
 apply RV;have e:=wy v.items;have q:=ql v;have f:=vR v.items;have o:=j8 v;refine⟨λn i=>∃k:Nat,i=k/\k<=v.items.length/\n=((Xj (v.items.take k):Nat):Int),λ_ i=>v.items.length-i.toNat,⟨0,rfl,by omega,by simp[Xj]⟩,?_⟩;rintro n i ⟨k,rfl,r,rfl⟩;refine⟨λc=>?_,λc=>?_⟩;have b:k<v.items.length:=by simp at c;omega
 refine⟨v.items[k],⟨by omega,vn b⟩,?_⟩;rw[Y3];have m:v.items[k]∈v.items:=zak b;have j:=qo m;have l:=z5b b;refine Fq (v.items[k]) (by omega) ?_;rw[je b (by omega)];refine⟨⟨k+1,rfl,by omega,?_⟩,by simp only[zae];omega⟩;rw[l];split <;> omega;have b:k=v.items.length:=by simp at c;omega
 subst b;rw[zba,io (by omega)];have:((Xj v.items:Nat):Int)+1=(cR v:Int):=by omega
 rw[this];exact h
termination_by aR v
theorem ID{v:Tr}(b:Sm v)(h:R (Zi v)):PC Tp gl 86 [Arg.mk .tree v] [.bool] R:=by
 apply ZW;rw[Y3];refine FX v b.sz ⟨λr=>r=(cR v:Int),λ_=>Fq v b.sz rfl,λr c=>?_⟩;have e:(bif decide ((aR v:Int)<=4096)then decide (r<=32)else Tc)=Zi v:=by
  unfold Zi;cases hc:decide ((aR v:Int)<=4096)with
  |false=>(have:decide (aR v<=4096)=Tc:=by simp at hc ⊢;omega);rw[this];rfl
  |true=>
   have:decide (aR v<=4096)=Ta:=by simp at hc ⊢;omega
   rw[this,c hc,zK,zct,zbe];simp;omega
 rw[e];exact h
end
section
theorem KV(w:Sl)(x:Int)(h:zc)(R:Value->zc->Prop) (H:let b:=h.push (.map #[] 0);∃(c:Int->zc->Prop) (d:Int->zc->Nat),c 0 b/\∀e:Int,∀f:zc,c e f->((decide (e<w.len)=Ta->∃g,(w.a=Td g/\0<=e/\e<w.len)/\∃i,zd f (g.add (e.toNat*1))=Td (.string i)/\∃j,QExec Tp (zc1 213 (.map (Td h.size)) (.string i) Tc) f (.bool j)/\∃k:Value->zc->Prop,((!j)=Ta->XC Tp 149 #[.string i] f (λl m=>∃n,l=.bool n/\k (.bool n) m))/\((!j)=Tc->∃o,k (.bool o) f)/\((!j)=Ta->∀p q,k p q->∃r,p=.bool r)/\∀s:Bool,∀t,k (.bool s) t->((bif j then Ta else(!s))=Ta->R (.bool Tc) t)/\((bif j then Ta else(!s))=Tc->XRunU Tp (zcz 213 (.map (Td h.size)) (.string i) (.bool Ta)) t (λu=>(c (w6 (e+1)) u/\d (w6 (e+1)) u<d e f))))/\(decide (e<w.len)=Tc->R (.bool ((w.len:Int)==x)) f))):
  XC Tp 147 #[.slice w.a w.len w.cap,.int .i64 x] h R:=
 XF ⟨[],[(3,[(13,.one (.int .i64))])],[]⟩ [.tmp 4] 32 Tryz.func147 H
theorem jv(j:Sl)(f:FuncId)(e:Array Value)(i:Array Value)(h:zc)(R:Value->zc->Prop) (H:XC Tp 208 #[aK j,.func (.func f) e i] h (λb c=>∃d,b=iV d/\R (.bool (decide (d>=0))) c)):
  XC Tp 145 #[.slice j.a j.len j.cap,.func (.func f) e i] h R:=
 XF ⟨[],[],[]⟩ [.tmp 4] 9 Tryz.func145 H
theorem wm(q:Sl)(o:FuncId)(r:Array Value)(t:Array Value)(h:zc)(R:Value->zc->Prop) (H:∃(b:Int->zc->Prop) (c:Int->zc->Nat),b 0 h/\∀d:Int,∀e:zc,b d e->((decide (d<q.len)=Ta->∃f,(q.a=Td f/\0<=d/\d<q.len)/\∃g i j k,ze e (f.add (d.toNat*4)) 0 (tL g i j k)/\zo Tp o=Ta/\XC Tp o (r++#[tA g i j k]++t) e (λl m=>∃n,l=.bool n/\(n=Ta->R (iV d) m)/\(n=Tc->(b (w6 (d+1)) m/\c (w6 (d+1)) m<c d e))))/\(decide (d<q.len)=Tc->R (iV (-1)) e))):
  XC Tp 208 #[.slice q.a q.len q.cap,.func (.func o) r t] h R:=
 XF ⟨[],[(2,[(8,.one (.int .i64))])],[]⟩ [.tmp 4] 19 Tryz.func208 H
theorem XR(b:Int)(c:Bt)(d:Sl)(e:Sl)(c1:Addr)(h:zc)(R:Value->zc->Prop) (H:let f:=h.push (.cells #[iV b,.string c,aK d,aK e] 25);∃g i j k,ze f ⟨h.size,0,Te⟩ 0 (tL g i j k)/\∃l:Value,zd f c1=Td l/\XC Tp 87 #[tA g i j k,l] f (λm n=>∃o,m=.bool o/\R (.bool (!o)) n)):
  XC Tp 146 #[.agg #[.int .i64 b,.string c,.slice d.a d.len d.cap,.slice e.a e.len e.cap],.pointer (Td c1)] h R:=
 XF ⟨[],[],[]⟩ [.tmp 3] 8 Tryz.func146 H
theorem VJ(b:Int)(c:Bt)(d:Sl)(e:Sl)(E:FuncId)(D:Array Value)(F:Array Value)(h:zc)(R:Value->zc->Prop) (H:let f:=h.push (.cells #[iV b,.string c,aK d,aK e] 25);let g:=f.push (.cells #[.func (.func E) D F] 37);∃i:Value,zd g ⟨f.size,0,Te⟩=Td i/\∃j k l m,ze g ⟨h.size,0,Te⟩ 0 (tL j k l m)/\kU Tp i #[tA j k l m] (λn o=>XC Tp n o g (λp q=>∃r,p=.bool r/\∃s,(r=Ta->zd q (zab ⟨h.size,0,Te⟩ 3)=Td (aK s))/\∃t:Value->zc->Prop,(r=Ta->XC Tp 145 #[aK s,.func (.func 146) #[] #[.pointer (Td ⟨f.size,0,Te⟩)]] q (λu v=>∃w,u=.bool w/\t (.bool w) v))/\(r=Tc->∃x,t (.bool x) q)/\(r=Ta->∀y z,t y z->∃A,y=.bool A)/\∀B:Bool,∀C,t (.bool B) C->R (.bool (bif r then(!B)else Tc)) C))):
  XC Tp 87 #[.agg #[.int .i64 b,.string c,.slice d.a d.len d.cap,.slice e.a e.len e.cap],.func (.func E) D F] h R:=
 XF ⟨[],[],[]⟩ [.tmp 4] 15 Tryz.func87 H
theorem Mn(b:Int)(c:Bt)(d:Sl)(e:Sl)(h:zc)(R:Value->zc->Prop) (H:let f:=h.push (.cells #[iV b,.string c,aK d,aK e] 25);∃g i j k,ze f ⟨h.size,0,Te⟩ 0 (tL g i j k)/\XC Tp 86 #[tA g i j k] f (λl m=>∃n,l=.bool n/\∃o p q r,(n=Ta->ze m ⟨h.size,0,Te⟩ 0 (tL o p q r))/\∃s:Value->zc->Prop,(n=Ta->XC Tp 87 #[tA o p q r,.func (.func 89) #[] #[]] m (λt u=>∃v,t=.bool v/\s (.bool v) u))/\(n=Tc->∃w,s (.bool w) m)/\(n=Ta->∀x y,s x y->∃z,x=.bool z)/\∀A:Bool,∀B,s (.bool A) B->R (.bool (bif n then A else Tc)) B)):
  XC Tp 83 #[.agg #[.int .i64 b,.string c,.slice d.a d.len d.cap,.slice e.a e.len e.cap]] h R:=
 XF ⟨[],[],[]⟩ [.tmp 2] 9 Tryz.func83 H
theorem xa(j:Sl)(f:FuncId)(e:Array Value)(i:Array Value)(h:zc)(R:Value->zc->Prop) (H:XC Tp 206 #[aK j,.func (.func f) e i] h (λb c=>∃d,b=iV d/\R (.bool (decide (d>=0))) c)):
  XC Tp 135 #[.slice j.a j.len j.cap,.func (.func f) e i] h R:=
 XF ⟨[],[],[]⟩ [.tmp 4] 9 Tryz.func135 H
theorem Zj(m:Sl)(l:FuncId)(n:Array Value)(o:Array Value)(h:zc)(R:Value->zc->Prop) (H:∃(b:Int->zc->Prop) (c:Int->zc->Nat),b 0 h/\∀d:Int,∀e:zc,b d e->((decide (d<m.len)=Ta->∃f,(m.a=Td f/\0<=d/\d<m.len)/\∃g,zd e (f.add (d.toNat*1))=Td (.string g)/\zo Tp l=Ta/\XC Tp l (n++#[.string g]++o) e (λi j=>∃k,i=.bool k/\(k=Ta->R (iV d) j)/\(k=Tc->(b (w6 (d+1)) j/\c (w6 (d+1)) j<c d e))))/\(decide (d<m.len)=Tc->R (iV (-1)) e))):
  XC Tp 206 #[.slice m.a m.len m.cap,.func (.func l) n o] h R:=
 XF ⟨[],[(2,[(8,.one (.int .i64))])],[]⟩ [.tmp 4] 19 Tryz.func206 H
theorem QC(e:Bt)(h:zc)(R:Value->zc->Prop) (H:XC Tp 137 #[.string e] h (λa b=>∃c,a=.bool c/\R (.bool (!c)) b)):
  XC Tp 136 #[.string e] h R:=
 XF ⟨[],[],[]⟩ [.tmp 2] 6 Tryz.func136 H
theorem Tx(m:Sl)(h:zc)(R:Value->zc->Prop) (H:∃b:Value->zc->Prop,(decide ((m.len:Int)<=64)=Ta->XC Tp 135 #[aK m,.func (.func 136) #[] #[]] h (λc d=>∃e,c=.bool e/\b (.bool e) d))/\(decide ((m.len:Int)<=64)=Tc->∃f,b (.bool f) h)/\(decide ((m.len:Int)<=64)=Ta->∀g i,b g i->∃j,g=.bool j)/\∀k:Bool,∀l,b (.bool k) l->R (.bool (bif (decide ((m.len:Int)<=64))then(!k)else Tc)) l):
  XC Tp 78 #[.slice m.a m.len m.cap] h R:=
 XF ⟨[],[],[]⟩ [.tmp 2] 11 Tryz.func78 H
theorem SS(b:Int)(c:Bt)(d:Sl)(e:Sl)(h:zc)(R:Value->zc->Prop) (H:let f:=h.push (.cells #[iV b,.string c,aK d,aK e] 25);let g:=f.push (.cells tC 25);∃i,zd g (zab ⟨h.size,0,Te⟩ 2)=Td (aK i)/\∃j,zd g (zab ⟨h.size,0,Te⟩ 3)=Td (aK j)/\XC Tp 210 #[aK i] g (λk l=>∃m,k=aK m/\hZ l g (zab ⟨h.size,0,Te⟩ 3)/\XC Tp 211 #[aK j] l (λn o=>∃p,n=aK p/\XRunU Tp (zag 22 (.pointer (Td (zab ⟨h.size,0,Te⟩ 2))) (aK m)) o (λq=>XRunU Tp (zag 23 (.pointer (Td (zab ⟨h.size,0,Te⟩ 3))) (aK p)) q (λr=>∃s,zd r (zab ⟨h.size,0,Te⟩ 3)=Td (aK s)/\∃(t:Int->zc->Prop) (u:Int->zc->Nat),t 0 r/\∀v:Int,∀w:zc,t v w->((decide (v<s.len)=Ta->∃x,(s.a=Td x/\0<=v/\v<s.len)/\∃y z A B,ze w (x.add (v.toNat*4)) 0 (tL y z A B)/\let C:=w.push (.cells tC 25);XRunU Tp (zag 25 (.pointer (Td ⟨w.size,0,Te⟩)) (tA y z A B)) C (λD=>∃E,zd D (zab ⟨h.size,0,Te⟩ 3)=Td (aK E)/\∃F G I J,ze D ⟨w.size,0,Te⟩ 0 (tL F G I J)/\XC Tp 151 #[tA F G I J] D (λL M=>∃N O P Q,L=tA N O P Q/\∃S,(E.a=Td S/\0<=v/\v<E.len)/\hZ M D (zab ⟨h.size,0,Te⟩ 3)/\XRunU Tp (zag 25 (.pointer (Td (S.add (v.toNat*4)))) (tA N O P Q)) M (λT=>(t (w6 (v+1)) T/\u (w6 (v+1)) T<u v w)))))/\(decide (v<s.len)=Tc->∃U V W X,ze w ⟨h.size,0,Te⟩ 0 (tL U V W X)/\XRunU Tp (zag 25 (.pointer (Td ⟨f.size,0,Te⟩)) (tA U V W X)) w (λY=>∃Z aa ab ac,ze Y ⟨f.size,0,Te⟩ 0 (tL Z aa ab ac)/\R (tA Z aa ab ac) Y)))))))):
  XC Tp 151 #[.agg #[.int .i64 b,.string c,.slice d.a d.len d.cap,.slice e.a e.len e.cap]] h R:=
 XF ⟨[(1,8000),(5,8000)],[(3,[(16,.one (.int .i64))])],[]⟩ [.cell 2 25] 29 Tryz.func151 H
theorem Qm(f:Sl)(h:zc)(R:Value->zc->Prop) (H:(f.a.isNone=Ta->R (.slice Te 0 0) h)/\(f.a.isNone=Tc->let b:=h.push (.cells #[] 9);qu Tp (zao #[22,22] 22 #[.slice (Td ⟨h.size,0,Te⟩) 0 0,aK f]) b (λc d=>∃e,c=aK e/\R (aK e) d))):
  XC Tp 210 #[.slice f.a f.len f.cap] h R:=
 XF ⟨[],[],[]⟩ [.tmp 2] 8 Tryz.func210 H
theorem xt(f:Sl)(h:zc)(R:Value->zc->Prop) (H:(f.a.isNone=Ta->R (.slice Te 0 0) h)/\(f.a.isNone=Tc->let b:=h.push (.cells #[] 25);qu Tp (zao #[23,23] 23 #[.slice (Td ⟨h.size,0,Te⟩) 0 0,aK f]) b (λc d=>∃e,c=aK e/\R (aK e) d))):
  XC Tp 211 #[.slice f.a f.len f.cap] h R:=
 XF ⟨[],[],[]⟩ [.tmp 2] 8 Tryz.func211 H
theorem Ml(b:Int)(c:Bt)(d:Sl)(e:Sl)(h:zc)(R:Value->zc->Prop) (H:let f:=h.push (.cells #[iV b,.string c,aK d,aK e] 25);let g:=f.push (.cells tC 25);∃i j k l,ze g ⟨h.size,0,Te⟩ 0 (tL i j k l)/\XC Tp 83 #[tA i j k l] g (λm n=>∃o,m=.bool o/\((!o)=Ta->XRunU Tp (zag 25 (.pointer (Td ⟨f.size,0,Te⟩)) (tZ)) n (λp=>∃q r s t,ze p ⟨f.size,0,Te⟩ 0 (tL q r s t)/\R (tA q r s t) p))/\((!o)=Tc->∃u v w x,ze n ⟨h.size,0,Te⟩ 0 (tL u v w x)/\XC Tp 151 #[tA u v w x] n (λy z=>∃A B C D,y=tA A B C D/\XRunU Tp (zag 25 (.pointer (Td ⟨f.size,0,Te⟩)) (tA A B C D)) z (λE=>∃F G I J,ze E ⟨f.size,0,Te⟩ 0 (tL F G I J)/\R (tA F G I J) E))))):
  XC Tp 90 #[.agg #[.int .i64 b,.string c,.slice d.a d.len d.cap,.slice e.a e.len e.cap]] h R:=
 XF ⟨[],[],[]⟩ [.cell 2 25] 9 Tryz.func90 H
theorem j9(b0:Option Addr)(c1:Int)(h:zc)(R:Value->zc->Prop) (H:XC Tp 123 #[.pointer b0] h (λb c=>b=.tuple #[]/\∃d,b0=Td d/\∃e,zd c (zab d 1)=Td (aK e)/\let f:=c.push (.cells #[.int .u8 c1] 5);qu Tp (zao #[87,87] 87 #[aK e,.slice (Td ⟨c.size,0,Te⟩) 1 1]) f (λg i=>∃j,g=aK j/\∃k,b0=Td k/\XRunU Tp (zag 87 (.pointer (Td (zab k 1))) (aK j)) i (λl=>R (.nilIface) l)))):
  XC Tp 133 #[.pointer b0,.int .u8 c1] h R:=
 XF ⟨[],[],[]⟩ [.tmp 4] 17 Tryz.func133 H
theorem jk(b0:Option Addr)(s1:Bt)(h:zc)(R:Value->zc->Prop) (H:XC Tp 123 #[.pointer b0] h (λb c=>b=.tuple #[]/\∃d,b0=Td d/\∃e,zd c (zab d 1)=Td (aK e)/\qu Tp (zao #[87,9] 87 #[aK e,.string s1]) c (λf g=>∃i,f=aK i/\∃j,b0=Td j/\XRunU Tp (zag 87 (.pointer (Td (zab j 1))) (aK i)) g (λk=>R (.tuple #[iV (s1.size:Int),.nilIface]) k)))):
  XC Tp 68 #[.pointer b0,.string s1] h R:=
 XF ⟨[],[],[]⟩ [.tmp 4,.tmp 5] 19 Tryz.func68 H
theorem Su(C:Sl)(h:zc)(R:Value->zc->Prop) (H:XC Tp 78 #[aK C] h (λb c=>∃d,b=.bool d/\((!d)=Ta->R (.tuple #[.string (⟨#[]⟩:Bt),iV 1]) c)/\((!d)=Tc->let e:=c.push (.cells #[.pointer Te,.slice Te 0 0] 89);∃(f:Int->zc->Prop) (g:Int->zc->Nat),f 0 e/\∀i:Int,∀j:zc,f i j->((decide (i<C.len)=Ta->∃k,(C.a=Td k/\0<=i/\i<C.len)/\∃l,zd j (k.add (i.toNat*1))=Td (.string l)/\XC Tp 133 #[.pointer (Td ⟨c.size,0,Te⟩),.int .u8 47] j (λm n=>∃o:Value,m=o/\XC Tp 134 #[.string l,.string (⟨#[126]⟩:Bt),.string (⟨#[126,48]⟩:Bt)] n (λp q=>∃r,p=.string r/\XC Tp 134 #[.string r,.string (⟨#[47]⟩:Bt),.string (⟨#[126,49]⟩:Bt)] q (λs t=>∃u,s=.string u/\XC Tp 68 #[.pointer (Td ⟨c.size,0,Te⟩),.string u] t (λv w=>∃x,∃y:Value,v=.tuple #[iV x,y]/\(f (w6 (i+1)) w/\g (w6 (i+1)) w<g i j))))))/\(decide (i<C.len)=Tc->XC Tp 70 #[.pointer (Td ⟨c.size,0,Te⟩)] j (λz A=>∃B,z=.string B/\R (.tuple #[.string B,iV 0]) A)))))):
  XC Tp 75 #[.slice C.a C.len C.cap] h R:=
 XF ⟨[],[(5,[(12,.one (.int .i64))])],[]⟩ [.tmp 2,.tmp 3] 23 Tryz.func75 H
end
section
variable {gl M:Fr} {F:FuncId} {A C:Array Value} {h:zc}
theorem Ee:MapT Tp 213 9 4 (.bool Tc):=⟨by kernel_rfl,by kernel_rfl,⟨Tryz.t4,by kernel_rfl,by kernel_rfl⟩⟩
set_option maxHeartbeats 1000000 in
theorem Pa(hg:GL gl){ks:List Bt}{n:Int}(hk:∀k∈ks,(lb k).length<=1048576){R:Bool->Prop}(h:R (yq ks&&decide ((ks.length:Int)=n))):PC Tp gl 147 [Arg.mk (.row .str) ks,Arg.mk PJ n] [.bool] R:=by
 intro o M vs hM ag ha
 match vs,ha with
 |[u,w],⟨h1,h2,_⟩=>
  obtain⟨s,rfl,Z⟩:=Xq h1;have hw:=rS h2;subst hw;have Z:Rd M (.row .str) ks [aK s]:=Z;obtain⟨J,al,ak⟩:=rowLen Z;apply PX.of;apply KV s n;intro g0;have kg:Keep o.size o g0:=Keep.push _ _ (zac _);have sg:g0.size=o.size+1:=zaf _;have mg:MapAt g0 o.size []:=MapAt.new o;clear_value g0;refine⟨λi Y=>∃k:Nat,i=k/\k<=ks.length/\o.size<Y.size/\(∃Q,Later o M Y Q/\Q o.size=Te)/\(∃l,MapAt Y o.size l/\∀x,jE l x (.bool Tc)=.bool (decide (x∈ks.take k)))/\yq (ks.take k)=Ta,λi _=>ks.length-i.toNat,⟨0,rfl,by omega,by omega,⟨M,Later.same ag kg,ag.none (zac _)⟩,⟨[],mg,λx=>rfl⟩,by simp[yq]⟩,?_⟩;rintro i Y ⟨k,rfl,aj,C,⟨Q,B,P⟩,⟨l,E,S⟩,D⟩;refine⟨λhc=>?_,λhc=>?_⟩;have q:k<ks.length:=by simp at hc;omega
  have af:=Rd.mono B.le Z;refine jP B.ag af q rfl rfl ?_;have N:=Ye Ee E ks[k] Tc;rw[S]at N;refine⟨decide (ks[k]∈ks.take k),N,?_⟩;have f:=Fy hg.tabs (l:=lb ks[k]) (R:=λb=>b=Qq (lb ks[k])) (by have:=hk _ (zak q);omega) rfl;rw[jp]at f;generalize hd:decide (ks[k]∈ks.take k)=d;refine⟨λv H=>∃b,v=.bool b/\(d=Tc->b=Qq (lb ks[k]))/\o.size<H.size/\(∃F,Later o M H F/\F o.size=Te)/\MapAt H o.size l,λhn=>?_,λhn=>⟨Ta,Ta,rfl,λe=>(by rw[e]at hn;cases hn),C,⟨Q,B,P⟩,E⟩,λ_ v H ⟨b,e,_⟩=>⟨b,e⟩,?_⟩;refine f.go (vs:=[.string ks[k]]) (hM.trans B.le) B.ag (zr (rdStr _) qj) λv H F r y O ae=>⟨r,Xh O,r,rfl,λ_=>ae,by have:=y.keep.size;omega,⟨F,B.trans y,by rw[y.old _ C,P]⟩,E.keep (y.keep.get _ C)⟩;rintro b H ⟨b',e,I,ai,⟨F,y,L⟩,ah⟩;cases e;have U:ks.take (k+1)=ks.take k++[ks[k]]:=zal q;have V:yq (ks.take (k+1))=(!d&&Qq (lb ks[k])):=by
   have j:=D;unfold yq at j ⊢;rw[zam,zG]at j;rw[U,zei,j.1,<-hd];have:decide (List.take k ks++[ks[k]]).Nodup=!decide (ks[k]∈ks.take k):=by rw[zbe];simp only[zG,zd4,decide_eq_false_iff_not,zb2];constructor;rintro⟨_,_,h3⟩ t;exact h3 _ t _ (by simp) rfl;intro t;exact⟨j.2,by simp,λa ha b I e=>t (by simp at I;rw[<-I,<-e];exact ha)⟩
   rw[this];simp[Bool.and_comm]
  refine⟨λz=>?_,λz=>?_⟩;refine⟨F,_,y,Y1.2 (rdBool _),?_⟩;have hf:yq (ks.take (k+1))=Tc:=by
   rw[V];cases d with
   |true=>rfl
   |false=>rw[I rfl]at z;simpa using z
  have ac:yq ks=Tc:=by
   cases hks:yq ks with
   |false=>rfl
   |true=>
    unfold yq at hks hf;rw[zam,zG]at hks;have h1:((ks.take (k+1)).all λk=>Qq (lb k))=Ta:=by rw[za7]at hks ⊢;exact λx z=>hks.1 x (zcq z)
    have h2:(ks.take (k+1)).Nodup:=hks.2.sublist (List.take_sublist _ _);rw[h1,zJ h2]at hf;cases hf
  rw[ac]at h;exact h;have G:d=Tc:=by cases d with
   |true=>simp at z
   |false=>rfl
  have ab:Qq (lb ks[k])=Ta:=by rw[<-I G];rw[G]at z;simpa using z
  refine ZG Ee ah ks[k] (.bool Ta) λh6 m6 s6 o6=>?_;rw[je q (by omega)];refine⟨⟨k+1,rfl,by omega,by omega,⟨F,⟨⟨by have:=y.keep.size;omega,λi hi=>by rw[o6 i (by omega)];exact y.keep.get i hi⟩,y.le,y.old,?_⟩,L⟩,⟨_,m6,λx=>?_⟩,by rw[V,G,ab];rfl⟩,by simp only[zae];omega⟩;intro b c e;have aa:b≠o.size:=λe2=>by rw[e2,L]at e;cases e
  obtain⟨T,m,e'⟩:=y.ag b c e;exact⟨T,m,by rw[o6 b aa];exact e'⟩;unfold jE;rw[Of,U];by_cases A:ks[k]=x;subst A;rw[zA rfl];simp only[zaj,za6,or_true,decide_true,Option.getD_some];rw[zv A];have:=S x;unfold jE at this;rw[this];congr 1;rw[zbe,zG,zG,zaj,za6];exact⟨.inl,λe=>e.elim id λe=>absurd e.symm A⟩;have q:k=ks.length:=by simp at hc;omega
  subst q;rw[zba]at D;refine⟨Q,_,B,Y1.2 (rdBool _),?_⟩;rw[D,zct]at h;have:(((s.len:Nat):Int)==n)=decide ((ks.length:Int)=n):=by rw[J,zbe];simp
  rw[this];exact h
def Dv(gl:Fr)(F:FuncId)(A C:Array Value)(h:zc)(M:Fr)(t:Ty)(x:El t)(b:Bool):Prop:=
 zo Tp F=Ta/\∀h' M' u,Later h M h' M'->RdV M' t x u->PX Tp F (A++#[u]++C) h' M' [.bool] (λr=>r=b)
theorem N8(ag:AgM M h){xs:List Tr}{s:Sl}(y:Rd M (.row .tree) xs [aK s]){p:Tr->Bool}(q:∀x∈xs,Dv gl F A C h M .tree x (p x)):
  PX Tp 145 #[aK s,.func (.func F) A C] h M [.bool] (λr=>r=xs.any p):=by
 apply PX.of;apply jv s F A C;apply wm s F A C;obtain⟨w,H,B⟩:=rowLen y;refine⟨λi m=>∃k:Nat,i=k/\k<=xs.length/\(∃l,Later h M m l)/\(xs.take k).any p=Tc,λi _=>xs.length-i.toNat,⟨0,rfl,by omega,⟨M,Later.refl ag⟩,by simp⟩,?_⟩;rintro i m ⟨k,rfl,I,⟨l,e⟩,c⟩;refine⟨λo=>?_,λo=>?_⟩;have b:k<xs.length:=by simp at o;omega
 obtain⟨a,sk,si,D,z,E,G⟩:=Jt e.ag (Rd.mono e.le y) b;refine⟨a,⟨D,by omega,by omega⟩,xs[k].kind,xs[k].text,sk,si,by rw[zae];exact z,(q _ (zak b)).1,?_⟩;refine((q _ (zak b)).2 m l _ e (qe E G)).go λv J t r u f j=>⟨r,Xh f,λn=>?_,λn=>?_⟩;refine⟨(k:Int),rfl,t,_,e.trans u,Y1.2 (rdBool _),?_⟩;have:xs.any p=Ta:=List.any_eq_true.2 ⟨xs[k],zak b,by rw[<-j];exact n⟩;rw[this];simp;rw[je b (by omega)];refine⟨⟨k+1,rfl,by omega,⟨t,e.trans u⟩,?_⟩,by simp only[zae];omega⟩;rw[zal b,List.any_append,c];simp only[List.any_cons,List.any_nil,<-j,n];rfl;have b:k=xs.length:=by simp at o;omega
 subst b;rw[zba]at c;refine⟨-1,rfl,l,_,e,Y1.2 (rdBool _),?_⟩;rw[c];rfl
theorem QY(ag:AgM M h){xs:List Bt}{s:Sl}(y:Rd M (.row .str) xs [aK s]){p:Bt->Bool}(q:∀x∈xs,Dv gl F A C h M .str x (p x)):
  PX Tp 135 #[aK s,.func (.func F) A C] h M [.bool] (λr=>r=xs.any p):=by
 apply PX.of;apply xa s F A C;apply Zj s F A C;obtain⟨w,B,z⟩:=rowLen y;refine⟨λi m=>∃k:Nat,i=k/\k<=xs.length/\(∃l,Later h M m l)/\(xs.take k).any p=Tc,λi _=>xs.length-i.toNat,⟨0,rfl,by omega,⟨M,Later.refl ag⟩,by simp⟩,?_⟩;rintro i m ⟨k,rfl,D,⟨l,e⟩,c⟩;refine⟨λo=>?_,λo=>?_⟩;have b:k<xs.length:=by simp at o;omega
 refine jP e.ag (Rd.mono e.le y) b rfl rfl ⟨(q _ (zak b)).1,?_⟩;refine((q _ (zak b)).2 m l _ e (rdStr _)).go λv E t r u f j=>⟨r,Xh f,λn=>?_,λn=>?_⟩;refine⟨(k:Int),rfl,t,_,e.trans u,Y1.2 (rdBool _),?_⟩;have:xs.any p=Ta:=List.any_eq_true.2 ⟨xs[k],zak b,by rw[<-j];exact n⟩;rw[this];simp;rw[je b (by omega)];refine⟨⟨k+1,rfl,by omega,⟨t,e.trans u⟩,?_⟩,by simp only[zae];omega⟩;rw[zal b,List.any_append,c];simp only[List.any_cons,List.any_nil,<-j,n];rfl;have b:k=xs.length:=by simp at o;omega
 subst b;rw[zba]at c;refine⟨-1,rfl,l,_,e,Y1.2 (rdBool _),?_⟩;rw[c];rfl
end
section
variable {l:List Bt} {gl:Fr} {v:Tr} {R:Bool -> Prop} {F:FuncId}
theorem Mc:decide (((l.length:Nat):Int)>0)=!l.isEmpty:=by cases l <;> simp
theorem PL{l:List Tr}:decide (((l.length:Nat):Int)>0)=!l.isEmpty:=by cases l <;> simp
theorem I2(s:Bt):(s.toList==(⟨#[]⟩:Bt).toList)=(lb s==[]):=by have:=lK (lb s) [];rw[jp]at this;grind
theorem EB(s:Bt)(l:Bs):(s.toList==(bl l).toList)=(lb s==l):=by have:=lK (lb s) l;rw[jp]at this;grind
theorem QE{k n:Int}:(k==n)=decide (k=n):=by grind
set_option maxHeartbeats 1000000 in
theorem HN(i:GL gl)(B:Sm v)(h:R (zi v)):PC Tp gl 89 [Arg.mk .tree v] [.bool] R:=by
 apply Uu;have n:(lb v.text).length<=1152921504606846976:=by have:=B.text;omega
 have key:∀b,b=zi v->R b:=λb E=>by grind
 have D:=wH i (s:=lb v.text) (R:=λr=>R r.2\/v.kind≠3) n;have f:=Fy i.tabs (l:=lb v.text) (R:=λr=>r=Qq (lb v.text)) (by omega) rfl;have j:=PG i (s:=lb v.text) (R:=λr=>r=vM (lb v.text)) n rfl;have m:=wH i (s:=lb v.text) (R:=λr=>r.2=(kR (lb v.text)).2) n rfl;rw[jp]at f j m;simp only[QE,Mc,PL,show(⟨#[116,114,117,101]⟩:Bt)=bl [116,114,117,101]from rfl,show(⟨#[102,97,108,115,101]⟩:Bt)=bl [102,97,108,115,101]from rfl,EB];unfold zi at key;refine⟨λx=>key _ ?_,λx=>⟨λt=>?_,λt=>⟨λA=>key _ ?_,λA=>?_⟩⟩⟩;grind;have c:v.kind=6:=by simpa using t
 refine Pa i (λk q=>B.key q) (key _ ?_);simp only[c];grind;grind;have o:v.kind≠5:=by simpa using x
 have c:v.kind≠6:=by simpa using t
 have e:v.keys.isEmpty=Ta/\v.items.isEmpty=Ta:=by cases q:v.keys.isEmpty <;> cases hi:v.items.isEmpty <;> simp[q,hi]at A ⊢
 simp only[o,c,if_false,e.1,e.2,zfe]at key;refine⟨λh1=>key _ ?_,λh1=>⟨λC=>key _ ?_,λC=>⟨λz=>?_,λz=>⟨λu=>?_,λu=>⟨λw=>?_,λw=>key _ ?_⟩⟩⟩⟩⟩;grind;grind;have:v.kind=3:=by simpa using z
 exact m.mono λr y=>key _ (by grind);have:v.kind=4:=by simpa using u
 exact f.mono λr y=>key _ (by grind);have:v.kind=7:=by simpa using w
 exact j.mono λr y=>key _ (by grind);simp_all
theorem xP{k:Nat}(h:k<l.length):l[((k:Int)).toNat]?=Td l[k]:=by simp
theorem QM(hF:zo Tp F=Ta){p:Tr->Bool}(hp:∀x,Sm x->PC Tp gl F [Arg.mk .tree x] [.bool] (λr=>r=p x))(n:Nat):∀(v:Tr),aR v<=n->Sm v->∀{h:zc} {M:Fr} {u:Value},Fr.le gl M->AgM M h->RdV M .tree v u ->
  PX Tp 87 #[u,.func (.func F) #[] #[]] h M [.bool] (λr=>r=yr p v):=by
 induction n with
 |zero=>intro v hn;have:=Qk v;omega
 |succ n ih=>
 intro v hn hv h M u V ag Y;have O:=Y;obtain⟨sk,si,rfl,rk,ri⟩:=qp Y;apply PX.of;apply VJ v.kind v.text sk si F #[] #[];intro h1 i;have L1:Later h M h1 M:=Later.push ag _;have c:Later h1 M i (Mx M h1.size #[.func (.func F) #[] #[]]):=Later.frz L1.ag _ _;have s1:h1.size=h.size+1:=zaf _;have s2:i.size=h1.size+1:=zaf _;have o:ze i ⟨h.size,0,Te⟩ 0 [.int .i64 v.kind,.string v.text,aK sk,aK si]:=rP (h':=i) (by have:=c.keep;rw[s1]at this;exact this);have S:∀h':zc,Keep i.size i h'->zd h' (zab ⟨h.size,0,Te⟩ 3)=Td (aK si):=λh' k=>by refine KJ (h:=h) (T:=25) (cs:=[.int .i64 v.kind,.string v.text,aK sk,aK si]) ?_ rfl;have:=c.keep.trans k (by omega);rw[s1]at this;exact this
 have l:zd i ⟨h1.size,0,Te⟩=Td (.func (.func F) #[] #[]):=c.ag.cell (D5 _ _ _) rfl;have N:(Mx M h1.size #[.func (.func F) #[] #[]]) h1.size=Td #[.func (.func F) #[] #[]]:=D5 _ _ _;have A:=L1.trans c;clear_value h1 i;generalize (Mx M h1.size #[.func (.func F) #[] #[]])=M2 at *;refine⟨_,l,v.kind,v.text,sk,si,o,hF,?_⟩;refine(hp v hv).go (vs:=[.agg #[.int .i64 v.kind,.string v.text,aK sk,aK si]]) (V.trans A.le) A.ag (zr (RdV.mono A.le O) qj) λw h3 H r y q hr=>?_;refine⟨r,Xh q,si,λ_=>S h3 y.keep,?_⟩;have f:=A.trans y;refine⟨λw z=>∃b,w=.bool b/\(r=Ta->b=!(mu p v.items))/\∃t,Later h M z t,λab=>?_,λaa=>⟨Ta,Ta,rfl,λe=>(by simp_all),H,f⟩,λ_ w z ⟨b,e,_⟩=>⟨b,e⟩,?_⟩;have P:Rd H (.row .tree) v.items [aK si]:=Rd.mono f.le ri;have I:H h1.size=Td #[.func (.func F) #[] #[]]:=y.le _ _ N;refine(N8 (gl:=gl) y.ag P (p:=λx=>!(yr p x)) λx Z=>⟨by kernel_rfl,λh' M' u' L' J=>?_⟩).go λw z t b B j Q=>⟨b,Xh j,b,rfl,λ_=>?_,t,f.trans B⟩;have ac:=qo Z;obtain⟨sk',si',rfl,D,C⟩:=qp J;apply PX.of;show XC Tp 146 #[.agg #[.int .i64 x.kind,.string x.text,aK sk',aK si'],.pointer (Td ⟨h1.size,0,Te⟩)] h' _;apply XR x.kind x.text sk' si';intro g1;have G:Later h' M' g1 M':=Later.push L'.ag _;have E:ze g1 ⟨h'.size,0,Te⟩ 0 [.int .i64 x.kind,.string x.text,aK sk',aK si']:=rP (Keep.refl _ _);have U:zd g1 ⟨h1.size,0,Te⟩=Td (.func (.func F) #[] #[]):=G.ag.cell (L'.le _ _ I) rfl;clear_value g1;refine⟨x.kind,x.text,sk',si',E,_,U,?_⟩;refine(ih x (by omega) (hv.item Z) (h:=g1) (M:=M') ((V.trans f.le).trans L'.le) G.ag (qe D C)).go λw h5 M5 b L5 m L=>⟨b,Xh m,M5,_,G.trans L5,Y1.2 (rdBool _),by rw[L]⟩;rw[Q,wl,zbe];simp;rintro b z ⟨b',e,hb,t,B⟩;cases e;refine⟨t,_,B,Y1.2 (rdBool _),?_⟩;grind [Z0]
theorem D7(i:zo Tp F=Ta){p:Tr->Bool}(b:∀x,Sm x->PC Tp gl F [Arg.mk .tree x] [.bool] (λr=>r=p x))(v:Tr)(c:Sm v){h:zc}{M:Fr}{u:Value}(e:Fr.le gl M)(ag:AgM M h)(f:RdV M .tree v u): PX Tp 87 #[u,.func (.func F) #[] #[]] h M [.bool] (λr=>r=yr p v):=QM i b (aR v) v (zac _) c e ag f
theorem ue(D:GL gl)(B:Sm v)(P:R (y8 v)):PC Tp gl 83 [Arg.mk .tree v] [.bool] R:=by
 intro h M vs A ag O
 match vs,O with
 |[u],⟨m,_⟩=>have m:RdV M .tree v u:=m;have l:=m;obtain⟨sk,si,rfl,S,V⟩:=qp m;apply PX.of;apply Mn v.kind v.text sk si;intro h1;have n:Later h M h1 M:=Later.push ag _;have s1:h1.size=h.size+1:=zaf _;have f:∀h':zc,Keep h1.size h1 h'->ze h' ⟨h.size,0,Te⟩ 0 [.int .i64 v.kind,.string v.text,aK sk,aK si]:=λh' k=>rP (h':=h') (by rw[s1]at k;exact k);clear_value h1;refine⟨v.kind,v.text,sk,si,f h1 (Keep.refl _ _),?_⟩;have q:PC Tp gl 86 [Arg.mk .tree v] [.bool] (λr=>r=Zi v):=ID B rfl;refine q.go (vs:=[.agg #[.int .i64 v.kind,.string v.text,aK sk,aK si]]) (A.trans n.le) n.ag (zr (RdV.mono n.le l) qj) λw C J r t j T=>?_;refine⟨r,Xh j,v.kind,v.text,sk,si,λ_=>f C t.keep,?_⟩;have c:=n.trans t;refine⟨λw o=>∃b,w=.bool b/\(r=Ta->b=yr zi v)/\∃z,Later h M o z,λN=>?_,λI=>⟨Ta,Ta,rfl,λe=>(by simp_all),J,c⟩,λ_ w o ⟨b,e,_⟩=>⟨b,e⟩,?_⟩;refine(D7 (F:=89) (by kernel_rfl) (p:=zi) (λx L=>HN D L rfl) v B (A.trans c.le) t.ag (RdV.mono c.le l)).go λw U G b E i y=>⟨b,Xh i,b,rfl,λ_=>y,G,c.trans E⟩;rintro b o ⟨b',e,Q,z,H⟩;cases e;refine⟨z,_,H,Y1.2 (rdBool _),?_⟩;unfold y8 at P;grind
end
section
variable {h:zc} {e:TypeId} {M:Fr} {K:Value -> zc -> Prop} {cs:Array Value} {k:Nat} {vs:List Value}
theorem Wt:ElemT Tp 22 9 (.string ⟨#[]⟩) 1 16:=⟨by kernel_rfl,⟨Tryz.t9,by kernel_rfl,by kernel_rfl,by kernel_rfl,by kernel_rfl⟩,rfl,by omega⟩
theorem elemTree:ElemT Tp 23 25 (.agg #[.int .i64 0,.string ⟨#[]⟩,.slice Te 0 0,.slice Te 0 0]) 4 72:=⟨by kernel_rfl,⟨Tryz.t25,by kernel_rfl,by kernel_rfl,by kernel_rfl,by kernel_rfl⟩,rfl,by omega⟩
theorem IP{h h':zc}{sz:Nat}(k:Keep (h.size+1) (h.push (.cells #[] e)) h')(base:Nat)(b:base<=h.size):Owns h' base e sz ⟨Td ⟨h.size,0,Te⟩,0,0⟩ []:=by refine⟨by simp,.inr ⟨h.size,0,#[],rfl,b,?_,zac _,za0 _,by simp,by simp⟩⟩;show h'[h.size]?=_;rw[k.get _ (by omega)];simp
theorem UC(ag:AgM M h){ks:List Bt}{s:Sl}(q:Rd M (.row .str) ks [aK s])(D:ks.length*16<=140737488355328)
  (r:∀(c:Sl) (h':zc),Keep h.size h h'->c.len=ks.length->Owns h' h.size 9 1 c (ks.map zaz)->K (aK c) h'):XC Tp 210 #[aK s] h K:=by
 obtain⟨e,z,u⟩:=rowLen q;obtain⟨s2,f,_,_,cells,A,l⟩:=Rd.rowC ag q;simp only[aK,zbo]at f;have j:s2.a=s.a:=f.1.symm;have:=Dm A;subst this;rw[j]at l;apply Qm s;refine⟨λw=>?_,λw=>?_⟩;have k:ks=[]:=by rcases l with h0|⟨b,o,x,_⟩;simpa using h0;simp_all
 subst k;exact r ⟨Te,0,0⟩ h (Keep.refl _ _) rfl (Owns.nil _ _ _ _);intro g;have m:Keep h.size h g:=Keep.push _ _ (zac _);have F:g.size=h.size+1:=zaf _;have t:Owns g h.size 9 1 ⟨Td ⟨h.size,0,Te⟩,0,0⟩ []:=IP (Keep.refl _ _) _ (zac _);clear_value g;refine Zw Wt t (src:=⟨s.a,s.len,s.cap⟩) (news:=ks.map zaz) (n:=h.size) (l.keep m) (by simp[e]) (by simp[Value.oneCell']) (by grind) (by grind) (by omega) λc h' x f y E C=>⟨c,rfl,r c h' ?_ (by grind) (by simpa using f)⟩;refine⟨by omega,λi hi=>(y i (by omega) λp B=>?_).trans (m.get i hi)⟩;grind
theorem N3(ag:AgM M h){xs:List Tr}{s:Sl}(u:Rd M (.row .tree) xs [aK s])(F:xs.length*72<=140737488355328)
  (t:∀(c:Sl) (h':zc) (cells:List Value),Keep h.size h h'->c.len=xs.length->Owns h' h.size 25 4 c cells->RowC M .tree xs cells->K (aK c) h'):XC Tp 211 #[aK s] h K:=by
 obtain⟨e,B,x⟩:=rowLen u;obtain⟨s2,j,_,_,cells,k,q⟩:=Rd.rowC ag u;simp only[aK,zbo]at j;have m:s2.a=s.a:=j.1.symm;rw[m]at q;have f:cells.length=xs.length*4:=k.1;apply xt s;refine⟨λy=>?_,λy=>?_⟩;have l:cells=[]:=by rcases q with h0|⟨b,o,z,_⟩;exact h0;simp_all
 subst l;have:xs.length=0:=by simp at f;omega
 exact t ⟨Te,0,0⟩ h [] (Keep.refl _ _) (by simp[this]) (Owns.nil _ _ _ _) k;intro g;have r:Keep h.size h g:=Keep.push _ _ (zac _);have D:g.size=h.size+1:=zaf _;have w:Owns g h.size 25 4 ⟨Td ⟨h.size,0,Te⟩,0,0⟩ []:=IP (Keep.refl _ _) _ (zac _);clear_value g;refine Zw elemTree w (src:=⟨s.a,s.len,s.cap⟩) (news:=cells) (n:=h.size) (q.keep r) (by rw[f,e]) k.one (by grind) (by grind) (by omega) λc h' z j A G C=>⟨c,rfl,t c h' cells ?_ (by grind) (by simpa using j) k⟩;refine⟨by omega,λi hi=>(A i (by omega) λp E=>?_).trans (r.get i hi)⟩;grind
theorem Owns.blk{base:Nat}{sz:Nat}{s:Sl}{cells:List Value}(H:Owns h base e sz s cells):(s.len=0/\cells=[]/\s.cap=0)\/∃b cs,s.a=Td ⟨b,0,Te⟩/\base<=b/\Blk h b cs/\s.cap*sz<=cs.size/\cut cs 0 (s.len*sz)=cells/\s.len<=s.cap:=by rcases H.2 with⟨f,h0⟩|⟨g,cap,c,f,i,j,k,n,l,m⟩;left;have:=H.1;simp_all;right;simp only[zbo]at f;refine⟨g,c,f.1,i,⟨e,j⟩,?_,by unfold cut;simp_all,by omega⟩;simp_all
theorem NM{n i k:Nat}(h:i+k<=n):(List.drop i (cut cs 0 n)).take k=cut cs i k:=by unfold cut;rw[zcm,ze7,zet,zda (by omega)]
theorem mH{h:zc}{b:Nat}{cs:Array Value}(H:Blk h b cs):∀{vs:List Value} {o i:Nat},cut cs (o+i) vs.length=vs->ze h ⟨b,o,Te⟩ i vs
 |[],_,_,_=>trivial
 |v::vs,o,i,e=>by
  unfold cut at e;have c:o+i<cs.toList.length:=by rcases zb0 (o+i) cs.toList.length with f|f;exact f;grind
  rw[zbt c,zaw,zea]at e;injection e with e1 e2;refine⟨?_,mH H (i:=i+1) e2⟩;refine H.cellAdd ?_;grind
theorem yT:cut vs.toArray 0 vs.length=vs:=by unfold cut;simp
theorem G6:yb Tp 25=Ta:=by kernel_rfl
theorem Hy:j4 Tp 25=4:=by kernel_rfl
theorem sA:yb Tp 22=Ta:=by kernel_rfl
theorem uN:j4 Tp 22=1:=by kernel_rfl
theorem ud:yb Tp 23=Ta:=by kernel_rfl
theorem tK:j4 Tp 23=1:=by kernel_rfl
def zj(k:Int)(s:Bt)(sk si:Sl):List Value:=[.int .i64 k,.string s,aK sk,aK si]
theorem Hs(k:Int)(s:Bt)(sk si:Sl):∀u∈zj k s sk si,u.oneCell'=Ta:=by intro u b;simp[zj]at b;rcases b with rfl|rfl|rfl|rfl <;> simp[Value.oneCell',aK]
theorem It(k:Int)(s:Bt)(sk si:Sl):(zfo #[.int .i64 k,.string s,aK sk,aK si]).cells.toList=zj k s sk si:=rfl
theorem vO(h:cs.size=vs.length):fR cs 0 vs=vs.toArray:=by unfold fR;simp_all
theorem jh{b:Nat}(H:Blk h b cs)(e:cs.size=4)(k:Int)(s:Bt)(sk si:Sl){K:zc->Prop}
  (i:∀h':zc,Blk h' b (zj k s sk si).toArray->h'.size=h.size->(∀j,j≠b->h'[j]?=h[j]?)->K h'):XRunU Tp (zag 25 (.pointer (Td ⟨b,0,Te⟩)) (.agg #[.int .i64 k,.string s,.slice sk.a sk.len sk.cap,.slice si.a si.len si.cap])) h K:=
 Zg (vs:=zj k s sk si) G6 H (It k s sk si) Hy (by rw[e];exact zac _) (Hs k s sk si) λh' c l f=>i h' (by rw[vO (by rw[e];rfl)]at c;exact c) l f
theorem AC{bf:Nat->List Nat}{k x:Nat}:x∈(zaq k).flatMap bf↔∃j,j<k/\x∈bf j:=by simp
structure CI (h2 h':zc) (M:Fr) (v:Tr) (b1 b2:Nat) (s1 s2:Sl) (bk bb:List Nat) (b:Nat) (cs:Array Value) (bf:Nat->List Nat) (k:Nat):Prop where
 ag:AgM M h'
 box1:Blk h' b1 (zj v.kind v.text s1 s2).toArray
 box2:∃c2:Array Value,Blk h' b2 c2/\c2.size=4
 keys:OKeys h' v.keys bk s1
 hz:(v.items=[]/\bb=[]/\s2.cap=0)\/(bb=[b]/\s2.a=Td ⟨b,0,Te⟩/\Blk h' b cs/\s2.cap*4<=cs.size)
 did:∀i (hx:i<v.items.length),i<k->OT h' v.items[i] (bf i) (cut cs (i*4) 4)
 todo:∀i (hx:i<v.items.length),k<=i->RdV M .tree v.items[i] (.agg (cut cs (i*4) 4).toArray)
 nd:(bk++(bb++(zaq k).flatMap bf)).Nodup
 big:∀x∈bk++(bb++(zaq k).flatMap bf),h2.size<=x
set_option maxHeartbeats 4000000 in
theorem LR(n:Nat):∀(v:Tr),aR v<=n->Sm v->∀{h:zc} {M:Fr} {u:Value},AgM M h->RdV M .tree v u ->
  XC Tp 151 #[u] h λw h'=>Keep h.size h h'/\∃bs sk si,w=.agg #[.int .i64 v.kind,.string v.text,aK sk,aK si]/\OT h' v bs (zj v.kind v.text sk si)/\∀b∈bs,h.size<=b:=by
 induction n with
 |zero=>intro v hn;have:=Qk v;omega
 |succ n ih=>
 intro v hn hv h M u ag hu;obtain⟨sk,si,rfl,rk,ri⟩:=qp hu;have aV:=hv.items;have aT:=hv.keys;apply SS v.kind v.text sk si;intro h1 B;have kh:Keep h.size h B:=(Keep.push h (.cells (zj v.kind v.text sk si).toArray 25) (zac _)).trans (Keep.push h1 _ (zac _)) (by grind);have s1:h1.size=h.size+1:=zaf _;have s2:B.size=h1.size+1:=zaf _;have b1:Blk B h.size (zj v.kind v.text sk si).toArray:=by have:Blk h1 h.size (zj v.kind v.text sk si).toArray:=Blk.new _ _ _;exact this.ofKeep (Keep.push _ _ (zac _))
 have b2:Blk B h1.size (zj 0 ⟨#[]⟩ ⟨Te,0,0⟩ ⟨Te,0,0⟩).toArray:=Blk.new _ _ _;clear_value h1 B;have U:=ag.keep kh;refine⟨sk,b1.cellAdd (o:=0) (k:=2) rfl,si,b1.cellAdd (o:=0) (k:=3) rfl,?_⟩;refine UC U rk (by omega) λc1 h3 Q l3 o3=>⟨c1,rfl,Q.get _ (by grind [zf]),?_⟩;have aG:=U.keep Q;refine N3 aG ri (by omega) λc2 h4 cells k4 l4 o4 rc=>⟨c2,rfl,?_⟩;have ah:=(b1.ofKeep Q).ofKeep k4;have aa:=(b2.ofKeep Q).ofKeep k4;have z3:=Q.size;have z4:=k4.size;rw[show zab ⟨h.size,0,Te⟩ 2=⟨h.size,2,Te⟩from zf _ _ _,show zab ⟨h.size,0,Te⟩ 3=⟨h.size,3,Te⟩from zf _ _ _];refine Zg (vs:=[aK c1]) sA ah rfl uN (by simp[zj]) (by simp[Value.oneCell',aK]) λh5 af z5 f5=>?_;refine Zg (vs:=[aK c2]) ud af rfl tK (by simp[zj,fR]) (by simp[Value.oneCell',aK]) λh6 C z6 f6=>?_;have az:fR (fR (zj v.kind v.text sk si).toArray 2 [aK c1]) 3 [aK c2]=(zj v.kind v.text c1 c2).toArray:=by simp[fR,zj]
 rw[az]at C;have A:∀j,j≠h.size->h6[j]?=h4[j]?:=λj z=>(f6 j z).trans (f5 j z);refine⟨c2,C.cell (o:=3) rfl,?_⟩;have ak:Keep h.size h h6:=⟨by omega,λi hi=>by rw[A i (by omega),k4.get i (by omega),Q.get i (by omega)];exact kh.get i hi⟩;obtain⟨bk,F,aL,aM,aJ⟩:∃bk,OKeys h6 v.keys bk c1/\bk.Nodup/\(∀x∈bk,B.size<=x)/\(∀x∈bk,x<h3.size):=by rcases Owns.blk o3 with⟨h0,S,P⟩|⟨b,cs,L,e2,e3,e4,e5,e6⟩;exact⟨[],⟨l3,by omega,by omega,.inl ⟨by simpa using S,rfl,P⟩⟩,zdq,by simp,by simp⟩;refine⟨[b],⟨l3,by omega,by omega,.inr ⟨b,cs,rfl,L,(e3.ofKeep k4).keep (A b (by omega)),by omega,by simp_all⟩⟩,by simp,by simpa using e2,by simpa using e3.lt⟩
 obtain⟨bb,b,cs,ab,r,N,aI,ai⟩:∃(bb:List Nat) (b:Nat) (cs:Array Value),v.items.length<=c2.cap/\((v.items=[]/\bb=[]/\c2.cap=0)\/(bb=[b]/\c2.a=Td ⟨b,0,Te⟩/\Blk h6 b cs/\c2.cap*4<=cs.size))/\(∀i,i<v.items.length->cut cs (i*4) 4=(cells.drop (i*4)).take 4)/\bb.Nodup/\∀x∈bb,h3.size<=x:=by
  rcases Owns.blk o4 with⟨h0,S,P⟩|⟨b,cs,L,e2,e3,e4,e5,e6⟩;have:v.items.length=0:=by omega
  exact⟨[],0,#[],by omega,.inl ⟨zbb this,rfl,P⟩,λi hi=>by omega,zdq,by simp⟩;refine⟨[b],b,cs,by omega,.inr ⟨rfl,L,e3.keep (A b (by omega)),e4⟩,λi hi=>?_,by simp,by simpa using e2⟩;grind [NM]
 have ae:CI B h6 M v h.size h1.size c1 c2 bk bb b cs (λ_=>[]) 0:={
  ag:=ag.keep ak,box1:=C,box2:=⟨_,aa.keep (A _ (by omega)),rfl⟩,keys:=F,hz:=r,did:=λi _ hi=>by omega
  todo:=λi f _=>by rw[N i f];have:=rc.2 i f;unfold RdV;simp only[hY,if_true];exact⟨_,rfl,this⟩
  nd:=by grind
  big:=by grind }
 refine⟨λi h'=>∃(k:Nat) (cs:Array Value) (bf:Nat->List Nat),i=(k:Int)/\k<=v.items.length/\Keep h.size h h'/\B.size<=h'.size/\CI B h' M v h.size h1.size c1 c2 bk bb b cs bf k,λi _=>v.items.length-i.toNat,⟨0,cs,_,rfl,by omega,ak,by omega,ae⟩,?_⟩;clear ae N r F C af ah aa A f5 f6 o3 o4 rc;rintro i h7 ⟨k,cs,bf,rfl,hk,k7,z7,I⟩;refine⟨λS=>?_,λS=>?_⟩;have t:k<v.items.length:=by simp at S;omega
 rcases I.hz with⟨h0,_⟩|⟨r,L,hb,ar⟩;rw[h0]at t;simp at t;have N:v.items.length*4<=cs.size:=by omega
 have aH:=I.todo k t (zac _);obtain⟨tk,ti,q,aB,ay⟩:=qp aH;have V:cut cs (k*4) 4=zj v.items[k].kind v.items[k].text tk ti:=by injection q with q;exact congrArg zdu q
 refine⟨⟨b,0,Te⟩,⟨L,by omega,by omega⟩,v.items[k].kind,v.items[k].text,tk,ti,?_,?_⟩;rw[zf,zae,zas];exact mH hb (vs:=zj v.items[k].kind v.items[k].text tk ti) (o:=k*4) (i:=0) V;intro h8;have z8:h8.size=h7.size+1:=zaf _;have k8:Keep h7.size h7 h8:=Keep.push _ _ (zac _);have b8:Blk h8 h7.size (zj 0 ⟨#[]⟩ ⟨Te,0,0⟩ ⟨Te,0,0⟩).toArray:=Blk.new _ _ _;clear_value h8;refine jh b8 rfl _ _ _ _ λh9 b9 z9 f9=>?_;have k9:Keep h7.size h7 h9:=⟨by omega,λj z=>by rw[f9 j (by omega)];exact k8.get j z⟩;have box1:=I.box1.ofKeep k9;refine⟨c2,box1.cell (o:=3) rfl,v.items[k].kind,v.items[k].text,tk,ti,mH b9 (vs:=zj v.items[k].kind v.items[k].text tk ti) (o:=0) (i:=0) yT,?_⟩;have hm:v.items[k]∈v.items:=zak t;have aP:=qo hm;refine(ih v.items[k] (by omega) (hv.item hm) (I.ag.keep k9) (qe aB ay)).mono ?_;rintro w h10 ⟨D,bs,dk,di,rfl,ot,aN⟩;refine⟨v.items[k].kind,v.items[k].text,dk,di,rfl,⟨b,0,Te⟩,⟨L,by omega,by omega⟩,D.get _ box1.lt,?_⟩;have al:=(hb.ofKeep k9).ofKeep D;have aO:=D.size;rw[zf,zae,zas];refine Zg (vs:=zj v.items[k].kind v.items[k].text dk di) G6 al (It _ _ _ _) Hy (by show k*4+4<=cs.size;omega) (Hs _ _ _ _) λaA ax aZ ac=>?_;have aj:Keep h7.size h7 h10:=k9.trans D (by omega);have aS:=hb.lt;have fr:∀x,x≠b->x<h7.size->aA[x]?=h7[x]?:=λx f hl=>by rw[ac x f];exact aj.get x hl
 have an:∀x∈bk++(bb++(zaq k).flatMap bf),B.size<=x:=I.big;have ai:B.size<=b:=an b (by rw[r];simp);have Z:=I.nd;rw[zb2]at Z;obtain⟨aQ,Y,aC⟩:=Z;rw[zb2]at Y;obtain⟨aY,aU,aD⟩:=Y;have J:∀x∈bk++(bb++(zaq k).flatMap bf),x<h7.size:=by intro x f;rw[zaj,zaj]at f;rcases f with f|f|f;obtain⟨_,_,_,q4⟩:=I.keys;rcases q4 with⟨_,rfl,_⟩|⟨b',cs',rfl,_,e,_⟩;cases f;simp at f;subst f;exact e.lt;grind;obtain⟨j,z,f⟩:=AC.1 f;exact(I.did j (by omega) z).lt x f
 have F:∀x∈bk,x≠b:=λx f e=>aC x f b (by rw[r];simp) e;have au:∀j,j<k->∀x∈bf j,x≠b:=λj z x f e=>aD b (by rw[r];simp) x (AC.2 ⟨j,z,f⟩) e.symm;have am:∀x∈bs,x≠b:=λx f e=>by grind
 have G:(zaq (k+1)).flatMap (λj=>if j=k then bs else bf j)=(zaq k).flatMap bf++bs:=by
  rw[zej,zdt];congr 1;have:∀(l:List Nat),(∀x∈l,x<k)->l.flatMap (λj=>if j=k then bs else bf j)=l.flatMap bf:=by
   intro l;induction l with
   |nil=>intro _;rfl
   |cons a l aF=>intro hl;rw[zcd,zcd,zv (by have:=hl a (by simp);omega),aF λx f=>hl x (by simp[f])]
  exact this _ λx f=>by simpa using f
  simp
 rw[je t (by omega)];refine⟨⟨k+1,fR cs (k*4) (zj v.items[k].kind v.items[k].text dk di),λj=>if j=k then bs else bf j,rfl,by omega,⟨by omega,λx f=>by rw[fr x (by omega) (by omega)];exact k7.get x f⟩,by omega,{
  ag:=λx c e=>?_,box1:=I.box1.keep (fr _ (by omega) (by omega)),box2:=?_,keys:=I.keys.frame λx f=>fr x (F x f) (J x (by simp[f])),hz:=.inr ⟨r,L,ax,by rw[yv (by show k*4+4<=cs.size;omega)];exact ar⟩,did:=?_,todo:=?_,nd:=?_,big:=?_ }⟩,by simp;omega⟩
 have f:=ag.lt e;obtain⟨T,m,e'⟩:=I.ag x c e;grind;obtain⟨q,E,O⟩:=I.box2;exact⟨q,E.keep (fr _ (by omega) E.lt),O⟩;intro j z aE;by_cases H:j=k;subst H;simp only[if_true];have:=sW (cs:=cs) (o:=j*4) (vs:=zj v.items[j].kind v.items[j].text dk di) (by show j*4+4<=cs.size;omega);rw[show(zj v.items[j].kind v.items[j].text dk di).length=4 from rfl]at this;rw[this];exact ot.frame λx f=>ac x (am x f);simp only[H,if_false];rw[BL (by show k*4+4<=cs.size;omega) (by left;omega)];exact(I.did j z (by omega)).frame λx f=>fr x (au j (by omega) x f) (J x (by rw[zaj,zaj];exact .inr (.inr (AC.2 ⟨j,by omega,f⟩))));intro j z aE;rw[BL (by show k*4+4<=cs.size;omega) (by right;show k*4+4<=j*4;omega)];exact I.todo j z (by omega);rw[G,<-za9,<-za9,zb2];refine⟨by grind,ot.nodup,λx f y hy e=>?_⟩;grind;intro x f;rw[G,<-za9,<-za9,zaj]at f;grind;have t:k=v.items.length:=by simp at S;omega
 subst t;refine⟨v.kind,v.text,c1,c2,mH I.box1 (vs:=zj v.kind v.text c1 c2) (o:=0) (i:=0) yT,?_⟩;obtain⟨q,E,O⟩:=I.box2;refine jh E O _ _ _ _ λh8 b8 z8 f8=>?_;refine⟨v.kind,v.text,c1,c2,mH b8 (vs:=zj v.kind v.text c1 c2) (o:=0) (i:=0) yT,⟨by omega,λx f=>by rw[f8 x (by omega)];exact k7.get x f⟩,_,c1,c2,rfl,?_,λx f=>by have:=I.big x f;omega⟩;have ot:OT h7 (.mk v.kind v.text v.keys v.items) (bk++(bb++(zaq v.items.length).flatMap bf)) (zj v.kind v.text c1 c2):=by exact OT.mk (b:=b) (cs:=cs) I.keys ⟨l4,by omega,ab⟩ I.hz (λi f=>I.did i f f) I.nd
 rw[Y3]at ot;exact ot.frame λx f=>f8 x (by have:=I.big x f;omega)
end
end
section
open Go.Lib
mutual
def jM:Tr->Nat | .mk _ _ ks xs=>1+ks.length+iU xs
def iU:List Tr->Nat | []=>0|x::l=>jM x+iU l
end
theorem TE(v:Tr):jM v=1+v.keys.length+iU v.items:=by cases v;rw[jM]
theorem ED:∀a b:List Tr,iU (a++b)=iU a+iU b
 |[],b=>by simp[iU]
 |x::l,b=>by rw[zbz,iU,iU,ED l b];omega
theorem VU{l:List Tr}{k:Nat}(b:k<l.length):iU (l.take (k+1))=iU (l.take k)+jM l[k]:=by rw[zal b,ED];simp[iU]
mutual
theorem vF:∀v:Tr,aR v<=jM v
 |.mk k s ks xs=>by rw[aR,jM];have:=GX xs;omega
theorem GX:∀l:List Tr,wa l<=iU l
 |[]=>by simp[wa,iU]
 |x::l=>by rw[wa,iU];have:=vF x;have:=GX l;omega
end
mutual
def jD:Tr->Prop | .mk _ s ks xs=>(s.size<=2048/\∀k∈ks,k.size<=1024)/\i5 xs
def i5:List Tr->Prop | []=>True|x::l=>jD x/\i5 l
end
theorem NL(v:Tr):jD v↔(v.text.size<=2048/\∀k∈v.keys,k.size<=1024)/\i5 v.items:=by cases v;rw[jD]
theorem EI:∀{l:List Tr},i5 l↔∀x∈l,jD x
 |[]=>by simp[i5]
 |x::l=>by rw[i5,EI];simp
mutual
theorem E6:∀(v:Tr),jM v<=1000000->jD v->hH 1048576 v
 |.mk k s ks xs,h,g=>by rw[jM]at h;rw[jD]at g;rw[hH];exact⟨⟨by omega,by omega,λk b=>by have:=g.1.2 k b;omega⟩,Ih xs (by omega) g.2⟩
theorem Ih:∀(l:List Tr),iU l<=1000000->i5 l->mE 1048576 l
 |[],_,_=>by rw[mE];trivial
 |x::l,h,g=>by rw[iU]at h;rw[i5]at g;rw[mE];exact⟨E6 x (by omega) g.1,Ih l (by omega) g.2⟩
end
theorem Sm.few{v:Tr}(h:jM v<=1000000)(g:jD v):Sm v:=⟨by have:=vF v;omega,E6 v h g⟩
structure PS (l:List Bt):Prop where
 n:l.length<=200
 s:∀x∈l,(lb x).length<=1024
def wn(l:List Bt):Bool:=decide (l.length<=64)&&l.all λs=>Qq (lb s)
def oo(c:UInt8):Bs:=if c=126 then [126,48]else if c=47 then [126,49]else [c]
def lT(l:Bs):Bs:=l.flatMap oo
def iX(l:List Bs):Bs:=l.flatMap λs=>47::lT s
theorem YZ(l:Bs):replaceAll (replaceAll l [126] [126,48]) [47] [126,49]=lT l:=by rw[yH (by simp) (by simp),yH (by simp) (by simp),uJ,uJ,List.flatMap_assoc,lT];congr 1;funext x;by_cases h:x=126;subst h;simp[oo];by_cases b:x=47;subst b;simp[oo];simp[oo,h,b]
theorem Ie(l:Bs):(lT l).length<=2*l.length:=by
 induction l with
 |nil=>simp[lT]
 |cons c t b=>
  rw[lT,zcd,zah];have:(oo c).length<=2:=by by_cases h:c=126;simp[oo,h];by_cases e:c=47 <;> simp[oo,h,e]
  unfold lT at b;rw[zaw];omega
theorem IC(a b:List Bs):iX (a++b)=iX a++iX b:=by unfold iX;rw[zdt]
theorem T7(x:Bs):iX [x]=47::lT x:=by simp[iX]
end
section
variable {gl:Fr} {R:Tr -> Prop} {l:List Tr}
theorem GM{gl:Fr}(v:Tr)(l d:Int)(A:0<=l/\l<=1000)(x:0<=d/\d<=61){R:Int->Prop}(h:∀r,-1000000000000000<=r->r<=l->(0<=r->r+jM v<=l)->R r):PC Tp gl 53 [Arg.mk .tree v,Arg.mk PJ l,Arg.mk PJ d] [.int .i64] R:=by
 refine PC.bd λf=>?_;have y:v.keys.length<=140737488355328/\v.items.length<=140737488355328:=f ⟨.tree,v⟩ (by simp);apply Rw;refine⟨λm=>h _ (by omega) (by omega) (by omega),λm=>?_⟩;have w:d<=60:=by simp at m;omega
 rw[io (n:=l-1) (by omega),io (by omega)];refine⟨λc i=>∃k:Nat,i=k/\k<=v.items.length/\-1000000000000000<=c/\c<=l/\(0<=c->c+(1+v.keys.length+iU (v.items.take k))<=l),λc i=>v.items.length-i.toNat,⟨0,rfl,by omega,by omega,by omega,λ_=>by simp[iU];omega⟩,?_⟩;rintro c i ⟨k,rfl,z,h1,t,j⟩;refine⟨λe=>?_,λe=>h c h1 t λh0=>?_⟩;have b:k<v.items.length/\0<=c:=by simp at e;omega
 refine⟨v.items[k],⟨by omega,vn b.1⟩,?_⟩;rw[Y3,io (by omega)];have o:=qo (zak b.1);refine GM v.items[k] c (d+1) ⟨b.2,by omega⟩ (by omega) λr u B q=>?_;rw[je b.1 (by omega)];refine⟨⟨k+1,rfl,by omega,u,by omega,λh0=>?_⟩,by simp only[zae];omega⟩;have:=q h0;have:=j b.2;rw[VU b.1];omega;have b:k=v.items.length:=by simp at e;omega
 subst b;have:=j h0;rw[zba]at this;rw[TE];omega
termination_by aR v
theorem JW{gl:Fr}(v:Tr){R:Bool->Prop}(h:∀b,(b=Ta->jD v)->R b):PC Tp gl 54 [Arg.mk .tree v] [.bool] R:=by
 refine PC.bd λt=>?_;have u:v.keys.length<=140737488355328/\v.items.length<=140737488355328:=t ⟨.tree,v⟩ (by simp);apply Uy;refine⟨λc=>h _ (λe=>by cases e),λc=>?_⟩;have m:v.text.size<=2048:=by simp at c;omega
 refine⟨λi=>∃k:Nat,i=k/\k<=v.keys.length/\∀x∈v.keys.take k,x.size<=1024,λi=>v.keys.length-i.toNat,⟨0,rfl,by omega,by simp⟩,?_⟩;rintro i ⟨k,rfl,y,h1⟩;refine⟨λr=>?_,λr=>?_⟩;have j:k<v.keys.length:=by simp at r;omega
 refine⟨v.keys[k],⟨by omega,xP j⟩,λ_=>h _ (λe=>by cases e),λq=>?_⟩;have o:v.keys[k].size<=1024:=by simp at q;omega
 rw[je j (by omega)];refine⟨⟨k+1,rfl,by omega,?_⟩,by simp only[zae];omega⟩;rw[zal j];intro x c;rcases zaj.1 c with c|c;exact h1 x c;simp at c;subst c;exact o;have j:k=v.keys.length:=by simp at r;omega
 subst j;rw[zba]at h1;refine⟨λi=>∃k:Nat,i=k/\k<=v.items.length/\∀x∈v.items.take k,jD x,λi=>v.items.length-i.toNat,⟨0,rfl,by omega,by simp⟩,?_⟩;rintro i ⟨k,rfl,y,n⟩;refine⟨λl=>?_,λl=>h _ λ_=>?_⟩;have f:k<v.items.length:=by simp at l;omega
 refine⟨v.items[k],⟨by omega,vn f⟩,?_⟩;rw[Y3];have w:=qo (zak f);refine JW v.items[k] λb u=>⟨λ_=>h _ (λe=>by cases e),λq=>?_⟩;rw[je f (by omega)];refine⟨⟨k+1,rfl,by omega,?_⟩,by simp only[zae];omega⟩;rw[zal f];intro x c;rcases zaj.1 c with c|c;exact n x c;simp at c;subst c;exact u (by simpa using q);have f:k=v.items.length:=by simp at l;omega
 subst f;rw[zba]at n;exact(NL v).2 ⟨⟨m,h1⟩,EI.2 n⟩
termination_by aR v
theorem HW{v:Tr}{m:Int}(f:0<=m/\m<=1000){R:Bool->Prop}(h:∀b,(b=Ta->jM v<=m/\Sm v)->R b):PC Tp gl 12 [Arg.mk .tree v,Arg.mk PJ m] [.bool] R:=by
 apply YU;rw[Y3];refine GM v m 0 f (by omega) λr h1 j i=>⟨λb=>b=Ta->jD v,λ_=>JW v λb c=>c,λb c=>h _ λe=>?_⟩;cases hr:decide (r>=0)with
 |false=>rw[hr]at e;cases e
 |true=>
  rw[hr,zK]at e;have h0:0<=r:=by simp at hr;omega
  have:=i h0;exact⟨by omega,Sm.few (by omega) (c hr e)⟩
theorem Sz(h:R (.mk 5 ⟨#[]⟩ [] l)):PC Tp gl 52 [Arg.mk (.row .tree) l] [.tree] R:=by apply VZ;exact h
theorem VN{ks:List Bt}(h:R (.mk 6 ⟨#[]⟩ ks l)):PC Tp gl 47 [Arg.mk (.row .str) ks,Arg.mk (.row .tree) l] [.tree] R:=by apply OL;exact h
theorem BY(b:GL gl){n:Int}(h1:-1000000<=n)(c:n<=1000000)(h:R (.mk 3 (bl (Xi (ye (Lib.itoa n)).1)) [] [])):PC Tp gl 51 [Arg.mk PJ n] [.tree] R:=by apply TX;refine RH b.pow (by omega) (by omega) ?_;exact Gk b.pow (yD _ (by have:=Go.X.itoa_len n;omega)) h
end
section
open Go.Lib
variable {α:Type}
structure IsCmp {α:Type} (c:α->α->Int):Prop where
 rng:∀a b,c a b=-1\/c a b=0\/c a b=1
 eq0:∀a b,c a b=0↔a=b
 swap:∀a b,c b a=-c a b
 tr:∀a b d,c a b<=0->c b d<=0->c a d<=0
def iG{α:Type}(c:α->α->Int):List α->List α->Int
 |[],[]=>0
 |[],_::_=>-1
 |_::_,[]=>1
 |a::l,b::m=>if c a b=0 then iG c l m else c a b
theorem Ho{c:α->α->Int}(H:IsCmp c):IsCmp (iG c) where
 rng:=by
  intro a;induction a with
  |nil=>intro b;cases b <;> simp[iG]
  |cons x a ih=>
   intro b;cases b with
   |nil=>simp[iG]
   |cons y b=>rw[iG];by_cases h:c x y=0;rw[zA h];exact ih b;rw[zv h];exact H.rng x y
 eq0:=by
  intro a;induction a with
  |nil=>intro b;cases b <;> simp[iG]
  |cons x a ih=>
   intro b;cases b with
   |nil=>simp[iG]
   |cons y b=>rw[iG,zc9,<-H.eq0 x y];by_cases h:c x y=0;rw[zA h];simp[h,ih];rw[zv h];simp[h]
 swap:=by
  intro a;induction a with
  |nil=>intro b;cases b <;> simp[iG]
  |cons x a ih=>
   intro b;cases b with
   |nil=>simp[iG]
   |cons y b=>rw[iG,iG,H.swap x y];by_cases h:c x y=0;rw[zA h,zA (by omega)];exact ih b;rw[zv h,zv (by omega)]
 tr:=by
  intro a;induction a with
  |nil=>intro b d h1 h2;cases d <;> simp[iG]
  |cons x a ih=>
   intro b d h1 h2;cases b with
   |nil=>simp[iG]at h1
   |cons y b=>
    cases d with
    |nil=>simp[iG]at h2
    |cons z d=>rw[iG]at h1 h2 ⊢;by_cases hxy:c x y=0;have:=(H.eq0 x y).1 hxy;subst this;rw[zA hxy]at h1;by_cases hyz:c x z=0;rw[zA hyz]at h2 ⊢;exact ih b d h1 h2;rw[zv hyz]at h2 ⊢;exact h2;rw[zv hxy]at h1;by_cases hyz:c y z=0;have:=(H.eq0 y z).1 hyz;subst this;rw[zv hxy];exact h1;rw[zv hyz]at h2;have h3:=H.tr x y z h1 h2;by_cases hxz:c x z=0;have:=(H.eq0 x z).1 hxz;subst this;have:=H.swap x y;omega;rw[zv hxz];exact h3
theorem TH{c:α->α->Int}(H:IsCmp c)(p x y:List α):iG c (p++x) (p++y)=iG c x y:=by
 induction p with
 |nil=>rfl
 |cons a p b=>rw[zbz,zbz,iG,zA ((H.eq0 a a).2 rfl),b]
def l8(a b:UInt8):Int:=if a.toNat<b.toNat then -1 else if a.toNat=b.toNat then 0 else 1
theorem cmpU_is:IsCmp l8 where
 rng:=λa b=>by unfold l8;by_cases h:a.toNat<b.toNat;rw[zA h];simp;rw[zv h];by_cases h2:a.toNat=b.toNat;rw[zA h2];simp;rw[zv h2];simp
 eq0:=λa b=>by unfold l8;rw[<-zd3];by_cases h:a.toNat<b.toNat;rw[zA h];omega;rw[zv h];by_cases h2:a.toNat=b.toNat;rw[zA h2];omega;rw[zv h2];omega
 swap:=λa b=>by unfold l8;by_cases h:a.toNat<b.toNat;rw[zv (by omega),zv (by omega),zA h];rfl;by_cases h2:b.toNat<a.toNat;rw[zA h2,zv h,zv (by omega)];rw[zv h2,zA (by omega),zv h,zA (by omega)];rfl
 tr:=λa b d=>by unfold l8;intro h1 h2;by_cases h:a.toNat<d.toNat;rw[zA h];omega;rw[zv h];by_cases h':a.toNat=d.toNat;rw[zA h'];omega;exfalso;by_cases g:a.toNat<b.toNat;rw[zv (show¬b.toNat<d.toNat by omega),zv (by omega)]at h2;omega;rw[zv g]at h1;by_cases g2:a.toNat=b.toNat;rw[zv (show¬b.toNat<d.toNat by omega),zv (by omega)]at h2;omega;rw[zv g2]at h1;omega
def i9:Bs->Bs->Int:=iG l8
theorem cmpS_is:IsCmp i9:=Ho cmpU_is
theorem G8:∀a b:Bs,zdv a b=decide (i9 a b=-1)
 |[],[]=>by simp[zdv,i9,iG]
 |[],_::_=>by simp[zdv,i9,iG]
 |_::_,[]=>by simp[zdv,i9,iG]
 |a::l,b::m=>by
  have f:=G8 l m;unfold i9 at f ⊢;rw[iG,zdv,f];by_cases h:a<b;have:l8 a b=-1:=by unfold l8;rw[zA (UInt8.lt_iff_toNat_lt.1 h)]
  simp[h,this];by_cases c:a=b;subst c;simp[(cmpU_is.eq0 a a).2 rfl,h];have:l8 a b=1:=by unfold l8;rw[zv (λe=>h (UInt8.lt_iff_toNat_lt.2 e)),zv (λe=>c (zd3.1 e))]
  simp[h,c,this]
def cmpL:List Bs->List Bs->Int:=iG i9
theorem cmpL_is:IsCmp cmpL:=Ho cmpS_is
theorem Od{a b:List Bs}{k:Nat}(h:a.take k=b.take k):cmpL a b=cmpL (a.drop k) (b.drop k):=by have:=TH cmpS_is (a.take k) (a.drop k) (b.drop k);rw[zca,h,zca]at this;exact this
end
section
section
variable {k:Nat} {a b:List Bt} {gl:Fr}
structure SL (l:List Bt):Prop where
 n:l.length<=1000000
 s:∀x∈l,(lb x).length<=1048576
theorem PS.sl{l:List Bt}(h:PS l):SL l:=⟨by have:=h.n;omega,λx b=>by have:=h.s x b;omega⟩
theorem VW{α:Type}{p:α->Bool}{l:List α}(b:k<l.length):(l.take (k+1)).all p=((l.take k).all p&&p l[k]):=by rw[zal b,zei,zdf,List.all_nil,zfe]
theorem uY(s t:Bt):zdv s.toList t.toList=decide (i9 (lb s) (lb t)=-1):=by rw[Qb,Qb,G8]
theorem JG(s t:Bt):(s.toList==t.toList)=decide (i9 (lb s) (lb t)=0):=by rw[Qb,Qb,zbe,beq_iff_eq,zG,cmpS_is.eq0]
def l5(a b:List Bt):Int:=cmpL (a.map lb) (b.map lb)
theorem Ej(h:a.take k=b.take k):l5 a b=l5 (a.drop k) (b.drop k):=by unfold l5;rw[Od (k:=k),zff,zff];rw[<-ze3,<-ze3,h]
theorem LQ(x y:Bt)(a b:List Bt):l5 (x::a) (y::b)=if i9 (lb x) (lb y)=0 then l5 a b else i9 (lb x) (lb y):=rfl
theorem Na(h : a.take k = b.take k)(hk : k = a.length \/ k = b.length): l5 a b = if a.length < b.length then -1 else if b.length < a.length then 1 else 0 := by
  have hl := congrArg zcf h;simp only [zbl] at hl;rw [Ej h];rcases hk with rfl | rfl;rw [zec];cases hd : b.drop a.length with
  | nil => have := List.drop_eq_nil_iff.1 hd; (rw [zv (by omega), zv (by omega)]; rfl)
  | cons y t => have : a.length < b.length := by
                  rcases zb0 a.length b.length with q | q;exact q;rw [zce q] at hd; cases hd
                rw [zA this]; rfl
  rw [zec];cases hd : a.drop b.length with
  | nil => have := List.drop_eq_nil_iff.1 hd; (rw [zv (by omega), zv (by omega)]; rfl)
  | cons y t => have : b.length < a.length := by
                  rcases zb0 b.length a.length with q | q;exact q;rw [zce q] at hd; cases hd
                rw [zv (by omega), zA this]; rfl
theorem Ug(h:a.take k=b.take k)(e:k<a.length)(f:k<b.length)(c:i9 (lb a[k]) (lb b[k])≠0):l5 a b=i9 (lb a[k]) (lb b[k]):=by rw[Ej h,zbt e,zbt f,LQ,zv c]
theorem XB(h:a.take k=b.take k)(c:k<a.length)(f:k<b.length)(e:i9 (lb a[k]) (lb b[k])=0):a.take (k+1)=b.take (k+1):=by rw[zal c,zal f,h,oN.1 ((cmpS_is.eq0 _ _).1 e)]
theorem Oi(w:a.length<=1000000){R:Int->Prop}(h:R (l5 a b)):PC Tp gl 74 [Arg.mk (.row .str) a,Arg.mk (.row .str) b] [.int .i64] R:=by
 apply Sj;refine⟨λi=>∃k:Nat,i=k/\k<=a.length/\k<=b.length/\a.take k=b.take k,λi=>a.length-i.toNat,⟨0,rfl,by omega,by omega,by simp⟩,?_⟩;rintro i ⟨k,rfl,y,u,m⟩;refine⟨λl=>?_,λl=>?_⟩;have c:k<a.length/\k<b.length:=by simp at l;omega
 have q:=xP c.1;have r:=xP c.2;have o:=Ug m c.1 c.2;have x:=cmpS_is.rng (lb a[k]) (lb b[k]);refine⟨a[k],⟨by omega,q⟩,b[k],⟨by omega,r⟩,λj=>?_,λj=>⟨a[k],⟨by omega,q⟩,b[k],⟨by omega,r⟩,λe=>?_,λe=>?_⟩⟩;rw[uY]at j;have f:i9 (lb a[k]) (lb b[k])=-1:=by simpa using j
 rw[o (by omega),f]at h;exact h;rw[uY,JG]at e;have f:i9 (lb a[k]) (lb b[k])=1:=by simp at e;omega
 rw[o (by omega),f]at h;exact h;rw[uY]at j;rw[uY,JG]at e;have f:i9 (lb a[k]) (lb b[k])=0:=by simp at j e;omega
 have n:=je c.1 (by omega);rw[n];exact⟨⟨k+1,rfl,by omega,by omega,XB m c.1 c.2 f⟩,by have:=c.1;simp only[zae];omega⟩;have c:k=a.length\/k=b.length:=by simp at l;by_cases j:k<a.length;right;have:=l j;omega;left;omega
 rw[Na m c]at h;refine⟨λj=>?_,λj=>⟨λe=>?_,λe=>?_⟩⟩;have:a.length<b.length:=by simp at j;omega
 rw[zA this]at h;exact h;have:b.length<a.length:=by simp at e;omega
 rw[zv (by omega),zA this]at h;exact h;have h1:¬a.length<b.length:=by simp at j;omega
 have t:¬b.length<a.length:=by simp at e;omega
 rw[zv h1,zv t]at h;exact h
theorem R4(a b:List Bt):l5 a b=0↔a=b:=by unfold l5;rw[cmpL_is.eq0];constructor;intro h;have:=congrArg (List.map bl) h;rw[zav,zav]at this;have e:(bl ∘ lb)=(id:Bt->Bt):=funext λx=>jp x;rw[e,zfl,zfl]at this;exact this;rintro rfl;rfl
theorem WO(c:a.length<=1000000){R:Bool->Prop}(h:∀r,(r=Ta↔a=b)->R r):PC Tp gl 40 [Arg.mk (.row .str) a,Arg.mk (.row .str) b] [.bool] R:=by apply NF;refine Oi c (h _ ?_);rw[<-R4];simp
end
section
theorem Iw{l:List Bs}{m:Nat}(h:∀x∈l,x.length<=m):(iX l).length<=l.length*(2*m+1):=by
 induction l with
 |nil=>simp[iX]
 |cons x l b=>rw[show x::l=[x]++l from rfl,IC,T7,zah,zaw,zah,zcu,zcs,zd6];have h1:=b λy c=>h y (by simp[c]);have e:=Ie x;have f:=h x (by simp);omega
end
end
section
open Go.Shelf Go.RowKit
def HD:Go.Shelf.Ren:=⟨fun|169=>70|n=>n,fun|70=>86|9=>9|0=>0|72=>89|37=>87|127=>133|3=>3|5=>5|n=>n,fun|n=>n⟩
theorem Vm:Go.Proofs.Lays.n169 Tp HD:=by constructor <;> intros <;> kernel_rfl
theorem ZU:Builder.Extra Tp HD:={
 sizeBuilder:=by kernel_rfl
 liesBuilder:=by kernel_rfl
 t5:=zex
 a5:=Tryz.isAgg5
 z5:=Tryz.sizeOf5
 v5:=Tryz.zeroValue5
 infoByte:=by kernel_rfl
 cellsByte:=by kernel_rfl
 sizeByte:=by kernel_rfl
 neB5:=by decide }
theorem QA(B b:Nat)(l:List UInt8)(w:World)(h:Lib.IsBuilder 89 5 B b (Lib.byteCells l) w)(c:B<=w.heap.size): Calls Tp 70 #[.pointer (Td ⟨b,0,Te⟩)] w λe w'=>e=.returned (.string ⟨l.toArray⟩)/\Below B w w':=Any.Builder_String_any Vm ZU B b l w h c
def Ln:Go.Shelf.Ren:=⟨fun|153=>391|152=>369|226=>404|227=>271|228=>321|137=>319|119=>394|224=>358|225=>357|217=>356|266=>385|n=>n,fun|9=>9|3=>3|4=>4|5=>5|21=>21|117=>281|116=>280|0=>0|46=>123|124=>284|n=>n,fun|n=>n⟩
theorem PD:Go.Proofs.Lays.n153 Tp Ln:=by constructor <;> intros <;> kernel_rfl
open Go.RowKit Go.Lib in
theorem Wu(h:∀w,(zeroValue 280).run Tp w=.ok (.agg (zc4 256 (.bool Tc))) w)(s c:Bt)(w:World)(l:2<=c.size)(k:8<s.size)(m:s.size<4294967281)(i:c.size<4294967281)(f:∀(j:Nat) b,c.data.toList[j]?=Td b->b.toNat<128): Calls Tp 391 #[.string s,.string c] w λe w'=>e=.returned (.int .i64 (Lib.indexAny s.data.toList c.data.toList))/\w'=((w.alloc (.cells (Lib.setCells c.data.toList) 280)).alloc (.cells (Lib.setCells c.data.toList) 280)):=Any.strings_IndexAny_long PD h (by kernel_rfl) s c w l k m i f
end
section
open Go.RowKit
variable {h h':zc} {b:Nat} {l:Bs} {cs:Array Value} {K:Value -> zc -> Prop}
def Bld(h:zc)(b:Nat)(l:Bs):Prop:=∃(p:Option Addr) (s:Sl),h[b]?=Td (.cells #[.pointer p,aK s] 89 (0,0))/\(p=Te\/p=Td ⟨b,0,Te⟩)/\Owns h (b+1) 5 1 s (Lib.byteCells l)
theorem Bld.lt(H:Bld h b l):b<h.size:=by obtain⟨p,s,e,_⟩:=H;rcases zb0 b h.size with q|q;exact q;rw[Array.getElem?_eq_none q]at e;cases e
theorem Bld.keep(H:Bld h b l)(k:Keep h.size h h'):Bld h' b l:=by have c:=H.lt;obtain⟨p,s,e,f,i⟩:=H;exact⟨p,s,by rw[k.get b c];exact e,f,i.keepN k⟩
theorem Bld.new(h:zc):Bld (h.push (.cells #[.pointer Te,.slice Te 0 0] 89)) h.size []:= ⟨Te,⟨Te,0,0⟩,yc _ _,.inl rfl,Owns.nil _ _ _ _⟩
theorem y7:(zbj.info? 89).map (·.size)=Td 2:=by kernel_rfl
theorem XL:liesAt Tp zbj.depth 89 (2 / zbj.cellsOf 89) 0 89 1=Ta:=by kernel_rfl
theorem sG:zbj.underlying 86=Td (.pointer 89):=by kernel_rfl
theorem vz:zbj.underlying 199=Td .unsafePointer:=by kernel_rfl
set_option maxHeartbeats 1000000 in
set_option maxRecDepth 100000 in
theorem Dq(b:Nat)(w:World)(h0:w.cell? ⟨b,0,Te⟩=Td (.pointer (Td ⟨b,0,Te⟩))):
  Calls Tp 123 #[.pointer (Td ⟨b,0,Te⟩)] w λe w'=>e=.returned (.tuple #[])/\w'=w:=by
 obtain⟨j,c,_⟩:=zc6.1 y7;have mixed:=Tryz.mixed
 go_enter Tryz.func123,Tryz.ntmps123
 go_wp2
 rw[Lib.run_neq_ptr_same w _ sG c]
 go_wp2
 go_end0
 exact⟨rfl,rfl⟩
set_option maxHeartbeats 1000000 in
set_option maxRecDepth 100000 in
theorem La(b:Nat)(w:World)(h0:w.cell? ⟨b,0,Te⟩=Td (.pointer Te))(c:w.shape? b=Td (89,2))(i:w.frozen? ⟨b,0,Te⟩=Tc):
  Calls Tp 123 #[.pointer (Td ⟨b,0,Te⟩)] w λe w'=>e=.returned (.tuple #[])/\w'=w.setCell ⟨b,0,Te⟩ (.pointer (Td ⟨b,0,Te⟩)):=by
 obtain⟨j,h,f⟩:=zc6.1 y7;have mixed:=Tryz.mixed
 go_enter Tryz.func123,Tryz.ntmps123
 go_wp2
 rw[Lib.run_to_unsafe w ⟨b,0,Te⟩ sG vz h (by rw[f];decide) c (Nat.zero_lt_succ 1)];simp only[Result.andThen];rw[Oper.upon_value]
 go_wp2
 rw[run_callFunc_extern Tryz.func195 (by kernel_rfl) (by kernel_rfl) (by kernel_rfl) (e:=zfp) (by kernel_rfl)];rw[Lib.run_noEscape];simp only[Result.andThen];rw[Oper.upon_value]
 go_wp2
 rw[Lib.run_from_unsafe w ⟨b,0,Te⟩ vz sG h c XL];simp only[Result.andThen];rw[Oper.upon_value]
 go_wp2
 go_end0
 exact⟨rfl,rfl⟩
theorem Hq{b o:Nat}{T:TypeId}(e:h[b]?=Td (.cells cs T (0,0)))(v:Value)(B:World)(d:Nat):(mk B d h).setCell ⟨b,o,Te⟩ v=mk B d (h.setIfInBounds b (.cells (cs.setIfInBounds o v) T (0,0))):=by
 unfold World.setCell mk;simp only;congr 1;have c:b<h.size:=(zat.1 e).1;apply ze4;intro i;rw[Array.getElem?_modify];by_cases hi:i=b;subst hi;have f:h[i]=.cells cs T (0,0):=by have:=zcl c;rw[e]at this;exact(zbi this).symm
 simp[c,f];rw[zv (Ne.symm hi),zb4 (Ne.symm hi)]
theorem Keep.ne(e:h'.size=h.size)(c:∀i,i≠b->h'[i]?=h[i]?):Keep b h h':=⟨by omega,λi hi=>c i (by omega)⟩
def Itk(h h':zc):Prop:=∀(i:Nat) (s:Bt) (p:Nat),h[i]?=Td (.stringIter s p)->h'[i]?=Td (.stringIter s p)
theorem Itk.trans{a b c:zc}(x:Itk a b)(y:Itk b c):Itk a c:=λi s p e=>y i s p (x i s p e)
theorem Itk.keep(k:Keep h.size h h'):Itk h h':=λi s p e=>by have hi:i<h.size:=(zat.1 e).1;rw[k.get i hi];exact e
theorem Itk.ne{T:TypeId}{m:Nat×Nat}(e:h[b]?=Td (.cells cs T m))(f:∀i,i≠b->h'[i]?=h[i]?):Itk h h':=λi s p c=>by by_cases hi:i=b;subst hi;rw[e]at c;cases c;rw[f i hi];exact c
theorem Itk.own{base:Nat}{e:TypeId}{sz:Nat}{s:Sl}{xs:List Value}(H:Owns h base e sz s xs)(f:∀i,i<h.size->(∀p,s.a=Td p->i≠p.block)->h'[i]?=h[i]?):Itk h h':=λi t p c=>by have hi:i<h.size:=(zat.1 c).1;rw[f i hi λq m l=>?_];exact c;rcases H.2 with⟨b,_⟩|⟨g,cap,j,b,_,k,_⟩;rw[m]at b;cases b;have k:h[g]?=Td (.cells j e (0,0)):=k;rw[m]at b;injection b with e1 _ _;injection e1 with e1;rw[l,e1]at c;rw[k]at c;cases c
theorem vW(H:Bld h b l)(k:∀h',Bld h' b l->Keep b h h'->h'.size=h.size->Itk h h'->K (.tuple #[]) h'):XC Tp 123 #[.pointer (Td ⟨b,0,Te⟩)] h K:=by
 have j:=H.lt;obtain⟨p,s,e,m,f⟩:=H;have c:∀B d,(mk B d h).cell? ⟨b,0,Te⟩=Td (.pointer p):=λB d=>by have:(mk B d h).heap[b]?=Td (.cells #[.pointer p,aK s] 89 (0,0)):=e;simp[World.cell?,this]
 rcases m with rfl|rfl;refine XC.of_calls λB d=>(La b (mk B d h) (c B d) ?_ ?_).mono ?_
 have:(mk B d h).heap[b]?=Td (.cells #[.pointer Te,aK s] 89 (0,0)):=e;simp[World.shape?,this];exact xU ⟨_,e⟩ B d;rintro e' w' ⟨rfl,rfl⟩;rw[Hq e];refine⟨_,rfl,rfl,rfl,rfl,?_⟩;show K _ (h.setIfInBounds b _);refine k _ ⟨_,s,?_,.inr rfl,?_⟩ ?_ (by simp) (Itk.ne e λi hi=>zb4 (Ne.symm hi));rw[zc2 j];rfl;refine f.keep λq n=>?_;have:=f.base_le q n;rw[zb4 (by omega)];exact Keep.setBlk _ (zac _);refine XC.of_calls λB d=>(Dq b (mk B d h) (c B d)).mono ?_;rintro e' w' ⟨rfl,rfl⟩;exact⟨_,rfl,rfl,rfl,rfl,k _ ⟨_,s,e,.inr rfl,f⟩ (Keep.refl _ _) rfl (Itk.keep (Keep.refl _ _))⟩
theorem uo:ElemT Tp 87 5 (.int .u8 0) 1 1:=⟨by kernel_rfl,⟨Tryz.t5,by kernel_rfl,by kernel_rfl,by kernel_rfl,by kernel_rfl⟩,rfl,by omega⟩
theorem BZ:zbj.underlying 9=Td .string:=by kernel_rfl
theorem EY:yb Tp 87=Ta:=by kernel_rfl
theorem Gz:j4 Tp 87=1:=by kernel_rfl
theorem yQ{p:Option Addr}{s t:Sl}(e:h[b]?=Td (.cells #[.pointer p,aK t] 89 (0,0)))(k:p=Te\/p=Td ⟨b,0,Te⟩)(i:Owns h (b+1) 5 1 s (Lib.byteCells l)){K:zc->Prop}
  (r:∀h',Bld h' b l->Keep b h h'->h'.size=h.size->Itk h h'->K h'):XRunU Tp (zag 87 (.pointer (Td ⟨b,1,Te⟩)) (.slice s.a s.len s.cap)) h K:=by
 intro B d;obtain⟨h',n,j,f,c⟩:=Yf (P:=Tp) EY Gz e (o:=1) (v:=aK s) rfl (by simp) (by simp[aK,Value.cells,Value.oneCell']) B d;refine⟨d,h',n,r h' ⟨p,s,?_,k,?_⟩ (Keep.ne f c) f (Itk.ne e c)⟩;rw[j];rfl;refine i.keep λq m=>?_;have:=i.base_le q m;exact c _ (by omega)
theorem Yl(H:Bld h b l)(T:l.length<140737488355328)(c:UInt8)(P:∀h',Bld h' b (l++[c])->Keep b h h'->Itk h h'->K .nilIface h'):
  XC Tp 133 #[.pointer (Td ⟨b,0,Te⟩),.int .u8 (c.toNat:Int)] h K:=by
 apply j9;refine vW H λf B k2 Y F=>⟨rfl,_,rfl,?_⟩;have x:=B.lt;obtain⟨p,s,e,Q,t⟩:=B;have m:=t.1;rw[Lib.byteCells_length,zbm]at m;refine⟨s,Blk.cellAdd (o:=0) (k:=1) (cs:=#[.pointer p,aK s]) ⟨_,e⟩ rfl,?_⟩;intro j;have r:Keep f.size f j:=Keep.push _ _ (zac _);have U:j.size=f.size+1:=zaf _;have b5:Blk j f.size #[.int .u8 (c.toNat:Int)]:=Blk.new _ _ _;have D:j[b]?=Td (.cells #[.pointer p,aK s] 89 (0,0)):=by rw[r.get b x];exact e
 have A:=t.keepN r;clear_value j;refine Zw uo A (src:=⟨Td ⟨f.size,0,Te⟩,1,1⟩) (news:=[.int .u8 (c.toNat:Int)]) (n:=j.size) ?_ rfl (by simp[Value.oneCell']) (by simp only;omega) (by simp only;omega) (by omega) λC z Z I u q4 S=>⟨C,rfl,_,rfl,?_⟩;refine .inr ⟨f.size,0,rfl,by omega,λi v w=>?_⟩
 match i,w with
 |0,w=>cases w;exact b5.cell rfl
 have M:z[b]?=Td (.cells #[.pointer p,aK s] 89 (0,0)):=by rw[u b (by omega) λq y=>by have:=t.base_le q y;omega];exact D
 have E:Owns z (b+1) 5 1 C (Lib.byteCells (l++[c])):=by
  have:Lib.byteCells (l++[c])=Lib.byteCells l++[.int .u8 (c.toNat:Int)]:=by unfold Lib.byteCells;rw[zbc];rfl
  rw[this];exact I
 have G:Keep b h z:=k2.trans ⟨by omega,λi hi=>by rw[u i (by omega) λq y=>by have:=t.base_le q y;omega];exact r.get i (by omega)⟩ (zac _);refine yQ M Q E λO J L V N=>P O J (G.trans L (zac _)) (F.trans ((Itk.keep r).trans ((Itk.own A u).trans N)))
theorem Nj(H:Bld h b l)(f:l.length<140737488355328)(c:UInt8)(e:∀h',Bld h' b (l++[c])->Keep b h h'->K .nilIface h'):
  XC Tp 133 #[.pointer (Td ⟨b,0,Te⟩),.int .u8 (c.toNat:Int)] h K:=
 Yl H f c λh' a b _=>e h' a b
theorem EH(H:Bld h b l)(t:Bs)(hl:l.length+t.length<=140737488355328)(N:∀h',Bld h' b (l++t)->Keep b h h'->Itk h h'->K (.tuple #[.int .i64 (t.length:Int),.nilIface]) h'):
  XC Tp 68 #[.pointer (Td ⟨b,0,Te⟩),.string (bl t)] h K:=by
 apply jk;refine vW H λC z k2 U F=>⟨rfl,_,rfl,?_⟩;have A:=z.lt;obtain⟨p,s,e,Q,j⟩:=z;have f:=j.1;rw[Lib.byteCells_length,zbm]at f;refine⟨s,Blk.cellAdd (o:=0) (k:=1) (cs:=#[.pointer p,aK s]) ⟨_,e⟩ rfl,?_⟩;have c:=zu t;refine vf uo j (x:=.string (bl t)) (m:=(bl t).size) (news:=Lib.byteCells t) (λB d=>?_) (by rw[c];omega) (by rw[c];omega) (by omega) λy u V S r Z Y=>⟨y,rfl,_,rfl,?_⟩;have:=Src.ofString (P:=Tp) (w:=mk B d C) BZ (bl t);have O:byteCells (bl t)=Lib.byteCells t:=by unfold byteCells Lib.byteCells;have:(bl t).data.toList=t:=yo t;rw[this]
 rw[O]at this;exact this;have I:u[b]?=Td (.cells #[.pointer p,aK s] 89 (0,0)):=by rw[r b (by omega) λq n=>by have:=j.base_le q n;omega];exact e
 have D:Owns u (b+1) 5 1 y (Lib.byteCells (l++t)):=by
  have:Lib.byteCells (l++t)=Lib.byteCells l++Lib.byteCells t:=by unfold Lib.byteCells;rw[zbc]
  rw[this];exact S
 have J:Keep b h u:=k2.trans ⟨by omega,λi hi=>r i (by omega) λq n=>by have:=j.base_le q n;omega⟩ (zac _);refine yQ I Q D λM E G T L=>?_;rw[c];exact N M E (J.trans G (zac _)) (F.trans ((Itk.own j r).trans L))
theorem Hb(H:Bld h b l)(t:Bs)(e:l.length+t.length<=140737488355328)(c:∀h',Bld h' b (l++t)->Keep b h h'->K (.tuple #[.int .i64 (t.length:Int),.nilIface]) h'):
  XC Tp 68 #[.pointer (Td ⟨b,0,Te⟩),.string (bl t)] h K:=
 EH H t e λh' a b _=>c h' a b
theorem Ar(H:Bld h b l)(n:∀h',Keep b h h'->K (.string (bl l)) h'):XC Tp 70 #[.pointer (Td ⟨b,0,Te⟩)] h K:=by
 have j:=H.lt;obtain⟨p,s,e,m,i⟩:=H;refine XC.of_calls λB d=>(QA b b l (mk B d h) ?_ (zey j)).mono ?_;have k:Lib.BuilderAt 89 5 b b (.pointer p) (Lib.byteCells l) (mk B d h):=by
  refine⟨zac _,aK s,e,?_,?_⟩;have h1:=i.1;rw[zbm]at h1;rw[h1];exact i.base (Nat.le_succ b);intro f;cases ha:s.a with
  |none=>rw[aK,ha]at f;cases f
  |some q=>
   have:=i.base_le q ha;rw[aK,ha]at f;have:q.block=b:=by simpa[Value.ownBlock]using f
   omega
 rcases m with rfl|rfl;exact .inl k;exact .inr k;rintro e' w' ⟨rfl,c⟩;exact⟨_,rfl,c.os,c.tape,c.output,n _ ⟨c.size,c.block⟩⟩
end
section
open Go.Lib
theorem XT(l:Bs):decodeL l=dec l:=by rw[decodeL_N,dec]
theorem EX{l:Bs}(h:l≠[])(b:jO (dec l)=Tc):encodeRune ((dec l).1:Int)=l.take (dec l).2:=by rw[<-XT]at b ⊢;refine encode_decode l h λ⟨h1,c⟩=>?_;unfold jO at b;rw[h1,c]at b;cases b
theorem ZA(l:Bs):(dec l).1<=1114111:=by
 have h0:=(l.getD 0 0).toNat_lt;have h1:=(l.getD 1 0).toNat_lt;have c:=(l.getD 2 0).toNat_lt;have b:=(l.getD 3 0).toNat_lt;unfold dec decodeN;repeat' split
 all_goals (simp only;omega)
def nc(c:UInt8):Bs:=
 if c=34\/c=92 then [92,c]else if c=8 then [92,98]else if c=12 then [92,102]else if c=10 then [92,110]else if c=13 then [92,114]else if c=9 then [92,116]
 else if c.toNat<32 then [92,117,48,48,zc7 (48+c.toNat / 16),zc7 (if c.toNat % 16<10 then 48+c.toNat % 16 else 87+c.toNat % 16)]else [c]
def iL(l:Bs):Bs:=l.flatMap nc
def iO(l:Bs):Bs×Int:=if Qq l then(34::iL l++[34],0)else([],2)
end
section
open Go.RowKit
theorem LX{h:zc}{b:Nat}{l:Bs}(H:Bld h b l){r:Int}(h0:0<=r)(h1:r<=1114111)(hl:l.length+4<=140737488355328){K:Value->zc->Prop}(N:∀h' n,Bld h' b (l++Lib.encodeRune r)->Keep b h h'->Itk h h'->K (.tuple #[.int .i64 n,.nilIface]) h'):
  XC Tp 198 #[.pointer (Td ⟨b,0,Te⟩),.int .i32 r] h K:=by
 apply Qv;refine vW H λf C k2 z2 F=>⟨rfl,_,rfl,?_⟩;have t:=C.lt;obtain⟨p,s,e,S,w⟩:=C;have u:=w.1;rw[Lib.byteCells_length,zbm]at u;have c1:=Blk.cellAdd (o:=0) (k:=1) (v:=aK s) (cs:=#[.pointer p,aK s]) ⟨_,e⟩ rfl;refine⟨s,c1,_,rfl,s,c1,?_⟩;refine XC.of_calls λB d=>(Wp (b+1) (aK s) s.len (Lib.byteCells l) r (by omega) (by omega) (mk B d f) w (by omega) (show b+1<=f.size by omega)).mono ?_;rintro e' w' ⟨D,rfl,q,o,j⟩;obtain⟨m,rfl,Y⟩:∃m:Sl,D=aK m/\m.len=s.len+(Lib.runeCells r).length:=by rcases q.2 with⟨rfl,hz⟩|⟨g,cap,T,rfl,_⟩;exact⟨⟨Te,0,0⟩,rfl,hz.symm⟩;exact⟨⟨_,_,_⟩,rfl,rfl⟩
 have E:Owns w'.heap (b+1) 5 1 m (Lib.byteCells (l++Lib.encodeRune r)):=by
  have Z:Lib.byteCells (l++Lib.encodeRune r)=Lib.byteCells l++Lib.runeCells r:=by rw[<-Lib.byteCells_encodeRune];unfold Lib.byteCells;rw[zbc]
  rw[Z];rw[<-Y]at q;exact q
 have I:w'.heap[b]?=Td (.cells #[.pointer p,aK s] 89 (0,0)):=by
  have x:=j.block b (by show b<(f.push o).size;rw[zaf];omega) (by
   intro c;cases ha:s.a with
   |none=>rw[aK,ha]at c;cases c
   |some a=>have:=w.base_le a ha;rw[aK,ha]at c;simp only[Value.ownBlock,zad]at c;omega)
  rw[x];show(f.push o)[b]?=_;rw[Array.getElem?_push_lt t,<-e];simp[t]
 have J:Keep b h w'.heap:=by
  refine k2.trans ⟨?_,λi hi=>?_⟩ (zac _);have:=j.size;have V:(f.push o).size<=w'.heap.size:=this;rw[zaf]at V;omega;have x:=j.block i (by show i<(f.push o).size;rw[zaf];omega) (by
   intro c;cases ha:s.a with
   |none=>rw[aK,ha]at c;cases c
   |some a=>have:=w.base_le a ha;rw[aK,ha]at c;simp only[Value.ownBlock,zad]at c;omega)
  rw[x];show(f.push o)[i]?=_;rw[Array.getElem?_push_lt (by omega)];simp[show i<f.size by omega]
 have P:Itk f w'.heap:=Itk.own w λi hi y=>by
  have x:=j.block i (by show i<(f.push o).size;rw[zaf];omega) (by
   intro c;cases ha:s.a with
   |none=>rw[aK,ha]at c;cases c
   |some a=>have:=y a ha;rw[aK,ha]at c;simp only[Value.ownBlock,zad]at c;exact this c)
  rw[x];show(f.push o)[i]?=_;rw[Array.getElem?_push_lt hi];simp[hi]
 refine⟨_,rfl,j.os,j.tape,j.output,m,rfl,_,rfl,?_⟩;refine yQ I S E λM A G z7 L=>?_;have O:=A;obtain⟨Q,z,U,_,_⟩:=O;exact⟨_,rfl,z,Blk.cellAdd (o:=0) (k:=1) (v:=aK z) (cs:=#[.pointer Q,aK z]) ⟨_,U⟩ rfl,N M _ A (J.trans G (zac _)) (F.trans (P.trans L))⟩
end
section
open Go.Lib
theorem OX(l:Bs):(replaceAll l [126] [126,48]).length<=2*l.length:=by
 rw[yH (by simp) (by simp),uJ];induction l with
 |nil=>simp
 |cons c t e=>
  rw[zcd,zah,zaw];have:(if c=126 then [126,48]else [c]:Bs).length<=2:=by by_cases b:c=126;rw[zA b];simp;rw[zv b];simp
  omega
end
section
variable {gl:Fr} {l:List Bt}
theorem Aj(B:GL gl)(D:SL l){R:Bool->Prop}(H:R (wn l)):PC Tp gl 78 [Arg.mk (.row .str) l] [.bool] R:=by
 intro h M vs t ag G
 match vs,G with
 |[u],⟨hu,_⟩=>
  obtain⟨s,rfl,k⟩:=Xq hu;have k:Rd M (.row .str) l [aK s]:=k;obtain⟨i,I,E⟩:=rowLen k;apply PX.of;apply Tx s;have r:decide (((s.len:Nat):Int)<=64)=decide (l.length<=64):=by rw[i,zbe,zG,zG];omega
  rw[r];refine⟨λv h'=>∃b,v=.bool b/\(decide (l.length<=64)=Ta->b=l.any λx=>!(Qq (lb x)))/\∃M',Later h M h' M',λj=>?_,λj=>⟨Ta,Ta,rfl,λe=>(by rw[e]at j;cases j),M,Later.refl ag⟩,λ_ v h' ⟨b,e,_⟩=>⟨b,e⟩,?_⟩;refine(QY (gl:=gl) ag k (p:=λx=>!(Qq (lb x))) λx F=>⟨by kernel_rfl,λh' M' O L' m=>?_⟩).go λw L J b C c o=>⟨b,Xh c,b,rfl,λ_=>o,J,C⟩;have:=Ze m;subst this;apply PX.of;show XC Tp 136 #[.string x] h' _;apply QC;have q:=KO B.tabs (l:=lb x) (R:=λb=>b=Qq (lb x)) (by have:=D.s x F;omega) rfl;rw[jp]at q;exact q.go (vs:=[.string x]) (t.trans L'.le) L'.ag (zr (rdStr _) qj) λw N y b z f n=>⟨b,Xh f,y,_,z,Y1.2 (rdBool _),by rw[n]⟩;rintro b h' ⟨b',e,A,M',L'⟩;cases e;refine⟨M',_,L',Y1.2 (rdBool _),?_⟩;have:(bif decide (l.length<=64)then !b else Tc)=wn l:=by
   unfold wn;cases j:decide (l.length<=64)with
   |false=>rfl
   |true=>rw[A j,zK,zct,zbe];simp
  rw[this];exact H
theorem DW(e:GL gl){s old new:Bs}(j:s.length<=4194304)(b:1<=old.length)(f:new.length<=2){R:Bt->Prop}(h:R (bl (Lib.replaceAll s old new))):PC Tp gl 134 [Arg.mk .str (bl s),Arg.mk .str (bl old),Arg.mk .str (bl new)] [.str] R:=by have c:=Lib.countB_le (bl old) (by rw[zu];exact b) (bl s).size (bl s) (zac _);rw[zu]at c;have i:Lib.countB (bl s) (bl old)*new.length<=s.length*2:=zd0 c f;refine U1 e.max (by rw[zu];omega) (by rw[zu];exact b) (by rw[zu,zu];omega) ?_;rw[yo,yo,yo];exact h
theorem EP(S:GL gl)(U:SL l){R:Bt×Int->Prop}(h1:wn l=Ta->R (bl (iX (l.map lb)),0))(h2:wn l=Tc->R (bl [],1)):PC Tp gl 75 [Arg.mk (.row .str) l] [.str,.int .i64] R:=by
 intro h M vs hM ag ha
 match vs,ha with
 |[u],⟨hu,_⟩=>
  obtain⟨s,rfl,L⟩:=Xq hu;have L:Rd M (.row .str) l [aK s]:=L;obtain⟨ac,au,aj⟩:=rowLen L;have ret:∀(M':Fr) (x:Bt) (e:Int),J4 M' [.str,.int .i64] (x,e) (.tuple #[.string x,.int .i64 e]):=λM' x e=>⟨[_,_],⟨_,_,rfl,rfl,_,rfl,rfl⟩,rfl⟩;apply PX.of;apply Su s;have q:PC Tp gl 78 [Arg.mk (.row .str) l] [.bool] (λr=>r=wn l):=Aj S U rfl;refine q.go (vs:=[aK s]) hM ag (zr hu qj) λw g z r o D A=>⟨r,Xh D,λB=>⟨z,_,o,ret _ _ _,h2 (by rw[<-A];simpa using B)⟩,λB=>?_⟩;have n:wn l=Ta:=by rw[<-A];simpa using B
  have hn:l.length<=64:=by unfold wn at n;simp at n;exact n.1
  have tl:∀k,(iX ((l.take k).map lb)).length<=200000000:=by
   intro k;have:=Iw (l:=(l.take k).map lb) (m:=1048576) λx B=>by obtain⟨y,hy,rfl⟩:=zay.1 B;exact U.s y (zcq hy)
   have e:((l.take k).map lb).length<=64:=by rw[zap,zbl];omega
   have:((l.take k).map lb).length*(2*1048576+1)<=64*(2*1048576+1):=za8 _ e;omega
  intro F;have N:Later g z F z:=Later.push o.ag _;have b4:Bld F g.size []:=Bld.new g;have ae:=o.trans N;have ah:=b4.lt;clear_value F;refine⟨λi G=>∃k:Nat,i=k/\k<=l.length/\Bld G g.size (iX ((l.take k).map lb))/\Keep g.size F G,λi _=>l.length-i.toNat,⟨0,rfl,by omega,by simpa[iX]using b4,Keep.refl _ _⟩,?_⟩;rintro i G ⟨k,rfl,hk,T,k8⟩;have gz:g.size<=F.size:=N.keep.size;have t:Keep g.size g G:=N.keep.trans k8 (zac _);have Q:AgM z G:=o.ag.keep t;refine⟨λP=>?_,λP=>?_⟩;have b:k<l.length:=by simp at P;omega
  refine jP Q (Rd.mono o.le L) b rfl rfl ?_;have hT:=tl k;have an:=U.s _ (zak b);refine Nj T (by omega) 47 λh9 B9 J=>⟨_,rfl,?_⟩;have V:=t.trans J (zac _);have Y:AgM z h9:=o.ag.keep V;have e1:=Ie (lb l[k]);have af:=OX (lb l[k]);have p1:=DW (gl:=gl) S (s:=lb l[k]) (old:=[126]) (new:=[126,48]) (by omega) (by simp) (by simp) (R:=λr=>r=bl (Lib.replaceAll (lb l[k]) [126] [126,48])) rfl;rw[jp]at p1;have E:=hM.trans o.le;refine p1.go (vs:=[.string l[k],.string (bl [126]),.string (bl [126,48])]) E Y (zr (rdStr _) (zr (rdStr _) (zr (rdStr _) qj))) λv ai am r f c I=>⟨r,lG c,?_⟩;subst I;have p2:=DW (gl:=gl) S (s:=Lib.replaceAll (lb l[k]) [126] [126,48]) (old:=[47]) (new:=[126,49]) (by omega) (by simp) (by simp) (R:=λr=>r=bl (lT (lb l[k]))) (by rw[YZ]);refine p2.go (vs:=[.string _,.string (bl [47]),.string (bl [126,49])]) (E.trans f.le) f.ag (zr (rdStr _) (zr (rdStr _) (zr (rdStr _) qj))) λv ar ak r O j C=>⟨r,lG j,?_⟩;subst C;have H:=f.keep.trans O.keep f.keep.size;have Z:=B9.keep H;refine Hb Z _ (by simp only[zah,zcu];omega) λal ab aa=>⟨_,_,rfl,?_⟩;have hw:=je b (by omega);rw[hw];refine⟨⟨k+1,rfl,by omega,?_,?_⟩,by simp only[zae];omega⟩;rw[zal b,zbc,IC];have:iX (List.map lb [l[k]])=[47]++lT (lb l[k]):=by simp[iX]
  rw[this,<-za9];exact ab;have z9:=B9.lt;exact((k8.trans J (zac _)).trans (H.mono (by omega)) (zac _)).trans aa (zac _);have b:k=l.length:=by simp at P;omega
  subst b;rw[zba]at T;refine Ar T λh9 J=>⟨_,rfl,z,_,?_,ret _ _ _,h1 n⟩;exact o.trans (Later.same o.ag (t.trans J (zac _)))
end
section
open Go.RowKit
theorem KP{z:UInt8}(h:128<=z.toNat):Lib.indexByte [95] z=-1:=by
 have:z≠95:=by rintro rfl;revert h;decide
 unfold Lib.indexByte;simp[Lib.indexByte,this.symm]
theorem UZ{z:UInt8}:Lib.indexByte [] z=-1:=by simp[Lib.indexByte]
def VR(r:Int)(e:Ending):Prop:=∃b,e=.returned (.bool b)/\(b=Ta->(0<=r/\r<55296)\/(57343<r/\r<=1114111))
set_option maxHeartbeats 4000000 in
set_option maxRecDepth 1000000 in
theorem NK(r:Int)(w:World):Calls Tp 394 #[.int .i32 r] w λe w'=>VR r e/\w'=w:=by
 have mixed:=Tryz.mixed
 go_enter Tryz.func394,Tryz.ntmps394
 by_cases h1:0<=r <;> by_cases b:r<55296 <;> by_cases f:57343<r <;> by_cases c:r<=1114111 <;> (go_wp2;go_ret;exact⟨⟨_,rfl,λh=>by first|omega|cases h⟩,rfl⟩)
theorem Mv(r:Int)(h:128<=r):(∃a z:UInt8,zfg r=⟨#[a,z]⟩/\128<=z.toNat)\/(∃a b z:UInt8,zfg r=⟨#[a,b,z]⟩/\128<=z.toNat)\/(∃a b c z:UInt8,zfg r=⟨#[a,b,c,z]⟩/\128<=z.toNat):=by
 have hz:∀n:Nat,128<=(zc7 (128+n % 64)).toNat:=λn=>by have:(zc7 (128+n % 64)).toNat=(128+n % 64) % 256:=UInt8.toNat_ofNat;rw[this,Nat.mod_eq_of_lt (by omega)];omega
 have i:∃c:Nat,128<=c/\(if Utf8.valid r then r.toNat else Utf8.runeError)=c:=by refine⟨_,?_,rfl⟩;split;omega;decide
 obtain⟨c,j,e⟩:=i;unfold zfg;simp only[e];rw[zv (by omega)];by_cases h1:c<2048;rw[zA h1];exact .inl ⟨_,_,rfl,hz _⟩;rw[zv h1];by_cases f:c<65536;rw[zA f];exact .inr (.inl ⟨_,_,_,rfl,hz _⟩);rw[zv f];exact .inr (.inr ⟨_,_,_,_,rfl,hz _⟩)
def IR(e:Ending):Prop:=∃n,e=.returned (.int .i64 n)
set_option maxHeartbeats 4000000 in
set_option maxRecDepth 1000000 in
theorem Mo(r:Int)(w:World)(h1:128<=r)(n:r≠65533):Calls Tp 369 #[.string ⟨#[43,45,95]⟩,.int .i32 r] w λe w'=>IR e/\Below w.heap.size w w':=by
 have mixed:=Tryz.mixed;have k:∀args w,(callFunc 319 args).run Tp w=.ok (.enter 319 args) w:=enters_of Tryz.func319 (by kernel_rfl) rfl;have l:∀args w,(callFunc 394 args).run Tp w=.ok (.enter 394 args) w:=enters_of Tryz.func394 (by kernel_rfl) rfl;have g1:¬r<128:=by omega
 go_enter Tryz.func369,Tryz.ntmps369
 go_wp2_with (go_at_fn 394;refine(NK _ _).mono ?_;rintro e w' ⟨⟨b,rfl,o⟩,m⟩;rw[m];cases b)
 go_ret
 exact⟨⟨_,rfl⟩,Below.refl _ _⟩
 ·rcases Mv r h1 with⟨a,z,j,hz⟩|⟨a,b,z,j,hz⟩|⟨a,b,c,z,j,hz⟩
  ·have f:=λ(w:World)=>run_convert_int_string (P:=Tp) w 21 9 .i32 r (by kernel_rfl) (by kernel_rfl);rw[j]at f;refine wp_scope_straight ?_
   go_wp2
   go_loop [9] (λv=>v=.int .i64 1) (λ_=>0)
   case atStart=>rfl
   case round=>
    subst hrel
    go_wp2
    refine wp_scope_straight ?_;have i:((45:Int) != (z.toNat:Int))=Ta:=bne_iff_ne.2 (by omega)
    go_wp2
    go_region
    simp only[show ∀h,((⟨#[43,45,95]⟩:Bt)[1]'h)=45 from λ_=>rfl,show ∀h,((⟨#[a,z]⟩:Bt)[1]'h)=z from λ_=>rfl,show((45:UInt8).toNat:Int)=45 from rfl,i];all_goals go_wp2
    all_goals go_region_with (go_at_call 319;refine(xq _ _ _).mono ?_;rintro e w' ⟨rfl,rfl⟩)
    all_goals simp only[show ∀h,((⟨#[a,z]⟩:Bt)[1]'h)=z from λ_=>rfl,KP hz]
    all_goals go_wp2
    all_goals simp only[Exit.noGoto,Exit.inBlock]
    all_goals go_wp2
    all_goals simp only[Exit.noGoto,Exit.inBlock]
    all_goals go_wp2
    all_goals go_ret
    all_goals exact⟨⟨_,rfl⟩,D6 w 2⟩
  ·have f:=λ(w:World)=>run_convert_int_string (P:=Tp) w 21 9 .i32 r (by kernel_rfl) (by kernel_rfl);rw[j]at f;refine wp_scope_straight ?_
   go_wp2
   go_loop [9] (λv=>v=.int .i64 2) (λ_=>0)
   case atStart=>rfl
   case round=>
    subst hrel
    go_wp2
    refine wp_scope_straight ?_;have i:((95:Int) != (z.toNat:Int))=Ta:=bne_iff_ne.2 (by omega)
    go_wp2
    go_region
    simp only[show ∀h,((⟨#[43,45,95]⟩:Bt)[2]'h)=95 from λ_=>rfl,show ∀h,((⟨#[a,b,z]⟩:Bt)[2]'h)=z from λ_=>rfl,show((95:UInt8).toNat:Int)=95 from rfl,i];all_goals go_wp2
    all_goals go_region_with (go_at_call 319;refine(xq _ _ _).mono ?_;rintro e w' ⟨rfl,rfl⟩)
    all_goals simp only[show ∀h,((⟨#[a,b,z]⟩:Bt)[2]'h)=z from λ_=>rfl,UZ]
    all_goals go_wp2
    all_goals simp only[Exit.noGoto,Exit.inBlock]
    all_goals go_wp2
    all_goals simp only[Exit.noGoto,Exit.inBlock]
    all_goals go_wp2
    all_goals go_ret
    all_goals exact⟨⟨_,rfl⟩,D6 w 2⟩
  ·have f:=λ(w:World)=>run_convert_int_string (P:=Tp) w 21 9 .i32 r (by kernel_rfl) (by kernel_rfl);rw[j]at f;refine wp_scope_straight ?_
   go_wp2
   go_loop [9] (λv=>v=.int .i64 3) (λ_=>0)
   case atStart=>rfl
   case round=>
    subst hrel
    go_wp2
    go_ret
    exact⟨⟨_,rfl⟩,Below.refl _ _⟩
end
section
open Go.Lib
variable {l:Bs}
def oe(l:Bs):Prop:=∀c∈l,c.toNat<128
theorem Dj(cs:Bs):∀l:Bs,containsAny l cs=l.any λc=>cs.contains c
 |[]=>by simp[containsAny,indexAny]
 |c::l=>by
  have h:=Dj cs l;have f:=indexAny_ge cs l;rw[List.any_cons,<-h];unfold containsAny;rw[indexAny];by_cases b:cs.contains c=Ta;rw[zA b,b];simp;have e:cs.contains c=Tc:=by simpa using b
  rw[zv b,e,Bool.false_or];by_cases h1:indexAny l cs=-1;simp[h1];have i:(indexAny l cs==-1)=Tc:=by rw[beq_eq_false_iff_ne];exact h1
  rw[i,zv (by simp),zbe,zG,zG];omega
theorem ES:∀(l:Bs) (b:Nat),l.all ya=Ta->b*10 ^ l.length+zn l<10 ^ 18->parseUint10 b l=.ok (b*10 ^ l.length+zn l)
 |[],b,_,_=>by simp[parseUint10,zn]
 |c::t,b,hd,hl=>by
  rw[zdf,zam]at hd
  have i:48<=c.toNat/\c.toNat<=57:=by simpa[ya]using hd.1
  have e:zn (c::t)=(c.toNat-48)*10 ^ t.length+zn t:=by
   have:=Ws [c] t
   rw[List.singleton_append]at this
   rw[this];simp[zn]
  have f:(b*10+(c.toNat-48))*10 ^ t.length+zn t=b*10 ^ (c::t).length+zn (c::t):=by
   rw[e,zaw,ze8,zcs,Nat.mul_assoc,zd7 10 (10 ^ t.length)];omega
  have h:1<=10 ^ t.length:=Nat.one_le_pow _ _ (by decide)
  have j:b*10+(c.toNat-48)<=b*10 ^ (c::t).length+zn (c::t):=by
   rw[<-f]
   calc b*10+(c.toNat-48)=(b*10+(c.toNat-48))*1:=by omega
    _<=(b*10+(c.toNat-48))*10 ^ t.length:=Nat.mul_le_mul_left _ h
    _<=_:=by omega
  rw[parseUint10,zA i,zv (by omega),zv (by omega),ES t _ hd.2 (by rw[f];exact hl),f]
theorem AS:∀(l:Bs) (b:Nat),l.all ya=Tc->∀v,parseUint10 b l≠.ok v
 |[],b,h,v=>by simp at h
 |c::t,b,h,v=>by
  rw[parseUint10];by_cases e:48<=c.toNat/\c.toNat<=57;have i:ya c=Ta:=by simp[ya,e]
  rw[zdf,i,zct]at h;rw[zA e];by_cases h1:1844674407370955162<=b;rw[zA h1];simp;rw[zv h1];by_cases f:18446744073709551616<=b*10+(c.toNat-48);rw[zA f];simp;rw[zv f];exact AS t _ h v;rw[zv e];simp
theorem N6(b:l.all ya=Ta)(e:l≠[])(i:l.length<=9):atoiAll l=.ok (zn l:Int):=by
 have j:zn l<10 ^ 9:=r9 i b;have h:=ES l 0 b (by rw[zeg];omega);rw[zeg,zas]at h;obtain⟨c,t,rfl⟩:=zcw e;have k:48<=c.toNat/\c.toNat<=57:=by rw[zdf,zam]at b;simpa[ya]using b.1
 unfold atoiAll;simp only;rw[zv (by omega)];unfold parseMag;rw[zv (by simp),h];have f:¬c.toNat=45:=by omega
 simp only[f,not_false_eq_true,true_and,false_and,if_false];rw[zv (by omega)]
theorem RE(b:l.all ya=Tc)(e:∀c,l.head?=Td c->c.toNat≠43/\c.toNat≠45)(v:Int):atoiAll l≠.ok v:=by
 cases l with
 |nil=>simp at b
 |cons c t=>
  have f:=e c rfl;unfold atoiAll;simp only;rw[zv (by omega)];unfold parseMag;rw[zv (by simp)];have:=AS (c::t) 0 b;cases hp:parseUint10 0 (c::t)with
  |ok u=>exact absurd hp (this u)
  |range=>simp
  |_=>simp
theorem No(h:¬oe l)(v:Int):atoiAll l≠.ok v:=by
 have i:∀m:Bs,¬oe m->∀u,parseMag m≠.ok u:=by intro m f u;unfold parseMag;split;simp;apply AS;rw[zen];intro b;apply f;intro c e;rw[za7]at b;have:=b c e;simp[ya]at this;omega
 cases l with
 |nil=>exact absurd (λc e=>by cases e) h
 |cons c t=>
  unfold atoiAll;simp only;have f:¬oe (if c.toNat=43\/c.toNat=45 then t else c::t):=by split;rename_i e;intro j;apply h;intro d b;rcases zan.1 b with rfl|b;omega;exact j d b;exact h
  have:=i _ f;cases hp:parseMag (if c.toNat=43\/c.toNat=45 then t else c::t)with
  |ok u=>exact absurd hp (this u)
  |range=>simp
  |_=>simp
def ir(l:Bs):Int×Bool:=if l.length<1\/9<l.length\/(1<l.length/\l.head?=Td 48)then(0,Tc)else if l.all ya then((zn l:Int),Ta)else(0,Tc)
theorem FC(h:(ir l).2=Ta):0<=(ir l).1/\(ir l).1<1000000000:=by unfold ir at h ⊢;split;rename_i c;rw[zA c]at h;cases h;rename_i c;rw[zv c]at h;split;rename_i b;have:zn l<10 ^ 9:=r9 (by omega) b;simp only;omega;rename_i b;rw[zv b]at h;cases h
end
section
theorem Xs(gl:Fr)(c:Bt)(b:Bt)(R:Bool->Prop) (H:PC Tp gl 391 [Arg.mk .str c,Arg.mk .str b] [.int .i64] (λa:Int=>R (decide (a>=0)))):
  PC Tp gl 365 [Arg.mk .str c,Arg.mk .str b] [.bool] R:=
 PF ⟨[],[],[],[]⟩ [.tmp 4] 9 Tryz.func365 H
theorem WP(gl:Fr)(k:Bt)(j:Bt)(R:Int->Prop) (H:((j.toList==(⟨#[]⟩:Bt).toList)=Ta->R (-1))/\((j.toList==(⟨#[]⟩:Bt).toList)=Tc->(((j.size:Int)==1)=Ta->(0<=(0:Int)/\(0:Int)<(j.size:Int))/\∀a:Int->Prop,(∀b:Int,(PC Tp gl 369 [Arg.mk .str k,Arg.mk (.int .i32) b] [.int .i64] (λc:Int=>R c))->a b)->((decide ((zaa .i32 (yf j (0:Int).toNat))>=128))=Ta->a 65533)/\((decide ((zaa .i32 (yf j (0:Int).toNat))>=128))=Tc->a (zaa .i32 (yf j (0:Int).toNat))))/\(((j.size:Int)==1)=Tc->∀d:Prop,((∃(e:(Bt×Nat)->Prop) (f:(Bt×Nat)->Nat),e (k,0)/\∀h:Bt×Nat,e h->(((iD h.1 h.2)=Ta->(iD h.1 h.2)=Ta/\(iD h.1 h.2)=Ta/\PC Tp gl 369 [Arg.mk .str j,Arg.mk (.int .i32) (jC h.1 h.2)] [.int .i64] (λg:Int=>(decide (g>=0)=Ta->R (h.2:Int))/\(decide (g>=0)=Tc->(e (h.1,iH h.1 h.2)/\f (h.1,iH h.1 h.2)<f h))))/\((iD h.1 h.2)=Tc->R (-1))))->d)->PC Tp gl 404 [Arg.mk PJ (k.size:Int)] [.bool] (λi:Bool=>(i=Ta->False)/\(i=Tc->d))))):
  PC Tp gl 391 [Arg.mk .str k,Arg.mk .str j] [.int .i64] R:=
 PF ⟨[],[],[(18,⟨[],[(45,[.dat .iter])],[],[1002880]⟩)],[(7,⟨[(5,.one (.dat (.int .i32)))],[],[],[100320]⟩),(17,⟨[],[],[],[]⟩)]⟩ [.tmp 4] 55 Tryz.func391 H
theorem Qs(gl:Fr)(h:Bt)(f:Int)(R:Int->Prop) (H:((bif (decide ((0:Int)<=f))then(decide (f<128))else Tc)=Ta->PC Tp gl 319 [Arg.mk .str h,Arg.mk (.int .u8) (zaa .u8 f)] [.int .i64] (λa:Int=>R a))/\((bif (decide ((0:Int)<=f))then(decide (f<128))else Tc)=Tc->((f==65533)=Ta->∃(b:(Bt×Nat)->Prop) (c:(Bt×Nat)->Nat),b (h,0)/\∀e:Bt×Nat,b e->(((iD e.1 e.2)=Ta->(iD e.1 e.2)=Ta/\(iD e.1 e.2)=Ta/\(((jC e.1 e.2:Int)==65533)=Ta->R (e.2:Int))/\(((jC e.1 e.2:Int)==65533)=Tc->(b (e.1,iH e.1 e.2)/\c (e.1,iH e.1 e.2)<c e)))/\((iD e.1 e.2)=Tc->R (-1))))/\((f==65533)=Tc->PC Tp gl 394 [Arg.mk (.int .i32) f] [.bool] (λd:Bool=>((!d)=Ta->R (-1))/\((!d)=Tc->False))))):
  PC Tp gl 369 [Arg.mk .str h,Arg.mk (.int .i32) f] [.int .i64] R:=
 PF ⟨[],[],[(38,⟨[],[(175,[.dat .iter])],[],[1011200]⟩)],[]⟩ [.tmp 4] 187 Tryz.func369 H
theorem Qw(gl:Fr)(b:Int)(R:Bool->Prop) (H:R (decide (b>8))):
  PC Tp gl 404 [Arg.mk PJ b] [.bool] R:=
 PF ⟨[],[],[],[]⟩ [.tmp 2] 5 Tryz.func404 H
end
section
open Go.RowKit
section
variable {gl:Fr} {R:Int -> Prop} {l:Bs}
theorem Ff{f:FuncId}{args:List Arg}{us:List Value}(c:nD args=Td us)(j:∀n,R n)
  (H:∀w:World,Calls Tp f us.toArray w λe w'=>IR e/\Below w.heap.size w w'):PC Tp gl f args [.int .i64] R:=by
 intro h M vs l ag i;rw[s5 c i];refine XC.of_calls λB d=>(H (mk B d h)).mono ?_;rintro e w' ⟨⟨n,rfl⟩,b⟩;have k:Keep h.size h w'.heap:=⟨b.size,b.block⟩;exact⟨_,rfl,b.os,b.tape,b.output,k,M,n,Fr.le.refl _,λ_ _=>rfl,ag.keep k,xM _ _,j n⟩
theorem OG{r:Int}(k:0<=r)(b:∀n,R n):PC Tp gl 369 [Arg.mk .str (bl [43,45,95]),Arg.mk (.int .i32) r] [.int .i64] R:=by
 by_cases h1:r<128;apply Qs;have e:(bif decide ((0:Int)<=r)then decide (r<128)else Tc)=Ta:=by simp[k,h1]
 rw[e];exact⟨λ_=>Bu (b _),λc=>by cases c⟩;by_cases i:r=65533;subst i;apply Qs;refine⟨λ_=>Bu (b _),λ_=>⟨λ_=>?_,λc=>by cases c⟩⟩;refine⟨λq=>∃p:Nat,q=(bl [43,45,95],p),λq=>3-q.2,⟨0,rfl⟩,?_⟩;rintro q ⟨p,rfl⟩;simp only[rU];refine⟨λf=>⟨f,f,λ_=>b _,λ_=>⟨⟨_,rfl⟩,?_⟩⟩,λ_=>b _⟩;have h:p < [43,45,95].length:=by simpa using f
 have j:p<3:=h;rw[nK _ _ h];have:=(Qa (([43,45,95]:Bs).drop p)).1;omega;exact Ff (us:=[.string ⟨#[43,45,95]⟩,.int .i32 r]) rfl b λw=>Mo r w (by omega) i
theorem SC(w:World)(b c:Obj):Below w.heap.size w ((w.alloc b).alloc c):=((Below.refl _ w).alloc (zac _) b).alloc (by show w.heap.size<=(w.heap.push b).size;simp) c
theorem NQ(l:Bs):(0:Int)<=((dec l).1:Int):=Int.natCast_nonneg _
theorem TF(B:l.length<=9){R:Bool->Prop}(h1:oe l->R (l.any λc=>[43,45,95].contains c))(o:¬oe l->∀b,R b):PC Tp gl 365 [Arg.mk .str (bl l),Arg.mk .str (bl [43,45,95])] [.bool] R:=by
 have i:∀(j:Nat) (b:UInt8),([43,45,95]:Bs)[j]?=Td b->b.toNat<128:=by intro j b f;have:b∈([43,45,95]:Bs):=zcg f;simp at this;rcases this with rfl|rfl|rfl <;> decide
 by_cases m:oe l;refine ZH (s:=bl l) (c:=bl [43,45,95]) (by rw[zu];omega) (by rw[zu];decide) ?_ ?_ ?_;rw[yo];exact λj b f=>m b (zcg f);rw[yo];exact i;rw[yo,yo,Dj];exact h1 m;have f:=o m;apply Xs;by_cases A:l.length<=8;apply WP;have y:((bl [43,45,95]).toList==(⟨#[]⟩:Bt).toList)=Tc:=by rw[I2,yo];rfl
 have u:((((bl [43,45,95]).size:Int))==1)=Tc:=by rw[zu];rfl
 rw[y,u];refine⟨λh=>(by cases h),λ_=>⟨λh=>(by cases h),λ_ K r=>?_⟩⟩;apply Qw;have z:decide (((bl l).size:Int)>8)=Tc:=by rw[zu];simp;omega
 rw[z];refine⟨λh=>(by cases h),λ_=>r ?_⟩;refine⟨λq=>∃p:Nat,q=(bl l,p),λq=>l.length-q.2,⟨0,rfl⟩,?_⟩;rintro q ⟨p,rfl⟩;simp only[rU];refine⟨λk=>⟨k,k,?_⟩,λ_=>f _⟩;have x:p<l.length:=by simpa using k
 refine OG (by rw[qO];exact NQ _) λn=>⟨λ_=>f _,λ_=>⟨⟨_,rfl⟩,?_⟩⟩;rw[nK _ _ x];have:=(Qa (l.drop p)).1;omega;refine Ff (us:=[.string (bl l),.string (bl [43,45,95])]) rfl (λn=>f _) λw=>?_;have hz:=(zero_of_info (P:=Tp) (t:=280) (v:=.agg (zc4 256 (.bool Tc))) (n:=256) (by kernel_rfl)).1;refine(Wu hz (bl l) (bl [43,45,95]) w (by rw[zu];decide) (by rw[zu];omega) (by rw[zu];omega) (by rw[zu];decide) i).mono ?_;rintro e w' ⟨rfl,rfl⟩;exact⟨⟨_,rfl⟩,SC w _ _⟩
theorem YT:(bif (bif (l==[])then Ta else decide ((l.length:Int)>9))then Ta else(bif (!(l==[48]))then((((l[0]?).getD 0).toNat:Int)==48)else Tc))=decide (l.length<1\/9<l.length\/(1<l.length/\l.head?=Td 48)):=by
 match l with
 |[]=>simp
 |[c]=>
  rw[zbe,zG];by_cases i:c=48;subst i;simp;have:((c.toNat:Int)==48)=Tc:=by have:=Hk (c:=c) (n:=48) 48 rfl;unfold bne at this;rw[<-Bool.not_not ((c.toNat:Int)==48),this];simp[i]
  show(bif (bif ([c]==[])then Ta else decide ((([c]:Bs).length:Int)>9))then Ta else(bif (!([c]==[48]))then((c.toNat:Int)==48)else Tc))=Ta↔_;rw[this];simp
 |c::d::t=>
  have e:((c.toNat:Int)==48)=(c==48):=by have:=Hk (c:=c) (n:=48) 48 rfl;unfold bne at this;rw[<-Bool.not_not ((c.toNat:Int)==48),this,Bool.not_not]
  show(bif (bif ((c::d::t)==[])then Ta else decide (((c::d::t:Bs).length:Int)>9))then Ta else(bif (!((c::d::t)==[48]))then((c.toNat:Int)==48)else Tc))=_;rw[e,zbe,zG];have f:¬(c::d::t:Bs).length<1:=by simp
  have b:1<(c::d::t:Bs).length:=by simp
  have h1:((c::d::t:Bs)==[])=Tc:=rfl;have j:((c::d::t:Bs)==[48])=Tc:=by simp
  rw[h1,j,zL,Bool.not_false,zK];generalize (c::d::t:Bs).length=n at *;by_cases h:9<n;have:decide ((n:Int)>9)=Ta:=by simp;omega
  rw[this];simp[h];have:decide ((n:Int)>9)=Tc:=by simp;omega
  rw[this,zL];simp[h,f,b]
theorem XU(h:l.any (λc=>[43,45,95].contains c)=Tc):∀c,l.head?=Td c->c.toNat≠43/\c.toNat≠45:=by intro c b;rw[List.any_eq_false]at h;have:=h c (List.mem_of_head? b);constructor;intro e;have:c=43:=zd3.1 (by rw[e];rfl);subst this;exact absurd rfl ‹¬_›;intro e;have:c=45:=zd3.1 (by rw[e];rfl);subst this;exact absurd rfl ‹¬_›
theorem Hj(h:l.all ya=Ta):oe l/\(l.any λc=>[43,45,95].contains c)=Tc:=by rw[za7]at h;constructor;intro c b;have:=h c b;simp[ya]at this;omega;rw[List.any_eq_false];intro c b e;have f:=h c b;simp[ya]at f;simp at e;rcases e with rfl|rfl|rfl <;> revert f <;> decide
theorem GY(w:GL gl)(x:l.length<=1048576){R:Int×Bool->Prop}(h:R (ir l)):PC Tp gl 315 [Arg.mk .str (bl l)] [.int .i64,.bool] R:=by
 apply LO;have n:∀s:Bs,((bl s).toList==(⟨#[48]⟩:Bt).toList)=(s==[48]):=λs=>by rw[show(⟨#[48]⟩:Bt)=bl [48]from rfl,EB,yo]
 simp only[zu,Yj,show(0:Int).toNat=0 from rfl,I2,yo,n,YT];refine⟨λc=>⟨by omega,?_⟩,?_⟩;simp at c;have:=zb9.2 c.1.1;omega;unfold ir at h;by_cases f:l.length<1\/9<l.length\/(1<l.length/\l.head?=Td 48);rw[zA f]at h;rw[zJ f];exact⟨λ_=>True,λc=>(by cases c),λr _=>⟨λ_=>h,λc=>by cases c⟩⟩;rw[zv f]at h;rw[decide_eq_false f];refine⟨λb=>(l.all ya=Ta->b=Tc)/\(l.all ya=Tc->b=Tc->∀v,Lib.atoiAll l≠.ok v),λ_=>?_,λb u=>?_⟩;refine TF (by omega) (λt=>⟨λe=>(Hj e).2,λe q=>RE e (XU q)⟩) (λi b=>⟨λe=>absurd (Hj e).1 i,λe q v=>No i v⟩);obtain⟨o,m⟩:=u rfl;refine⟨λc=>?_,λc=>?_⟩;have j:b=Ta:=by simpa using c
 cases e:l.all ya with
 |true=>rw[o e]at j;cases j
 |false=>rw[e,zv (by simp)]at h;exact h
 have k:b=Tc:=by simpa using c
 refine OK w.err (s:=bl l) (by rw[zu];omega) ?_;rw[yo];unfold wS;cases e:l.all ya with
 |true=>rw[N6 e (by rintro rfl;simp at f) (by omega)];rw[e,zA rfl]at h;exact⟨λc=>(by cases c),λ_=>h⟩
 |false=>
  rw[e,zv (by simp)]at h;have:=m e k;cases t:Lib.atoiAll l with
  |ok v=>exact absurd t (this v)
  |range=>exact⟨λ_=>h,λc=>by cases c⟩
  |_=>exact⟨λ_=>h,λc=>by cases c⟩
end
section
variable {M:Fr} {h:zc} {K:Value -> zc -> Prop} {b o c:Nat}
def Brn(gl:Fr):Prop:=∃cs:Array Value,gl 7=Td cs/\cs[15]?=Td (.int .u8 4)
theorem Brn.mono{gl M:Fr}(h:Brn gl)(le:Fr.le gl M):Brn M:=by obtain⟨cs,e,h⟩:=h;exact⟨cs,le _ _ e,h⟩
theorem XV(c:K (.bool Ta) h):XC Tp 354 #[.int .i64 16] h K:=by apply Zr;exact Eq.mpr (congrArg (λb=>K (.bool b) h) (by kernel_rfl)) c
theorem OI(f:Brn M)(ag:AgM M h)(c:K (.int .i64 4) h):XC Tp 355 #[.int .u64 16] h K:=by
 obtain⟨cs,e,i⟩:=f;apply Yu;refine⟨λb=>(by cases b),λ_=>?_⟩;apply Qu;refine⟨λb=>(by cases b),λ_=>⟨_,⟨rfl,by decide +kernel,by decide +kernel⟩,4,?_,4,rfl,c⟩⟩;have key:∀n:Nat,n=15->zd h (zab ⟨7,0,Te⟩ n)=Td (.int .u8 4):=by rintro n rfl;exact ag.cell e i
 exact key _ (by kernel_rfl)
def EQ:Bs:=[48,49,50,51,52,53,54,55,56,57,97,98,99,100,101,102,103,104,105,106,107,108,109,110,111,112,113,114,115,116,117,118,119,120,121,122]
def mh(k:Nat):UInt8:=EQ[k]?.getD 0
theorem CN(k:Nat):yf (⟨#[48,49,50,51,52,53,54,55,56,57,97,98,99,100,101,102,103,104,105,106,107,108,109,110,111,112,113,114,115,116,117,118,119,120,121,122]⟩:Bt) k=((mh k).toNat:Int):=Yj EQ k
def ie(c:Nat):Bs:=if c<16 then [mh c]else [mh 1,mh (c % 16)]
def z65:Array Value:=q0
theorem Kl:yb Tp 5=Ta:=by kernel_rfl
theorem Pb:j4 Tp 5=1:=by kernel_rfl
theorem Rk{l:Bs}{cap:Nat}(f:∀j (c:j<l.length),zd h ⟨b,o+j,Te⟩=Td (.int .u8 (l[j].toNat:Int)))(e:K (.string (bl l)) h):
  qu Tp (convert 87 9 (.slice (Td ⟨b,o,Te⟩) l.length cap)) h K:=by
 intro B d;refine⟨_,d,h,run_convert_bytes_back (P:=Tp) (mk B d h) 87 9 5 ⟨b,o,Te⟩ cap l Tryz.underlying87 zex Tryz.underlying9 λj c=>?_,e⟩;rw[yV,zf];exact f j c
theorem Nl(b:c<18446744073709551616):zaa .u64 (((zco (zb1 .u64) (c:Int)) &&& (zco (zb1 .u64) (15:Int))).toNat:Int)=((c % 16:Nat):Int):=by rw[show(15:Int)=((15:Nat):Int)from rfl,UY b (by decide)];congr 1;exact Nat.and_two_pow_sub_one_eq_mod c 4
theorem BV{k:Nat}(h:k<36):0<=(k:Int)/\(k:Int)<(((⟨#[48,49,50,51,52,53,54,55,56,57,97,98,99,100,101,102,103,104,105,106,107,108,109,110,111,112,113,114,115,116,117,118,119,120,121,122]⟩:Bt)).size:Int):=by have:(((⟨#[48,49,50,51,52,53,54,55,56,57,97,98,99,100,101,102,103,104,105,106,107,108,109,110,111,112,113,114,115,116,117,118,119,120,121,122]⟩:Bt)).size:Int)=36:=rfl;rw[this];omega
theorem DN{g:zc}{cs:Array Value}(B:Blk g b cs)(c:o<cs.size){x:Int}{K:zc->Prop}(e:∀g',Blk g' b (cs.setIfInBounds o (.int .u8 x))->g'.size=g.size->(∀i,i≠b->g'[i]?=g[i]?)->K g'):XRunU Tp (zag 5 (.pointer (Td ⟨b,o,Te⟩)) (.int .u8 x)) g K:= xu Kl Pb B c rfl e
set_option maxRecDepth 100000 in
set_option maxHeartbeats 4000000 in
theorem YH(hc:c<32)(U:Brn M)(ag:AgM M h)(hK:∀h',Keep h.size h h'->K (.tuple #[.slice Te 0 0,.string (bl (ie c))]) h'):
  XC Tp 303 #[.slice Te 0 0,.int .u64 (c:Int),.int .i64 16,.bool Tc,.bool Tc] h K:=by
 refine Qc ⟨Te,0,0⟩ (c:Int) 16 Tc Tc h K ?_;intro K2 I;refine⟨λb=>(by simp at b),λ_=>I _ ?_⟩;intro B;have S:Keep h.size h B:=Keep.push _ _ (zac _);have z3:B.size=h.size+1:=zaf _;have B3:Blk B h.size z65:=Blk.new _ _ _;clear_value B;have L:=ag.keep S;intro K6 F;refine⟨λb=>(by cases b),λ_=>F _ _ ?_⟩;intro K9 J;have E:zaa .u64 16=16:=by decide
 have N:zaa .u64 (16-1)=15:=by decide
 rw[E,N];refine XV ⟨Ta,rfl,λ_=>?_,λb=>(by cases b)⟩;refine OI U L ⟨_,rfl,?_⟩;have q:z65.size=65:=rfl;have fin:∀(g:zc) (cs:Array Value) (u i:Nat),Keep h.size h g->Blk g h.size cs->cs.size=65->u<16->1<=i->i<=65->(∀j,j<65-i->∃x:UInt8,(ie c)[j+1]?=Td x/\cs[i+j]?=Td (.int .u8 (x.toNat:Int)))->(ie c).length=66-i->(ie c)[0]?=Td (mh u) ->
   XRunU Tp (zag 5 (.pointer (Td (zab ⟨h.size,0,Te⟩ (((i-1:Nat):Int).toNat*1)))) (.int .u8 (yf (⟨#[48,49,50,51,52,53,54,55,56,57,97,98,99,100,101,102,103,104,105,106,107,108,109,110,111,112,113,114,115,116,117,118,119,120,121,122]⟩:Bt) ((u:Int)).toNat))) g (λC=>K9 (((i-1:Nat):Int)) C):=by
  intro g cs u i m t A hu T Z n y e;rw[zae,zae,zbm,CN];rw[zf,zas];refine DN t (by rw[A];omega) λg2 Q Y O=>J _ _ ?_;intro V w;refine⟨λb=>(by cases b),λ_=>w _ _ ?_⟩;refine⟨λb=>(by cases b),λ_=>⟨⟨by omega,by omega,by omega⟩,?_⟩⟩;have H:Keep h.size h g2:=⟨by have:=m.size;omega,λj l=>(O j (by omega)).trans (m.get j l)⟩;have G:zfm (x9 (Td ⟨h.size,0,Te⟩) 1 ((i-1:Nat):Int).toNat 65) ((65:Int).toNat-((i-1:Nat):Int).toNat) (65-((i-1:Nat):Int).toNat)=.slice (Td ⟨h.size,i-1,Te⟩) (ie c).length (65-(i-1)):=by rw[zae,y,show(65:Int).toNat-(i-1)=66-i from by have:(65:Int).toNat=65:=rfl;omega];congr 1;unfold x9;rw[zv (by omega)];simp only[zd2,zf,zas,zbm]
  rw[G];refine Rk (λj l=>?_) ⟨_,rfl,hK _ H⟩;refine Q.cell ?_;rw[Array.getElem?_setIfInBounds];cases j with
  |zero=>rw[zew,zA rfl,zA (by rw[A];omega)];rw[zai l]at e;rw[zbi e]
  |succ j=>rw[zv (by omega)];obtain⟨x,z,D⟩:=n j (by omega);rw[show i-1+(j+1)=i+j from by omega,D];rw[zai l]at z;rw[zbi z]
 refine⟨λu i g=>Keep h.size h g/\((u=(c:Int)/\i=65/\Blk g h.size z65)\/(16<=c/\u=1/\i=64/\Blk g h.size (z65.setIfInBounds 64 (.int .u8 ((mh (c % 16)).toNat:Int))))),λu _ _=>u.toNat,⟨S,.inl ⟨rfl,rfl,B3⟩⟩,?_⟩;rintro u i g ⟨m,⟨rfl,rfl,t⟩|⟨f,rfl,rfl,t⟩⟩;refine⟨λb=>?_,λb=>?_⟩;have f:16<=c:=by have:=zH b;omega
 rw[Nl (by omega)];have io:w6 ((65:Int)-1)=64:=by decide
 rw[io];refine⟨BV (by omega),_,⟨rfl,by decide,by decide⟩,?_⟩;rw[zae,CN,zf];refine DN (o:=64) t (by rw[q];omega) λg2 Q Y O=>⟨by decide,⟨⟨by have:=m.size;omega,λj l=>(O j (by omega)).trans (m.get j l)⟩,.inr ⟨f,?_,rfl,Q⟩⟩,?_⟩;have:(min (zaa .u64 4).toNat 64)=4:=by decide
 rw[this];show(c:Int).fdiv 16=1;rw[Int.fdiv_eq_ediv_of_nonneg _ (by decide)];omega;have:(min (zaa .u64 4).toNat 64)=4:=by decide
 rw[this];show((c:Int).fdiv 16).toNat<(c:Int).toNat;rw[Int.fdiv_eq_ediv_of_nonneg _ (by decide)];omega;have f:c<16:=by have:=zI b;omega
 have io:w6 ((65:Int)-1)=((65-1:Nat):Int):=by decide
 rw[io];refine⟨BV (by omega),_,⟨rfl,by decide,by decide⟩,?_⟩;have r:ie c=[mh c]:=by unfold ie;rw[zA f]
 exact fin g z65 c 65 m t rfl f (by omega) (by omega) (λj l=>by omega) (by rw[r];rfl) (by rw[r];rfl);refine⟨λb=>?_,λb=>?_⟩;exact absurd (zH b) (by omega);have P:w6 ((64:Int)-1)=((64-1:Nat):Int):=by decide
 rw[P];refine⟨BV (k:=1) (by omega),_,⟨rfl,by decide,by decide⟩,?_⟩;have r:ie c=[mh 1,mh (c % 16)]:=by unfold ie;rw[zv (by omega)]
 refine fin g _ 1 64 m t (by simp[q]) (by omega) (by omega) (by omega) (λj l=>?_) (by rw[r];rfl) (by rw[r];rfl);have:j=0:=by omega
 subst this;exact⟨_,by rw[r];rfl,by rw[Array.getElem?_setIfInBounds,zA rfl,zA (by rw[q];omega)]⟩
theorem KR(i:c<32)(f:Brn M)(ag:AgM M h)(e:∀h',Keep h.size h h'->K (.string (bl (ie c))) h'):XC Tp 199 #[.int .i64 (c:Int),.int .i64 16] h K:=by apply Po;apply Ql;refine⟨λl=>(by simp at l),λ_=>?_⟩;have b:zaa .u64 (c:Int)=(c:Int):=Ll (by omega) (by omega);have j:decide ((c:Int)<0)=Tc:=decide_eq_false (by omega);rw[b,j];exact YH i f ag λh' k=>⟨⟨Te,0,0⟩,_,rfl,_,rfl,e h' k⟩
end
end
end Go.X
namespace Go.Proofs.YtplilfikcimcbaaGreatDoor
section
open Go.ChangeShapes Go.WideShapes Go.ChangeAt Go.RowKit Go.Lib
set_option linter.unusedVariables false
section
theorem MN{W:World}(h:laidMetH zbj kI W):Brn (Fz W):=by
 have hl:laidMet zbj kI W:=by rw[MakeChecks.laidMetH_plain _ _ _ (by kernel_rfl)]at h;exact h
 have hv : VarReads Tryz.prog W "math/bits.deBruijn64tab" (tabData .u8 [0, 1, 56, 2, 57, 49, 28, 3, 61, 58, 42, 50, 38, 29, 17, 4, 62, 47, 59, 36, 45, 43, 51, 22, 53, 39, 33, 30, 24, 18, 12, 5, 63, 55, 48, 27, 60, 41, 37, 16, 46, 35, 44, 21, 52, 32, 23, 11, 54, 26, 40, 15, 34, 20, 31, 10, 25, 14, 19, 9, 13, 8, 7, 6]) := by
  have := Go.Lib.laidMet.reads hl (List.mem_of_getElem? (show kI[1]? = some ("math/bits.deBruijn64tab", Rows.laid_math_bits_deBruijn64tab) from rfl));have e:(Rows.laid_math_bits_deBruijn64tab:DataW Unit)=tabData .u8 [0,1,56,2,57,49,28,3,61,58,42,50,38,29,17,4,62,47,59,36,45,43,51,22,53,39,33,30,24,18,12,5,63,55,48,27,60,41,37,16,46,35,44,21,52,32,23,11,54,26,40,15,34,20,31,10,25,14,19,9,13,8,7,6]:=by kernel_rfl
  rw[<-e];exact this
 obtain⟨cs,h1,h2⟩:=vU (g:=7) (t:=385) (e:=5) (m:=64) (by kernel_rfl) (by kernel_rfl) (by kernel_rfl) (by kernel_rfl) (by kernel_rfl) (by kernel_rfl) hv;exact⟨cs,h1,by rw[<-zbh,h2];rfl⟩
end
end
end Go.Proofs.YtplilfikcimcbaaGreatDoor
namespace Go.X
section
open Go.Lib
variable {v:Tr} {k:Nat}
theorem Wv(x:Bt):∀(l:List Bt) (i:Nat),(idxFromS l x i=-1/\x∉l)\/∃k:Nat,idxFromS l x i=((i+k:Nat):Int)/\k<l.length/\l[k]?=Td x
 |[],i=>.inl ⟨rfl,by simp⟩
 |z::l,i=>by unfold idxFromS;by_cases h:z=x;rw[zA h];exact .inr ⟨0,rfl,by simp,by simp[h]⟩;rw[zv h];rcases Wv x l (i+1)with⟨h1,b⟩|⟨k,h1,b,c⟩;exact .inl ⟨h1,by simp[b];exact λe=>h e.symm⟩;exact .inr ⟨k+1,by rw[h1];congr 1;omega,by simp;omega,by simpa using c⟩
def qh(v:Tr)(s:Bt):Int:=if v.kind=6 then idxOfS v.keys s else if v.kind=5 then(if(ir (lb s)).2=Ta/\(ir (lb s)).1<v.items.length then(ir (lb s)).1 else -1)else -1
theorem An(c:zi v=Ta)(s:Bt):qh v s=-1\/∃k:Nat,qh v s=k/\k<v.items.length:=by
 unfold qh;by_cases b:v.kind=6;rw[zA b];have h:v.keys.length=v.items.length:=by unfold zi at c;simp[b]at c;exact c.1.2
 rcases Wv s v.keys 0 with⟨h1,_⟩|⟨k,h1,i,_⟩;exact .inl h1;exact .inr ⟨k,by unfold idxOfS;rw[h1];simp,by omega⟩;rw[zv b];by_cases f:v.kind=5;rw[zA f];by_cases e:(ir (lb s)).2=Ta/\(ir (lb s)).1<v.items.length;rw[zA e];have:=FC e.1;exact .inr ⟨(ir (lb s)).1.toNat,by omega,by omega⟩;rw[zv e];exact .inl rfl;rw[zv f];exact .inl rfl
def Qd:Tr->List Bt->List (Nat×Tr)
 |_,[]=>[]
 |v,s::p=>if 0<=qh v s then(match v.items[(qh v s).toNat]? with
  |some x=>((qh v s).toNat,x)::Qd x p
  |none=>[])else []
def lastT(v:Tr)(l:List (Nat×Tr)):Tr:=(l.getLast?.map (·.2)).getD v
theorem Ro(v:Tr)(q:Nat×Tr)(l:List (Nat×Tr)):lastT v (q::l)=lastT q.2 l:=by
 unfold lastT;cases l with
 |nil=>rfl
 |cons x l=>rw[List.getLast?_cons_cons];cases h:(x::l).getLast? with
  |none=>simp at h
  |some y=>rfl
theorem So{s:Bt}{p:List Bt}(h:qh v s<0):Qd v (s::p)=[]:=by unfold Qd;rw[zv (by omega)]
theorem JD{s:Bt}{p:List Bt}(h:qh v s=k)(b:k<v.items.length):Qd v (s::p)=(k,v.items[k])::Qd v.items[k] p:=by rw[Qd,zA (by omega),h,zae,zai b]
def qq(v:Tr)(p:List Bt):Option Tr:=if(Qd v p).length=p.length then Td (lastT v (Qd v p))else Te
theorem wo(v:Tr):qq v []=Td v:=rfl
theorem s9{s:Bt}{p:List Bt}(h:qh v s<0):qq v (s::p)=Te:=by unfold qq;rw[So h];simp
theorem jw{s:Bt}{p:List Bt}(h:qh v s=k)(b:k<v.items.length):qq v (s::p)=qq v.items[k] p:=by unfold qq;rw[JD h b,Ro];simp
theorem qf{q:Tr->Bool}{v x:Tr}(h:yr q v=Ta)(b:x∈v.items):yr q x=Ta:=by rw[Z0,zam,wl,za7]at h;exact h.2 x b
theorem qt{q:Tr->Bool}(h:yr q v=Ta):q v=Ta:=by rw[Z0,zam]at h;exact h.1
end
section
open Go.RowKit
variable {n:Nat}
def Xk(v:Tr)(k:Nat)(x:Tr):Tr:=.mk v.kind v.text v.keys (v.items.set k x)
theorem vg{bf:Nat->List Nat}:((zaq n).flatMap bf).Nodup↔(∀i,i<n->(bf i).Nodup)/\∀i j,i<j->j<n->∀x∈bf i,∀y∈bf j,x≠y:=by unfold List.Nodup;rw[List.pairwise_flatMap,List.pairwise_iff_getElem];constructor;rintro⟨h1,e⟩;refine⟨λi hi=>h1 i (by simpa using hi),λi j b c=>?_⟩;have:=e i j (by simp;omega) (by simpa using c) b;simpa using this;rintro⟨h1,e⟩;refine⟨λi hi=>h1 i (by simpa using hi),λi j hi c b=>?_⟩;simp at hi c;simpa using e i j b c
theorem WF{cs:Array Value}{o n:Nat}(h:o+n<=cs.size):fR cs o (cut cs o n)=cs:=by
 have b:(cut cs o n).length=n:=by unfold cut;simp;omega
 apply zfb;apply zbd;intro q;rw[jg (by rw[b];exact h)];split;rfl;split;rw[zk,zA (by omega)];congr 1;omega;rfl
theorem OT.put1{h:zc}{v:Tr}{bs:List Nat}{cells:List Value}(H:OT h v bs cells){k:Nat}(u:k<v.items.length):
  ∃(b:Nat) (cs:Array Value) (si:Sl) (D:List Nat),cells[3]?=Td (aK si)/\si.a=Td ⟨b,0,Te⟩/\si.len=v.items.length/\Blk h b cs/\v.items.length*4<=cs.size/\b∈bs/\OT h v.items[k] D (cut cs (k*4) 4)/\b∉D/\(∀c∈D,c∈bs) /\ ∀(h':zc) (J:Tr) (cells':List Value) (b':List Nat),(∀c∈bs,c∉D->c≠b->h'[c]?=h[c]?)->Blk h' b (fR cs (k*4) cells')->OT h' J b' cells'->(∀c∈b',c∈D\/c∉bs)->∃bn,OT h' (Xk v k J) bn cells/\∀c∈bn,c∈bs\/c∈b':=by
 cases H with
 | @mk kd s ks xs sk si bk bb b cs bf hkk hn hz hi hd=>
  have u:k<xs.length:=u;rcases hz with⟨h0,_⟩|⟨rfl,e1,hb,I⟩;rw[h0]at u;simp at u;have Z:xs.length*4<=cs.size:=by have:=hn.2.2;omega
  rw[zb2]at hd;obtain⟨Q,M,B⟩:=hd;rw[zb2]at M;obtain⟨ac,T,ab⟩:=M;have C:=vg.1 T;have z:∀i,i<xs.length->b∉bf i:=λi hi t=>ab b (by simp) b (zbw.2 ⟨i,by simpa using hi,t⟩) rfl;have w:∀i,i<xs.length->∀c∈bf i,c∈bk++([b]++(zaq xs.length).flatMap bf):=λi hi c l=>by simp only[zaj,zbw,zbn];exact .inr (.inr ⟨i,hi,l⟩)
  refine⟨b,cs,si,bf k,rfl,e1,hn.1,hb,Z,by simp,hi k u,z k u,w k u,λh' J cells' b' hf aa U A=>?_⟩;have V:cells'.length=4:=U.len;have F:∀c∈b',∀i,i<xs.length->i≠k->c∉bf i:=λc l i m P t=>by rcases A c l with n|n;rcases Nat.lt_or_gt_of_ne P with q|q;exact C.2 i k q u c t c n rfl;exact C.2 k i q m c n c t rfl;exact n (w i m c t)
  have E:b∉b':=λt=>by rcases A b t with n|n;exact z k u n;exact n (by simp)
  have O:∀c∈bk,c∉b':=λc l t=>by rcases A c t with n|n;exact B c l c (by rw[zaj];exact .inr (zbw.2 ⟨k,by simpa using u,n⟩)) rfl;exact n (by simp[l])
  have N:∀c∈bk,c≠b:=λc l e=>B c l b (by simp) e;have L:∀c∈bk,∀i,i<xs.length->c∉bf i:=λc l i m t=>B c l c (by rw[zaj];exact .inr (zbw.2 ⟨i,by simpa using m,t⟩)) rfl;have r:(xs.set k J).length=xs.length:=by simp
  have Y:k*4+cells'.length<=cs.size:=by omega
  refine⟨bk++([b]++(zaq (xs.set k J).length).flatMap (λi=>if i=k then b' else bf i)),?_,λc l=>?_⟩;refine OT.mk (b:=b) (cs:=fR cs (k*4) cells') (hkk.frame λc l=>hf c (by simp[l]) (L c l k u) (N c l)) (by rw[r];exact hn) (.inr ⟨rfl,e1,aa,by rw[yv Y];exact I⟩) (λi n=>?_) ?_;rw[r]at n;by_cases f:i=k;subst f;rw[zA rfl];have:=sW Y;rw[V]at this;rw[this,List.getElem_set_self];exact U;rw[zv f,List.getElem_set_ne (by omega),BL Y (by omega)];refine(hi i n).frame λc l=>hf c (w i n c l) (λt=>?_) (λe=>z i n (e ▸ l));rcases Nat.lt_or_gt_of_ne f with q|q;exact C.2 i k q u c l c t rfl;exact C.2 k i q n c t c l rfl;rw[r,zb2];refine⟨Q,?_,λx n y o=>?_⟩;rw[zb2];refine⟨by simp,vg.2 ⟨λi m=>?_,λi j S hj x n y o e=>?_⟩,λx n y o=>?_⟩;by_cases f:i=k;rw[zA f];exact U.nodup;rw[zv f];exact C.1 i m;subst e;by_cases f:i=k;rw[zA f]at n;rw[zv (by omega)]at o;exact F x n j hj (by omega) o;rw[zv f]at n;by_cases G:j=k;rw[zA G]at o;exact F x o i (by omega) f n;rw[zv G]at o;exact C.2 i j S hj x n x o rfl;simp at n;subst n;obtain⟨i,m,o⟩:=zbw.1 o;simp at m;intro e;subst e;by_cases f:i=k;rw[zA f]at o;exact E o;rw[zv f]at o;exact z i m o;intro e;subst e;rw[zaj]at o;rcases o with o|o;simp at o;exact N x n o;obtain⟨i,m,o⟩:=zbw.1 o;simp at m;by_cases f:i=k;rw[zA f]at o;exact O x n o;rw[zv f]at o;exact L x n i m o;rw[r,zaj,zaj]at l;rcases l with l|l|l;exact .inl (by simp[l]);exact .inl (by simp at l;simp[l]);obtain⟨i,m,l⟩:=zbw.1 l;simp at m;by_cases f:i=k;rw[zA f]at l;exact .inr l;rw[zv f]at l;exact .inl (w i m c l)
end
section
open Go.Lib
section
variable {v w:Tr}
def setP:Tr->List Bt->Tr->Tr
 |_,[],w=>w
 |v,s::p,w=>if 0<=qh v s then(match v.items[(qh v s).toNat]? with
  |some x=>Xk v (qh v s).toNat (setP x p w)
  |none=>v)else v
theorem Ww{s:Bt}{p:List Bt}{k:Nat}(h:qh v s=k)(b:k<v.items.length):setP v (s::p) w=Xk v k (setP v.items[k] p w):=by rw[setP,zA (by omega),h,zae,zai b]
theorem xG{s:Bt}{p:List Bt}(h:(Qd v (s::p)).length=(s::p).length):∃(k:Nat) (b:k<v.items.length),qh v s=k/\Qd v (s::p)=(k,v.items[k])::Qd v.items[k] p/\(Qd v.items[k] p).length=p.length:=by unfold Qd at h;split at h;rename_i h0;split at h;rename_i x c;obtain⟨b,e⟩:=za5.1 c;refine⟨(qh v s).toNat,b,by omega,JD (by omega) b,?_⟩;rw[e];simpa using h;simp at h;simp at h
theorem vu:∀(l:List Tr) (k:Nat) (h:k<l.length) (y:Tr),wa (l.set k y)+aR l[k]=wa l+aR y
 |x::l,0,_,y=>by simp[wa];omega
 |x::l,k+1,h,y=>by have:=vu l k (by simpa using h) y;simp[wa];omega
theorem JJ(w:Tr):∀(p:List Bt) (v:Tr),aR (setP v p w)<=aR v+aR w
 |[],v=>by rw[setP];omega
 |s::p,v=>by rw[setP];split;split;rename_i x f;obtain⟨b,e⟩:=za5.1 f;have h1:=JJ w p x;have c:=vu v.items _ b (setP x p w);rw[e]at c;rw[ql,ql v];show 1+wa (v.items.set _ _)<=_;omega;omega;omega
theorem pR{m:Nat}{w:Tr}(c:hH m w):∀(p:List Bt) (v:Tr),hH m v->hH m (setP v p w)
 |[],v,_=>by rw[setP];exact c
 |s::p,v,hv=>by rw[setP];split;split;rename_i x j;obtain⟨i,e⟩:=za5.1 j;have h:x∈v.items:=e ▸ zak i;have h1:=pR c p x (Qt hv h);have f:=(Qr m v).1 hv;refine(Qr m _).2 ⟨f.1,Y2.2 λy b=>?_⟩;rcases zd1 b with b|rfl;exact Y2.1 f.2 y b;exact h1;exact hv;exact hv
theorem wT(h:y8 v=Ta):aR v<=4096:=by unfold y8 Zi at h;simp at h;omega
theorem QU(c:Sm v)(b:Sm w)(h1:aR v+aR w<=1000000000000)(p:List Bt):Sm (setP v p w):=⟨by have:=JJ w p v;omega,pR b.tx p v c.tx⟩
def zT:Tr:=.mk 0 ⟨#[]⟩ [] []
theorem NN(v:Tr)(k:Nat)(x:Tr)(s:Bt):qh (Xk v k x) s=qh v s:=by
 have h:(Xk v k x).items.length=v.items.length:=by simp[Xk]
 unfold qh;rw[h];rfl
end
section
theorem Ry{c:UInt8}(h:ya c=Ta):48<=c.toNat/\c.toNat<=57:=by simpa[ya]using h
end
end
section
open Go.RowKit
variable {h h':zc} {v x:Tr} {sk si si' sk':Sl} {bk bb bk' D:List Nat} {b n i k rb:Nat} {cs cs':Array Value} {c cw:List Value} {α:Type} {ks':List Bt}
structure OTp (h:zc) (v:Tr) (sk si:Sl) (bk bb:List Nat) (b:Nat) (cs:Array Value) (bf:Nat->List Nat):Prop where
 keys:OKeys h v.keys bk sk
 hn:si.len=v.items.length/\v.items.length<=140737488355328/\v.items.length<=si.cap
 hz:(v.items=[]/\bb=[]/\si.cap=0)\/(bb=[b]/\si.a=Td ⟨b,0,Te⟩/\Blk h b cs/\si.cap*4<=cs.size)
 hi:∀i (hx:i<v.items.length),OT h v.items[i] (bf i) (cut cs (i*4) 4)
 nk:bk.Nodup
 d1:∀c∈bk,c∉bb
 d2:∀c∈bk,∀i,i<v.items.length->c∉bf i
 d3:∀c∈bb,∀i,i<v.items.length->c∉bf i
 d4:∀i j,i<v.items.length->j<v.items.length->i≠j->∀c∈bf i,c∉bf j
def zm(v:Tr)(sk si:Sl):List Value:=[.int .i64 v.kind,.string v.text,aK sk,aK si]
theorem OTp.ot{bf:Nat->List Nat}(H:OTp h v sk si bk bb b cs bf):OT h v (bk++(bb++(zaq v.items.length).flatMap bf)) (zm v sk si):=by obtain⟨k,s,ks,xs⟩:=v;refine OT.mk (b:=b) (cs:=cs) H.keys H.hn H.hz H.hi ?_;rw[zb2];refine⟨H.nk,?_,λx f y c e=>?_⟩;rw[zb2];refine⟨?_,vg.2 ⟨λi hi=>(H.hi i hi).nodup,λi j l m x f y c e=>?_⟩,λx f y c e=>?_⟩;rcases H.hz with⟨_,e,_⟩|⟨e,_⟩;simp_all;rw[e];simp;subst e;exact H.d4 i j (Nat.lt_trans l m) m (by omega) x f c;subst e;obtain⟨i,hi,c⟩:=zbw.1 c;exact H.d3 x f i (by simpa using hi) c;subst e;rcases zaj.1 c with c|c;exact H.d1 x f c;obtain⟨i,hi,c⟩:=zbw.1 c;exact H.d2 x f i (by simpa using hi) c
theorem OT.p{bs:List Nat}{cells:List Value}(H:OT h v bs cells):∃(sk si:Sl) (bk bb:List Nat) (b:Nat) (cs:Array Value) (bf:Nat->List Nat),cells=zm v sk si/\OTp h v sk si bk bb b cs bf/\bs=bk++(bb++(zaq v.items.length).flatMap bf):=by
 cases H with
 | @mk kd s ks xs sk si bk bb b cs bf hk hn hz hi hd=>rw[zb2]at hd;obtain⟨m,l,k⟩:=hd;rw[zb2]at l;obtain⟨q,n,o⟩:=l;have u:=vg.1 n;refine⟨sk,si,bk,bb,b,cs,bf,rfl,⟨hk,hn,hz,hi,m,λc f e=>k c f c (zau _ e) rfl,λc f i hi e=>k c f c (zbf _ (zbw.2 ⟨i,by simpa using hi,e⟩)) rfl,λc f i hi e=>o c f c (zbw.2 ⟨i,by simpa using hi,e⟩) rfl,λi j hi t r c f e=>?_⟩,rfl⟩;grind
theorem yw{bf:Nat->List Nat}{n c:Nat}:c∈bk++(bb++(zaq n).flatMap bf)↔c∈bk\/c∈bb\/∃i,i<n/\c∈bf i:=by simp
theorem oE(h:i+4<=n):cut cs i 4=((cut cs 0 n).drop i).take 4:=by unfold cut;rw[zcm,ze7,zet,zda (by omega)]
def nY(v:Tr)(k:Nat)(w:Tr):Tr:=.mk v.kind v.text v.keys (v.items.take k++w::v.items.drop k)
theorem MG{xs:List α}{w:α}(b:k<=xs.length)(h:i<(xs.take k++w::xs.drop k).length):
  (i<k/\∃h':i<xs.length,(xs.take k++w::xs.drop k)[i]=xs[i])\/(i=k/\(xs.take k++w::xs.drop k)[i]=w)\/(k<i/\∃h':i-1<xs.length,(xs.take k++w::xs.drop k)[i]=xs[i-1]):=by
 grind
theorem Ov(h:c.length=n*4)(b:cw.length=4)(f:k<=n):
  (∀i,i<k->((c.take (k*4)++cw++c.drop (k*4)).drop (i*4)).take 4=(c.drop (i*4)).take 4)/\((c.take (k*4)++cw++c.drop (k*4)).drop (k*4)).take 4=cw/\∀i,k<i->((c.take (k*4)++cw++c.drop (k*4)).drop (i*4)).take 4=(c.drop ((i-1)*4)).take 4:=by
 have e:(c.take (k*4)).length=k*4:=by rw[zbl];omega
 refine⟨λi hi=>?_,?_,λi hi=>?_⟩;apply zbd;intro j;rw[zbk,zbk];grind;simp_all;rw[List.drop_append,zce (by grind),zck,zah,e,b,zdh];congr 2;omega
theorem OTp.ins{bf:Nat->List Nat}(H:OTp h v sk si bk bb b cs bf)(C:k<=v.items.length){w:Tr}{bw:List Nat}(S:OT h' w bw cw) (E:∀i,i<v.items.length->∀c∈bf i,h'[c]?=h[c]?) {b':Nat} (V:si'.a=Td ⟨b',0,Te⟩) (M:Blk h' b' cs') (e3:si'.len=v.items.length+1) (e4:v.items.length+1<=si'.cap) (F:si'.cap*4<=cs'.size) (Z:v.items.length+1<=140737488355328) (L:cut cs' 0 ((v.items.length+1)*4)=(cut cs 0 (v.items.length*4)).take (k*4)++cw++(cut cs 0 (v.items.length*4)).drop (k*4)) (Y:∀i,i<v.items.length->b'∉bf i) (x:b'∉bw) (D:∀c∈bw,∀i,i<v.items.length->c∉bf i) (ok:OKeys h' ks' bk' sk') (T:bk'.Nodup) (J:b'∉bk') (G:∀c∈bk',∀i,i<v.items.length->c∉bf i) (U:∀c∈bk',c∉bw):
  OTp h' (.mk v.kind v.text ks' (v.items.take k++w::v.items.drop k)) sk' si' bk' [b'] b' cs' (λi=>if i<k then bf i else if i=k then bw else bf (i-1)):=by
 have l:(v.items.take k++w::v.items.drop k).length=v.items.length+1:=by simp;omega
 have A:∀i (y:i<v.items.length),(cut cs 0 (v.items.length*4)).length=v.items.length*4:=by intro i y;rcases H.hz with⟨h0,_⟩|⟨_,_,_,Q⟩;simp_all;unfold cut;simp;have:=H.hn.2.2;omega
 have u:(cut cs 0 (v.items.length*4)).length=v.items.length*4:=by
  by_cases h0:0<v.items.length;exact A 0 h0;have:v.items.length=0:=by omega
  rw[this];unfold cut;simp
 have B:cw.length=4:=S.len;obtain⟨c1,c2,P⟩:=Ov u B C;have t:∀i,i<v.items.length+1->∀c,c∈(if i<k then bf i else if i=k then bw else bf (i-1))->(∃j,j<v.items.length/\c∈bf j)\/c∈bw:=by intro i hi c m;split at m;grind;split at m;grind;exact .inl ⟨i-1,by omega,m⟩
 refine⟨ok,⟨by simp_all,by simp_all,by simp_all⟩,.inr ⟨rfl,V,M,F⟩,λi y=>?_,T,λc m f=>?_,λc m i hi f=>?_,λc m i hi f=>?_,λi j hi z I c m f=>?_⟩;have q:i<(v.items.take k++w::v.items.drop k).length:=y;have N:i<v.items.length+1:=by rw[<-l];exact q
 rw[oE (n:=(v.items.length+1)*4) (by omega),L];show OT h' (v.items.take k++w::v.items.drop k)[i] _ _;rcases MG C q with⟨hi,r,e⟩|⟨hi,e⟩|⟨hi,r,e⟩;rw[e,zA hi,c1 i hi,<-oE (by omega)];exact(H.hi i r).frame (E i r);simp_all;rw[e,zv (by omega),zv (by omega),P i hi,<-oE (by omega)];exact(H.hi (i-1) r).frame (E (i-1) r);simp_all;have o:i<v.items.length+1:=by rw[<-l];exact hi
 rcases t i o c f with⟨j,z,f⟩|f;simp_all;grind;have o:i<v.items.length+1:=by rw[<-l];exact hi
 simp at m;subst m;rcases t i o c f with⟨j,z,f⟩|f;grind;exact x f
 ·have o:i<v.items.length+1:=by rw[<-l];exact hi
  have O:j<v.items.length+1:=by rw[<-l];exact z
  try simp only at m f
  split at m;split at f;grind [d4];split at f;grind;exact H.d4 i (j-1) (by omega) (by omega) (by omega) c m f;split at m;split at f;grind;split at f;omega;exact D c m (j-1) (by omega) f;split at f;exact H.d4 (i-1) j (by omega) (by omega) (by omega) c m f;split at f;exact D c f (i-1) (by omega) m;exact H.d4 (i-1) (j-1) (by omega) (by omega) (by omega) c m f
theorem QH{xs:List α}(b:k<xs.length)(h:i<(xs.take k++xs.drop (k+1)).length):
  (i<k/\∃h':i<xs.length,(xs.take k++xs.drop (k+1))[i]=xs[i])\/(k<=i/\∃h':i+1<xs.length,(xs.take k++xs.drop (k+1))[i]=xs[i+1]):=by
 grind
theorem MC(f:c.length=n*4)(e:k<n):
  (∀i,i<k->((c.take (k*4)++c.drop ((k+1)*4)).drop (i*4)).take 4=(c.drop (i*4)).take 4)/\∀i,k<=i->((c.take (k*4)++c.drop ((k+1)*4)).drop (i*4)).take 4=(c.drop ((i+1)*4)).take 4:=by
 have b:(c.take (k*4)).length=k*4:=by rw[zbl];omega
 refine⟨λi hi=>?_,λi hi=>?_⟩;apply zbd;grind;rw[List.drop_append,zce (by rw[b];omega),zck,b,zdh];congr 2;omega
theorem OTp.del{bf:Nat->List Nat}(H:OTp h v sk si bk bb b cs bf)(u:k<v.items.length) (w:∀i,i<v.items.length->∀c∈bf i,h'[c]?=h[c]?) (O:si'.a=si.a) (B:Blk h' b cs') (P:si'.len+1=v.items.length) (T:si'.cap=si.cap) (L:cs'.size=cs.size) (y:cut cs' 0 ((v.items.length-1)*4)=(cut cs 0 (v.items.length*4)).take (k*4)++(cut cs 0 (v.items.length*4)).drop ((k+1)*4)) (ok:OKeys h' ks' bk' sk') (E:∀c∈bk',c∈bk) (G:bk'.Nodup):
  OTp h' (.mk v.kind v.text ks' (v.items.take k++v.items.drop (k+1))) sk' si' bk' [b] b cs' (λi=>if i<k then bf i else bf (i+1)):=by
 have f:(v.items.take k++v.items.drop (k+1)).length=v.items.length-1:=by simp;omega
 rcases H.hz with⟨h0,_⟩|⟨r,Q,M,F⟩;simp_all;obtain⟨S,U,N⟩:=H.hn;have t:(cut cs 0 (v.items.length*4)).length=v.items.length*4:=by unfold cut;simp;omega
 obtain⟨c1,c2⟩:=MC t u;have z:b∈bb:=by rw[r];simp
 refine⟨ok,⟨by grind,by grind,by grind⟩,.inr ⟨rfl,by grind,B,by omega⟩,λi I=>?_,G,λc m l=>?_,λc m i hi l=>?_,λc m i hi l=>?_,λi j hi J x c m l=>?_⟩;have o:i<(v.items.take k++v.items.drop (k+1)).length:=I;have C:i<v.items.length-1:=by rw[<-f];exact o
 rw[oE (n:=(v.items.length-1)*4) (by omega),y];show OT h' (v.items.take k++v.items.drop (k+1))[i] _ _;rcases QH u o with⟨hi,q,e⟩|⟨hi,q,e⟩;rw[e,zA hi,c1 i hi,<-oE (by omega)];exact(H.hi i q).frame (w i q);rw[e,zv (by omega),c2 i hi,<-oE (by omega)];exact(H.hi (i+1) q).frame (w (i+1) q);grind [d1];grind [d2];grind [d3]
 ·have A:i<v.items.length-1:=by rw[<-f];exact hi
  have D:j<v.items.length-1:=by rw[<-f];exact J
  try simp only at m l
  split at m;split at l;grind [d4];exact H.d4 i (j+1) (by omega) (by omega) (by omega) c m l;split at l;exact H.d4 (i+1) j (by omega) (by omega) (by omega) c m l;exact H.d4 (i+1) (j+1) (by omega) (by omega) (by omega) c m l
structure Doc (h:zc) (rb:Nat) (v:Tr) (D:List Nat):Prop where
 ex:∃cs:Array Value,Blk h rb cs/\cs.size=4/\OT h v D cs.toList
 no:rb∉D
def Plc(h:zc)(D:List Nat)(rb:Nat)(p:Addr)(x:Tr)(T:Tr->Tr):Prop:=
 ∃(b o:Nat) (cs:Array Value) (e:List Nat),p=⟨b,o,Te⟩/\Blk h b cs/\o+4<=cs.size/\OT h x e (cut cs o 4)/\b∉e/\(b=rb\/b∈D)/\(∀c∈e,c∈D)/\rb∉D/\(∀c∈D,c<h.size) /\
  ∀(h':zc) (i:Tr) (cells':List Value) (b':List Nat),(∀c,c≠b->c∉e->(c=rb\/c∈D)->h'[c]?=h[c]?)->Blk h' b (fR cs o cells')->OT h' i b' cells'->(∀c∈b',c∈e\/(c≠rb/\c∉D)) ->
   ∃f,Doc h' rb (T i) f/\∀c∈f,c∈D\/c∈b'
theorem Doc.plc(H:Doc h rb v D):Plc h D rb ⟨rb,0,Te⟩ v id:=by
 obtain⟨⟨cs,l,o,ot⟩,b⟩:=H;have j:cut cs 0 4=cs.toList:=by unfold cut;rw[zcm,zbu (by simp;omega)]
 refine⟨rb,0,cs,D,rfl,l,by omega,by grind,b,.inl rfl,λc f=>f,b,ot.lt,λh' q cells' b' r e i k=>?_⟩;have m:=i.len;have n:fR cs 0 cells'=cells'.toArray:=by unfold fR;rw[zeu,zce (by simp;omega)];simp
 rw[n]at e;refine⟨b',⟨⟨cells'.toArray,e,by simpa using m,i⟩,λt=>?_⟩,λc f=>.inr f⟩;grind
theorem Plc.step{p:Addr}{T:Tr->Tr}(H:Plc h D rb p x T)(Z:k<x.items.length):
  ∃(si:Sl) (a:Addr),zd h (p.add 3)=Td (aK si)/\si.a=Td a/\si.len=x.items.length/\Plc h D rb (a.add (k*4)) x.items[k] (λy=>T (Xk x k y)):=by
 obtain⟨b,o,cs,bx,rfl,Q,ho,ot,r,j,f,w,B,m⟩:=H;obtain⟨b2,A,si,E,e3,ea,el,M,V,l,C,N,i,u⟩:=ot.put1 Z;refine⟨si,⟨b2,0,Te⟩,?_,ea,el,b2,k*4,A,E,by rw[zf,zas],M,by omega,C,N,.inr (f b2 l),λc n=>f c (i c n),w,B,λh' S cells' b' I O L F=>?_⟩;rw[zf];refine Q.cell ?_;rw[zk,zA (by omega)]at e3;grind;have G:b≠b2:=λe=>r (e ▸ l);obtain⟨Y,P,U⟩:=u h' S cells' b' (λc n J z=>I c z J (.inr (f c n))) O L (λc n=>(F c n).imp id λhx t=>hx.2 (f c t));obtain⟨D',hD,aa⟩:=m h' (Xk x k S) (cut cs o 4) Y (λc n q m=>I c (λe=>q (e ▸ l)) (λt=>q (i c t)) m) (by rw[WF ho];exact Q.keep (I b G (λt=>r (i b t)) j)) P λc n=>by grind
 grind
theorem Plc.keep{p:Addr}{T:Tr->Tr}(H:Plc h D rb p x T)(k:∀c,c=rb\/c∈D->h'[c]?=h[c]?)(F:h.size<=h'.size):Plc h' D rb p x T:=by obtain⟨b,o,cs,y,rfl,C,A,ot,r,e,f,j,z,t⟩:=H;refine⟨b,o,cs,y,rfl,C.keep (k b e),A,ot.frame λc i=>k c (.inr (f c i)),r,e,f,j,λc i=>by grind,λB E cells' b' w q n l=>t B E cells' b' (λc i m u=>(w c i m u).trans (k c u)) q n l⟩
theorem Doc.keep(H:Doc h rb v D)(k:∀c,c=rb\/c∈D->h'[c]?=h[c]?):Doc h' rb v D:=by obtain⟨⟨cs,f,e,ot⟩,b⟩:=H;exact⟨⟨cs,f.keep (k rb (.inl rfl)),e,ot.frame λc i=>k c (.inr i)⟩,b⟩
theorem Doc.lt(H:Doc h rb v D):∀c,c=rb\/c∈D->c<h.size:=by obtain⟨⟨cs,f,e,ot⟩,b⟩:=H;rintro c (rfl|hc);exact f.lt;exact ot.lt c hc
end
section
open Go.Lib
section
variable {v x w t:Tr} {m:Nat}
def iA(p:List Bt):List Bt:=p.take (p.length-1)
def ix(p:List Bt):Bt:=p.getD (p.length-1) ⟨#[]⟩
theorem oM(q:List Bt)(s:Bt):iA (q++[s])=q/\ix (q++[s])=s:=by unfold iA ix;simp
theorem Ey{p:List Bt}(h:p≠[]):p=iA p++[ix p]:=by rcases List.eq_nil_or_concat p with rfl|⟨q,s,rfl⟩;exact absurd rfl h;rw[List.concat_eq_append,(oM q s).1,(oM q s).2]
theorem qM{p:List Bt}(h:p.length-1<p.length):p[p.length-1]=ix p:=by unfold ix;rw[zar,zai h];rfl
def me(x:Tr)(s:Bt):Option Nat:=if lb s=[45]then Td x.items.length else if(ir (lb s)).2=Ta/\(ir (lb s)).1<=x.items.length then Td (ir (lb s)).1.toNat else Te
def iK(x:Tr)(j:Nat):Tr:=.mk x.kind x.text (if x.kind=6 then x.keys.take j++x.keys.drop (j+1)else x.keys) (x.items.take j++x.items.drop (j+1))
def mc(x:Tr)(s:Bt)(w:Tr):Tr:=.mk x.kind x.text (x.keys++[s]) (x.items++[w])
def ng(v:Tr):Bool:=decide (v.kind=0/\lb v.text=[]/\v.keys=[]/\v.items=[])
abbrev cK:=Bt×List Bt×List Bt×Tr
def mS:Bs:=[97,100,100]
def Y4:Bs:=[114,101,109,111,118,101]
def wq:Bs:=[114,101,112,108,97,99,101]
def mV:Bs:=[109,111,118,101]
def oA:Bs:=[99,111,112,121]
def nn:Bs:=[116,101,115,116]
def xb(s:Bs):Bool×Bool×Bool:=if s=mS\/s=wq\/s=nn then(Ta,Tc,Ta)else if s=mV\/s=oA then(Tc,Ta,Ta)else(Tc,Tc,decide (s=Y4))
def qm(o:cK):Bool:=(xb (lb o.1)).2.2&&(wn o.2.1&&(wn o.2.2.1&&(((xb (lb o.1)).2.1||decide (o.2.2.1=[]))&&(bif (xb (lb o.1)).1 then zh o.2.2.2 else ng o.2.2.2))))
mutual
def ji:Tr->Tr->Bool
 |.mk k s ks xs,b=>decide (k=b.kind)&&(decide (s=b.text)&&(decide (xs.length=b.items.length)&&(if k=6 then kH ks xs b else kM xs b.items)))
def kM:List Tr->List Tr->Bool
 |[],[]=>Ta
 |x::l,y::m=>ji x y&&kM l m
 |_,_=>Tc
def kH:List Bt->List Tr->Tr->Bool
 |_,[],_=>Ta
 |[],_::_,_=>Tc
 |k::ks,x::xs,b=>(match b.items[(idxOfS b.keys k).toNat]? with
  |some y=>decide (0<=idxOfS b.keys k)&&ji x y
  |none=>Tc)&&kH ks xs b
end
def iI(v:Tr)(p:List Bt)(w:Tr):Option Tr:=if p=[]then Td w else match qq v (iA p)with
 |none=>Te
 |some x=>if x.kind=5 then(match me x (ix p)with
   |some k=>Td (setP v (iA p) (nY x k w))
   |none=>Te)
  else if x.kind≠6 then Te else if 0<=qh x (ix p)then Td (setP v (iA p) (Xk x (qh x (ix p)).toNat w))else Td (setP v (iA p) (mc x (ix p) w))
def iP(v:Tr)(p:List Bt):Tr:=match qq v (iA p)with
 |none=>v
 |some x=>setP v (iA p) (iK x (qh x (ix p)).toNat)
def kZ:Option Tr->Tr×Int
 |some t=>(t,0)
 |none=>(zT,8)
def eR(v:Tr)(o:cK):Tr×Int:=
 if lb o.1=Y4 then(match qq v o.2.1 with
  |none=>(zT,8)
  |some _=>if o.2.1=[]then(zT,1)else(iP v o.2.1,0))
 else if lb o.1=wq then(match qq v o.2.1 with
  |none=>(zT,8)
  |some _=>(setP v o.2.1 o.2.2.2,0))
 else if lb o.1=mV then(match qq v o.2.2.1 with
  |none=>(zT,8)
  |some y=>if o.2.2.1=o.2.1.take o.2.2.1.length/\o.2.2.1.length<=o.2.1.length then(if o.2.2.1.length<o.2.1.length then(zT,1)else(v,0))else kZ (iI (iP v o.2.2.1) o.2.1 y))
 else if lb o.1=oA then(match qq v o.2.2.1 with
  |none=>(zT,8)
  |some y=>kZ (iI v o.2.1 y))
 else if lb o.1=nn then(match qq v o.2.1 with
  |none=>(zT,8)
  |some x=>if ji x o.2.2.2 then(v,0)else(zT,9))
 else kZ (iI v o.2.1 o.2.2.2)
def Ym(v:Tr)(o:cK):Tr×Int:=if qm o then(if(eR v o).2=0 then(if zh (eR v o).1 then((eR v o).1,0)else(zT,1))else(zT,(eR v o).2))else(zT,1)
def Qe:Tr->List cK->Nat->Tr×Int×Int
 |v,[],i=>(v,i,0)
 |v,o::l,i=>if(Ym v o).2=0 then Qe (Ym v o).1 l (i+1)else(zT,i,(Ym v o).2)
def lX(v:Tr)(l:List cK):Tr×Int×Int:=if zh v then Qe v l 0 else(zT,0,1)
theorem jz:∀{p:List Bt} {v x:Tr},qq v p=Td x->aR x<=aR v/\(∀m,hH m v->hH m x)/\∀q,yr q v=Ta->yr q x=Ta
 |[],v,x,h=>by rw[wo]at h;cases h;exact⟨zac _,λ_ h=>h,λ_ h=>h⟩
 |s::p,v,x,h=>by
  have e:(Qd v (s::p)).length=(s::p).length:=by unfold qq at h;split at h;assumption;cases h
  obtain⟨k,c,l,_,_⟩:=xG e;rw[jw l c]at h;obtain⟨h1,f,i⟩:=jz h;have b:v.items[k]∈v.items:=zak c;have:=qo b;exact⟨by omega,λm n=>f m (Qt n b),λq j=>i q (qf j b)⟩
theorem Di{p:List Bt}(h:qq v p=Td x):(Qd v p).length=p.length:=by unfold qq at h;split at h;assumption;cases h
theorem AM{w:Tr}:∀{p:List Bt} {v x:Tr},qq v p=Td x->aR (setP v p w)+aR x=aR v+aR w
 |[],v,x,h=>by rw[wo]at h;cases h;rw[setP];omega
 |s::p,v,x,h=>by obtain⟨k,b,c,_,_⟩:=xG (Di h);rw[jw c b]at h;have h1:=AM (w:=w) h;rw[Ww c b];have e:=vu v.items k b (setP v.items[k] p w);rw[ql,ql v];show 1+wa (v.items.set _ _)+_=_;omega
theorem E7(l:List Tr)(k:Nat):wa (l.take k)+wa (l.drop k)=wa l:=by rw[<-xr,zca]
theorem ZE(x:Tr)(k:Nat)(w:Tr):aR (nY x k w)=aR x+aR w:=by have:=E7 x.items k;rw[ql,ql x];show 1+wa (x.items.take k++w::x.items.drop k)=_;rw[xr,wa];omega
theorem TR(x:Tr)(s:Bt)(w:Tr):aR (mc x s w)=aR x+aR w:=by rw[ql,ql x];show 1+wa (x.items++[w])=_;rw[xr,wa,wa];omega
theorem Ua(x:Tr)(k:Nat)(w:Tr):aR (Xk x k w)<=aR x+aR w:=by rw[ql,ql x];show 1+wa (x.items.set k w)<=_;rcases zb0 k x.items.length with h|h;have:=vu x.items k h w;omega;rw[List.set_eq_of_length_le h];omega
theorem SA(x:Tr)(j:Nat):aR (iK x j)<=aR x:=by
 have h1:=E7 x.items j;have b:wa (x.items.drop (j+1))<=wa (x.items.drop j):=by
  rw[show x.items.drop (j+1)=(x.items.drop j).drop 1 by rw[zdh]];cases x.items.drop j with
  |nil=>simp
  |cons y l=>simp[wa]
 rw[ql,ql x];show 1+wa (x.items.take j++x.items.drop (j+1))<=_;rw[xr];omega
theorem tG(h:hH m x){ks:List Bt}{xs:List Tr}(e:ks.length<=m)(b:∀k∈ks,k.size<=m)(c:∀y∈xs,hH m y):hH m (.mk x.kind x.text ks xs):=by have:=(Qr m x).1 h;exact(Qr m _).2 ⟨⟨this.1.1,e,b⟩,Y2.2 c⟩
theorem LW(h:hH m x)(c:hH m w)(k:Nat):hH m (nY x k w):=by have h':=(Qr m x).1 h;refine tG h h'.1.2.1 h'.1.2.2 λy b=>?_;rcases zaj.1 b with b|b;exact Qt h (zcq b);rcases zan.1 b with rfl|b;exact c;exact Qt h (zde b)
theorem VD(h:hH m x)(c:hH m w)(k:Nat):hH m (Xk x k w):=by have h':=(Qr m x).1 h;refine tG h h'.1.2.1 h'.1.2.2 λy b=>?_;rcases zd1 b with b|rfl;exact Qt h b;exact c
theorem QZ{s:Bt}(h:hH m x)(e:hH m w)(f:x.keys.length+1<=m)(i:s.size<=m):hH m (mc x s w):=by have h':=(Qr m x).1 h;refine tG h (by simpa using f) (λk b=>?_) λy c=>?_;rcases zaj.1 b with b|b;exact h'.1.2.2 k b;simp at b;subst b;exact i;rcases zaj.1 c with c|c;exact Qt h c;simp at c;subst c;exact e
theorem RZ(h:hH m x)(j:Nat):hH m (iK x j):=by have h':=(Qr m x).1 h;unfold iK;refine tG h ?_ (λk b=>?_) λy c=>?_;have:=h'.1.2.1;split;simp;omega;exact this;split at b;rcases zaj.1 b with b|b;exact h'.1.2.2 k (zcq b);exact h'.1.2.2 k (zde b);exact h'.1.2.2 k b;rcases zaj.1 c with c|c;exact Qt h (zcq c);exact Qt h (zde c)
theorem rY(v:Tr)(p:List Bt):aR (iP v p)<=aR v:=by unfold iP;split;exact zac _;rename_i x b;have h1:=AM (w:=iK x (qh x (ix p)).toNat) b;have c:=SA x (qh x (ix p)).toNat;omega
theorem BU(h:hH m v)(p:List Bt):hH m (iP v p):=by unfold iP;split;exact h;rename_i x b;exact pR (RZ ((jz b).2.1 m h) _) _ v h
theorem Yn(h:zi v=Ta)(b:v.kind=6):v.keys.length=v.items.length:=by unfold zi at h;simp[b]at h;exact h.1.2
theorem Mi{p:List Bt}(h:iI v p w=Td t):aR t<=aR v+aR w:=by unfold iI at h;split at h;cases h;omega;split at h;cases h;rename_i x c;have b:=λy=>AM (w:=y) c;split at h;split at h;rename_i k _;cases h;have:=b (nY x k w);rw[ZE]at this;omega;cases h;split at h;cases h;split at h;cases h;have:=b (Xk x (qh x (ix p)).toNat w);have:=Ua x (qh x (ix p)).toNat w;omega;cases h;have:=b (mc x (ix p) w);rw[TR]at this;omega
theorem Nr{p:List Bt}(h:iI v p w=Td t)(e:hH 1048576 v)(c:hH 1048576 w)(j:yr zi v=Ta)(r:aR v<=1000000)(i:∀s∈p,s.size<=1048576):hH 1048576 t:=by unfold iI at h;split at h;cases h;exact c;rename_i f;split at h;cases h;rename_i x l;obtain⟨n,m,o⟩:=jz l;have b:=m _ e;split at h;split at h;rename_i k _;cases h;exact pR (LW b c k) _ v e;cases h;split at h;cases h;rename_i u;split at h;cases h;exact pR (VD b c _) _ v e;cases h;refine pR (QZ b c ?_ (i _ ?_)) _ v e;have:=Yn (qt (o _ j)) (by omega);have q:=wy x.items;rw[ql]at n;omega;rw[Ey f];simp[(oM _ _).2]
end
section
variable {v w y x:Tr}
theorem Nz{p:List Bt}(h:p≠[]):iI v p w=(qq v (iA p)).bind λx=>if x.kind=5 then(me x (ix p)).map (λk=>setP v (iA p) (nY x k w))
  else if x.kind≠6 then Te else if 0<=qh x (ix p)then Td (setP v (iA p) (Xk x (qh x (ix p)).toNat w))else Td (setP v (iA p) (mc x (ix p) w)):=by
 unfold iI;rw[zv h];cases qq v (iA p)with
 |none=>rfl
 |some x=>simp only[zcr];split;cases me x (ix p) <;> rfl;rfl
theorem IK(s:Bt):∀(q:List Bt) (v:Tr),qq v (q++[s])=(qq v q).bind λx=>if 0<=qh x s then x.items[(qh x s).toNat]? else Te
 |[],v=>by
  rw[zck,wo,zcr];split;rename_i h;cases hx:v.items[(qh v s).toNat]? with
  |none=>unfold qq Qd;rw[zA h,hx];simp
  |some x=>obtain⟨b,e⟩:=za5.1 hx;rw[jw (k:=(qh v s).toNat) (by omega) b,wo,e]
  rename_i h;exact s9 (by omega)
 |t::q,v=>by
  rw[zbz];by_cases h:0<=qh v t;cases hx:v.items[(qh v t).toNat]? with
  |none=>
   have e:∀r,qq v (t::r)=Te:=λr=>by unfold qq Qd;rw[zA h,hx];simp
   rw[e,e];rfl
  |some x=>obtain⟨b,e⟩:=za5.1 hx;rw[jw (k:=(qh v t).toNat) (by omega) b,jw (k:=(qh v t).toNat) (by omega) b];exact IK s q _
  rw[s9 (by omega),s9 (by omega)];rfl
theorem uj{p:List Bt}(c:p≠[])(h:qq v p=Td y):∃x,qq v (iA p)=Td x/\∃k:Nat,qh x (ix p)=k/\x.items[k]?=Td y:=by rw[Ey c,IK]at h;rw[Option.bind_eq_some_iff]at h;obtain⟨x,h1,b⟩:=h;refine⟨x,h1,?_⟩;split at b;exact⟨(qh x (ix p)).toNat,by omega,b⟩;cases b
theorem pK{q:Tr->Bool}(h:q v=Ta)(hi:∀x∈v.items,yr q x=Ta):yr q v=Ta:=by rw[Z0,h,zct,wl,za7];exact hi
theorem PM(e:w.kind=v.kind)(f:w.text=v.text)(b:w.keys=v.keys)(c:w.items.length=v.items.length):zi w=zi v:=by
 have h:w.items.isEmpty=v.items.isEmpty:=by cases h1:w.items <;> cases h2:v.items <;> rw[h1,h2]at c <;> simp at c ⊢
 unfold zi;rw[e,f,b,c,h]
theorem Gm{w:Tr}(c:yr zi w=Ta):∀(p:List Bt) (v:Tr),yr zi v=Ta->yr zi (setP v p w)=Ta
 |[],v,_=>by rw[setP];exact c
 |s::p,v,hv=>by rw[setP];split;split;rename_i x i;obtain⟨f,e⟩:=za5.1 i;refine pK ?_ λy b=>?_;have h:=qt hv;rw[<-h];exact PM rfl rfl rfl (by simp[Xk]);rcases zd1 b with b|rfl;exact qf hv b;exact Gm c p x (qf hv (e ▸ zak f));exact hv;exact hv
theorem KU{l:List Bt}(h:l.Nodup)(j:Nat):(l.take j++l.drop (j+1)).Nodup:=by refine h.sublist ?_;have:l.take j++l.drop (j+1)=l.eraseIdx j:=(List.eraseIdx_eq_take_drop_succ l j).symm;rw[this];exact List.eraseIdx_sublist l j
theorem CO(s:Bt)(ks:List Bt)(xs:List Tr):zi (.mk 6 s ks xs)=(yq ks&&decide (ks.length=xs.length)&&lb s==[]):=rfl
theorem tE(s:Bt)(ks:List Bt)(xs:List Tr):zi (.mk 5 s ks xs)=(lb s==[]&&ks.isEmpty):=rfl
theorem Kr(h:zi x=Ta)(j:Nat)(m:j<x.items.length):zi (iK x j)=Ta:=by
 by_cases b:x.kind=6;have o:=Yn h b;have e:iK x j=.mk 6 x.text (x.keys.take j++x.keys.drop (j+1)) (x.items.take j++x.items.drop (j+1)):=by unfold iK;rw[zA b,b]
 have h':(yq x.keys=Ta/\x.keys.length=x.items.length)/\x.text.data=#[]:=by unfold zi at h;simpa[b]using h
 rw[e];obtain⟨⟨h1,q⟩,n⟩:=h';have:(yq (x.keys.take j++x.keys.drop (j+1))=Ta/\(x.keys.take j++x.keys.drop (j+1)).length=(x.items.take j++x.items.drop (j+1)).length)/\x.text.data=#[]:=by refine⟨⟨?_,by simp;omega⟩,n⟩;unfold yq at h1 ⊢;rw[zam,za7]at h1 ⊢;refine⟨λk c=>?_,by simpa using KU (by simpa using h1.2) j⟩;rcases zaj.1 c with c|c;exact h1.1 k (zcq c);exact h1.1 k (zde c)
 rw[CO];simpa using this;have e:iK x j=.mk x.kind x.text x.keys (x.items.take j++x.items.drop (j+1)):=by unfold iK;rw[zv b]
 rw[e];by_cases l:x.kind=5;rw[l,tE];rw[<-Tr.eta x,l,tE]at h;exact h;exfalso;have i:x.items≠[]:=λe=>by rw[e]at m;simp at m
 have f:x.items.isEmpty=Tc:=by simpa using i
 unfold zi at h;rw[zv l,zv b,f]at h;simp at h
theorem Ux(h:yr zi x=Ta)(j:Nat)(c:j<x.items.length):yr zi (iK x j)=Ta:=by refine pK (Kr (qt h) j c) λy b=>?_;rcases zaj.1 b with b|b;exact qf h (zcq b);exact qf h (zde b)
theorem IG{p:List Bt}(h:yr zi v=Ta)(b:p≠[])(c:qq v p=Td y):yr zi (iP v p)=Ta:=by obtain⟨x,h1,k,e,f⟩:=uj b c;unfold iP;rw[h1];simp only;rw[e,zae];exact Gm (Ux ((jz h1).2.2 _ h) k (za5.1 f).1) _ v h
theorem wu(h:zh v=Ta):y8 v=Ta:=by
 unfold zh at h;unfold y8;rw[zam]at h ⊢;refine⟨h.1,?_⟩;have key:∀n (x:Tr),aR x<=n->yr (λx=>decide (x.kind≠7)&&zi x) x=Ta->yr zi x=Ta:=by
  intro n;induction n with
  |zero=>intro x f;have:=Qk x;omega
  |succ n e=>intro x f b;have:=qt b;simp at this;refine pK this.2 λy c=>e y (by have:=qo c;omega) (qf b c)
 exact key _ v (zac _) h.2
theorem sq(h:y8 v=Ta):yr zi v=Ta:=by unfold y8 at h;rw[zam]at h;exact h.2
theorem Ap{p:List Bt}(h:y8 v=Ta)(b:qq v p=Td x):y8 x=Ta:=by
 obtain⟨h1,_,i⟩:=jz b;unfold y8 Zi at h ⊢;simp only[zam,zG]at h ⊢;refine⟨⟨by omega,?_⟩,i _ h.2⟩;have:∀(p:List Bt) (v:Tr),qq v p=Td x->cR x<=cR v:=by
  intro p;induction p with
  |nil=>intro v b;rw[wo]at b;cases b;exact zac _
  |cons s p m=>
   intro v b;obtain⟨k,f,j,_,_⟩:=xG (Di b);rw[jw j f]at b;have h1:=m _ b;have n:cR v.items[k]<cR v:=by
    rw[j8 v];have:∀(l:List Tr) (y:Tr),y∈l->cR y<=Xj l:=by
     intro l;induction l with
     |nil=>intro y c;cases c
     |cons z l e=>intro y c;rw[Xj];rcases zan.1 c with rfl|c;omega;have:=e y c;omega
    have:=this v.items _ (zak f);omega
   omega
 have:=this p v b;omega
end
section
variable {v:Tr} {o:cK}
def kK(b:List Bt)(ys:List Tr)(q:Tr->Tr->Bool)(k:Bt)(x:Tr):Bool:=match ys[(idxOfS b k).toNat]? with
 |some y=>decide (0<=idxOfS b k)&&q x y
 |none=>Tc
theorem wK(b:Tr):∀(ks:List Bt) (xs:List Tr),ks.length=xs.length->kH ks xs b=(ks.zip xs).all λp=>kK b.keys b.items ji p.1 p.2
 |[],[],_=>by simp[kH]
 |k::ks,x::xs,h=>by rw[kH,wK b ks xs (by simpa using h)];rfl
 |[],_::_,h=>by simp at h
 |_::_,[],h=>by simp at h
theorem wE:∀(xs ys:List Tr),xs.length=ys.length->kM xs ys=(xs.zip ys).all λp=>ji p.1 p.2
 |[],[],_=>by simp[kM]
 |x::xs,y::ys,h=>by rw[kM,wE xs ys (by simpa using h)];rfl
 |[],_::_,h=>by simp at h
 |_::_,[],h=>by simp at h
theorem Wx(a b:Tr):ji a b=(decide (a.kind=b.kind)&&(decide (a.text=b.text)&&(decide (a.items.length=b.items.length)&&(if a.kind=6 then kH a.keys a.items b else kM a.items b.items)))):=by cases a;rw[ji]
theorem Xt:Sm zT:=⟨by simp[zT,aR,wa],by refine(Qr _ _).2 ⟨⟨?_,by simp[zT],by simp[zT]⟩,Y2.2 (by simp[zT])⟩;show(0:Nat)<=_;omega⟩
theorem Sm.find{v x:Tr}{p:List Bt}(h:Sm v)(b:qq v p=Td x):Sm x:=by obtain⟨h1,c,_⟩:=jz b;exact⟨by have:=h.sz;omega,c _ h.tx⟩
theorem BO{v w:Tr}{p:List Bt}(f:Sm v)(b:Sm w)(e:yr zi v=Ta)(h1:aR v<=1000000)(i:aR w<=1000000)(c:∀s∈p,s.size<=1048576):Sm (kZ (iI v p w)).1:=by
 cases h:iI v p w with
 |none=>exact Xt
 |some t=>exact⟨by have:=Mi h;show aR t<=_;omega,Nr h f.tx b.tx e h1 c⟩
theorem Eh(b:Sm v)(k:y8 v=Ta)(j:Sm o.2.2.2)(m:aR o.2.2.2<=1000000)(f:∀s∈o.2.1,s.size<=1048576):Sm (eR v o).1:=by have n:=wT k;have ok:=sq k;unfold eR;split;split;exact Xt;split;exact Xt;exact⟨by have:=rY v o.2.1;show aR (iP v o.2.1)<=_;omega,BU b.tx _⟩;split;split;exact Xt;exact QU b j (by omega) _;split;split;exact Xt;rename_i y c;have i:=jz c;split;split;exact Xt;exact b;rename_i h;have l:o.2.2.1≠[]:=λe=>h (by rw[e];simp);exact BO ⟨by have:=rY v o.2.2.1;omega,BU b.tx _⟩ (b.find c) (IG ok l c) (by have:=rY v o.2.2.1;omega) (by omega) f;split;split;exact Xt;rename_i y c;have i:=jz c;exact BO b (b.find c) ok (by omega) (by omega) f;split;split;exact Xt;split;exact b;exact Xt;exact BO b j ok (by omega) m f
theorem I9(h:zh v=Ta):aR v<=4096:=wT (wu h)
theorem VS(h:ng v=Ta):aR v=1:=by unfold ng at h;have:=(zH h).2.2.2;rw[ql,this];rfl
theorem IY(h:qm o=Ta):aR o.2.2.2<=4096:=by
 unfold qm at h;simp only[zam]at h;have h:=h.2.2.2.2;cases hs:(xb (lb o.1)).1 with
 |true=>rw[hs]at h;exact I9 h
 |false=>rw[hs]at h;rw[VS h];omega
theorem xo(h:qm o=Ta)(b:(xb (lb o.1)).1=Ta):y8 o.2.2.2=Ta:=by unfold qm at h;simp only[zam]at h;have h:=h.2.2.2.2;rw[b]at h;exact wu h
theorem vK{s:Bs}(h:s=mS\/s=wq\/s=nn):(xb s).1=Ta:=by unfold xb;rw[zA h]
theorem SI{s:Bs}(h:(xb s).2.2=Ta)(h1:s≠Y4)(c:s≠wq)(i:s≠mV)(e:s≠oA)(f:s≠nn):s=mS:=by unfold xb at h;split at h;rename_i b;rcases b with b|b|b;exact b;exact absurd b c;exact absurd b f;split at h;rename_i b;rcases b with b|b;exact absurd b i;exact absurd b e;exact absurd (zH h) h1
end
end
section
open Go.RowKit
section
variable {cs:Array Value} {o n b k:Nat} {h:zc} {P:Program} {t e ty:TypeId} {z:Value} {K:Value -> zc -> Prop}
theorem js(h:o+n<=cs.size):(cut cs o n).length=n:=by unfold cut;simp;omega
theorem tB(H:Blk h b cs):Arr h.size h (Td ⟨b,o,Te⟩) (cut cs o n):=by refine .inr ⟨b,o,rfl,H.lt,λi v c=>H.cell ?_⟩;rw[zk]at c;split at c;rw[<-zbh];exact c;cases c
theorem xK(H:Blk h b cs){vs:List Value}(k:o+vs.length<=cs.size)(h1:∀u∈vs,u.oneCell'=Ta)(B:World)(d:Nat):
  ∃h',(storeCells ⟨b,o,Te⟩ vs 0).run P (mk B d h)=.ok () (mk B d h')/\Blk h' b (fR cs o vs)/\h'.size=h.size/\∀j,j≠b->h'[j]?=h[j]?:=by
 obtain⟨T,e⟩:=H;obtain⟨h',l,c,i,f⟩:=F3 (P:=P) e k h1 B d;exact⟨h',l,⟨T,c⟩,i,f⟩
theorem GF{sz bytes:Nat}(T:ElemT P t e z sz bytes){s:Sl}(q:s.a=Td ⟨b,0,Te⟩)(r:Blk h b cs)(N:s.cap*sz<=cs.size)(F:s.len<=s.cap)(h1:∀u∈cut cs 0 (s.len*sz),u.oneCell'=Ta)(L:k<s.len) (E:∀h':zc,Blk h' b (fR cs (k*sz) (cut cs ((k+1)*sz) ((s.len-(k+1))*sz)))->h'.size=h.size->(∀j,j≠b->h'[j]?=h[j]?)->K (.slice s.a (s.len-1) s.cap) h'):
  qu P (zao #[t,t] ty #[.slice s.a k s.cap,.slice (x9 s.a sz (k+1) s.cap) (s.len-(k+1)) (s.cap-(k+1))]) h K:=by
 intro B d;have M:s.len*sz<=s.cap*sz:=za8 _ F;have A:(k+1)*sz+(s.len-(k+1))*sz=s.len*sz:=by rw[<-zcs];congr 1;omega
 have J:(k+1)*sz=k*sz+sz:=zdn _ _;have l:(cut cs ((k+1)*sz) ((s.len-(k+1))*sz)).length=(s.len-(k+1))*sz:=js (by omega);have c:∀u∈cut cs ((k+1)*sz) ((s.len-(k+1))*sz),u.oneCell'=Ta:=λu w=>h1 u (by unfold cut at w ⊢;rw[zcm,List.take_drop,A]at *;exact zde w);have i:Arr h.size h (x9 s.a sz (k+1) s.cap) (cut cs ((k+1)*sz) ((s.len-(k+1))*sz)):=by
  unfold x9;by_cases f:s.cap=k+1;have h0:s.len-(k+1)=0:=by omega
  rw[h0,zeg];exact .inl (by unfold cut;simp);rw[zv f,q];have:(Option.map (λx=>zab x ((k+1)*sz)) (Td (⟨b,0,Te⟩:Addr)))=Td ⟨b,(k+1)*sz,Te⟩:=by simp[zf]
  rw[this];exact tB r
 have I:=wF (P:=P) (s:=⟨x9 s.a sz (k+1) s.cap,s.len-(k+1),s.cap-(k+1)⟩) i l T.pos c T.slice B d;obtain⟨h',C,H,y,D⟩:=xK (P:=P) r (o:=k*sz) (vs:=cut cs ((k+1)*sz) ((s.len-(k+1))*sz)) (by rw[l];omega) c B d;have G:=Yh (P:=P) (ty:=ty) T (s:=⟨s.a,k,s.cap⟩) (h':=h') I (by simp only;omega) (λp m=>by simp only at m ⊢;rw[q]at m;cases m;rw[zf,zas];exact C) (λn=>by simp only at n;rw[q]at n;cases n);refine⟨_,d,h',G,?_⟩;have:=E h' H y D;rw[show k+(s.len-(k+1))=s.len-1 by omega];exact this
theorem Iz{sz n k:Nat}(r:n*sz<=cs.size)(j:k<n){c2:Array Value}(h:∀q,q<(n-1)*sz->c2.toList[q]?=(fR cs (k*sz) (cut cs ((k+1)*sz) ((n-(k+1))*sz))).toList[q]?):
  cut c2 0 ((n-1)*sz)=(cut cs 0 (n*sz)).take (k*sz)++(cut cs 0 (n*sz)).drop ((k+1)*sz):=by
 have l:(k+1)*sz+(n-(k+1))*sz=n*sz:=by rw[<-zcs];congr 1;omega
 have m:(k+1)*sz=k*sz+sz:=zdn _ _;have o:(n-1)*sz=k*sz+(n-(k+1))*sz:=by rw[<-zcs];congr 1;omega
 have c:(cut cs ((k+1)*sz) ((n-(k+1))*sz)).length=(n-(k+1))*sz:=js (by omega);have i:k*sz+(cut cs ((k+1)*sz) ((n-(k+1))*sz)).length<=cs.size:=by rw[c];omega
 have b:(cut cs 0 (n*sz)).length=n*sz:=js (by omega);apply zbd;intro q;rw[zk];split;rename_i f;rw[zas,h q f,jg i,c];split;rename_i e;rw[zdk (by rw[zbl,b];omega),zbk,zA e,zk,zA (by omega),zas];rename_i e;rw[zA (by omega),zdi (by rw[zbl,b];omega),zbl,b,zda (by omega),zb6,zk,zk,zA (by omega),zA (by omega)];congr 1;omega;rename_i f;rw[zby];rw[zah,zbl,zb8,b];omega
theorem EL{sz bytes:Nat}(T:ElemT P t e z sz bytes)(f:∀v∈(zb7 z.cells 1).toList,v.oneCell'=Ta)(c:(zb7 z.cells 1).toList.length=1*sz){a:Option Addr}{n cap:Nat}(u:a=Td ⟨b,0,Te⟩)(l:Blk h b cs)(E:cap*sz<=cs.size)(m:n+1<=cap) (x:∀(h':zc) (cs':Array Value),Blk h' b cs'->cs'.size=cs.size->(∀q,q<n*sz->cs'.toList[q]?=cs.toList[q]?)->h'.size=h.size->(∀j,j≠b->h'[j]?=h[j]?)->K (.tuple #[]) h'):
  qu P (zer #[t] ty #[.slice (x9 a sz n cap) (n+1-n) (cap-n)]) h K:=by
 have r:x9 a sz n cap=Td ⟨b,n*sz,Te⟩:=by unfold x9;rw[zv (by omega),u];simp[zf]
 have B:n+1-n=1:=by omega
 rw[r,B];obtain⟨X,k⟩:=l;have D:(n+1)*sz<=cap*sz:=za8 _ m;have C:(n+1)*sz=n*sz+sz:=zdn _ _;refine Rv T k (n:=1) (by rw[zd6];omega) f c (λh' w A y=>?_) (by omega);have i:n*sz+(zb7 z.cells 1).toList.length<=cs.size:=by rw[c];omega
 refine x h' (fR cs (n*sz) (zb7 z.cells 1).toList) ⟨X,by rw[w];unfold fR;rw[c]⟩ (yv i) (λq o=>?_) A y;rw[jg i,zA o]
end
section
variable {P:Program} {t e ty:TypeId} {z:Value} {h:zc} {b m:Nat} {cs:Array Value} {K:Value -> zc -> Prop} {vs:List Value}
theorem tj{sz bytes:Nat}(T:ElemT P t e z sz bytes){b o l q:Nat}(F:Blk h b cs){b2 k f n:Nat}{c:Array Value}(y:Blk h b2 c)(M:m=Nat.min f l)(D:k+m*sz<=c.size)(r:o+m*sz<=cs.size)(h1:∀u∈cut c k (m*sz),u.oneCell'=Ta) (H:∀h':zc,Blk h' b (fR cs o (cut c k (m*sz)))->h'.size=h.size->(∀j,j≠b->h'[j]?=h[j]?)->K (.int .i64 (m:Int)) h'):
  qu P (zd9 #[t,t] ty #[.slice (Td ⟨b,o,Te⟩) l q,.slice (Td ⟨b2,k,Te⟩) f n]) h K:=by
 intro B d;obtain⟨i,hi,hz,x,J⟩:=T.info;have A:(cut c k (m*sz)).length=m*sz:=js D;have I:=run_firstCells_some (P:=P) (mk B d h) sz m ⟨b2,k,Te⟩ f n (cut c k (m*sz)) A (λj u w=>by rw[zf];rw[zk]at w;split at w;exact y.cell (by rw[<-zbh];exact w);cases w);obtain⟨h',E,L,C,G⟩:=xK (P:=P) F (o:=o) (vs:=cut c k (m*sz)) (by rw[A];exact r) h1 B d;refine⟨.int .i64 (m:Int),d,h',?_,H h' L C G⟩;simp[zd9,run_underlying T.slice,zfn,sizeOf,typeInfo,hi,x,<-M,I,E,goInt]
structure RowO (h:zc) (s:Sl) (b:Nat) (cs:Array Value) (sz:Nat):Prop where
 le:s.len<=s.cap
 at_:(s.len=0/\s.cap=0)\/(s.a=Td ⟨b,0,Te⟩/\Blk h b cs/\s.cap*sz<=cs.size)
structure RowN (h h':zc) (s':Sl) (b b':Nat) (cs':Array Value) (sz n:Nat) (cells:List Value):Prop where
 a:s'.a=Td ⟨b',0,Te⟩
 len:s'.len=n
 cap:n<=s'.cap
 blk:Blk h' b' cs'
 size:s'.cap*sz<=cs'.size
 cut:cut cs' 0 (n*sz)=cells
 new:b'=b\/h.size<=b'
 grow:h.size<=h'.size
 old:∀j,j<h.size->j≠b'->h'[j]?=h[j]?
theorem RR{n m:Nat}(f:n+vs.length<=cs.size)(c:m=n+vs.length):cut (fR cs n vs) 0 m=cut cs 0 n++vs:=by subst c;have b:(cut cs 0 n).length=n:=js (by omega);apply zbd;intro q;rw[zk];split;rename_i e;rw[zas,jg f];split;rename_i h1;rw[zdk (by rw[b];exact h1),zk,zA h1,zas];rename_i h1;rw[zdi (by rw[b];omega),b];rename_i e;rw[zby];rw[zah,b];omega
theorem oK{sz bytes:Nat}(T:ElemT P t e z sz bytes){s:Sl}(H:RowO h s b cs sz){bv cv:Nat}(V:Blk h bv vs.toArray)(i:vs.length=sz)(h1:∀u∈vs,u.oneCell'=Ta)(G:(s.len+1)*bytes<=140737488355328)(S:s.len+1<=140737488355328) (y:∀(w:Sl) (h':zc) (b':Nat) (cs':Array Value),RowN h h' w b b' cs' sz (s.len+1) (cut cs 0 (s.len*sz)++vs)->K (.slice w.a w.len w.cap) h'):
  qu P (zao #[t,t] ty #[.slice s.a s.len s.cap,.slice (Td ⟨bv,0,Te⟩) 1 cv]) h K:=by
 intro B d;have m:Arr h.size h (Td ⟨bv,0,Te⟩) vs:=by have:=tB V (o:=0) (n:=vs.length);rw[show cut vs.toArray 0 vs.length=vs by unfold cut;simp]at this;exact this
 have D:∀B d,Src P sz t (.slice (Td ⟨bv,0,Te⟩) 1 cv) 1 vs (mk B d h):=λB d=>wF (P:=P) (s:=⟨Td ⟨bv,0,Te⟩,1,cv⟩) m (by simp[i]) T.pos h1 T.slice B d;have N:(s.len+1)*sz=s.len*sz+sz:=zdn _ _;by_cases x:s.len+1<=s.cap;rcases H.at_ with⟨_,h0⟩|⟨r,k,E⟩;omega;have O:(s.len+1)*sz<=s.cap*sz:=za8 _ x;obtain⟨h',F,Q,Z,I⟩:=xK (P:=P) k (o:=s.len*sz) (vs:=vs) (by rw[i];omega) h1 B d;have q:=Yh (P:=P) (ty:=ty) T (s:=s) (h':=h') (D B d) x (λp A=>by rw[r]at A;cases A;rw[zf,zas];exact F) (λC=>by rw[r]at C;cases C);refine⟨_,d,h',q,y ⟨s.a,s.len+1,s.cap⟩ h' b _ ⟨r,rfl,x,Q,by rw[yv (by rw[i];omega)];exact E,RR (by rw[i];omega) (by rw[i];exact N),.inl rfl,by omega,λj U l=>I j l⟩⟩;have f:Arr h.size h s.a (cut cs 0 (s.len*sz))/\(cut cs 0 (s.len*sz)).length=s.len*sz:=by rcases H.at_ with⟨h0,_⟩|⟨r,k,E⟩;rw[h0,zeg];exact⟨.inl (by unfold cut;simp),by unfold cut;simp⟩;have O:s.len*sz<=s.cap*sz:=za8 _ H.le;rw[r];exact⟨tB k,js (by omega)⟩
 obtain⟨c,blk,J,Y,q3,M,L⟩:=A6 (P:=P) (ty:=ty) (base:=0) T f.2 (λB d=>Yg f.1 f.2 T.pos B d) D G S (za0 _) (by omega) B d;refine⟨_,d+1,_,J,y ⟨Td ⟨h.size,0,Te⟩,s.len+1,c⟩ _ h.size blk ⟨rfl,rfl,Y,Blk.new _ _ _,by rw[M];exact zac _,by unfold cut;rw[zcm];exact L,.inr (zac _),by simp,λj U l=>by rw[ze0,zv (by omega)]⟩⟩
end
end
section
variable {lo:Nat} {h h':zc} {M M':Fr} {bs:List Nat}
def ORow(lo:Nat)(h:zc)(M:Fr)(T:Ty)(xs:List (El T))(s:Sl)(bs:List Nat):Prop:=
 (xs=[]/\s.len=0/\s.cap=0/\bs=[])\/∃(b:Nat) (cs:Array Value),bs=[b]/\s.a=Td ⟨b,0,Te⟩/\s.len=xs.length/\s.len<=s.cap/\Blk h b cs/\s.cap*sz T<=cs.size/\lo<=b/\M b=Te/\∀i (hi:i<xs.length),Rd M T xs[i] (cut cs (i*sz T) (sz T))
theorem ORow.nil{T:Ty}:ORow lo h M T [] ⟨Te,0,0⟩ []:=.inl ⟨rfl,rfl,rfl,rfl⟩
theorem ORow.len{T:Ty}{xs:List (El T)}{s:Sl}(H:ORow lo h M T xs s bs):s.len=xs.length:=by rcases H with⟨rfl,h1,_⟩|⟨b,cs,_,_,h1,_⟩;exact h1;exact h1
theorem ORow.own{T:Ty}{xs:List (El T)}{s:Sl}(H:ORow lo h M T xs s bs):∀c∈bs,lo<=c/\c<h.size/\M c=Te:=by rcases H with⟨_,_,_,rfl⟩|⟨b,cs,rfl,_,_,_,e,_,h1,i,_⟩;intro c f;cases f;intro c f;rw[za6.1 f];exact⟨h1,e.lt,i⟩
theorem ORow.frame{T:Ty}{xs:List (El T)}{s:Sl}(H:ORow lo h M T xs s bs)(f:∀c∈bs,h'[c]?=h[c]?)(le:Fr.le M M')(l:∀c∈bs,M' c=Te):ORow lo h' M' T xs s bs:=by rcases H with H|⟨b,cs,rfl,h1,k,m,e,o,n,q,j⟩;exact .inl H;refine .inr ⟨b,cs,rfl,h1,k,m,?_,o,n,l b (by simp),λi hi=>Rd.mono le (j i hi)⟩;unfold Blk at e ⊢;rw[f b (by simp)];exact e
theorem ORow.call{T:Ty}{xs:List (El T)}{s:Sl}(H:ORow lo h M T xs s bs)(L:Later h M h' M'):ORow lo h' M' T xs s bs:=by refine H.frame (λc b=>L.keep.get c (H.own c b).2.1) L.le λc b=>?_;rw[L.old c (H.own c b).2.1];exact(H.own c b).2.2
theorem ORow.rd{T:Ty}{xs:List (El T)}{s:Sl}{bs all:List Nat}(H:ORow lo h M T xs s bs)(ag:AgM M h)(k:∀c∈bs,c∈all)(n:xs.length<=1000000):Rd (MxL M h all) (.row T) xs [aK s]:=by rcases H with⟨rfl,h1,e,rfl⟩|⟨b,cs,rfl,h1,e,m,l,r,o,q,f⟩;refine⟨_,rfl,s.a,s.cap,?_,⟨by simp,by simp⟩,.inl rfl⟩;show aK s=_;unfold aK;rw[h1];rfl;refine⟨_,rfl,s.a,s.cap,?_,⟨by omega,by omega⟩,?_⟩;unfold aK;rw[e];by_cases j:xs=[];exact .inl j;refine .inr ⟨b,0,cs,h1,MxL.at (k b (by simp)) l,λi hi=>?_⟩;rw[zas];exact Rd.mono (Jx ag all) (f i hi)
theorem ORow.app{t e:TypeId}{z:Value}{bytes:Nat}{T:Ty}(E:ElemT Tp t e z (sz T) bytes)(G:bytes<=1000){ty:TypeId}{xs:List (El T)}{s:Sl}(ag:AgM M h)(H:ORow lo h M T xs s bs)(af:lo<=h.size){bv cv:Nat}{vs:List Value}{x:El T}(hv:Blk h bv vs.toArray)(I:Rd M T x vs)(S:xs.length<=1000000){K:Value->zc->Prop} (hK:∀(n:Sl) (h':zc) (bs':List Nat),ORow lo h' M T (xs++[x]) n bs'->h.size<=h'.size->(∀c∈bs',c∈bs\/h.size<=c)->(∀j,j<h.size->j∉bs->h'[j]?=h[j]?)->K (.slice n.a n.len n.cap) h'):
  qu Tp (zao #[t,t] ty #[.slice s.a s.len s.cap,.slice (Td ⟨bv,0,Te⟩) 1 cv]) h K:=by
 have C:vs.length=sz T:=Rd.len I;have h1:∀u∈vs,u.oneCell'=Ta:=Rd.one I;have m:=H.len;have A:∀c,h.size<=c->M c=Te:=by
  intro c U;cases e:M c with
  |none=>rfl
  |some cs=>have:=ag.lt e;omega
 obtain⟨b,cs,f,Z,D⟩:∃b cs,RowO h s b cs (sz T)/\((bs=[b]/\lo<=b/\M b=Te)\/(b=h.size/\bs=[]))/\∀i (hi:i<xs.length),i*sz T+sz T<=cs.size/\Rd M T xs[i] (cut cs (i*sz T) (sz T)):=by rcases H with⟨rfl,J,Q,rfl⟩|⟨b,cs,rfl,J,Q,e3,e4,V,e6,Y,e8⟩;exact⟨h.size,#[],⟨by omega,.inl ⟨J,Q⟩⟩,.inr ⟨rfl,rfl⟩,λi hi=>by simp at hi⟩;refine⟨b,cs,⟨e3,.inr ⟨J,e4,V⟩⟩,.inl ⟨rfl,e6,Y⟩,λi hi=>⟨?_,e8 i hi⟩⟩;have:(i+1)*sz T<=s.cap*sz T:=za8 _ (by omega);rw[zdn]at this;omega
 have w:(s.len+1)*bytes<=140737488355328:=by have:(s.len+1)*bytes<=1000001*1000:=zd0 (by omega) G;omega
 refine oK E f hv C h1 w (by omega) λn h' b' cs' N=>?_;have l:(b'∈bs/\lo<=b'/\M b'=Te)\/h.size<=b':=by rcases N.new with e|e;rcases Z with⟨r,P,F⟩|⟨r,_⟩;subst e;exact .inl ⟨by rw[r];simp,P,F⟩;exact .inr (by omega);exact .inr e
 refine hK n h' [b'] (.inr ⟨b',cs',rfl,N.a,by rw[N.len,zah,m];rfl,by rw[N.len];exact N.cap,N.blk,N.size,?_,?_,λi hi=>?_⟩) N.grow (λc U=>?_) λj hj S=>N.old j hj λe=>?_;rcases l with q|q;exact q.2.1;omega;rcases l with q|q;exact q.2.2;exact A b' q;have y:=N.cut;have aa:i<xs.length+1:=by simpa using hi
 have hm:(i+1)*sz T<=(s.len+1)*sz T:=za8 _ (by omega);have ac:(i+1)*sz T=i*sz T+sz T:=zdn _ _;have ae:(s.len+1)*sz T=s.len*sz T+sz T:=zdn _ _;have key:∀q,q<sz T->(cut cs' (i*sz T) (sz T))[q]?=(cut cs 0 (s.len*sz T)++vs)[i*sz T+q]?:=by intro q k;rw[zk,zA k,<-y,zk,zA (by omega),zas]
 by_cases o:i<xs.length;rw[zcp o];obtain⟨g1,g2⟩:=D i o;have ab:(i+1)*sz T<=s.len*sz T:=za8 _ (by omega);have e:cut cs' (i*sz T) (sz T)=cut cs (i*sz T) (sz T):=by
  apply zbd;intro q;by_cases k:q<sz T;rw[key q k,zdk ?_,zk,zk,zA k,zA (by omega),zas];have B:s.len*sz T<=cs.size:=by rcases f.at_ with⟨r,P⟩|⟨_,_,F⟩;omega;have:s.len*sz T<=s.cap*sz T:=za8 _ f.le;omega
  rw[js (by omega)];omega;rw[zk,zk,zv k,zv k]
 rw[e];exact g2;have L:i=xs.length:=by omega
 subst L;rw[zcx (zac _)];have O:(cut cs 0 (s.len*sz T)).length=xs.length*sz T:=by
  rcases f.at_ with⟨r,P⟩|⟨_,_,F⟩;have:xs.length=0:=by omega
  rw[r,this];unfold cut;simp;have:s.len*sz T<=s.cap*sz T:=za8 _ f.le;rw[js (by omega),m]
 have e:cut cs' (xs.length*sz T) (sz T)=vs:=by apply zbd;intro q;by_cases k:q<sz T;rw[key q k,zdi (by omega),O];congr 1;omega;rw[zk,zv k,zby (by omega)]
 rw[e];simpa using I;rw[za6.1 U];rcases l with q|q;exact .inl q.1;exact .inr q;rcases l with q|q;exact S (by rw[e];exact q.1);omega
end
section
open Go.RowKit
variable {cs:Array Value} {o n z b:Nat} {l:List Value} {g:zc}
structure CR (g:zc) (z:Nat) (els:List (List Value)) (sl:Sl) (b:Nat) (cs:Array Value):Prop where
 ro:RowO g sl b cs z
 ln:sl.len=els.length
 el:∀(i:Nat) (e:List Value),els[i]?=Td e->(i+1)*z<=cs.size/\cut cs (i*z) z=e
theorem uq(c:l.length=n)(h:∀q,q<n->cs.toList[o+q]?=l[q]?):cut cs o n=l:=by apply zbd;intro q;rw[zk];split;rename_i b;exact h q b;rename_i b;rw[zby (by omega)]
theorem AD(h:cut cs o n=l){q:Nat}(b:q<n):cs.toList[o+q]?=l[q]?:=by rw[<-h,zk,zA b]
theorem CR.blk{els:List (List Value)}{sl:Sl}(H:CR g z els sl b cs)(c:els≠[]):sl.a=Td ⟨b,0,Te⟩/\Blk g b cs:=by rcases H.ro.at_ with⟨h1,_⟩|⟨h1,e,_⟩;have:=H.ln;rw[h1]at this;exact absurd (zds.1 this.symm) c;exact⟨h1,e⟩
theorem CR.frame{g g':zc}{els:List (List Value)}{sl:Sl}(H:CR g z els sl b cs)(f:els≠[]\/sl.cap≠0->g'[b]?=g[b]?):CR g' z els sl b cs:=by refine⟨⟨H.ro.le,?_⟩,H.ln,H.el⟩;rcases H.ro.at_ with h1|⟨h1,e,h⟩;exact .inl h1;by_cases c:sl.cap=0;exact .inl ⟨by have:=H.ro.le;omega,c⟩;exact .inr ⟨h1,e.keep (f (.inr c)),h⟩
theorem CR.app{t e:TypeId}{M:Value}{bytes z:Nat}(E:ElemT Tp t e M z bytes)(y:bytes<=1000){ty:TypeId}{els:List (List Value)}{sl:Sl}(H:CR g z els sl b cs){bv cv:Nat}{vs:List Value}(P:Blk g bv vs.toArray)(k:vs.length=z)(h1:∀u∈vs,u.oneCell'=Ta)(S:els.length<=1000000){K:Value->zc->Prop} (F:∀(f:Sl) (g':zc) (b':Nat) (cs':Array Value),CR g' z (els++[vs]) f b' cs'->g.size<=g'.size->((b'=b/\¬(sl.len=0/\sl.cap=0))\/g.size<=b')->b'<g'.size->(∀j,j<g.size->j≠b'->g'[j]?=g[j]?)->K (.slice f.a f.len f.cap) g'):
  qu Tp (zao #[t,t] ty #[.slice sl.a sl.len sl.cap,.slice (Td ⟨bv,0,Te⟩) 1 cv]) g K:=by
 have c:=H.ln;have m:(sl.len+1)*bytes<=140737488355328:=by have:(sl.len+1)*bytes<=1000001*1000:=zd0 (by omega) y;omega
 obtain⟨b0,cs0,r,x,l⟩:∃b0 cs0,RowO g sl b0 cs0 z/\((b0=b/\¬(sl.len=0/\sl.cap=0))\/g.size<=b0)/\(∀(i:Nat) (e:List Value),els[i]?=Td e->(i+1)*z<=cs0.size/\cut cs0 (i*z) z=e):=by by_cases h0:sl.len=0/\sl.cap=0;have O:els=[]:=zds.1 (by omega);exact⟨g.size,#[],⟨H.ro.le,.inl h0⟩,.inr (zac _),λi e hi=>by rw[O]at hi;cases hi⟩;exact⟨b,cs,H.ro,.inl ⟨rfl,h0⟩,H.el⟩
 refine oK E r P k h1 m (by omega) λf g' b' cs' N=>F f g' b' cs' ⟨⟨by rw[N.len];exact N.cap,.inr ⟨N.a,N.blk,N.size⟩⟩,by rw[N.len,zah,c];rfl,λi e hi=>?_⟩ N.grow ?_ N.blk.lt N.old;have C:i<els.length+1:=by have:=(za5.1 hi).1;rw[zah]at this;exact this
 have T:(i+1)*z<=(sl.len+1)*z:=za8 _ (by omega);have G:(sl.len+1)*z<=f.cap*z:=za8 _ N.cap;have I:(i+1)*z=i*z+z:=zdn _ _;have L:(sl.len+1)*z=sl.len*z+z:=zdn _ _;have:=N.size;refine⟨by omega,?_⟩;have n:=N.cut;have key:∀q,i*z+q<(sl.len+1)*z->cs'.toList[i*z+q]?=(cut cs0 0 (sl.len*z)++vs)[i*z+q]?:=λq o=>by rw[<-n,zk,zA o,zas]
 have h:(cut cs0 0 (sl.len*z)).length=sl.len*z:=by
  by_cases h0:els=[];have:sl.len=0:=by rw[c,h0];rfl
  rw[this,zeg];unfold cut;simp;have J:els.length-1<els.length:=by have:=zb9.2 h0;omega
  have:=(l (els.length-1) _ (zai J)).1;rw[show els.length-1+1=els.length by omega,<-c]at this;exact js (by omega)
 by_cases w:i<els.length;rw[zdk w]at hi;obtain⟨Q,B⟩:=l i e hi;have D:(i+1)*z<=sl.len*z:=za8 _ (by omega);refine uq (by rw[<-B];exact js (by omega)) λq o=>?_;rw[key q (by omega),zdk (by rw[h];omega),zk,zA (by omega),zas];exact AD B o;have A:i=els.length:=by omega
 subst A;rw[zdi (zac _),ze9]at hi;cases hi;refine uq k λq o=>?_;have U:els.length*z=sl.len*z:=by rw[c]
 rw[key q (by omega),zdi (by rw[h];omega),h];congr 1;omega;rcases N.new with e|e;rcases x with q|q;exact .inl ⟨e.trans q.1,q.2⟩;exact .inr (by omega);exact .inr e
end
section
section
theorem Tm(gl:Fr)(c:Tr)(R:Bool->Prop) (H:∃a:Bool->Prop,((c.kind != 7)=Ta->PC Tp gl 89 [Arg.mk .tree (Tr.mk c.kind c.text c.keys c.items)] [.bool] a)/\∀b:Bool,((c.kind != 7)=Ta->a b)->R (bif (c.kind != 7)then b else Tc)):
  PC Tp gl 88 [Arg.mk .tree c] [.bool] R:=
 PF ⟨[],[],[],[]⟩ [.tmp 2] 10 Tryz.func88 H
end
section
theorem U4(b:Int)(c:Bt)(d:Sl)(e:Sl)(h:zc)(R:Value->zc->Prop) (H:let f:=h.push (.cells #[iV b,.string c,aK d,aK e] 25);∃g i j k,ze f ⟨h.size,0,Te⟩ 0 (tL g i j k)/\XC Tp 49 #[tA g i j k] f (λl m=>∃n,l=.bool n/\((!n)=Ta->R (.tuple #[.string (⟨#[]⟩:Bt),iV 1]) m)/\((!n)=Tc->let o:=m.push (.cells #[.pointer Te,.slice Te 0 0,.bool Tc,iV 0] 207);∃p q r s,ze o ⟨h.size,0,Te⟩ 0 (tL p q r s)/\XC Tp 201 #[.pointer (Td ⟨m.size,0,Te⟩),tA p q r s,iV 0] o (λt u=>t=.tuple #[]/\XC Tp 70 #[.pointer (Td (zab ⟨m.size,0,Te⟩ 0))] u (λv w=>∃x,v=.string x/\R (.tuple #[.string x,iV 0]) w))))):
  XC Tp 126 #[.agg #[.int .i64 b,.string c,.slice d.a d.len d.cap,.slice e.a e.len e.cap]] h R:=
 XF ⟨[],[],[]⟩ [.tmp 2,.tmp 3] 12 Tryz.func126 H
theorem Xu(L:Option Addr)(b:Int)(c:Bt)(d:Sl)(e:Sl)(J:Int)(h:zc)(R:Value->zc->Prop) (H:let f:=h.push (.cells #[iV b,.string c,aK d,aK e] 25);∃g,zd f (zab ⟨h.size,0,Te⟩ 0)=Td (iV g)/\((g==1)=Ta->∃i,L=Td i/\XC Tp 68 #[.pointer (Td (zab i 0)),.string (⟨#[110,117,108,108]⟩:Bt)] f (λj k=>∃l,∃m:Value,j=.tuple #[iV l,m]/\R (.tuple #[]) k))/\((g==1)=Tc->((g==4)=Ta->∃n,zd f (zab ⟨h.size,0,Te⟩ 1)=Td (.string n)/\XC Tp 253 #[.pointer L,.string n] f (λo p=>o=.tuple #[]/\R (.tuple #[]) p))/\((g==4)=Tc->((g==5)=Ta->∃q r s t,ze f ⟨h.size,0,Te⟩ 0 (tL q r s t)/\XC Tp 254 #[.pointer L,tA q r s t,iV J,.string (⟨#[91,93]⟩:Bt),.func (.func 255) #[.pointer L] #[]] f (λu v=>u=.tuple #[]/\R (.tuple #[]) v))/\((g==5)=Tc->((g==6)=Ta->∃w x y z,ze f ⟨h.size,0,Te⟩ 0 (tL w x y z)/\XC Tp 254 #[.pointer L,tA w x y z,iV J,.string (⟨#[123,125]⟩:Bt),.func (.func 256) #[.pointer L] #[]] f (λA B=>A=.tuple #[]/\R (.tuple #[]) B))/\((g==6)=Tc->∃C,L=Td C/\∃D,zd f (zab ⟨h.size,0,Te⟩ 1)=Td (.string D)/\XC Tp 68 #[.pointer (Td (zab C 0)),.string D] f (λE F=>∃G,∃I:Value,E=.tuple #[iV G,I]/\R (.tuple #[]) F)))))):
  XC Tp 201 #[.pointer L,.agg #[.int .i64 b,.string c,.slice d.a d.len d.cap,.slice e.a e.len e.cap],.int .i64 J] h R:=
 XF ⟨[(2,8000)],[],[]⟩ [] 42 Tryz.func201 H
theorem Wz(k:Option Addr)(s1:Bt)(h:zc)(R:Value->zc->Prop) (H:XC Tp 125 #[.string s1] h (λa b=>∃c d,a=.tuple #[.string c,iV d]/\∃e,k=Td e/\XC Tp 68 #[.pointer (Td (zab e 0)),.string c] b (λf g=>∃i,∃j:Value,f=.tuple #[iV i,j]/\R (.tuple #[]) g))):
  XC Tp 253 #[.pointer k,.string s1] h R:=
 XF ⟨[],[],[]⟩ [] 16 Tryz.func253 H
theorem Xv(V:Option Addr)(b:Int)(c:Bt)(d:Sl)(e:Sl)(P:Int)(Q:Bt)(S:FuncId)(U:Array Value)(T:Array Value)(h:zc)(R:Value->zc->Prop) (H:let f:=h.push (.cells #[iV b,.string c,aK d,aK e] 25);∃g,V=Td g/\(0<=(0:Int)/\(0:Int)<(Q.size:Int))/\XC Tp 133 #[.pointer (Td (zab g 0)),.int .u8 (yf Q (0:Int).toNat)] f (λi j=>∃k:Value,i=k/\∃l,zd j (zab ⟨h.size,0,Te⟩ 3)=Td (aK l)/\∃(m:Int->zc->Prop) (n:Int->zc->Nat),m 0 j/\∀o:Int,∀p:zc,m o p->((decide (o<l.len)=Ta->∀q:zc->Prop,(∀r:zc,(XC Tp 307 #[.pointer V,iV (w6 (P+1))] r (λs t=>s=.tuple #[]/\∃u v w x,ze t ⟨h.size,0,Te⟩ 0 (tL u v w x)/\zo Tp S=Ta/\XC Tp S (U++#[tA u v w x,iV o,iV (w6 (P+1))]++T) t (λy z=>y=.tuple #[]/\(m (w6 (o+1)) z/\n (w6 (o+1)) z<n o p))))->q r)->(decide (o>0)=Ta->∃A,V=Td A/\XC Tp 133 #[.pointer (Td (zab A 0)),.int .u8 44] p (λB C=>∃D:Value,B=D/\q C))/\(decide (o>0)=Tc->q p))/\(decide (o<l.len)=Tc->∀E:zc->Prop,(∀F:zc,(∃G,V=Td G/\(0<=(1:Int)/\(1:Int)<(Q.size:Int))/\XC Tp 133 #[.pointer (Td (zab G 0)),.int .u8 (yf Q (1:Int).toNat)] F (λI J=>∃L:Value,I=L/\R (.tuple #[]) J))->E F)->∃M,zd p (zab ⟨h.size,0,Te⟩ 3)=Td (aK M)/\(decide ((M.len:Int)>0)=Ta->XC Tp 307 #[.pointer V,iV P] p (λN O=>N=.tuple #[]/\E O))/\(decide ((M.len:Int)>0)=Tc->E p))))):
  XC Tp 254 #[.pointer V,.agg #[.int .i64 b,.string c,.slice d.a d.len d.cap,.slice e.a e.len e.cap],.int .i64 P,.string Q,.func (.func S) U T] h R:=
 XF ⟨[(1,8000),(12,8000)],[(3,[(20,.one (.int .i64))])],[(7,[]),(12,[])]⟩ [] 53 Tryz.func254 H
theorem OY(t:Option Addr)(b:Int)(c:Bt)(d:Sl)(e:Sl)(r:Int)(q:Int)(h:zc)(R:Value->zc->Prop) (H:let f:=h.push (.cells #[iV b,.string c,aK d,aK e] 25);∃g,zd f (zab ⟨h.size,0,Te⟩ 3)=Td (aK g)/\∃i,(g.a=Td i/\0<=r/\r<g.len)/\∃j k l m,ze f (i.add (r.toNat*4)) 0 (tL j k l m)/\XC Tp 201 #[.pointer t,tA j k l m,iV q] f (λn o=>n=.tuple #[]/\R (.tuple #[]) o)):
  XC Tp 255 #[.pointer t,.agg #[.int .i64 b,.string c,.slice d.a d.len d.cap,.slice e.a e.len e.cap],.int .i64 r,.int .i64 q] h R:=
 XF ⟨[],[],[]⟩ [] 16 Tryz.func255 H
theorem W0(J:Option Addr)(b:Int)(c:Bt)(d:Sl)(e:Sl)(I:Int)(G:Int)(h:zc)(R:Value->zc->Prop) (H:let f:=h.push (.cells #[iV b,.string c,aK d,aK e] 25);∃g,zd f (zab ⟨h.size,0,Te⟩ 2)=Td (aK g)/\∃i,(g.a=Td i/\0<=I/\I<g.len)/\∃j,zd f (i.add (I.toNat*1))=Td (.string j)/\XC Tp 253 #[.pointer J,.string j] f (λk l=>k=.tuple #[]/\∃m,J=Td m/\XC Tp 133 #[.pointer (Td (zab m 0)),.int .u8 58] l (λn o=>∃p:Value,n=p/\∀q:zc->Prop,(∀r:zc,(∃s,zd r (zab ⟨h.size,0,Te⟩ 3)=Td (aK s)/\∃t,(s.a=Td t/\0<=I/\I<s.len)/\∃u v w x,ze r (t.add (I.toNat*4)) 0 (tL u v w x)/\XC Tp 201 #[.pointer J,tA u v w x,iV G] r (λy z=>y=.tuple #[]/\R (.tuple #[]) z))->q r)->∃A,J=Td A/\∃B,zd o (zab A 2)=Td (.bool B)/\(B=Ta->∃C,J=Td C/\XC Tp 133 #[.pointer (Td (zab C 0)),.int .u8 32] o (λD E=>∃F:Value,D=F/\q E))/\(B=Tc->q o)))):
  XC Tp 256 #[.pointer J,.agg #[.int .i64 b,.string c,.slice d.a d.len d.cap,.slice e.a e.len e.cap],.int .i64 I,.int .i64 G] h R:=
 XF ⟨[],[],[(5,[])]⟩ [] 35 Tryz.func256 H
theorem Lu(t:Option Addr)(r:Int)(h:zc)(R:Value->zc->Prop) (H:∃a,t=Td a/\∃b,zd h (zab a 2)=Td (.bool b)/\(b=Ta->∃c,t=Td c/\XC Tp 133 #[.pointer (Td (zab c 0)),.int .u8 10] h (λd e=>∃f:Value,d=f/\∃g,t=Td g/\∃i,t=Td i/\∃j,zd e (zab i 3)=Td (iV j)/\XC Tp 200 #[.string (⟨#[32]⟩:Bt),iV (w6 (j*r))] e (λk l=>∃m,k=.string m/\XC Tp 68 #[.pointer (Td (zab g 0)),.string m] l (λn o=>∃p,∃q:Value,n=.tuple #[iV p,q]/\R (.tuple #[]) o))))/\(b=Tc->R (.tuple #[]) h)):
  XC Tp 307 #[.pointer t,.int .i64 r] h R:=
 XF ⟨[(2,8000)],[],[]⟩ [] 23 Tryz.func307 H
theorem QV(b:Int)(c:Bt)(d:Sl)(e:Sl)(h:zc)(R:Value->zc->Prop) (H:let f:=h.push (.cells #[iV b,.string c,aK d,aK e] 25);let g:=f.push (.cells tC 25);∃i j k l,ze g ⟨h.size,0,Te⟩ 0 (tL i j k l)/\XC Tp 83 #[tA i j k l] g (λm n=>∃o,m=.bool o/\((!o)=Ta->XRunU Tp (zag 25 (.pointer (Td ⟨f.size,0,Te⟩)) (tZ)) n (λp=>∃q r s t,ze p ⟨f.size,0,Te⟩ 0 (tL q r s t)/\R (tA q r s t) p))/\((!o)=Tc->∃u v w x,ze n ⟨h.size,0,Te⟩ 0 (tL u v w x)/\XC Tp 101 #[tA u v w x] n (λy z=>∃A B C D,y=tA A B C D/\XRunU Tp (zag 25 (.pointer (Td ⟨f.size,0,Te⟩)) (tA A B C D)) z (λE=>∃F G I J,ze E ⟨f.size,0,Te⟩ 0 (tL F G I J)/\R (tA F G I J) E))))):
  XC Tp 56 #[.agg #[.int .i64 b,.string c,.slice d.a d.len d.cap,.slice e.a e.len e.cap]] h R:=
 XF ⟨[],[],[]⟩ [.cell 2 25] 9 Tryz.func56 H
theorem MZ(b:Int)(c:Bt)(d:Sl)(e:Sl)(h:zc)(R:Value->zc->Prop) (H:let f:=h.push (.cells #[iV b,.string c,aK d,aK e] 25);let g:=f.push (.cells tC 25);∃i,zd g (zab ⟨h.size,0,Te⟩ 0)=Td (iV i)/\∃j,zd g (zab ⟨h.size,0,Te⟩ 1)=Td (.string j)/\let k:=g.push (.cells tC 25);XRunU Tp (zag 25 (.pointer (Td ⟨g.size,0,Te⟩)) (.agg #[iV i,.string j,.slice Te 0 0,.slice Te 0 0])) k (λl=>∃m,zd l (zab ⟨h.size,0,Te⟩ 0)=Td (iV m)/\((m != 6)=Ta->∃n,zd l (zab ⟨h.size,0,Te⟩ 3)=Td (aK n)/\∃(o:Int->zc->Prop) (p:Int->zc->Nat),o 0 l/\∀q:Int,∀r:zc,o q r->((decide (q<n.len)=Ta->∃s,(n.a=Td s/\0<=q/\q<n.len)/\∃t u v w,ze r (s.add (q.toNat*4)) 0 (tL t u v w)/\let x:=r.push (.cells tC 25);XRunU Tp (zag 25 (.pointer (Td ⟨r.size,0,Te⟩)) (tA t u v w)) x (λy=>∃z,zd y (zab ⟨g.size,0,Te⟩ 3)=Td (aK z)/\∃A B C D,ze y ⟨r.size,0,Te⟩ 0 (tL A B C D)/\XC Tp 101 #[tA A B C D] y (λE F=>∃G I J L,E=tA G I J L/\hZ F y (zab ⟨g.size,0,Te⟩ 3)/\let M:=F.push (.cells #[iV G,.string I,aK J,aK L] 25);hZ M y (zab ⟨g.size,0,Te⟩ 3)/\qu Tp (zao #[23,23] 23 #[aK z,.slice (Td ⟨F.size,0,Te⟩) 1 1]) M (λN O=>∃P,N=aK P/\XRunU Tp (zag 23 (.pointer (Td (zab ⟨g.size,0,Te⟩ 3))) (aK P)) O (λQ=>(o (w6 (q+1)) Q/\p (w6 (q+1)) Q<p q r))))))/\(decide (q<n.len)=Tc->∃S T U V,ze r ⟨g.size,0,Te⟩ 0 (tL S T U V)/\XRunU Tp (zag 25 (.pointer (Td ⟨f.size,0,Te⟩)) (tA S T U V)) r (λW=>∃X Y Z aa,ze W ⟨f.size,0,Te⟩ 0 (tL X Y Z aa)/\R (tA X Y Z aa) W))))/\((m != 6)=Tc->∃ab ac ad ae,ze l ⟨h.size,0,Te⟩ 0 (tL ab ac ad ae)/\XC Tp 142 #[tA ab ac ad ae] l (λaf ag=>∃ah:Option Nat,af=.map ah/\XC Tp 162 #[.map ah] ag (λai aj=>∃ak:Value,ai=ak/\XC Tp 161 #[ak] aj (λal am=>∃an,al=aK an/\XRunU Tp (zag 22 (.pointer (Td (zab ⟨g.size,0,Te⟩ 2))) (aK an)) am (λao=>∃ap,zd ao (zab ⟨g.size,0,Te⟩ 2)=Td (aK ap)/\∃(aq:Int->zc->Prop) (ar:Int->zc->Nat),aq 0 ao/\∀au:Int,∀av:zc,aq au av->((decide (au<ap.len)=Ta->∃aw,(ap.a=Td aw/\0<=au/\au<ap.len)/\∃ax,zd av (aw.add (au.toNat*1))=Td (.string ax)/\∃ay,zd av (zab ⟨g.size,0,Te⟩ 3)=Td (aK ay)/\∃az aA aB aC,QExec Tp (zc1 144 (.map ah) (.string ax) Tc) av (tA az aA aB aC)/\hZ av av (zab ⟨g.size,0,Te⟩ 3)/\XC Tp 101 #[tA az aA aB aC] av (λaD aE=>∃aF aG aH aI,aD=tA aF aG aH aI/\hZ aE av (zab ⟨g.size,0,Te⟩ 3)/\let aJ:=aE.push (.cells #[iV aF,.string aG,aK aH,aK aI] 25);hZ aJ av (zab ⟨g.size,0,Te⟩ 3)/\qu Tp (zao #[23,23] 23 #[aK ay,.slice (Td ⟨aE.size,0,Te⟩) 1 1]) aJ (λaL aM=>∃aN,aL=aK aN/\XRunU Tp (zag 23 (.pointer (Td (zab ⟨g.size,0,Te⟩ 3))) (aK aN)) aM (λaO=>(aq (w6 (au+1)) aO/\ar (w6 (au+1)) aO<ar au av)))))/\(decide (au<ap.len)=Tc->∃aP aQ aS aT,ze av ⟨g.size,0,Te⟩ 0 (tL aP aQ aS aT)/\XRunU Tp (zag 25 (.pointer (Td ⟨f.size,0,Te⟩)) (tA aP aQ aS aT)) av (λaU=>∃aV aW aX aY,ze aU ⟨f.size,0,Te⟩ 0 (tL aV aW aX aY)/\R (tA aV aW aX aY) aU)))))))))):
  XC Tp 101 #[.agg #[.int .i64 b,.string c,.slice d.a d.len d.cap,.slice e.a e.len e.cap]] h R:=
 XF ⟨[(6,8000),(14,8000)],[(4,[(20,.one (.int .i64))]),(12,[(42,.one (.int .i64))])],[]⟩ [.cell 2 25] 57 Tryz.func101 H
theorem KX(b:Int)(c:Bt)(d:Sl)(e:Sl)(h:zc)(R:Value->zc->Prop) (H:let f:=h.push (.cells #[iV b,.string c,aK d,aK e] 25);∃g,zd f (zab ⟨h.size,0,Te⟩ 2)=Td (aK g)/\let i:=f.push (.map #[] 0);∃j,zd i (zab ⟨h.size,0,Te⟩ 2)=Td (aK j)/\∃(k:Int->zc->Prop) (l:Int->zc->Nat),k 0 i/\∀m:Int,∀n:zc,k m n->((decide (m<j.len)=Ta->∃o,(j.a=Td o/\0<=m/\m<j.len)/\∃p,zd n (o.add (m.toNat*1))=Td (.string p)/\∃q,zd n (zab ⟨h.size,0,Te⟩ 3)=Td (aK q)/\∃r,(q.a=Td r/\0<=m/\m<q.len)/\∃s t u v,ze n (r.add (m.toNat*4)) 0 (tL s t u v)/\XRunU Tp (zcz 144 (.map (Td f.size)) (.string p) (tA s t u v)) n (λw=>(k (w6 (m+1)) w/\l (w6 (m+1)) w<l m n)))/\(decide (m<j.len)=Tc->R (.map (Td f.size)) n))):
  XC Tp 142 #[.agg #[.int .i64 b,.string c,.slice d.a d.len d.cap,.slice e.a e.len e.cap]] h R:=
 XF ⟨[],[(3,[(13,.one (.int .i64))])],[]⟩ [.tmp 2] 27 Tryz.func142 H
theorem VB(b:Int)(c:Bt)(d:Sl)(e:Sl)(h:zc)(R:Value->zc->Prop) (H:let f:=h.push (.cells #[iV b,.string c,aK d,aK e] 25);∃g i j k,ze f ⟨h.size,0,Te⟩ 0 (tL g i j k)/\XC Tp 86 #[tA g i j k] f (λl m=>∃n,l=.bool n/\∃o p q r,(n=Ta->ze m ⟨h.size,0,Te⟩ 0 (tL o p q r))/\∃s:Value->zc->Prop,(n=Ta->XC Tp 87 #[tA o p q r,.func (.func 88) #[] #[]] m (λt u=>∃v,t=.bool v/\s (.bool v) u))/\(n=Tc->∃w,s (.bool w) m)/\(n=Ta->∀x y,s x y->∃z,x=.bool z)/\∀A:Bool,∀B,s (.bool A) B->R (.bool (bif n then A else Tc)) B)):
  XC Tp 49 #[.agg #[.int .i64 b,.string c,.slice d.a d.len d.cap,.slice e.a e.len e.cap]] h R:=
 XF ⟨[],[],[]⟩ [.tmp 2] 9 Tryz.func49 H
end
section
variable {gl:Fr} {v:Tr} {R:Bool -> Prop}
theorem WS(f:GL gl)(i:Sm v)(h:R (decide (v.kind≠7)&&zi v)):PC Tp gl 88 [Arg.mk .tree v] [.bool] R:=by
 apply Tm;simp only[Y3];refine⟨λb=>b=zi v,λ_=>HN f i rfl,λb c=>?_⟩;cases hk:(v.kind != 7)with
 |false=>
  have e:v.kind=7:=by simpa using hk
  have:(decide (v.kind≠7)&&zi v)=Tc:=by simp[e]
  rw[this]at h;simpa[hk]using h
 |true=>
  have e:v.kind≠7:=by simpa using hk
  have c:=c hk;subst c;have:(decide (v.kind≠7)&&zi v)=zi v:=by simp[e]
  rw[this]at h;simpa[hk]using h
theorem xc(H:GL gl)(D:Sm v)(o:R (zh v)):PC Tp gl 49 [Arg.mk .tree v] [.bool] R:=by
 intro h M vs C ag S
 match vs,S with
 |[u],⟨n,_⟩=>
  have n:RdV M .tree v u:=n;have m:=n;obtain⟨sk,si,rfl,T,V⟩:=qp n;apply PX.of;apply VB v.kind v.text sk si;intro h1;have q:Later h M h1 M:=Later.push ag _;have s1:h1.size=h.size+1:=zaf _;have f:∀h':zc,Keep h1.size h1 h'->ze h' ⟨h.size,0,Te⟩ 0 [.int .i64 v.kind,.string v.text,aK sk,aK si]:=λh' k=>rP (h':=h') (by rw[s1]at k;exact k);clear_value h1;refine⟨v.kind,v.text,sk,si,f h1 (Keep.refl _ _),?_⟩;have y:PC Tp gl 86 [Arg.mk .tree v] [.bool] (λr=>r=Zi v):=ID D rfl;refine y.go (vs:=[.agg #[.int .i64 v.kind,.string v.text,aK sk,aK si]]) (C.trans q.le) q.ag (zr (RdV.mono q.le m) qj) λw E O r z j N=>?_;refine⟨r,Xh j,v.kind,v.text,sk,si,λ_=>f E z.keep,?_⟩;have c:=q.trans z;refine⟨λw t=>∃b,w=.bool b/\(r=Ta->b=yr (λx=>decide (x.kind≠7)&&zi x) v)/\∃B,Later h M t B,λQ=>?_,λl=>⟨Ta,Ta,rfl,λe=>(by rw[e]at l;cases l),O,c⟩,λ_ w t ⟨b,e,_⟩=>⟨b,e⟩,?_⟩;refine(D7 (F:=88) (by kernel_rfl) (p:=λx=>decide (x.kind≠7)&&zi x) (λx P=>WS H P rfl) v D (C.trans c.le) z.ag (RdV.mono c.le m)).go λw U J b I i A=>⟨b,Xh i,b,rfl,λ_=>A,J,c.trans I⟩;rintro b t ⟨b',e,G,B,L⟩;cases e;refine⟨B,_,L,Y1.2 (rdBool _),?_⟩;unfold zh at o;rw[<-N]at o;cases r with
  |false=>exact o
  |true=>rw[zK,G rfl];exact o
end
section
def Bq(P:Program)(t:TypeId)(n:Nat)(u:Value)(h:zc)(K:Value->zc->Prop):Prop:=
 mR P (do let x <-Instr.buildSlice t n #[(0,u)];pure (zep x)) h λb h'=>match b with
  |.value v=>K v h'
  |.skip=>K undef h'
  |_=>False
end
section
theorem TO(b:Int)(c:Bt)(d:Sl)(e:Sl)(h:zc)(R:Value->zc->Prop) (H:let f:=h.push (.cells #[iV b,.string c,aK d,aK e] 25);let g:=f.push (.cells #[.slice Te 0 0,.slice Te 0 0] 31);∃i j k l,ze g ⟨h.size,0,Te⟩ 0 (tL i j k l)/\XC Tp 49 #[tA i j k l] g (λm n=>∃o,m=.bool o/\((!o)=Ta->XRunU Tp (zag 31 (.pointer (Td ⟨f.size,0,Te⟩)) (.agg #[.slice Te 0 0,.slice Te 0 0])) n (λp=>∃q r,ze p ⟨f.size,0,Te⟩ 0 [aK q,aK r]/\R (.tuple #[.agg #[aK q,aK r],iV 1]) p))/\((!o)=Tc->let s:=n.push (.cells #[.slice Te 0 0,.slice Te 0 0] 69);∃t u v w,ze s ⟨h.size,0,Te⟩ 0 (tL t u v w)/\XC Tp 56 #[tA t u v w] s (λx y=>∃z A B C,x=tA z A B C/\XC Tp 55 #[.pointer (Td ⟨n.size,0,Te⟩),tA z A B C] y (λD E=>D=.tuple #[]/\∃F,zd E (zab (zab ⟨n.size,0,Te⟩ 0) 0)=Td (aK F)/\(decide ((F.len:Int)>512)=Ta->XRunU Tp (zag 31 (.pointer (Td ⟨f.size,0,Te⟩)) (.agg #[.slice Te 0 0,.slice Te 0 0])) E (λG=>∃I J,ze G ⟨f.size,0,Te⟩ 0 [aK I,aK J]/\R (.tuple #[.agg #[aK I,aK J],iV 6]) G))/\(decide ((F.len:Int)>512)=Tc->∃L M,ze E (zab ⟨n.size,0,Te⟩ 0) 0 [aK L,aK M]/\XRunU Tp (zag 31 (.pointer (Td ⟨f.size,0,Te⟩)) (.agg #[aK L,aK M])) E (λN=>∃O P,ze N ⟨f.size,0,Te⟩ 0 [aK O,aK P]/\R (.tuple #[.agg #[aK O,aK P],iV 0]) N))))))):
  XC Tp 14 #[.agg #[.int .i64 b,.string c,.slice d.a d.len d.cap,.slice e.a e.len e.cap]] h R:=
 XF ⟨[],[],[]⟩ [.cell 2 31,.tmp 3] 20 Tryz.func14 H
theorem Mk(b:Sl)(c:Sl)(h:zc)(R:Value->zc->Prop) (H:let d:=h.push (.cells #[aK b,aK c] 31);∃e f,ze d ⟨h.size,0,Te⟩ 0 [aK e,aK f]/\XC Tp 21 #[.agg #[aK e,aK f]] d (λg i=>∃j,g=.bool j/\((!j)=Ta->R (.slice Te 0 0) i)/\((!j)=Tc->let k:=i.push (.map #[] 0);∃l,zd k (zab ⟨h.size,0,Te⟩ 1)=Td (aK l)/\∃(m:Int->zc->Prop) (n:Int->zc->Nat),m 0 k/\∀o:Int,∀p:zc,m o p->((decide (o<l.len)=Ta->∃q,(l.a=Td q/\0<=o/\o<l.len)/\∃r,zd p (q.add (o.toNat*1))=Td (iV r)/\XRunU Tp (zcz 79 (.map (Td i.size)) (iV r) (iV o)) p (λs=>(m (w6 (o+1)) s/\n (w6 (o+1)) s<n o p)))/\(decide (o<l.len)=Tc->qu Tp (ze5 79 (.map (Td i.size))) p (λt u=>∃v:Option Addr,t=.pointer v/\∃(w:Sl->zc->Prop) (x:Sl->zc->Nat),w (⟨Te,0,0⟩:Sl) u/\∀y:Sl,∀z:zc,w y z->(qu Tp (zdx (.pointer v) Tc 0) z (λA B=>(A=.tuple #[.bool Tc]/\(Tc=Ta->qu Tp (zes (.pointer v)) B (λC D=>∃E F:Value,C=.tuple #[E,F]/\Bq Tp 29 1 F D (λG I=>qu Tp (zao #[29,29] 29 #[aK y,G]) I (λJ L=>∃M,J=aK M/\(w M L/\x M L<x y z)))))/\(Tc=Tc->XC Tp 64 #[aK y] B (λN O=>N=.tuple #[]/\R (aK y) O)))\/∃P Q:Value,A=.tuple #[.bool Ta,P,Q]/\(Ta=Ta->qu Tp (zes (.pointer v)) B (λS T=>∃U V:Value,S=.tuple #[U,V]/\Bq Tp 29 1 V T (λW X=>qu Tp (zao #[29,29] 29 #[aK y,W]) X (λY Z=>∃aa,Y=aK aa/\(w aa Z/\x aa Z<x y z)))))/\(Ta=Tc->XC Tp 64 #[aK y] B (λab ac=>ab=.tuple #[]/\R (aK y) ac)))))))))):
  XC Tp 28 #[.agg #[.slice b.a b.len b.cap,.slice c.a c.len c.cap]] h R:=
 XF ⟨[],[(5,[(16,.one (.int .i64))]),(11,[(6,.one (.sl))])],[]⟩ [.tmp 2] 38 Tryz.func28 H
theorem Ng(b0:Option Addr)(b:Int)(c:Bt)(d:Sl)(e:Sl)(h:zc)(R:Value->zc->Prop) (H:let f:=h.push (.cells #[.pointer b0] 112);let g:=f.push (.cells #[iV b,.string c,aK d,aK e] 25);∃i,zd g (zab ⟨f.size,0,Te⟩ 0)=Td (iV i)/\((i==5)=Ta->∃j:Option Addr,zd g ⟨h.size,0,Te⟩=Td (.pointer j)/\XC Tp 94 #[.pointer j,.string (⟨#[91]⟩:Bt),.func (.func 95) #[] #[.pointer (Td ⟨f.size,0,Te⟩),.pointer (Td ⟨h.size,0,Te⟩)]] g (λk l=>k=.tuple #[]/\R (.tuple #[]) l))/\((i==5)=Tc->((i==6)=Ta->∃m:Option Addr,zd g ⟨h.size,0,Te⟩=Td (.pointer m)/\XC Tp 94 #[.pointer m,.string (⟨#[123]⟩:Bt),.func (.func 96) #[] #[.pointer (Td ⟨f.size,0,Te⟩),.pointer (Td ⟨h.size,0,Te⟩)]] g (λn o=>n=.tuple #[]/\R (.tuple #[]) o))/\((i==6)=Tc->∃p:Option Addr,zd g ⟨h.size,0,Te⟩=Td (.pointer p)/\∃q r s t,ze g ⟨f.size,0,Te⟩ 0 (tL q r s t)/\XC Tp 97 #[tA q r s t] g (λu v=>∃w,u=.string w/\hZ v g ⟨h.size,0,Te⟩/\XC Tp 94 #[.pointer p,.string w,.func (.func 100) #[] #[]] v (λx y=>x=.tuple #[]/\R (.tuple #[]) y))))):
  XC Tp 55 #[.pointer b0,.agg #[.int .i64 b,.string c,.slice d.a d.len d.cap,.slice e.a e.len e.cap]] h R:=
 XF ⟨[(2,8000)],[],[]⟩ [] 20 Tryz.func55 H
theorem Mq(b:Sl)(c:Sl)(h:zc)(R:Value->zc->Prop) (H:let d:=h.push (.cells #[aK b,aK c] 31);∃e,zd d (zab ⟨h.size,0,Te⟩ 0)=Td (aK e)/\∃f,zd d (zab ⟨h.size,0,Te⟩ 1)=Td (aK f)/\∃g,((!((e.len:Int) != (f.len:Int)))=Ta->zd d (zab ⟨h.size,0,Te⟩ 0)=Td (aK g))/\((bif ((e.len:Int) != (f.len:Int))then Ta else(decide ((g.len:Int)>512)))=Ta->R (.tuple #[.slice Te 0 0,.bool Tc]) d)/\((bif ((e.len:Int) != (f.len:Int))then Ta else(decide ((g.len:Int)>512)))=Tc->∃i,zd d (zab ⟨h.size,0,Te⟩ 1)=Td (aK i)/\qu Tp (zbp 29 (iV (i.len:Int)) (iV (i.len:Int))) d (λj k=>∃l,j=aK l/\∃m,zd k (zab ⟨h.size,0,Te⟩ 1)=Td (aK m)/\∃(n:Sl->Int->zc->Prop) (o:Sl->Int->zc->Nat),n (⟨Te,0,0⟩:Sl) 0 k/\∀p:Sl,∀q:Int,∀r:zc,n p q r->((decide (q<m.len)=Ta->∃s,(m.a=Td s/\0<=q/\q<m.len)/\∃t,zd r (s.add (q.toNat*1))=Td (iV t)/\((bif (decide (t<0))then Ta else(decide (t>q)))=Ta->R (.tuple #[.slice Te 0 0,.bool Tc]) r)/\((bif (decide (t<0))then Ta else(decide (t>q)))=Tc->∃(u:Sl->zc->Prop) (w:Sl->zc->Nat),u p r/\∀x:Sl,∀y:zc,u x y->(∃z,(decide ((x.len:Int)>0)=Ta->(x.a=Td z/\0<=(w6 ((x.len:Int)-1))/\(w6 ((x.len:Int)-1))<(x.len:Int)))/\∃A,(decide ((x.len:Int)>0)=Ta->zd y (z.add ((w6 ((x.len:Int)-1)).toNat*1))=Td (iV A))/\((bif (decide ((x.len:Int)>0))then(decide (A>=t))else Tc)=Ta->∃B,(x.a=Td B/\0<=(w6 ((x.len:Int)-1))/\(w6 ((x.len:Int)-1))<(x.len:Int))/\∃C,zd y (B.add ((w6 ((x.len:Int)-1)).toNat*1))=Td (iV C)/\∃D,zd y (zab ⟨h.size,0,Te⟩ 1)=Td (aK D)/\∃E,(D.a=Td E/\0<=C/\C<D.len)/\∃F,zd y (E.add (C.toNat*1))=Td (iV F)/\(decide (F<t)=Ta->R (.tuple #[.slice Te 0 0,.bool Tc]) y)/\(decide (F<t)=Tc->∃G,(l.a=Td G/\0<=C/\C<l.len)/\let I:zc->Prop:=λ(J:zc)=>((u (⟨x9 x.a 1 ((0:Int).toNat) ((x.cap:Int).toNat),(w6 ((x.len:Int)-1)).toNat-(0:Int).toNat,(x.cap:Int).toNat-(0:Int).toNat⟩:Sl) J/\w (⟨x9 x.a 1 ((0:Int).toNat) ((x.cap:Int).toNat),(w6 ((x.len:Int)-1)).toNat-(0:Int).toNat,(x.cap:Int).toNat-(0:Int).toNat⟩:Sl) J<w x y));(((Te:Option Value)=Te\/∃v,(Td (iV (w6 ((x.len:Int)-1))):Option Value)=Td v)/\(0<=(0:Int)/\(0:Int)<=(w6 ((x.len:Int)-1))/\(w6 ((x.len:Int)-1))<=(x.cap:Int)/\(x.cap:Int)<=(x.cap:Int))/\XRunU Tp (zag 3 (.pointer (Td (G.add (C.toNat*1)))) (iV q)) y (λL=>I L))/\(XRunU Tp (zag 3 (.pointer (Td (G.add (C.toNat*1)))) (iV q)) y (λM=>((Te:Option Value)=Te\/∃v,(Td (iV (w6 ((x.len:Int)-1))):Option Value)=Td v)/\(0<=(0:Int)/\(0:Int)<=(w6 ((x.len:Int)-1))/\(w6 ((x.len:Int)-1))<=(x.cap:Int)/\(x.cap:Int)<=(x.cap:Int))/\I M))))/\((bif (decide ((x.len:Int)>0))then(decide (A>=t))else Tc)=Tc->∃N,(l.a=Td N/\0<=q/\q<l.len)/\XRunU Tp (zag 3 (.pointer (Td (N.add (q.toNat*1)))) (iV (-1))) y (λO=>let P:=O.push (.cells #[iV q] 3);qu Tp (zao #[29,29] 29 #[aK x,.slice (Td ⟨O.size,0,Te⟩) 1 1]) P (λQ S=>∃T,Q=aK T/\(n T (w6 (q+1)) S/\o T (w6 (q+1)) S<o p q r)))))))/\(decide (q<m.len)=Tc->R (.tuple #[aK l,.bool Ta]) r))))):
  XC Tp 60 #[.agg #[.slice b.a b.len b.cap,.slice c.a c.len c.cap]] h R:=
 XF ⟨[(14,8000)],[(6,[(5,.one (.sl)),(29,.one (.int .i64))]),(10,[(5,.one (.sl))])],[]⟩ [.tmp 2,.tmp 3] 85 Tryz.func60 H
theorem OJ(b:Int)(c:Bt)(d:Sl)(e:Sl)(f:Int)(g:Bt)(i:Sl)(j:Sl)(h:zc)(R:Value->zc->Prop) (H:let k:=h.push (.cells #[iV b,.string c,aK d,aK e] 25);let l:=k.push (.cells #[iV f,.string g,aK i,aK j] 25);∀m:Bool->zc->Prop,(∀n:Bool,∀o:zc,((n=Ta->R (.bool Tc) o)/\(n=Tc->∃p,zd o (zab ⟨h.size,0,Te⟩ 0)=Td (iV p)/\((p != 6)=Ta->∃q,zd o (zab ⟨h.size,0,Te⟩ 3)=Td (aK q)/\∃r,zd o (zab ⟨k.size,0,Te⟩ 3)=Td (aK r)/\XC Tp 140 #[aK q,aK r,.func (.func 84) #[] #[]] o (λs t=>∃u,s=.bool u/\R (.bool u) t))/\((p != 6)=Tc->∃v w x y,ze o ⟨h.size,0,Te⟩ 0 (tL v w x y)/\∃z A B C,ze o ⟨k.size,0,Te⟩ 0 (tL z A B C)/\XC Tp 142 #[tA v w x y] o (λD E=>∃F:Option Nat,D=.map F/\hZ E o ⟨k.size,0,Te⟩/\XC Tp 142 #[tA z A B C] E (λG I=>∃J:Option Nat,G=.map J/\XC Tp 141 #[.map F,.map J,.func (.func 84) #[] #[]] I (λL M=>∃N,L=.bool N/\R (.bool N) M))))))->m n o)->∃O,zd l (zab ⟨h.size,0,Te⟩ 0)=Td (iV O)/\∃P,zd l (zab ⟨k.size,0,Te⟩ 0)=Td (iV P)/\((O != P)=Ta->m (O != P) l)/\((O != P)=Tc->∃Q,zd l (zab ⟨h.size,0,Te⟩ 1)=Td (.string Q)/\∃S,zd l (zab ⟨k.size,0,Te⟩ 1)=Td (.string S)/\((!(Q.toList==S.toList))=Ta->m (!(Q.toList==S.toList)) l)/\((!(Q.toList==S.toList))=Tc->∃T,zd l (zab ⟨h.size,0,Te⟩ 3)=Td (aK T)/\∃U,zd l (zab ⟨k.size,0,Te⟩ 3)=Td (aK U)/\m ((T.len:Int) != (U.len:Int)) l))):
  XC Tp 84 #[.agg #[.int .i64 b,.string c,.slice d.a d.len d.cap,.slice e.a e.len e.cap],.agg #[.int .i64 f,.string g,.slice i.a i.len i.cap,.slice j.a j.len j.cap]] h R:=
 XF ⟨[(7,8000)],[],[(4,[(5,.one (.bool))])]⟩ [.tmp 4] 37 Tryz.func84 H
theorem RP(b0:Option Addr)(O:Bt)(P:FuncId)(S:Array Value)(Q:Array Value)(h:zc)(R:Value->zc->Prop) (H:∃b,b0=Td b/\∃c,zd h (zab (zab b 0) 0)=Td (aK c)/\zo Tp P=Ta/\XC Tp P (S++#[]++Q) h (λd e=>d=.tuple #[]/\∃f,b0=Td f/\∃g,zd e (zab (zab f 0) 0)=Td (aK g)/\(decide ((g.len:Int)<=512)=Ta->∃i,b0=Td i/\∃j,zd e (zab (zab i 0) 0)=Td (aK j)/\∃k,b0=Td k/\∃l,zd e (zab (zab k 0) 1)=Td (aK l)/\let m:Sl->Sl->zc->Prop:=λ(n:Sl) (o:Sl) (p:zc)=>(qu Tp (zao #[29,29] 29 #[aK l,aK n]) p (λq r=>∃s,q=aK s/\∃t,b0=Td t/\XRunU Tp (zag 22 (.pointer (Td (zab (zab t 0) 0))) (aK o)) r (λu=>∃v,b0=Td v/\XRunU Tp (zag 29 (.pointer (Td (zab (zab v 0) 1))) (aK s)) u (λw=>R (.tuple #[]) w))));let x:Sl->Sl->zc->Prop:=λ(y:Sl) (z:Sl) (A:zc)=>(qu Tp (zao #[22,22] 22 #[aK j,aK z]) A (λB C=>∃D,B=aK D/\hZ C e ((zab (zab k 0) 1))/\m y D C));(let E:=e.push (.cells #[.string O] 9);hZ E e ((zab (zab k 0) 1))/\hZ E e ((zab (zab i 0) 0))/\(qu Tp (zao #[22,22] 22 #[aK j,.slice (Td ⟨e.size,0,Te⟩) 1 1]) E (λF G=>∃I,F=aK I/\hZ G e ((zab (zab k 0) 1))/\let J:=G.push (.cells #[iV (c.len:Int)] 3);hZ J e ((zab (zab k 0) 1))/\m (⟨Td ⟨G.size,0,Te⟩,1,1⟩:Sl) I J))/\(let L:=E.push (.cells #[iV (c.len:Int)] 3);hZ L e ((zab (zab k 0) 1))/\hZ L e ((zab (zab i 0) 0))/\x (⟨Td ⟨E.size,0,Te⟩,1,1⟩:Sl) (⟨Td ⟨e.size,0,Te⟩,1,1⟩:Sl) L))/\(let M:=e.push (.cells #[iV (c.len:Int)] 3);hZ M e ((zab (zab k 0) 1))/\hZ M e ((zab (zab i 0) 0))/\let N:=M.push (.cells #[.string O] 9);hZ N e ((zab (zab k 0) 1))/\hZ N e ((zab (zab i 0) 0))/\x (⟨Td ⟨e.size,0,Te⟩,1,1⟩:Sl) (⟨Td ⟨M.size,0,Te⟩,1,1⟩:Sl) N))/\(decide ((g.len:Int)<=512)=Tc->R (.tuple #[]) e))):
  XC Tp 94 #[.pointer b0,.string O,.func (.func P) S Q] h R:=
 XF ⟨[(3,8000)],[],[]⟩ [] 46 Tryz.func94 H
theorem W5(w:Addr)(c1:Addr)(h:zc)(R:Value->zc->Prop) (H:∃b,zd h (zab w 3)=Td (aK b)/\∃(c:Int->zc->Prop) (d:Int->zc->Nat),c 0 h/\∀e:Int,∀f:zc,c e f->((decide (e<b.len)=Ta->∃g,(b.a=Td g/\0<=e/\e<b.len)/\∃i j k l,ze f (g.add (e.toNat*4)) 0 (tL i j k l)/\let m:=f.push (.cells tC 25);XRunU Tp (zag 25 (.pointer (Td ⟨f.size,0,Te⟩)) (tA i j k l)) m (λn=>∃o:Option Addr,zd n c1=Td (.pointer o)/\∃p q r s,ze n ⟨f.size,0,Te⟩ 0 (tL p q r s)/\XC Tp 55 #[.pointer o,tA p q r s] n (λt u=>t=.tuple #[]/\(c (w6 (e+1)) u/\d (w6 (e+1)) u<d e f))))/\(decide (e<b.len)=Tc->R (.tuple #[]) f))):
  XC Tp 95 #[.pointer (Td w),.pointer (Td c1)] h R:=
 XF ⟨[],[(1,[(7,.one (.int .i64))])],[]⟩ [] 15 Tryz.func95 H
theorem W6(Y:Addr)(c1:Addr)(h:zc)(R:Value->zc->Prop) (H:∃b,zd h (zab Y 3)=Td (aK b)/\∃(c:Int->zc->Prop) (d:Int->zc->Nat),c 0 h/\∀e:Int,∀f:zc,c e f->((decide (e<b.len)=Ta->∃g,(b.a=Td g/\0<=e/\e<b.len)/\∃i j k l,ze f (g.add (e.toNat*4)) 0 (tL i j k l)/\let m:=f.push (.cells tC 25);XRunU Tp (zag 25 (.pointer (Td ⟨f.size,0,Te⟩)) (tA i j k l)) m (λn=>∃o:Option Addr,zd n c1=Td (.pointer o)/\∃p,zd n (zab Y 2)=Td (aK p)/\∃q,(p.a=Td q/\0<=e/\e<p.len)/\∃r,zd n (q.add (e.toNat*1))=Td (.string r)/\let s:Bt->zc->Prop:=λt (u:zc)=>(XC Tp 94 #[.pointer o,.string t,.func (.func 99) #[] #[.pointer (Td c1),.pointer (Td ⟨f.size,0,Te⟩)]] u (λv w=>v=.tuple #[]/\(c (w6 (e+1)) w/\d (w6 (e+1)) w<d e f)));let x:Int->Bt->Sl->Sl->zc->Prop:=λy z (A:Sl) (B:Sl) (C:zc)=>(XC Tp 97 #[tA y z A B] C (λD E=>∃F,D=.string F/\j6 (((⟨#[107]⟩:Bt)).size+F.size)/\hZ E n c1/\s ((⟨#[107]⟩:Bt)++F) E));(XC Tp 98 #[.string r] n (λG I=>∃J L M N,G=tA J L M N/\hZ I n c1/\(XC Tp 97 #[tA J L M N] I (λO P=>∃Q,O=.string Q/\j6 (((⟨#[107]⟩:Bt)).size+Q.size)/\hZ P n c1/\hZ P n c1/\s ((⟨#[107]⟩:Bt)++Q) P))/\(hZ I n c1/\x J L M N I)))/\(hZ n n ((q.add (e.toNat*1)))/\hZ n n (zab Y 2)/\hZ n n c1/\XC Tp 98 #[.string r] n (λS T=>∃U V W X,S=tA U V W X/\hZ T n c1/\x U V W X T))))/\(decide (e<b.len)=Tc->R (.tuple #[]) f))):
  XC Tp 96 #[.pointer (Td Y),.pointer (Td c1)] h R:=
 XF ⟨[(3,8000)],[(1,[(7,.one (.int .i64))])],[]⟩ [] 24 Tryz.func96 H
theorem Jc(j:Addr)(c1:Addr)(h:zc)(R:Value->zc->Prop) (H:∃b:Option Addr,zd h j=Td (.pointer b)/\∃c d e f,ze h c1 0 (tL c d e f)/\XC Tp 55 #[.pointer b,tA c d e f] h (λg i=>g=.tuple #[]/\R (.tuple #[]) i)):
  XC Tp 99 #[.pointer (Td j),.pointer (Td c1)] h R:=
 XF ⟨[],[],[]⟩ [] 5 Tryz.func99 H
theorem W8(h:zc)(R:Value->zc->Prop) (H:R (.tuple #[]) h):
  XC Tp 100 #[] h R:=
 XF ⟨[],[],[]⟩ [] 0 Tryz.func100 H
theorem qz(F:Sl)(G:Sl)(I:FuncId)(J:Array Value)(L:Array Value)(h:zc)(R:Value->zc->Prop) (H:(((F.len:Int) != (G.len:Int))=Ta->R (.bool Tc) h)/\(((F.len:Int) != (G.len:Int))=Tc->∃(b:Int->zc->Prop) (c:Int->zc->Nat),b 0 h/\∀d:Int,∀e:zc,b d e->((decide (d<F.len)=Ta->∃f,(F.a=Td f/\0<=d/\d<F.len)/\∃g i j k,ze e (f.add (d.toNat*4)) 0 (tL g i j k)/\let l:=e.push (.cells tC 25);XRunU Tp (zag 25 (.pointer (Td ⟨e.size,0,Te⟩)) (tA g i j k)) l (λm=>∃n,(G.a=Td n/\0<=d/\d<G.len)/\∃o p q r,ze m (n.add (d.toNat*4)) 0 (tL o p q r)/\let s:=m.push (.cells tC 25);XRunU Tp (zag 25 (.pointer (Td ⟨m.size,0,Te⟩)) (tA o p q r)) s (λt=>∃u v w x,ze t ⟨e.size,0,Te⟩ 0 (tL u v w x)/\∃y z A B,ze t ⟨m.size,0,Te⟩ 0 (tL y z A B)/\zo Tp I=Ta/\XC Tp I (J++#[tA u v w x,tA y z A B]++L) t (λC D=>∃E,C=.bool E/\((!E)=Ta->R (.bool Tc) D)/\((!E)=Tc->(b (w6 (d+1)) D/\c (w6 (d+1)) D<c d e))))))/\(decide (d<F.len)=Tc->R (.bool Ta) e)))):
  XC Tp 140 #[.slice F.a F.len F.cap,.slice G.a G.len G.cap,.func (.func I) J L] h R:=
 XF ⟨[],[(4,[(17,.one (.int .i64))])],[]⟩ [.tmp 6] 32 Tryz.func140 H
theorem qc(aH:Option Nat)(aG:Option Nat)(aD:FuncId)(aF:Array Value)(aE:Array Value)(h:zc)(R:Value->zc->Prop) (H:∃b,QExec Tp (zdm #[144] 3 #[.map aH]) h (iV b)/\∃c,QExec Tp (zdm #[144] 3 #[.map aG]) h (iV c)/\((b != c)=Ta->R (.bool Tc) h)/\((b != c)=Tc->qu Tp (ze5 144 (.map aH)) h (λd e=>∃f:Option Addr,d=.pointer f/\∃(g:zc->Prop) (i:zc->Nat),g e/\∀j:zc,g j->(qu Tp (zdx (.pointer f) Tc 0) j (λk l=>(k=.tuple #[.bool Tc]/\(Tc=Ta->qu Tp (zes (.pointer f)) l (λm n=>∃o p:Value,m=.tuple #[o,p]/\let q:=n.push (.cells tC 25);XRunU Tp (zag 25 (.pointer (Td ⟨n.size,0,Te⟩)) p) q (λr=>∃s t u v w,QExec Tp (zc1 144 (.map aG) o Ta) r (.tuple #[tA s t u v,.bool w])/\let x:=r.push (.cells tC 25);XRunU Tp (zag 25 (.pointer (Td ⟨r.size,0,Te⟩)) (tA s t u v)) x (λy=>∃z A B C,((!(!w))=Ta->ze y ⟨n.size,0,Te⟩ 0 (tL z A B C))/\∃D E F G,((!(!w))=Ta->ze y ⟨r.size,0,Te⟩ 0 (tL D E F G))/\∃I:Value->zc->Prop,((!(!w))=Ta->zo Tp aD=Ta/\XC Tp aD (aF++#[tA z A B C,tA D E F G]++aE) y (λJ L=>∃M,J=.bool M/\I (.bool M) L))/\((!(!w))=Tc->∃N,I (.bool N) y)/\((!(!w))=Ta->∀O P,I O P->∃Q,O=.bool Q)/\∀S:Bool,∀T,I (.bool S) T->((bif (!w)then Ta else(!S))=Ta->R (.bool Tc) T)/\((bif (!w)then Ta else(!S))=Tc->(g T/\i T<i j))))))/\(Tc=Tc->R (.bool Ta) l))\/∃U V:Value,k=.tuple #[.bool Ta,U,V]/\(Ta=Ta->qu Tp (zes (.pointer f)) l (λW X=>∃Y Z:Value,W=.tuple #[Y,Z]/\let aa:=X.push (.cells tC 25);XRunU Tp (zag 25 (.pointer (Td ⟨X.size,0,Te⟩)) Z) aa (λab=>∃ac ad ae af ag,QExec Tp (zc1 144 (.map aG) Y Ta) ab (.tuple #[tA ac ad ae af,.bool ag])/\let ah:=ab.push (.cells tC 25);XRunU Tp (zag 25 (.pointer (Td ⟨ab.size,0,Te⟩)) (tA ac ad ae af)) ah (λai=>∃aj ak al am,((!(!ag))=Ta->ze ai ⟨X.size,0,Te⟩ 0 (tL aj ak al am))/\∃an ao ap aq,((!(!ag))=Ta->ze ai ⟨ab.size,0,Te⟩ 0 (tL an ao ap aq))/\∃ar:Value->zc->Prop,((!(!ag))=Ta->zo Tp aD=Ta/\XC Tp aD (aF++#[tA aj ak al am,tA an ao ap aq]++aE) ai (λau av=>∃aw,au=.bool aw/\ar (.bool aw) av))/\((!(!ag))=Tc->∃ax,ar (.bool ax) ai)/\((!(!ag))=Ta->∀ay az,ar ay az->∃aA,ay=.bool aA)/\∀aB:Bool,∀aC,ar (.bool aB) aC->((bif (!ag)then Ta else(!aB))=Ta->R (.bool Tc) aC)/\((bif (!ag)then Ta else(!aB))=Tc->(g aC/\i aC<i j))))))/\(Ta=Tc->R (.bool Ta) l)))))):
  XC Tp 141 #[.map aH,.map aG,.func (.func aD) aF aE] h R:=
 XF ⟨[],[(4,[])],[]⟩ [.tmp 6] 38 Tryz.func141 H
end
end
section
open Go.ChangeMaps
variable {h h':zc} {m r:Nat} {P:Program} {t kt et ty:TypeId} {K:Value -> zc -> Prop} {dn:List Value}
def MapW(h:zc)(m:Nat)(l:List (Value×Value)):Prop:=
 ∃c b,h[m]?=Td (.map c b)/\c.toList.map (λe=>(e.key,e.val))=l/\(∀e∈c.toList,e.born<b)/\(c.toList.map (·.born)).Nodup
theorem MapW.keep{l:List (Value×Value)}(H:MapW h m l)(k:h'[m]?=h[m]?):MapW h' m l:=by obtain⟨b,c,h1,e⟩:=H;exact⟨b,c,k.trans h1,e⟩
theorem MapW.lt{l:List (Value×Value)}(H:MapW h m l):m<h.size:=by obtain⟨b,c,h1,e⟩:=H;grind
theorem MapW.new(h:zc):MapW (h.push (.map #[] 0)) h.size []:=⟨#[],0,yc _ _,rfl,by simp,by simp⟩
def Y5(l:List (Bt×Value)):List (Value×Value):=l.map λp=>(zaz p.1,p.2)
theorem MapW.at{l:List (Bt×Value)}(H:MapW h m (Y5 l)):MapAt h m l:=by obtain⟨b,c,h1,e,_⟩:=H;exact⟨b,c,h1,e⟩
theorem FM{z:Value}(T:MapT P t kt et z){l:List (Bt×Value)}(H:MapW h m (Y5 l))(k:Bt)(v:Value){K:zc->Prop}
  (y:∀h':zc,MapW h' m (Y5 (kY l k v))->h'.size=h.size->(∀i,i≠m->h'[i]?=h[i]?)->K h'):XRunU P (zcz t (.map (Td m)) (.string k) v) h K:=by
 have f:=H.lt;obtain⟨b,c,h1,r,N,L⟩:=H;intro B d;have D:=QExec.underlying (h:=h) T.map B d;have x:=Q3 (P:=P) h1 B d;have E:=wV T.key Tc k h B d;have n:∀o:Obj,(setObj m o).run P (mk B d h)=.ok () (mk B d (h.setIfInBounds m o)):=by intro o;have:(mk B d h).heap[m]?=Td (.map b c):=h1;simp[setObj,Sem.run,this];rfl
 unfold zcz;rcases Wh k b.toList l 0 r with⟨g1,g2⟩|⟨j,Q,e,g1,g2,J,M,I,F⟩;refine⟨d,h.setIfInBounds m (.map (b.push { key:=.string k,val:=v,born:=c }) (c+1)),?_,y _ ⟨b.push { key:=.string k,val:=v,born:=c },c+1,by simp[f],?_,?_,?_⟩ (by simp) (λi hi=>by grind)⟩;rw[Sem.run_bind,D];simp only[Result.andThen_ok,Sem.run_bind,x,E];rw[Zx T.key k b.toList Te h g2 B d];simp_all;rw[Wi g1];unfold Y5 at r ⊢;simp[r];grind;grind;have C:j<b.size:=by have:=(za5.1 g2).1;simpa using this
 have w:((b.modify j λe=>{ e with key:=.string k,val:=v }).toList.map (·.born))=b.toList.map (·.born):=by apply zbd;intro i;simp only[Array.toList_modify,zcc,List.getElem?_modify];by_cases G:j=i;simp_all;simp_all
 refine⟨d,_,?_,y (h.setIfInBounds m (.map (b.modify j λe=>{ e with key:=.string k,val:=v }) c)) ⟨b.modify j λe=>{ e with key:=.string k,val:=v },c,by simp[f],?_,?_,?_⟩ (by simp) (λi hi=>by grind)⟩;rw[Sem.run_bind,D];simp only[Result.andThen_ok,Sem.run_bind,x,E];rw[Zx T.key k b.toList _ h I B d];simp only[Result.andThen_ok,zas];have q:((b[j]?).map (·.key)).getD (.string k)=.string k:=by
  have:b[j]?=Td e:=by simpa using g2
  rw[this];exact J
 rw[q];have O:zdy (.string k) (.string k)=pure (.string k):=by unfold zdy;rw[zA (by show(k==k)=Ta;simp)]
 simp_all;have:=F v;unfold Y5;grind;intro A u;have:A.born∈((b.modify j λe=>{ e with key:=.string k,val:=v }).toList.map (·.born)):=zay.2 ⟨A,u,rfl⟩;grind;simp_all
def MapIt(h:zc)(r m:Nat)(l:List (Value×Value))(dn:List Value):Prop:=
 ∃j f b i c,h[r]?=Td (.mapIter (Td m) b i c)/\h[m]?=Td (.map j f)/\j.toList.map (λe=>(e.key,e.val))=l/\(∀e∈j.toList,e.born<b)/\b<=c/\b<=f/\(j.toList.map (·.born)).Nodup /\
  ∀e∈j.toList,i.contains e.born=Ta↔e.key∈dn
theorem MapIt.keep{l:List (Value×Value)}(H:MapIt h r m l dn)(i:h'[r]?=h[r]?)(k2:h'[m]?=h[m]?):MapIt h' r m l dn:=by obtain⟨k,e,b,f,c,h1,j,n⟩:=H;exact⟨k,e,b,f,c,i.trans h1,k2.trans j,n⟩
def FJ(h:zc)(r m:Nat)(k v:Value):Prop:=
 ∃(i:Array MapEntry) (b c:Nat) (f:Array Nat) (e:MapEntry),h[r]?=Td (.mapIter (Td m) c (f.push e.born) b)/\h[m]?=Td (.map i b)/\e∈i.toList/\(i.toList.map (·.born)).Nodup/\e.key=k/\e.val=v
theorem vI(q:P.underlying t=Td (.map kt et)){l:List (Value×Value)}(H:MapW h m l)
  (r:∀h',h'.size=h.size+1->Keep h.size h h'->MapIt h' h.size m l []->K (.pointer (Td ⟨h.size,0,Te⟩)) h'):qu P (ze5 t (.map (Td m))) h K:=by
 have b:=H.lt;obtain⟨j,c,h1,f,n,i⟩:=H;intro B d;have k:=QExec.underlying (h:=h) q B d;have o:=Q3 (P:=P) h1 B d;refine⟨.pointer (Td ⟨h.size,0,Te⟩),d,h.push (.mapIter (Td m) c #[] c),?_,r _ (by simp) (Keep.push _ _ (zac _)) ⟨j,c,c,#[],c,yc _ _,?_,f,n,zac _,zac _,i,λe u=>by simp⟩⟩;unfold ze5;rw[Sem.run_bind,k];simp only[Result.andThen_ok,Sem.run_bind,o,Sem.run_pure];rfl;grind
theorem QO{c:List MapEntry}(h:(c.map (·.born)).Nodup){a b:MapEntry}(f:a∈c)(j:b∈c)(e:a.born=b.born):a=b:=by
 induction c with
 |nil=>cases f
 |cons x c i=>grind
theorem Vu{c:List MapEntry}(h:(c.map (·.key)).Nodup){a b:MapEntry}(f:a∈c)(j:b∈c)(e:a.key=b.key):a=b:=by
 induction c with
 |nil=>cases f
 |cons x c i=>grind
def leftN(h:zc)(r m:Nat):Nat:=match h[r]?,h[m]? with
 |some (.mapIter _ _ seen _),Td (.map es _)=>(es.toList.filter λe=>!seen.contains e.born).length
 |_,_=>0
theorem leftN.keep(b:h'[r]?=h[r]?)(k2:h'[m]?=h[m]?):leftN h' r m=leftN h r m:=by unfold leftN;rw[b,k2]
theorem Es{α:Type}{p q:α->Bool}(h:∀x,p x=Ta->q x=Ta):∀l:List α,(l.filter p).length<=(l.filter q).length
 |[]=>zac _
 |x::l=>by have:=Es h l;grind
theorem filter_lt{α:Type}{p q:α->Bool}(h:∀x,p x=Ta->q x=Ta){e:α}(h1:p e=Tc)(c:q e=Ta):∀l:List α,e∈l->(l.filter p).length<(l.filter q).length
 |[],b=>by cases b
 |x::l,b=>by rw[zed,zed];rcases zan.1 b with rfl|b;have:=Es h l;grind;have:=filter_lt h h1 c l b;grind
theorem Bm{l:List (Value×Value)}(H:MapIt h r m l dn)(Y:(l.map (·.1)).Nodup)(G:r≠m) (y:(∀p∈l,p.1∈dn)->K (.tuple #[.bool Tc]) h) (u:∀k v,(k,v)∈l->k∉dn->∀h',MapIt h' r m l (k::dn)->FJ h' r m k v->h'.size=h.size->(∀j,j≠r->h'[j]?=h[j]?)->leftN h' r m<leftN h r m->K (.tuple #[.bool Ta,k,v]) h'):
  qu P (zdx (.pointer (Td ⟨r,0,Te⟩)) Tc ty) h K:=by
 obtain⟨o,b,f,i,c,h1,C,E,J,U,O,I,L⟩:=H;intro B d;have T:(o.toList.map (·.key)).Nodup:=by
  have e:o.toList.map (·.key)=l.map (·.1):=by rw[<-E,zav];rfl
  rw[e];exact Y
 rcases run_next_at (P:=P) (mk B d h) ty r m f c i o b h1 C J U with⟨Q,A⟩|⟨e,M,w1,S,A⟩;refine⟨_,d,h,A,y λp N=>?_⟩;rw[<-E]at N;obtain⟨x,w,rfl⟩:=zay.1 N;refine(L x w).1 ?_;have:leftOf o i=#[]:=Array.eq_empty_of_size_eq_zero Q;unfold leftOf at this;simp_all;have n:e∈o.toList/\i.contains e.born=Tc:=by unfold leftOf at M;simpa using M
 have V:r<h.size:=(zat.1 h1).1;have z:∃D,setBlock w1 r (.mapIter (Td m) f (i.push e.born) b)=mk B D (h.setIfInBounds r (.mapIter (Td m) f (i.push e.born) b)):=by rcases S with rfl|rfl;exact⟨d,rfl⟩;exact⟨d+1,rfl⟩
 obtain⟨D,F⟩:=z;rw[F]at A;have q:(h.setIfInBounds r (.mapIter (Td m) f (i.push e.born) b))[m]?=Td (.map o b):=by rw[zb4 G];exact C
 have t:(h.setIfInBounds r (.mapIter (Td m) f (i.push e.born) b))[r]?=Td (.mapIter (Td m) f (i.push e.born) b):=by simp[V]
 refine⟨_,D,_,A,u e.key e.val (by grind) (λhm=>?_) _ ⟨o,b,f,i.push e.born,b,t,q,E,J,O,O,I,λx w=>?_⟩ ⟨o,b,f,i,e,t,q,n.1,I,rfl,rfl⟩ (by simp) (λj Z=>by grind) ?_⟩;grind;rw[zan,<-L x w];simp only[Array.contains_eq_mem,Array.mem_push,zG];constructor;rintro(h|h);exact .inr h;exact .inl (by rw[QO I w n.1 h]);rintro(h|h);exact .inr (by rw[Vu T w n.1 h]);exact .inl h;unfold leftN;rw[t,q,h1,C];refine filter_lt (e:=e) (λx w=>?_) ?_ ?_ _ n.1;simp_all;simp;grind
theorem BS{k v:Value}(H:FJ h r m k v)(n:K (.tuple #[k,v]) h):qu P (zes (.pointer (Td ⟨r,0,Te⟩))) h K:=by obtain⟨l,c,b,f,e,h1,i,o,j,rfl,rfl⟩:=H;intro B d;exact⟨_,d,h,run_entry_at (P:=P) (mk B d h) r m b f l c e h1 i o j,n⟩
theorem CB(j:P.underlying t=Td (.map kt et)){l:List (Value×Value)}(H:MapW h m l):QExec P (zdm #[t] ty #[.map (Td m)]) h (.int .i64 (l.length:Int)):=by
 obtain⟨f,c,h1,e,_⟩:=H;intro B d;have i:=QExec.underlying (h:=h) j B d;have k:=Q3 (P:=P) h1 B d;have b:l.length=f.size:=by rw[<-e];simp
 simp[zdm,i,k,goInt,b]
end
section
open Go.Lib
theorem mapVal:MapT Tp 144 9 25 (.agg #[.int .i64 0,.string ⟨#[]⟩,.slice Te 0 0,.slice Te 0 0]):=⟨by kernel_rfl,by kernel_rfl,⟨Tryz.t25,by kernel_rfl,by kernel_rfl⟩⟩
theorem F5(k:Bt):∀(ks:List Bt) (us:List Value) (i:Nat),ks.length=us.length->(idxFromS ks k i=-1/\il (ks.zip us) k=Te)\/∃j u,idxFromS ks k i=((i+j:Nat):Int)/\us[j]?=Td u/\il (ks.zip us) k=Td u
 |[],[],_,_=>.inl ⟨rfl,rfl⟩
 |z::ks,u::us,i,h=>by unfold idxFromS;rw[zdc,il];by_cases hz:z=k;rw[zA hz];exact .inr ⟨0,u,rfl,rfl,by rw[zA hz]⟩;rw[zv hz,zv hz];rcases F5 k ks us (i+1) (by simpa using h)with h1|⟨j,w,h1,b,c⟩;exact .inl h1;exact .inr ⟨j+1,w,by rw[h1];congr 1;omega,by simpa using b,c⟩
 |[],_::_,_,h=>by simp at h
 |_::_,[],_,h=>by simp at h
theorem vT{l:List (Bt×Value)}{k:Bt}(h:k∉l.map (·.1)):il l k=Te:=by
 induction l with
 |nil=>rfl
 |cons p l b=>simp only[za1,zan,not_or]at h;rw[il,zv (λe=>h.1 e.symm),b h.2]
theorem EC{α β:Type}{xs:List α}{ys:List β}{k:Nat}(b:k<xs.length){u:β}(c:ys.length=k):(xs.take (k+1)).zip (ys++[u])=(xs.take k).zip ys++[(xs[k],u)]:=by rw[zal b,List.zip_append (by simp;omega)];rfl
set_option maxHeartbeats 1000000 in
theorem vY{v:Tr}(Y:v.keys.Nodup)(hl:v.keys.length=v.items.length)(hi:v.items.length<=1000000000000){h:zc}{M:Fr}{u:Value}(ag:AgM M h)(U:RdV M .tree v u){K:Value->zc->Prop} (S:∀(h':zc) (m:Nat) (us:List Value),Keep h.size h h'->h.size<=m->us.length=v.items.length->(∀i (h1:i<v.items.length) (l:i<us.length),RdV M .tree v.items[i] us[i])->MapW h' m (Y5 (v.keys.zip us))->K (.map (Td m)) h'):
  XC Tp 142 #[u] h K:=by
 obtain⟨sk,si,rfl,F,L⟩:=qp U;obtain⟨C,_,_⟩:=rowLen F;obtain⟨li,_,_⟩:=rowLen L;apply KX v.kind v.text sk si;intro h1;have N:Keep h.size h h1:=Keep.push _ _ (zac _);have b1:Blk h1 h.size (zj v.kind v.text sk si).toArray:=Blk.new _ _ _;have z1:h1.size=h.size+1:=zaf _;clear_value h1;refine⟨sk,b1.cellAdd (by rfl),?_⟩;intro c;have E:Keep h1.size h1 c:=Keep.push _ _ (zac _);have P:MapW c h1.size []:=MapW.new _;have z3:c.size=h1.size+1:=zaf _;clear_value c;have b3:=b1.ofKeep E;have Q:Keep h.size h c:=N.trans E (by omega);refine⟨sk,b3.cellAdd (by rfl),λx g=>∃(k:Nat) (us:List Value),x=(k:Int)/\k<=v.items.length/\us.length=k/\g.size=c.size/\(∀j,j≠h1.size->g[j]?=c[j]?)/\(∀i (h1:i<v.items.length) (l:i<us.length),RdV M .tree v.items[i] us[i])/\MapW g h1.size (Y5 ((v.keys.take k).zip us)),λx _=>v.items.length-x.toNat,⟨0,[],rfl,za0 _,rfl,rfl,λ_ _=>rfl,λi _ l=>by simp at l,by simpa[Y5]using P⟩,?_⟩;rintro x g ⟨k,us,rfl,hk,n,zg,A,H,z⟩;have D:Keep h.size h g:=⟨by omega,λj w=>by rw[A j (by omega)];exact Q.get j w⟩;have agg:=ag.keep D;refine⟨λt=>?_,λt=>?_⟩;have b:k<v.keys.length:=by rw[C]at t;simp at t;omega
 have q:k<v.items.length:=by omega
 refine jP agg F b rfl rfl ?_;have T:Blk g h.size (zj v.kind v.text sk si).toArray:=b3.keep (A _ (by omega));obtain⟨a,G,I,ea,B,O,Z⟩:=Jt agg L q;refine⟨si,T.cellAdd (by rfl),a,⟨ea,by omega,by omega⟩,v.items[k].kind,v.items[k].text,G,I,?_,?_⟩;rw[zae];exact B;refine FM mapVal z v.keys[k] _ λg' o V y=>?_;rw[je q (by omega)];refine⟨⟨k+1,us++[.agg #[.int .i64 v.items[k].kind,.string v.items[k].text,aK G,aK I]],rfl,by omega,by simp;omega,by omega,λj w=>(y j w).trans (A j w),λi h1 l=>?_,?_⟩,by simp only[zae];omega⟩;rw[List.getElem_append];split;rename_i c;exact H i h1 c;rename_i c;have:i=k:=by simp at l;omega
 subst this;simp only[n,ze9,List.getElem_cons_zero];exact qe O Z;rw[EC b n];have f:il ((v.keys.take k).zip us) v.keys[k]=Te:=vT λJ=>by
  rw[List.map_fst_zip (by simp;omega)]at J;have r:=Y;have e:v.keys=v.keys.take k++v.keys[k]::v.keys.drop (k+1):=by rw[<-zbt b,zca]
  rw[e,zb2]at r;exact r.2.2 _ J _ za2 rfl
 rw[Wi f]at o;exact o;have b:k=v.keys.length:=by rw[C]at t;simp at t;omega
 subst b;rw[zba]at z;exact S g h1.size us D (by omega) (by omega) H z
end
section
theorem YR(gl:Fr)(b:(List Bt)×List Int)(R:Bool->Prop) (H:PC Tp gl 60 [Arg.mk (.pair (.row .str) (.row PJ)) (b.1,b.2)] [.row PJ,.bool] (λa:(List Int)×Bool=>R a.2)):
  PC Tp gl 21 [Arg.mk (.pair (.row .str) (.row PJ)) b] [.bool] R:=
 PF ⟨[],[],[],[]⟩ [.tmp 2] 11 Tryz.func21 H
theorem Lc(gl:Fr)(f:Tr)(b1:Tr)(R:Bool->Prop) (H:PC Tp gl 83 [Arg.mk .tree (Tr.mk f.kind f.text f.keys f.items)] [.bool] (λa:Bool=>∃b:Bool->Prop,(a=Ta->PC Tp gl 83 [Arg.mk .tree (Tr.mk b1.kind b1.text b1.keys b1.items)] [.bool] b)/\∀c:Bool,(a=Ta->b c)->∃d:Bool->Prop,((bif a then c else Tc)=Ta->PC Tp gl 84 [Arg.mk .tree (Tr.mk f.kind f.text f.keys f.items),Arg.mk .tree (Tr.mk b1.kind b1.text b1.keys b1.items)] [.bool] d)/\∀e:Bool,((bif a then c else Tc)=Ta->d e)->R (bif (bif a then c else Tc)then e else Tc))):
  PC Tp gl 46 [Arg.mk .tree f,Arg.mk .tree b1] [.bool] R:=
 PF ⟨[],[],[],[]⟩ [.tmp 4] 16 Tryz.func46 H
theorem MV(gl:Fr)(b:Tr)(R:Bt->Prop) (H:PC Tp gl 126 [Arg.mk .tree (Tr.mk b.kind b.text b.keys b.items)] [.str,.int .i64] (λa:Bt×Int=>R a.1)):
  PC Tp gl 97 [Arg.mk .tree b] [.str] R:=
 PF ⟨[],[],[],[]⟩ [.tmp 2] 11 Tryz.func97 H
end
section
open Go.Lib
variable {gl M:Fr} {F:FuncId} {xs ys:List Tr} {h:zc}
theorem VM(hF:zo Tp F=Ta){q:Tr->Tr->Bool}(hp:∀x∈xs,∀y∈ys,PC Tp gl F [Arg.mk .tree x,Arg.mk .tree y] [.bool] (λr=>r=q x y)){s1 s2:Sl}(hM:Fr.le gl M)(ag:AgM M h) (r1:Rd M (.row .tree) xs [aK s1]) (r2:Rd M (.row .tree) ys [aK s2]):
  PX Tp 140 #[aK s1,aK s2,.func (.func F) #[] #[]] h M [.bool] (λr=>r=(decide (xs.length=ys.length)&&(xs.zip ys).all λp=>q p.1 p.2)):=by
 obtain⟨T,n1,_⟩:=rowLen r1;obtain⟨l2,n2,_⟩:=rowLen r2;apply PX.of;apply qz s1 s2 F #[] #[];refine⟨λB=>⟨M,_,Later.refl ag,Y1.2 (rdBool _),?_⟩,λB=>?_⟩;have:¬xs.length=ys.length:=by rw[T,l2]at B;simp at B;omega
 simp[this];have ae:xs.length=ys.length:=by rw[T,l2]at B;simp at B;omega
 refine⟨λi g=>∃(k:Nat) (M':Fr),i=(k:Int)/\k<=xs.length/\Later h M g M'/\((xs.zip ys).take k).all (λp=>q p.1 p.2)=Ta,λi _=>xs.length-i.toNat,⟨0,M,rfl,za0 _,Later.refl ag,by simp⟩,?_⟩;rintro i g ⟨k,M',rfl,hk,L,b⟩;refine⟨λC=>?_,λC=>?_⟩;have n:k<xs.length:=by rw[T]at C;simp at C;omega
 have H:k<ys.length:=by omega
 obtain⟨a,G,A,ea,Z,t1,t2⟩:=Jt L.ag (r1.mono L.le) n;refine⟨a,⟨ea,by omega,by omega⟩,xs[k].kind,xs[k].text,G,A,by rw[zae];exact Z,?_⟩;intro e;have aj:Keep g.size g e:=Keep.push _ _ (zac _);have ai:Blk e g.size (zj 0 ⟨#[]⟩ ⟨Te,0,0⟩ ⟨Te,0,0⟩).toArray:=Blk.new _ _ _;have al:e.size=g.size+1:=zaf _;clear_value e;refine jh ai rfl _ _ _ _ λc ab au Y=>?_;have O:Keep g.size g c:=⟨by omega,λj hj=>by rw[Y j (by omega)];exact aj.get j hj⟩;have t:=L.ag.keep O;obtain⟨a2,Q,S,aa,z,t3,t4⟩:=Jt t (r2.mono L.le) H;refine⟨a2,⟨aa,by omega,by omega⟩,ys[k].kind,ys[k].text,Q,S,by rw[zae];exact z,?_⟩;intro l;have P:Keep c.size c l:=Keep.push _ _ (zac _);have af:Blk l c.size (zj 0 ⟨#[]⟩ ⟨Te,0,0⟩ ⟨Te,0,0⟩).toArray:=Blk.new _ _ _;have am:l.size=c.size+1:=zaf _;clear_value l;refine jh af rfl _ _ _ _ λm ah an N=>?_;have u:Blk m g.size (zj xs[k].kind xs[k].text G A).toArray:=(ab.ofKeep P).keep (N _ (by omega));have ak:Keep g.size g m:=⟨by omega,λj hj=>by rw[N j (by omega),P.get j (by omega)];exact O.get j hj⟩;have f:Later h M m M':=L.trans (Later.same L.ag ak);refine⟨xs[k].kind,xs[k].text,G,A,u.ld (cs:=zj xs[k].kind xs[k].text G A),ys[k].kind,ys[k].text,Q,S,ah.ld (cs:=zj ys[k].kind ys[k].text Q S),hF,?_⟩;have o:=(hp xs[k] (zak n) ys[k] (zak H)).px (h:=m) (M:=M') (vs:=[.agg #[.int .i64 xs[k].kind,.string xs[k].text,aK G,aK A],.agg #[.int .i64 ys[k].kind,.string ys[k].text,aK Q,aK S]]) (hM.trans f.le) f.ag (zr (qe t1 t2) (zr (qe t3 t4) qj));refine o.go λw ar E r J D hr=>?_;have hr:r=q xs[k] ys[k]:=hr;subst hr;have I:(xs.zip ys).take (k+1)=(xs.zip ys).take k++[(xs[k],ys[k])]:=by rw[zal (by simp;omega)];simp
 refine⟨q xs[k] ys[k],Xh D,λhf=>⟨E,_,f.trans J,Y1.2 (rdBool _),?_⟩,λht=>?_⟩;have U:q xs[k] ys[k]=Tc:=by simpa using hf
 have:(xs.zip ys).all (λp=>q p.1 p.2)=Tc:=by rw[List.all_eq_false];exact⟨(xs[k],ys[k]),zdr.2 ⟨k,by simp;omega,by simp⟩,by simp[U]⟩
 rw[this,Bool.and_false];have V:q xs[k] ys[k]=Ta:=by simpa using ht
 rw[je n (by omega)];refine⟨⟨k+1,E,rfl,n,f.trans J,?_⟩,by simp only[zae];omega⟩;rw[I,zei,b];simp[V];have ac:k=xs.length:=by rw[T]at C;simp at C;omega
 subst ac;refine⟨M',_,L,Y1.2 (rdBool _),?_⟩;rw[zbu (by simp;omega)]at b;rw[b];simp[ae]
theorem W3{l:List Bt}(h:l.Nodup){i j:Nat}(hi:i<l.length)(b:j<l.length)(e:l[i]=l[j]):i=j:=by unfold List.Nodup at h;rw[List.pairwise_iff_getElem]at h;rcases Nat.lt_trichotomy i j with h1|h1|h1;exact absurd e (h i j hi b h1);exact h1;exact absurd e.symm (h j i b hi h1)
theorem Dz{a b:Bt}(h:zaz a=zaz b):a=b:=by injection h
theorem Ob(ks:List Bt)(us:List Value)(h:ks.length=us.length):(Y5 (ks.zip us)).map (·.1)=ks.map zaz:=by
 unfold Y5;rw[zav];have:(ks.zip us).map (λp=>zaz p.1)=(ks.zip us).unzip.1.map zaz:=by simp
 show(ks.zip us).map (λp=>zaz p.1)=_;rw[this,List.unzip_zip h]
theorem YG{ks:List Bt}(h:ks.Nodup):(ks.map zaz).Nodup:=by
 induction ks with
 |nil=>simp
 |cons k ks b=>rw[zbq]at h;rw[za1,zbq];refine⟨λc=>?_,b h.2⟩;obtain⟨x,f,e⟩:=zay.1 c;exact h.1 (Dz e ▸ f)
set_option maxHeartbeats 2000000 in
theorem TA(hF:zo Tp F=Ta){q:Tr->Tr->Bool}{f l:List Bt}{A o:List Value}(au:f.Nodup)(la:f.length=xs.length)(be:l.length=ys.length)(a6:A.length=xs.length)(a8:o.length=ys.length)(aV:xs.length<=1000000000000/\ys.length<=1000000000000) (hp:∀x∈xs,∀y∈ys,PC Tp gl F [Arg.mk .tree x,Arg.mk .tree y] [.bool] (λr=>r=q x y)) {B m2:Nat} (hM:Fr.le gl M) (ag:AgM M h) (w1:MapW h B (Y5 (f.zip A))) (w2:MapW h m2 (Y5 (l.zip o))) (ra:∀i (h1:i<xs.length) (h2:i<A.length),RdV M .tree xs[i] A[i]) (rb:∀i (h1:i<ys.length) (h2:i<o.length),RdV M .tree ys[i] o[i]):
  PX Tp 141 #[.map (Td B),.map (Td m2),.func (.func F) #[] #[]] h M [.bool] (λr=>r=(decide (xs.length=ys.length)&&(f.zip xs).all λp=>kK l ys q p.1 p.2)):=by
 apply PX.of;apply qc (Td B) (Td m2) F #[] #[];have L1:(Y5 (f.zip A)).length=xs.length:=by unfold Y5;simp;omega
 have E:(Y5 (l.zip o)).length=ys.length:=by unfold Y5;simp;omega
 have Q:=CB (P:=Tp) (ty:=3) mapVal.map w1;have O:=CB (P:=Tp) (ty:=3) mapVal.map w2;rw[L1]at Q;rw[E]at O;refine⟨xs.length,Q,ys.length,O,λhx=>⟨M,_,Later.refl ag,Y1.2 (rdBool _),?_⟩,λhx=>?_⟩;have:¬xs.length=ys.length:=by simp at hx;omega
 simp[this];have aQ:xs.length=ys.length:=by simp at hx;omega
 have aT:=w1.lt;have am:=w2.lt;have aS:((Y5 (f.zip A)).map (·.1)).Nodup:=by rw[Ob _ _ (by omega)];exact YG au
 refine vI mapVal.map w1 λh4 z4 k4 aP=>⟨Td ⟨h.size,0,Te⟩,rfl,?_⟩;refine⟨λg=>∃dn M',MapIt g h.size B (Y5 (f.zip A)) dn/\Later h M g M'/\h.size<g.size/\∀i (h1:i<f.length) (h2:i<xs.length),zaz f[i]∈dn->kK l ys q f[i] xs[i]=Ta,λg=>leftN g h.size B,⟨[],M,aP,Later.same ag k4,by omega,λi _ _ hm=>by cases hm⟩,?_⟩;rintro g ⟨dn,M',it,L,zg,an⟩;have kg:=L.keep;refine Bm it aS (by omega) (λah=>.inl ⟨rfl,(λZ=>by cases Z),λ_=>⟨M',_,L,Y1.2 (rdBool _),?_⟩⟩) λk u ay hk g1 aO aC z1 f1 ai=>.inr ⟨k,u,rfl,λ_=>?_,λZ=>by cases Z⟩;have aB:((f.zip xs).all λp=>kK l ys q p.1 p.2)=Ta:=by rw[za7];intro p U;obtain⟨i,hi,e⟩:=zdj U;rw[List.length_zip,Nat.lt_min]at hi;have:=an i hi.1 hi.2 (ah (.string f[i],A[i]) (by unfold Y5;refine zay.2 ⟨(f[i],A[i]),zdr.2 ⟨i,by simp;omega,by simp⟩,rfl⟩));rw[<-e];simpa using this
 rw[aB];simp[aQ]
 ·obtain⟨i,aM,aE,ek,eu⟩:∃i,∃(h1:i<f.length) (h2:i<A.length),k=.string f[i]/\u=A[i]:=by unfold Y5 at ay;obtain⟨p,U,e⟩:=zay.1 ay;obtain⟨i,hi,H⟩:=zdj U;rw[List.length_zip,Nat.lt_min]at hi;simp at H;injection e with e3 e4;exact⟨i,hi.1,hi.2,by rw[<-e3,<-H],by rw[<-e4,<-H]⟩
  subst ek;subst eu;have ae:i<xs.length:=by omega
  have ar:Keep h.size h g1:=⟨by omega,λj V=>by rw[f1 j (by omega)];exact kg.get j V⟩;have az:AgM M' g1:=λb c e=>by obtain⟨T,mm,H⟩:=L.ag b c e;by_cases hb:b=h.size;subst hb;obtain⟨_,_,_,_,_,e3,_⟩:=it;rw[e3]at H;cases H;exact⟨T,mm,by rw[f1 b hb];exact H⟩
  refine BS aC ⟨_,_,rfl,?_⟩;intro I;have aL:Keep g1.size g1 I:=Keep.push _ _ (zac _);have aJ:Blk I g1.size (zj 0 ⟨#[]⟩ ⟨Te,0,0⟩ ⟨Te,0,0⟩).toArray:=Blk.new _ _ _;have aZ:I.size=g1.size+1:=zaf _;clear_value I;obtain⟨ck,ci,eu,t1,t2⟩:=qp (ra i ae aE);rw[eu];refine jh aJ rfl _ _ _ _ λt aI aY aF=>?_;have S:Keep g1.size g1 t:=⟨by omega,λj V=>by rw[aF j (by omega)];exact aL.get j V⟩;have aU:=az.keep S;have aG:MapW t m2 (Y5 (l.zip o)):=w2.keep ((S.get _ (by omega)).trans (ar.get _ am));have n:=Ye mapVal aG.at f[i] Ta;simp only[if_true]at n;obtain⟨y,N,G,hget,t3,t4,hm1⟩:∃(y:Tr) (N G:Sl),jE (l.zip o) f[i] (.agg #[.int .i64 0,.string ⟨#[]⟩,.slice Te 0 0,.slice Te 0 0])=.agg #[.int .i64 y.kind,.string y.text,aK N,aK G]/\RdV M .tree y (.agg #[.int .i64 y.kind,.string y.text,aK N,aK G]) /\
    ((il (l.zip o) f[i]).isSome=Ta->y∈ys)/\kK l ys q f[i] xs[i]=((il (l.zip o) f[i]).isSome&&q xs[i] y):=by
   rcases F5 f[i] l o 0 (by omega)with⟨g1,g2⟩|⟨j,w,g1,g2,g3⟩;refine⟨zT,⟨Te,0,0⟩,⟨Te,0,0⟩,by unfold jE;rw[g2];rfl,?_,?_,?_⟩;refine qe (v:=zT) ?_ ?_;exact⟨_,rfl,Te,0,rfl,⟨by simp[zT],by simp[zT]⟩,.inl rfl⟩;exact⟨_,rfl,Te,0,rfl,⟨by simp[zT],by simp[zT]⟩,.inl rfl⟩;rw[g2];intro Z;cases Z;rw[g2];unfold kK idxOfS;rw[g1];simp;split;rfl;rfl;obtain⟨V,ej⟩:=za5.1 g2;have ac:j<ys.length:=by omega
   have hr:=rb j ac V;rw[ej]at hr;obtain⟨N,G,ew,t3,t4⟩:=qp hr;refine⟨ys[j],N,G,by unfold jE;rw[g3];exact ew,by rw[<-ew];exact hr,λ_=>zak ac,?_⟩;rw[g3];unfold kK idxOfS;rw[g1];simp[zai ac]
  rw[hget]at n;refine⟨y.kind,y.text,N,G,(il (l.zip o) f[i]).isSome,n,?_⟩;intro J;have al:Keep t.size t J:=Keep.push _ _ (zac _);have aN:Blk J t.size (zj 0 ⟨#[]⟩ ⟨Te,0,0⟩ ⟨Te,0,0⟩).toArray:=Blk.new _ _ _;have ba:J.size=t.size+1:=zaf _;clear_value J;refine jh aN rfl _ _ _ _ λm aH a7 aj=>?_;have ak:Blk m g1.size (zj xs[i].kind xs[i].text ck ci).toArray:=(aI.ofKeep al).keep (aj _ (by omega));have z:Keep g1.size g1 m:=⟨by omega,λj V=>by rw[aj j (by omega),al.get j (by omega)];exact S.get j V⟩;have aA:Keep h.size h m:=ar.trans z (by omega);have C:Later h M m M':=⟨aA,L.le,L.old,az.keep z⟩;have af:MapIt m h.size B (Y5 (f.zip A)) (.string f[i]::dn):=aO.keep (z.get _ (by omega)) (z.get _ (by omega));have aa:leftN m h.size B<leftN g h.size B:=by rw[leftN.keep (z.get h.size (by omega)) (z.get B (by omega))];exact ai
  refine⟨xs[i].kind,xs[i].text,ck,ci,λ_=>ak.ld (cs:=zj xs[i].kind xs[i].text ck ci),y.kind,y.text,N,G,λ_=>aH.ld (cs:=zj y.kind y.text N G),?_⟩;have ab:kK l ys q f[i] xs[i]=Tc->((f.zip xs).all λp=>kK l ys q p.1 p.2)=Tc:=λhf=>by rw[List.all_eq_false];exact⟨(f[i],xs[i]),zdr.2 ⟨i,by simp;omega,by simp⟩,by simp[hf]⟩
  refine⟨λw g2=>∃b M2,w=.bool b/\Later m M' g2 M2/\((il (l.zip o) f[i]).isSome=Ta->b=q xs[i] y),λD=>⟨hF,?_⟩,λD=>⟨Ta,Ta,M',rfl,Later.refl C.ag,λZ=>by rw[Z]at D;cases D⟩,λ_ w g2 ⟨b,_,e,_⟩=>⟨b,e⟩,?_⟩;have aD:(il (l.zip o) f[i]).isSome=Ta:=by simpa using D
  have Y:=(hp xs[i] (zak ae) y (t4 aD)).px (h:=m) (M:=M') (vs:=[.agg #[.int .i64 xs[i].kind,.string xs[i].text,aK ck,aK ci],.agg #[.int .i64 y.kind,.string y.text,aK N,aK G]]) (hM.trans C.le) C.ag (zr (RdV.mono L.le (qe t1 t2)) (zr (RdV.mono L.le t3) qj));exact Y.go λw g2 M2 r E ax hr=>⟨r,Xh ax,r,M2,rfl,E,λ_=>hr⟩;rintro b g2 ⟨b',M2,e,E,hb⟩;cases e;refine⟨λhf=>⟨M2,_,C.trans E,Y1.2 (rdBool _),?_⟩,λht=>⟨⟨_,M2,af.keep (E.keep.get _ (by omega)) (E.keep.get _ (by omega)),C.trans E,by have:=E.keep.size;omega,λi2 h1 h2 hm=>?_⟩,?_⟩⟩;have:kK l ys q f[i] xs[i]=Tc:=by
   rw[hm1];cases D:(il (l.zip o) f[i]).isSome with
   |false=>rfl
   |true=>rw[D]at hf;rw[<-hb D];simpa using hf
  rw[ab this,Bool.and_false];rcases zan.1 hm with e|hm;have H:=Dz e;have:i2=i:=W3 au h1 aM H;subst this;rw[hm1];cases D:(il (l.zip o) f[i2]).isSome with
  |false=>rw[D]at ht;simp at ht
  |true=>rw[D]at ht;rw[<-hb D];simpa using ht
  exact an i2 h1 h2 hm;show leftN g2 h.size B<leftN g h.size B;rw[leftN.keep (E.keep.get h.size (by omega)) (E.keep.get B (by omega))];exact aa
end
end Go.X
