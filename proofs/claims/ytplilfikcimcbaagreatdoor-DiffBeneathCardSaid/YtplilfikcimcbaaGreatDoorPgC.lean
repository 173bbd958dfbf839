/- A part of the proof: nothing is stated here for its own sake. -/
import Derived.Test.YtplilfikcimcbaaGreatDoorPgB
import Derived.Test.YtplilfikcimcbaaGreatDoorTie
import Derived.Test.YtplilfikcimcbaaGreatDoorCards
import Derived.PinnedBridge
import Derived.Lay
import Derived.HandedShaped
import Derived.Lib.AppendZerosOnto
import Derived.RangeFuncCalls
open _root_.Go.Addr renaming add->Tl
open _root_.Array renaming ext_getElem?->VW,getD_eq_getD_getElem?->Uv,getElem?_append_left->U9,getElem?_eq_getElem->UA,getElem?_eq_some_iff->TD,getElem?_push->VP,getElem?_setIfInBounds_ne->Uo,getElem?_setIfInBounds_self_of_lt->UW,getElem?_toList->Uh,replicate->Ve,size_push->To,toList->Vu
open _root_.BitVec renaming ofInt->UC
open _root_.Bool renaming and_eq_true->TC,eq_iff_iff->T8,not_eq_true'->VE,true_and->UQ
open _root_.Go.Builtin renaming append_->TB,len_->Vh
open _root_.Go.Code renaming cond->V0,region->V7
open _root_.Go.Deferred renaming ofValue->VL
open _root_.Go.Extern.AbiNoEscape renaming same->WB
open _root_.Go.Instr renaming entry->VH,keyThatStays->Vo,lookup->UV,makeSlice->Uc,mapUpdate->UN,next->Vn,range->VX,storeAt->Tt
open _root_.Int renaming toNat_natCast->Tq
open _root_.Go.IntKind renaming bits->Ul,wrap->Tj
open _root_.List renaming all_append->VV,all_cons->V3,all_eq_true->T7,append_assoc->TR,append_nil->Uq,cons_append->Um,drop_drop->VI,drop_eq_getElem_cons->Uk,drop_eq_nil_of_le->Va,drop_zero->Vp,eq_nil_of_length_eq_zero->TT,exists_cons_of_ne_nil->Vb,ext_getElem?->Uf,filter_cons->Vx,flatMap_append->Vm,flatMap_cons->UE,getElem?_append_left->Vs,getElem?_append_right->Vr,getElem?_drop->Ur,getElem?_eq_getElem->Tv,getElem?_eq_none->Un,getElem?_eq_some_iff->T5,getElem?_map->Us,getElem?_take->Ud,getElem_append_left->UR,getElem_append_right->Vf,getElem_mem->TA,length->Uw,length_append->Ts,length_cons->TI,length_drop->UJ,length_eq_zero_iff->Vl,length_map->Tx,length_nil->Uu,length_pos_iff->UH,length_replicate->Vg,length_singleton->UG,length_take->UD,map_append->Ug,map_cons->TV,map_map->T9,mem_append->TE,mem_append_left->TF,mem_append_right->TU,mem_cons->Tz,mem_cons_of_mem->TS,mem_cons_self->TQ,mem_iff_getElem->VK,mem_map->Ub,mem_of_getElem?->UY,mem_of_mem_take->VJ,mem_range->Ui,mem_singleton->TP,nodup_append->Vd,nodup_cons->Ut,nodup_nil->Vk,range->TZ,replicate->UL,take_append_drop->UF,take_length->TN,take_of_length_le->UK,take_succ_cons->Vv,take_succ_eq_append_getElem->Tu,zip_cons_cons->U7
open _root_.List.cons renaming injEq->U4
open _root_.Nat renaming add_mul->UX,add_zero->VM,blt_eq->V1,eq_of_beq_eq_true->TL,le_of_ble_eq_true->UU,le_of_lt->VO,le_refl->Tm,le_trans->Ux,lt_or_ge->Up,min_eq_left->VS,mul_comm->VA,mul_le_mul->Vq,mul_le_mul_right->TX,mul_one->Uj,one_mul->V4,succ_mul->VB,zero_add->TJ,zero_le->TK
open _root_.Go.Next renaming value->VF
open _root_.Go.Op renaming bytesLess->U2
open _root_.Option renaming bind_some->U0,map_eq_some_iff->U1,map_some->VU
open _root_.Option.some renaming inj->TY,injEq->Tn
open _root_.Go.Region renaming wanted->Ue
open _root_.Go.Proofs.Tryz renaming prog->T6,underlying5->VN
open _root_.UInt8 renaming ofNat->Vj
open _root_.Go.Utf8 renaming decode->V9
open _root_.Go.Value renaming int->UB,slice->VY,string->TH
open _root_.Go.Value.slice renaming injEq->Ua
set_option linter.unusedVariables false
set_option maxRecDepth 100000
namespace Go.X
end Go.X
namespace Go.Proofs
end Go.Proofs
open Go Go.X Go.Proofs
open _root_.Bool renaming true->Ta,false->Tc
open _root_.Option renaming some->Td,none->Te
section
namespace Go.Proofs.YtplilfikcimcbaaGreatDoor
open Go Go.X Go.ChangeShapes Go.WideShapes Go.ChangeAt Go.RowKit Go.Lib
open Go.ChangeMaps (open_string shut_string)
set_option linter.unusedVariables false
section
variable {H:Type} {g:Nat} {t:TypeId}
theorem Tryz.own:ownKnob T6.godebug=none:=by kernel_rfl
theorem Tryz.laidOut:laidOutB T6=true:=by kernel_rfl
theorem RU{enc:TypeId×Value->H}{a:Assume}{C:Checked}{os:Os}{f:FuncId}{fn:Func}{s:ChangeSpec}{n:List PathCond}{apart fresh h l:Bool}{X:World->Array Value->Prop} (J:∀(w w':World) (args:Array Value),w.heap=w'.heap->X w args->X w' args) (own:ownKnob C.prog.godebug=none) (m:os.Started) (p:C.prog.inits.idxOf? f=none) (F:C.prog.funcs[f]?=some fn) (o:∃(w:World) (b:Tape) (i:Input),w.os=os/\(w.forCall b i).Shaped C.prog/\i.vars=[]/\Input.okWide C.prog (w.forCall b i) .any w.heap.size f i /\ ((s.pre enc C.prog fn n apart (w.forCall b i).memory i.args/\X (w.forCall b i).memory i.args)/\sizedMet enc C.prog fn (OpenSpec.ofChange s) apart (w.forCall b i).memory i.args)/\a.holds C.prog (lone (Frame.enter C.prog f i.args .normal) [] (w.forCall b i))) (k:∀(W:World) (base:Nat) (args:Array Value) (y x:List (DataW H)) (c:List MemPlace),(∀(j:Nat) t v,fn.params[j]?=some t->args[j]?=some v->Value.okWide C.prog W .any base t v) -> DataW.Whole enc C.prog fn.params.toList s.vars apart W args.toList y x c -> (DataW.weightsEach C.prog (fn.params.toList++s.plain.varTypes C.prog) (y++x)).all (·<=reachBytes)=true -> X W args->W.ShapedOpen C.prog -> Calls C.prog f args W λe G=>∃v,e=.returned v/\s.post enc C.prog fn apart fresh h l W args v G):
  ReturnsInHanded a C os f .any (λw args=>(s.pre enc C.prog fn n apart w args/\X w args)/\sizedMet enc C.prog fn (OpenSpec.ofChange s) apart w args) (s.post enc C.prog fn apart fresh h l):=by
 refine returnsInHanded_of_calls own m p o ?_;intro w b i _ D _ B u z;obtain⟨_,_,_,E,r,_,_,_,_,q⟩:=B;have e:E=fn:=TY (r.symm.trans F);subst e;obtain⟨⟨⟨y,x,c,I,O⟩,M⟩,hz⟩:=u;have A:=DataW.Whole.of_heap (w':=w.forCall b i) (by rfl) I;refine(k (w.forCall b i) w.heap.size i.args y x c q A (hz.weights I) (J _ _ _ (by rfl) M) D).mono λe G ⟨v,N,L⟩=>?_;subst N;exact ChangeSpec.post_blind L
theorem vy{P:Program}{W:World}{n:String}{k:IntKind}{l:List Int}{t e:TypeId}{m:Nat}(o:P.globalNamed n=some g)(r:(P.globals[g]?).map (·.type)=some t)(u:P.underlying t=some (.array m e))(w:P.underlying e=some (.int k))
  (c:P.cellsOf e=1) (j:P.cellsOf t=m) (h:VarReads P W n (tabData k l)):∃cs:Array Value,Fz W g=some cs/\cs.toList=l.map λz=>UB k z:=by
 obtain⟨g',t',cs,fuel,p,i,f,b,q⟩:=h;obtain rfl:=TY (o.symm.trans i);obtain rfl:=TY (r.symm.trans f);exact⟨cs,Fz.var o b,cells_of_tab u w c j q⟩
theorem RY{W : World}(h : VarReads Tryz.prog W "unicode/utf8.first" Pinned.utf8First): ∃ cs : Array Value, Fz W 0 = some cs ∧ ∀ c, c < 256 → cs[c]? = some (.int .u8 (Lib.firstT c)) := by rw[Pinned.utf8First_eq]at h;obtain⟨cs,h1,h2⟩:=vy (g:=0) (t:=305) (e:=5) (m:=256) (by kernel_rfl) (by kernel_rfl) (by kernel_rfl) (by kernel_rfl) (by kernel_rfl) (by kernel_rfl) h;refine⟨cs,h1,λc hc=>?_⟩;rw[<-Array.getElem?_toList,h2];simp[firstTab,hc]
theorem S5{W : World}(h : VarReads Tryz.prog W "unicode/utf8.acceptRanges" acceptData): ∃ cs : Array Value, Fz W 1 = some cs ∧ ∀ i, i < 16 → cs[2 * i]? = some (.int .u8 (Lib.accLo i)) ∧ cs[2 * i + 1]? = some (.int .u8 (Lib.accHi i)) := by
 obtain⟨g,t,cs,fuel,p,hg,hty,hvar,hd⟩:=h;obtain rfl := Option.some.inj ((show Tryz.prog.globalNamed "unicode/utf8.acceptRanges" = some 1 by kernel_rfl).symm.trans hg);obtain rfl:=Option.some.inj ((show(Tryz.prog.globals[1]?).map (·.type)=some 308 by kernel_rfl).symm.trans hty);refine⟨cs,Fz.var hg hvar,λi hi=>?_⟩;obtain⟨fuel',d,q,hdi,he⟩:=array_elem (show Tryz.prog.underlying 308=some (.array 16 307)by kernel_rfl) hd i hi;simp only[List.getElem?_map,List.getElem?_range hi,Option.map_some,Option.some.injEq]at hdi;subst hdi;have hc:Tryz.prog.cellsOf 307=2:=by kernel_rfl
 have c5:T6.cellsOf 5=1:=by kernel_rfl
 have u5:T6.underlying 5=some (.int .u8):=by kernel_rfl
 rw[hc]at he;have hcs:=ints_of_struct Tryz.underlying307 (λj f hj=>by
  match j,hj with
  |0,hj=>simp at hj;subst hj;exact⟨u5,rfl,c5⟩
  |1,hj=>simp at hj;subst hj;exact⟨u5,rfl,c5⟩
  |j+2,hj=>simp at hj) (by rw[hc];rfl) he
 have e0:=congrArg (·[0]?) hcs;have e1:=congrArg (·[1]?) hcs;simp only[Ud,Ur]at e0 e1;constructor;rw[<-Uh];simpa[VA]using e0;rw[<-Uh];simpa[VA]using e1
theorem Nr{W : World}{d : DataW Unit}(hd : d = tabData .u64 Lib.pow10Tab)(h : VarReads Tryz.prog W "internal/strconv.uint64pow10" d): pW (Fz W) := by subst hd;obtain⟨cs,h1,h2⟩:=vy (g:=2) (t:=349) (e:=178) (m:=20) (by kernel_rfl) (by kernel_rfl) (by kernel_rfl) (by kernel_rfl) (by kernel_rfl) (by kernel_rfl) h;exact⟨_,cs,by kernel_rfl,h1,by rw[<-h2]⟩
theorem EQ{W:World}{n:String}{ms:Array (String×TypeId)}{m:String}{d:DataW Unit}(j:T6.globalNamed n=some g)(q:(T6.globals[g]?).map (·.type)=some t)(o:T6.underlying t=some (.interface ms))(h:VarReads T6 W n (.iface m d)):
  ∃(cs:Array Value) (e:Value),Fz W g=some cs/\cs[0]?=some e/\(e=.nilIface\/∃l r,e=.iface l r):=by
 obtain⟨g',t',cs,fuel,p,i,c,b,k⟩:=h;obtain rfl:=TY (j.symm.trans i);obtain rfl:=TY (q.symm.trans c);obtain⟨w,u,v,f,_,_⟩:=iface_of_trod o k;exact⟨cs,.iface u v,Fz.var j b,by rw[<-Uh,f];rfl,.inr ⟨u,v,rfl⟩⟩
theorem LJ{W:World}(h:W.ShapedOpen T6):uJ (Fz W):=by obtain⟨m,f⟩:=cell_of_shapedOpen_int (P:=T6) (g:=3) (t:=3) (zero:=#[.int .i64 0]) (k:=.i64) h (by decide +kernel) (by kernel_rfl) rfl (by kernel_rfl) (by kernel_rfl) (by kernel_rfl);obtain⟨b,o,c,e,h1,i⟩:=Fz.cell f;cases e;exact⟨c,m,h1,i⟩
def kE:List (String×DataW Unit):=Rows.diffReportsRow.laid
theorem OP{W:World}(h:laidMetH T6 kE W)(f:W.ShapedOpen T6):GL (Fz W):=by
 have c:laidMet T6 kE W:=by rw[MakeChecks.laidMetH_plain _ _ _ (by kernel_rfl)]at h;exact h
 have b:∀(i:Nat) (n:String) (d:DataW Unit),kE[i]?=some (n,d)->VarReads T6 W n d:=λi n d e=>Go.Lib.laidMet.reads c (UY e);exact {
  tabs:=⟨RY (b 6 _ _ rfl),S5 (by
   have e:(Rows.laid_unicode_utf8_acceptRanges:DataW Unit)=acceptData:=by kernel_rfl
   rw[<-e];exact b 3 _ _ rfl)⟩
  pow:=Nr (by kernel_rfl) (b 2 _ _ rfl)
  max:=LJ f
  err:=⟨EQ (g:=4) (t:=91) (by kernel_rfl) (by kernel_rfl) Tryz.underlying91 (b 5 _ _ rfl),EQ (g:=5) (t:=91) (by kernel_rfl) (by kernel_rfl) Tryz.underlying91 (b 4 _ _ rfl)⟩ }
noncomputable def uc(os:Os):World:=World.laidAll T6 os kE
theorem PQ(os:Os)(args:Array Value):((uc os).forCall (λ_ _=>0) ⟨#[],args,[]⟩).Shaped T6:=World.shaped_of_ZipB (by kernel_rfl) (by kernel_rfl)
theorem JW(os:Os)(args:Array Value):laidMetH T6 kE ((uc os).forCall (λ_ _=>0) ⟨#[],args,[]⟩).memory:=by rw[MakeChecks.laidMetH_plain _ _ _ (by kernel_rfl)];exact laidMet_laidAll _ (by kernel_rfl) (by kernel_rfl)
theorem DG{enc:TypeId×Value->H}{W:World}{sp:Nat->Bool}{held:Bool}(fuel:Nat)(cs:List Value)(x:DataW H×List MemPlace)(h:DataW.trod enc T6 W 0 sp held fuel 25 cs=some x)(b:nz T6 25 x.1):∃t:Tr,Rd (Fz W) .tree t cs:= OM (tk:=3) (ts:=9) (tss:=22) (tvs:=23) Tryz.underlying25 (by kernel_rfl) ⟨rfl,rfl,rfl,rfl,rfl,rfl,rfl,rfl⟩ (by kernel_rfl) (by kernel_rfl) (by kernel_rfl) (by kernel_rfl) (by kernel_rfl) (by kernel_rfl) (by kernel_rfl) (by kernel_rfl) (by decide +kernel) (by decide +kernel) fuel cs x h b
theorem C7{ts:List TypeId}{b:List (DataW H)}(h:(DataW.weightsEach T6 ts b).all (·<=reachBytes)=true){j:Nat}{d:DataW H}(e:ts[j]?=some t)(c:b[j]?=some d):nz T6 t d:=λn f=>by have:=T7.1 h n (DataW.weights_mem_each e c n f);simpa using this
end
end Go.Proofs.YtplilfikcimcbaaGreatDoor
end
section
namespace Go.X
section
theorem Xs(f:Int)(e:Int)(h:za)(R:Value->za->Prop) (H:XC Tp 249 #[iV f,iV e] h (λa b=>∃c,a=.string c/\R (.string c) b)):
  XC Tp 199 #[.int .i64 f,.int .i64 e] h R:=
 XF ⟨[],[],[]⟩ [.tmp 4] 8 Tryz.func199 H
theorem wz(b:Int)(h:za)(R:Value->za->Prop) (H:R (.bool ((Tj .i64 (((UC (Ul .i64) b) &&& (UC (Ul .i64) (Tj .i64 (b-1)))).toNat:Int):Int)==0)) h):
  XC Tp 354 #[.int .i64 b] h R:=
 XF ⟨[],[],[]⟩ [.tmp 2] 8 Tryz.func354 H
theorem Qh(i:Int)(h:za)(R:Value->za->Prop) (H:(Tc=Ta->XC Tp 383 #[.int .u32 (Tj .u32 i)] h (λa b=>∃c,a=iV c/\R (iV c) b))/\(Tc=Tc->XC Tp 384 #[.int .u64 i] h (λd e=>∃f,d=iV f/\R (iV f) e))):
  XC Tp 355 #[.int .u64 i] h R:=
 XF ⟨[],[],[]⟩ [.tmp 2] 8 Tryz.func355 H
theorem Zl(c:Int)(h:za)(R:Value->za->Prop) (H:((c==0)=Ta->R (iV 64) h)/\((c==0)=Tc->∃a:Addr,(Td ⟨7,0,Te⟩=Td a/\0<=((Tj .u64 ((Tj .u64 (((UC (Ul .u64) c) &&& (UC (Ul .u64) (Tj .u64 (0-c)))).toNat:Int))*285870213051353865):Int).fdiv (2 ^ 58):Int)/\((Tj .u64 ((Tj .u64 (((UC (Ul .u64) c) &&& (UC (Ul .u64) (Tj .u64 (0-c)))).toNat:Int))*285870213051353865):Int).fdiv (2 ^ 58):Int)<((64:Nat):Int))/\∃b,zb h (a.add (((Tj .u64 ((Tj .u64 (((UC (Ul .u64) c) &&& (UC (Ul .u64) (Tj .u64 (0-c)))).toNat:Int))*285870213051353865):Int).fdiv (2 ^ 58):Int).toNat*1))=Td (.int .u8 b)/\R (iV (Tj .i64 b)) h)):
  XC Tp 384 #[.int .u64 c] h R:=
 XF ⟨[],[],[]⟩ [.tmp 2] 14 Tryz.func384 H
theorem HW(e:Int)(h:za)(R:Value->za->Prop) (H:∀a:Bool->za->Prop,(∀b:Bool,∀c:za,((b=Ta->R (.int .u8 (Tj .u8 e)) c)/\(b=Tc->((e==8)=Ta->R (.int .u8 98) c)/\((e==8)=Tc->((e==12)=Ta->R (.int .u8 102) c)/\((e==12)=Tc->((e==10)=Ta->R (.int .u8 110) c)/\((e==10)=Tc->((e==13)=Ta->R (.int .u8 114) c)/\((e==13)=Tc->((e==9)=Ta->R (.int .u8 116) c)/\((e==9)=Tc->R (.int .u8 0) c)))))))->a b c)->((e==34)=Ta->a (e==34) h)/\((e==34)=Tc->a (e==92) h)):
  XC Tp 197 #[.int .i32 e] h R:=
 XF ⟨[],[],[(4,[(4,.one (.bool))])]⟩ [.tmp 2] 19 Tryz.func197 H
end
section
theorem LI(s0:Bt)(h:za)(R:Value->za->Prop) (H:XC Tp 196 #[.string s0] h (λa b=>∃c d,a=.tuple #[iV c,.bool d]/\((!d)=Ta->R (.tuple #[.string (⟨#[]⟩:Bt),iV 2]) b)/\((!d)=Tc->let e:=b.push (.cells #[.pointer Te,.slice Te 0 0] 89);XC Tp 133 #[.pointer (Td ⟨b.size,0,Te⟩),.int .u8 34] e (λf g=>∃i:Value,f=i/\let j:=g.push (.stringIter s0 0);∃(k:za->Prop) (l:za->Nat),k j/\∀m:za,k m->(XRun Tp (Vn (.pointer (Td ⟨g.size,0,Te⟩)) Ta 0) m (λn o=>(n=.tuple #[.bool Tc]/\(Tc=Ta->False)/\(Tc=Tc->XC Tp 133 #[.pointer (Td ⟨b.size,0,Te⟩),.int .u8 34] o (λp q=>∃r:Value,p=r/\XC Tp 70 #[.pointer (Td ⟨b.size,0,Te⟩)] q (λs t=>∃u,s=.string u/\R (.tuple #[.string u,iV 0]) t))))\/∃v w:Int,n=.tuple #[.bool Ta,iV v,.int .i32 w]/\(Ta=Ta->XC Tp 197 #[.int .i32 w] o (λx y=>∃z,x=.int .u8 z/\((z != 0)=Ta->XC Tp 133 #[.pointer (Td ⟨b.size,0,Te⟩),.int .u8 92] y (λA B=>∃C:Value,A=C/\XC Tp 133 #[.pointer (Td ⟨b.size,0,Te⟩),.int .u8 z] B (λD E=>∃F:Value,D=F/\(k E/\l E<l m))))/\((z != 0)=Tc->(decide (w>=32)=Ta->XC Tp 198 #[.pointer (Td ⟨b.size,0,Te⟩),.int .i32 w] y (λG I=>∃J,∃L:Value,G=.tuple #[iV J,L]/\(k I/\l I<l m)))/\(decide (w>=32)=Tc->XC Tp 199 #[iV (Tj .i64 w),iV 16] y (λM N=>∃O,M=.string O/\XC Tp 200 #[.string (⟨#[48]⟩:Bt),iV (Tj .i64 (4-(O.size:Int)))] N (λP Q=>∃S,P=.string S/\yz (((⟨#[92,117]⟩:Bt)).size+S.size)/\yz (((⟨#[92,117]⟩:Bt)++S).size+O.size)/\XC Tp 68 #[.pointer (Td ⟨b.size,0,Te⟩),.string (((⟨#[92,117]⟩:Bt)++S)++O)] Q (λT U=>∃V,∃W:Value,T=.tuple #[iV V,W]/\(k U/\l U<l m))))))))/\(Ta=Tc->XC Tp 133 #[.pointer (Td ⟨b.size,0,Te⟩),.int .u8 34] o (λX Y=>∃Z:Value,X=Z/\XC Tp 70 #[.pointer (Td ⟨b.size,0,Te⟩)] Y (λaa ab=>∃ac,aa=.string ac/\R (.tuple #[.string ac,iV 0]) ab))))))))):
  XC Tp 125 #[.string s0] h R:=
 XF ⟨[],[(7,[])],[]⟩ [.tmp 2,.tmp 3] 48 Tryz.func125 H
theorem Zm(b0:Option Addr)(p:Int)(h:za)(R:Value->za->Prop) (H:XC Tp 123 #[.pointer b0] h (λb c=>b=.tuple #[]/\∃d,b0=Td d/\∃e,zb c (Tl d 1)=Td (aK e)/\∃f,b0=Td f/\∃g,zb c (Tl f 1)=Td (aK g)/\XC Tp 248 #[aK g,.int .i32 p] c (λi j=>∃k,i=aK k/\∃l,b0=Td l/\XRunU Tp (Tt 87 (.pointer (Td (Tl l 1))) (aK k)) j (λm=>∃n,b0=Td n/\∃o,zb m (Tl n 1)=Td (aK o)/\R (.tuple #[iV (Tj .i64 ((o.len:Int)-(e.len:Int))),.nilIface]) m)))):
  XC Tp 198 #[.pointer b0,.int .i32 p] h R:=
 XF ⟨[],[],[]⟩ [.tmp 4,.tmp 5] 30 Tryz.func198 H
theorem xx(aa:Sl)(u1:Int)(Y:Int)(Z:Bool)(b:Bool)(h:za)(R:Value->za->Prop) (H:∀c:za->Prop,(∀d:za,(let e:=d.push (.cells #[.int .u8 0,.int .u8 0,.int .u8 0,.int .u8 0,.int .u8 0,.int .u8 0,.int .u8 0,.int .u8 0,.int .u8 0,.int .u8 0,.int .u8 0,.int .u8 0,.int .u8 0,.int .u8 0,.int .u8 0,.int .u8 0,.int .u8 0,.int .u8 0,.int .u8 0,.int .u8 0,.int .u8 0,.int .u8 0,.int .u8 0,.int .u8 0,.int .u8 0,.int .u8 0,.int .u8 0,.int .u8 0,.int .u8 0,.int .u8 0,.int .u8 0,.int .u8 0,.int .u8 0,.int .u8 0,.int .u8 0,.int .u8 0,.int .u8 0,.int .u8 0,.int .u8 0,.int .u8 0,.int .u8 0,.int .u8 0,.int .u8 0,.int .u8 0,.int .u8 0,.int .u8 0,.int .u8 0,.int .u8 0,.int .u8 0,.int .u8 0,.int .u8 0,.int .u8 0,.int .u8 0,.int .u8 0,.int .u8 0,.int .u8 0,.int .u8 0,.int .u8 0,.int .u8 0,.int .u8 0,.int .u8 0,.int .u8 0,.int .u8 0,.int .u8 0,.int .u8 0] 350);∀f:Int->za->Prop,(∀g:Int,∀i:za,(∀j:Int->za->Prop,(∀k:Int,∀l:za,(∀m:Int->za->Prop,(∀n:Int,∀o:za,((b=Ta->(0<=n/\n<=(65:Int)/\(65:Int)<=(65:Int))/\XRun Tp (TB #[87,87] 87 #[aK aa,.slice (io (Td ⟨d.size,0,Te⟩) 1 n.toNat 65) ((65:Int).toNat-n.toNat) (65-n.toNat)]) o (λp q=>∃r,p=aK r/\R (.tuple #[aK r,.string (⟨#[]⟩:Bt)]) q))/\(b=Tc->(0<=n/\n<=(65:Int)/\(65:Int)<=(65:Int))/\XRun Tp (convert 87 9 (.slice (io (Td ⟨d.size,0,Te⟩) 1 n.toNat 65) ((65:Int).toNat-n.toNat) (65-n.toNat))) o (λs t=>∃u,s=.string u/\R (.tuple #[.slice Te 0 0,.string u]) t)))->m n o)->(Z=Ta->∃v:Addr,(Td ⟨d.size,0,Te⟩=Td v/\0<=(Tj .i64 (k-1))/\(Tj .i64 (k-1))<((65:Nat):Int))/\XRunU Tp (Tt 5 (.pointer (Td (v.add ((Tj .i64 (k-1)).toNat*1)))) (.int .u8 45)) l (λw=>m (Tj .i64 (k-1)) w))/\(Z=Tc->m k l))->j k l)->XC Tp 354 #[iV Y] i (λx y=>∃z,x=.bool z/\(z=Ta->XC Tp 355 #[.int .u64 (Tj .u64 Y)] y (λA B=>∃C,A=iV C/\∃(D:Int->Int->za->Prop) (E:Int->Int->za->Nat),D g 65 B/\∀F G:Int,∀I:za,D F G I->((decide (F>=(Tj .u64 Y))=Ta->(0<=(Tj .u64 (((UC (Ul .u64) F) &&& (UC (Ul .u64) (Tj .u64 ((Tj .u64 Y)-1)))).toNat:Int):Int)/\(Tj .u64 (((UC (Ul .u64) F) &&& (UC (Ul .u64) (Tj .u64 ((Tj .u64 Y)-1)))).toNat:Int):Int)<(((⟨#[48,49,50,51,52,53,54,55,56,57,97,98,99,100,101,102,103,104,105,106,107,108,109,110,111,112,113,114,115,116,117,118,119,120,121,122]⟩:Bt)).size:Int))/\∃J:Addr,(Td ⟨d.size,0,Te⟩=Td J/\0<=(Tj .i64 (G-1))/\(Tj .i64 (G-1))<((65:Nat):Int))/\XRunU Tp (Tt 5 (.pointer (Td (J.add ((Tj .i64 (G-1)).toNat*1)))) (.int .u8 (yu (⟨#[48,49,50,51,52,53,54,55,56,57,97,98,99,100,101,102,103,104,105,106,107,108,109,110,111,112,113,114,115,116,117,118,119,120,121,122]⟩:Bt) (Tj .u64 (((UC (Ul .u64) F) &&& (UC (Ul .u64) (Tj .u64 ((Tj .u64 Y)-1)))).toNat:Int):Int).toNat))) I (λL=>0<=(Tj .u64 C)/\(D (F.fdiv (2 ^ (min (Tj .u64 C).toNat 64))) (Tj .i64 (G-1)) L/\E (F.fdiv (2 ^ (min (Tj .u64 C).toNat 64))) (Tj .i64 (G-1)) L<E F G I)))/\(decide (F>=(Tj .u64 Y))=Tc->(0<=F/\F<(((⟨#[48,49,50,51,52,53,54,55,56,57,97,98,99,100,101,102,103,104,105,106,107,108,109,110,111,112,113,114,115,116,117,118,119,120,121,122]⟩:Bt)).size:Int))/\∃M:Addr,(Td ⟨d.size,0,Te⟩=Td M/\0<=(Tj .i64 (G-1))/\(Tj .i64 (G-1))<((65:Nat):Int))/\XRunU Tp (Tt 5 (.pointer (Td (M.add ((Tj .i64 (G-1)).toNat*1)))) (.int .u8 (yu (⟨#[48,49,50,51,52,53,54,55,56,57,97,98,99,100,101,102,103,104,105,106,107,108,109,110,111,112,113,114,115,116,117,118,119,120,121,122]⟩:Bt) F.toNat))) I (λN=>j (Tj .i64 (G-1)) N)))))/\(z=Tc->∃(O:Int->Int->za->Prop) (P:Int->Int->za->Nat),O g 65 y/\∀Q S:Int,∀T:za,O Q S T->((decide (Q>=(Tj .u64 Y))=Ta->IntKind.u64=IntKind.u64/\(Tj .u64 Y)≠0/\(0<=(Tj .u64 (Q-(Tj .u64 ((Tj .u64 (Q.tdiv (Tj .u64 Y)))*(Tj .u64 Y)))):Int)/\(Tj .u64 (Q-(Tj .u64 ((Tj .u64 (Q.tdiv (Tj .u64 Y)))*(Tj .u64 Y)))):Int)<(((⟨#[48,49,50,51,52,53,54,55,56,57,97,98,99,100,101,102,103,104,105,106,107,108,109,110,111,112,113,114,115,116,117,118,119,120,121,122]⟩:Bt)).size:Int))/\∃U:Addr,(Td ⟨d.size,0,Te⟩=Td U/\0<=(Tj .i64 (S-1))/\(Tj .i64 (S-1))<((65:Nat):Int))/\XRunU Tp (Tt 5 (.pointer (Td (U.add ((Tj .i64 (S-1)).toNat*1)))) (.int .u8 (yu (⟨#[48,49,50,51,52,53,54,55,56,57,97,98,99,100,101,102,103,104,105,106,107,108,109,110,111,112,113,114,115,116,117,118,119,120,121,122]⟩:Bt) (Tj .u64 (Q-(Tj .u64 ((Tj .u64 (Q.tdiv (Tj .u64 Y)))*(Tj .u64 Y)))):Int).toNat))) T (λV=>(O (Tj .u64 (Q.tdiv (Tj .u64 Y))) (Tj .i64 (S-1)) V/\P (Tj .u64 (Q.tdiv (Tj .u64 Y))) (Tj .i64 (S-1)) V<P Q S T)))/\(decide (Q>=(Tj .u64 Y))=Tc->(0<=Q/\Q<(((⟨#[48,49,50,51,52,53,54,55,56,57,97,98,99,100,101,102,103,104,105,106,107,108,109,110,111,112,113,114,115,116,117,118,119,120,121,122]⟩:Bt)).size:Int))/\∃W:Addr,(Td ⟨d.size,0,Te⟩=Td W/\0<=(Tj .i64 (S-1))/\(Tj .i64 (S-1))<((65:Nat):Int))/\XRunU Tp (Tt 5 (.pointer (Td (W.add ((Tj .i64 (S-1)).toNat*1)))) (.int .u8 (yu (⟨#[48,49,50,51,52,53,54,55,56,57,97,98,99,100,101,102,103,104,105,106,107,108,109,110,111,112,113,114,115,116,117,118,119,120,121,122]⟩:Bt) Q.toNat))) T (λX=>j (Tj .i64 (S-1)) X))))))->f g i)->(Z=Ta->f (Tj .u64 (0-u1)) e)/\(Z=Tc->f u1 e))->c d)->((bif (bif (decide (Y<2))then Ta else(Y==10))then Ta else(decide (Y>36)))=Ta->False)/\((bif (bif (decide (Y<2))then Ta else(Y==10))then Ta else(decide (Y>36)))=Tc->c h)):
  XC Tp 303 #[.slice aa.a aa.len aa.cap,.int .u64 u1,.int .i64 Y,.bool Z,.bool b] h R:=
 XF ⟨[],[(11,[(1,.one (.int .u64)),(13,.one (.int .i64))]),(18,[(1,.one (.int .u64)),(13,.one (.int .i64))])],[(3,[]),(7,[(1,.one (.int .u64))]),(25,[(13,.one (.int .i64))]),(28,[(13,.one (.int .i64))])]⟩ [.tmp 10,.tmp 11] 102 Tryz.func303 H
theorem Zg(B:Int)(A:Int)(h:za)(R:Value->za->Prop) (H:((A==10)=Ta->((bif (decide ((0:Int)<=B))then(decide (B<100))else Tc)=Ta->XC Tp 300 #[iV B] h (λb c=>∃d,b=.string d/\R (.string d) c))/\((bif (decide ((0:Int)<=B))then(decide (B<100))else Tc)=Tc->let e:=h.push (.cells #[.int .u8 0,.int .u8 0,.int .u8 0,.int .u8 0,.int .u8 0,.int .u8 0,.int .u8 0,.int .u8 0,.int .u8 0,.int .u8 0,.int .u8 0,.int .u8 0,.int .u8 0,.int .u8 0,.int .u8 0,.int .u8 0,.int .u8 0,.int .u8 0,.int .u8 0,.int .u8 0,.int .u8 0,.int .u8 0,.int .u8 0,.int .u8 0] 309);∀f:Int->za->Prop,(∀g:Int,∀i:za,(XC Tp 301 #[.int .u64 g] i (λj k=>∃l,j=iV l/\(0<=(1:Int)/\(1:Int)<=(Tj .i64 (1+l))/\(Tj .i64 (1+l))<=(24:Int))/\XC Tp 302 #[.slice (io (Td ⟨h.size,0,Te⟩) 1 ((1:Int).toNat) 24) ((Tj .i64 (1+l)).toNat-(1:Int).toNat) (24-(1:Int).toNat),.int .u64 g] k (λm n=>m=.tuple #[]/\(decide (B<0)=Ta->∃o:Addr,(Td ⟨h.size,0,Te⟩=Td o/\0<=(0:Int)/\(0:Int)<((24:Nat):Int))/\XRunU Tp (Tt 5 (.pointer (Td (o.add ((0:Int).toNat*1)))) (.int .u8 45)) n (λp=>(0<=(0:Int)/\(0:Int)<=(Tj .i64 (1+l))/\(Tj .i64 (1+l))<=(24:Int))/\XRun Tp (convert 87 9 (.slice (io (Td ⟨h.size,0,Te⟩) 1 ((0:Int).toNat) 24) ((Tj .i64 (1+l)).toNat-(0:Int).toNat) (24-(0:Int).toNat))) p (λq r=>∃s,q=.string s/\R (.string s) r)))/\(decide (B<0)=Tc->(0<=(1:Int)/\(1:Int)<=(Tj .i64 (1+l))/\(Tj .i64 (1+l))<=(24:Int))/\XRun Tp (convert 87 9 (.slice (io (Td ⟨h.size,0,Te⟩) 1 ((1:Int).toNat) 24) ((Tj .i64 (1+l)).toNat-(1:Int).toNat) (24-(1:Int).toNat))) n (λt u=>∃v,t=.string v/\R (.string v) u)))))->f g i)->(decide (B<0)=Ta->f (Tj .u64 (0-(Tj .u64 B))) e)/\(decide (B<0)=Tc->f (Tj .u64 B) e)))/\((A==10)=Tc->XC Tp 303 #[.slice Te 0 0,.int .u64 (Tj .u64 B),iV A,.bool (decide (B<0)),.bool Tc] h (λw x=>∃y z,w=.tuple #[aK y,.string z]/\R (.string z) x))):
  XC Tp 249 #[.int .i64 B,.int .i64 A] h R:=
 XF ⟨[],[],[(8,[(6,.one (.int .u64))])]⟩ [.tmp 4] 54 Tryz.func249 H
end
section
variable {gl:Fr} {R:Bool -> Prop}
theorem Hc(c:GL gl){s:Bs}(b:s.length<=1152921504606846976)(h:R (uh s)):PC Tp gl 150 [Arg.mk .str (bl s)] [.bool] R:=by apply Ie;refine vK c b (OW c (n:=(kq s).1) (Wn s b) ?_);simp only[Bool.cond_false_right];exact h
theorem xy(v:Tr):Tr.mk v.kind v.text v.keys v.items=v:=by cases v;rfl
theorem oz{l:List Tr}{k:Nat}(h:k<l.length):l[((k:Int)).toNat]?=Td l[k]:=by rw[Tq,Tv h]
theorem DK{gl:Fr}(v:Tr)(q:cK v<=1000000000000){R:Int->Prop}(h:R (cK v:Int)):PC Tp gl 43 [Arg.mk .tree v] [.int .i64] R:=by
 apply Ij;have f:=Zk v.items;have e:=w7 v;refine⟨λn i=>∃k:Nat,i=k/\k<=v.items.length/\n=((1+Zc (v.items.take k):Nat):Int),λ_ i=>v.items.length-i.toNat,⟨0,rfl,by omega,by simp[Zc]⟩,?_⟩;rintro n i ⟨k,rfl,p,rfl⟩;refine⟨λc=>?_,λc=>?_⟩;have b:k<v.items.length:=by simp at c;omega
 refine⟨v.items[k],⟨by omega,oz b⟩,?_⟩;rw[xy];have l:v.items[k]∈v.items:=TA b;have j:=qq l;have m:Zc (v.items.take (k+1))<=Zc v.items:=by have:=yF (v.items.take (k+1)) (v.items.drop (k+1));rw[UF]at this;omega
 have o:=Ii b;refine DK (v.items[k]) (by omega) ?_;rw[yr b (by omega),hX (by omega)];exact⟨⟨k+1,rfl,by omega,by omega⟩,by simp only[Tq];omega⟩;have b:k=v.items.length:=by simp at c;omega
 subst b;rw[TN,<-e];exact h
termination_by cK v
theorem BY{gl:Fr}(v:Tr)(r:cK v<=1000000000000){R:Int->Prop}(h:R (ie v:Int)):PC Tp gl 144 [Arg.mk .tree v] [.int .i64] R:=by
 apply MD;have e:=Zk v.items;have p:=w7 v;have f:=vM v.items;have o:=mJ v;refine⟨λn i=>∃k:Nat,i=k/\k<=v.items.length/\n=((X7 (v.items.take k):Nat):Int),λ_ i=>v.items.length-i.toNat,⟨0,rfl,by omega,by simp[X7]⟩,?_⟩;rintro n i ⟨k,rfl,q,rfl⟩;refine⟨λc=>?_,λc=>?_⟩;have b:k<v.items.length:=by simp at c;omega
 refine⟨v.items[k],⟨by omega,oz b⟩,?_⟩;rw[xy];have m:v.items[k]∈v.items:=TA b;have j:=qq m;have l:=R9 b;refine BY (v.items[k]) (by omega) ?_;rw[yr b (by omega)];refine⟨⟨k+1,rfl,by omega,?_⟩,by simp only[Tq];omega⟩;rw[l];split <;> omega;have b:k=v.items.length:=by simp at c;omega
 subst b;rw[TN,hX (by omega)];have:((X7 v.items:Nat):Int)+1=(ie v:Int):=by omega
 rw[this];exact h
termination_by cK v
theorem Fh{v:Tr}(b:Sm v)(h:R (Zj v)):PC Tp gl 86 [Arg.mk .tree v] [.bool] R:=by
 apply PW;rw[xy];refine DK v b.sz ⟨λr=>r=(ie v:Int),λ_=>BY v b.sz rfl,λr c=>?_⟩;have e:(bif decide ((cK v:Int)<=4096)then decide (r<=32)else Tc)=Zj v:=by
  unfold Zj;cases hc:decide ((cK v:Int)<=4096)with
  |false=>(have:decide (cK v<=4096)=Tc:=by simp at hc ⊢;omega);rw[this];rfl
  |true=>
   have:decide (cK v<=4096)=Ta:=by simp at hc ⊢;omega
   rw[this,c hc,zK,UQ,T8];simp;omega
 rw[e];exact h
end
section
theorem Mh(w:Sl)(x:Int)(h:za)(R:Value->za->Prop) (H:let b:=h.push (.map #[] 0);∃(c:Int->za->Prop) (d:Int->za->Nat),c 0 b/\∀e:Int,∀f:za,c e f->((decide (e<w.len)=Ta->∃g,(w.a=Td g/\0<=e/\e<w.len)/\∃i,zb f (g.add (e.toNat*1))=Td (.string i)/\∃j,QExec Tp (UV 213 (.map (Td h.size)) (.string i) Tc) f (.bool j)/\∃k:Value->za->Prop,((!j)=Ta->XC Tp 149 #[.string i] f (λl m=>∃n,l=.bool n/\k (.bool n) m))/\((!j)=Tc->∃o,k (.bool o) f)/\((!j)=Ta->∀p q,k p q->∃r,p=.bool r)/\∀s:Bool,∀t,k (.bool s) t->((bif j then Ta else(!s))=Ta->R (.bool Tc) t)/\((bif j then Ta else(!s))=Tc->XRunU Tp (UN 213 (.map (Td h.size)) (.string i) (.bool Ta)) t (λu=>(c (Tj .i64 (e+1)) u/\d (Tj .i64 (e+1)) u<d e f))))/\(decide (e<w.len)=Tc->R (.bool ((w.len:Int)==x)) f))):
  XC Tp 147 #[.slice w.a w.len w.cap,.int .i64 x] h R:=
 XF ⟨[],[(3,[(13,.one (.int .i64))])],[]⟩ [.tmp 4] 32 Tryz.func147 H
theorem yw(j:Sl)(f:FuncId)(e:Array Value)(i:Array Value)(h:za)(R:Value->za->Prop) (H:XC Tp 208 #[aK j,.func (.func f) e i] h (λb c=>∃d,b=iV d/\R (.bool (decide (d>=0))) c)):
  XC Tp 145 #[.slice j.a j.len j.cap,.func (.func f) e i] h R:=
 XF ⟨[],[],[]⟩ [.tmp 4] 9 Tryz.func145 H
theorem jf(p:Sl)(o:FuncId)(q:Array Value)(r:Array Value)(h:za)(R:Value->za->Prop) (H:∃(b:Int->za->Prop) (c:Int->za->Nat),b 0 h/\∀d:Int,∀e:za,b d e->((decide (d<p.len)=Ta->∃f,(p.a=Td f/\0<=d/\d<p.len)/\∃g i j k,zc e (f.add (d.toNat*4)) 0 (tL g i j k)/\zj Tp o=Ta/\XC Tp o (q++#[tA g i j k]++r) e (λl m=>∃n,l=.bool n/\(n=Ta->R (iV d) m)/\(n=Tc->(b (Tj .i64 (d+1)) m/\c (Tj .i64 (d+1)) m<c d e))))/\(decide (d<p.len)=Tc->R (iV (-1)) e))):
  XC Tp 208 #[.slice p.a p.len p.cap,.func (.func o) q r] h R:=
 XF ⟨[],[(2,[(8,.one (.int .i64))])],[]⟩ [.tmp 4] 19 Tryz.func208 H
theorem IJ(b:Int)(c:Bt)(d:Sl)(e:Sl)(c1:Addr)(h:za)(R:Value->za->Prop) (H:let f:=h.push (.cells #[iV b,.string c,aK d,aK e] 25);∃g i j k,zc f ⟨h.size,0,Te⟩ 0 (tL g i j k)/\∃l:Value,zb f c1=Td l/\XC Tp 87 #[tA g i j k,l] f (λm n=>∃o,m=.bool o/\R (.bool (!o)) n)):
  XC Tp 146 #[.agg #[.int .i64 b,.string c,.slice d.a d.len d.cap,.slice e.a e.len e.cap],.pointer (Td c1)] h R:=
 XF ⟨[],[],[]⟩ [.tmp 3] 8 Tryz.func146 H
theorem MU(b:Int)(c:Bt)(d:Sl)(e:Sl)(E:FuncId)(D:Array Value)(F:Array Value)(h:za)(R:Value->za->Prop) (H:let f:=h.push (.cells #[iV b,.string c,aK d,aK e] 25);let g:=f.push (.cells #[.func (.func E) D F] 37);∃i:Value,zb g ⟨f.size,0,Te⟩=Td i/\∃j k l m,zc g ⟨h.size,0,Te⟩ 0 (tL j k l m)/\lD Tp i #[tA j k l m] (λn o=>XC Tp n o g (λp q=>∃r,p=.bool r/\∃s,(r=Ta->zb q (Tl ⟨h.size,0,Te⟩ 3)=Td (aK s))/\∃t:Value->za->Prop,(r=Ta->XC Tp 145 #[aK s,.func (.func 146) #[] #[.pointer (Td ⟨f.size,0,Te⟩)]] q (λu v=>∃w,u=.bool w/\t (.bool w) v))/\(r=Tc->∃x,t (.bool x) q)/\(r=Ta->∀y z,t y z->∃A,y=.bool A)/\∀B:Bool,∀C,t (.bool B) C->R (.bool (bif r then(!B)else Tc)) C))):
  XC Tp 87 #[.agg #[.int .i64 b,.string c,.slice d.a d.len d.cap,.slice e.a e.len e.cap],.func (.func E) D F] h R:=
 XF ⟨[],[],[]⟩ [.tmp 4] 15 Tryz.func87 H
theorem Ro(b:Int)(c:Bt)(d:Sl)(e:Sl)(h:za)(R:Value->za->Prop) (H:let f:=h.push (.cells #[iV b,.string c,aK d,aK e] 25);∃g i j k,zc f ⟨h.size,0,Te⟩ 0 (tL g i j k)/\XC Tp 86 #[tA g i j k] f (λl m=>∃n,l=.bool n/\∃o p q r,(n=Ta->zc m ⟨h.size,0,Te⟩ 0 (tL o p q r))/\∃s:Value->za->Prop,(n=Ta->XC Tp 87 #[tA o p q r,.func (.func 89) #[] #[]] m (λt u=>∃v,t=.bool v/\s (.bool v) u))/\(n=Tc->∃w,s (.bool w) m)/\(n=Ta->∀x y,s x y->∃z,x=.bool z)/\∀A:Bool,∀B,s (.bool A) B->R (.bool (bif n then A else Tc)) B)):
  XC Tp 83 #[.agg #[.int .i64 b,.string c,.slice d.a d.len d.cap,.slice e.a e.len e.cap]] h R:=
 XF ⟨[],[],[]⟩ [.tmp 2] 9 Tryz.func83 H
theorem jq(j:Sl)(f:FuncId)(e:Array Value)(i:Array Value)(h:za)(R:Value->za->Prop) (H:XC Tp 206 #[aK j,.func (.func f) e i] h (λb c=>∃d,b=iV d/\R (.bool (decide (d>=0))) c)):
  XC Tp 135 #[.slice j.a j.len j.cap,.func (.func f) e i] h R:=
 XF ⟨[],[],[]⟩ [.tmp 4] 9 Tryz.func135 H
theorem wq(m:Sl)(l:FuncId)(n:Array Value)(o:Array Value)(h:za)(R:Value->za->Prop) (H:∃(b:Int->za->Prop) (c:Int->za->Nat),b 0 h/\∀d:Int,∀e:za,b d e->((decide (d<m.len)=Ta->∃f,(m.a=Td f/\0<=d/\d<m.len)/\∃g,zb e (f.add (d.toNat*1))=Td (.string g)/\zj Tp l=Ta/\XC Tp l (n++#[.string g]++o) e (λi j=>∃k,i=.bool k/\(k=Ta->R (iV d) j)/\(k=Tc->(b (Tj .i64 (d+1)) j/\c (Tj .i64 (d+1)) j<c d e))))/\(decide (d<m.len)=Tc->R (iV (-1)) e))):
  XC Tp 206 #[.slice m.a m.len m.cap,.func (.func l) n o] h R:=
 XF ⟨[],[(2,[(8,.one (.int .i64))])],[]⟩ [.tmp 4] 19 Tryz.func206 H
theorem KF(e:Bt)(h:za)(R:Value->za->Prop) (H:XC Tp 137 #[.string e] h (λa b=>∃c,a=.bool c/\R (.bool (!c)) b)):
  XC Tp 136 #[.string e] h R:=
 XF ⟨[],[],[]⟩ [.tmp 2] 6 Tryz.func136 H
theorem RE(m:Sl)(h:za)(R:Value->za->Prop) (H:∃b:Value->za->Prop,(decide ((m.len:Int)<=64)=Ta->XC Tp 135 #[aK m,.func (.func 136) #[] #[]] h (λc d=>∃e,c=.bool e/\b (.bool e) d))/\(decide ((m.len:Int)<=64)=Tc->∃f,b (.bool f) h)/\(decide ((m.len:Int)<=64)=Ta->∀g i,b g i->∃j,g=.bool j)/\∀k:Bool,∀l,b (.bool k) l->R (.bool (bif (decide ((m.len:Int)<=64))then(!k)else Tc)) l):
  XC Tp 78 #[.slice m.a m.len m.cap] h R:=
 XF ⟨[],[],[]⟩ [.tmp 2] 11 Tryz.func78 H
theorem G8(b:Int)(c:Bt)(d:Sl)(e:Sl)(h:za)(R:Value->za->Prop) (H:let f:=h.push (.cells #[iV b,.string c,aK d,aK e] 25);let g:=f.push (.cells tC 25);∃i,zb g (Tl ⟨h.size,0,Te⟩ 2)=Td (aK i)/\∃j,zb g (Tl ⟨h.size,0,Te⟩ 3)=Td (aK j)/\XC Tp 210 #[aK i] g (λk l=>∃m,k=aK m/\(l)[((Tl ⟨h.size,0,Te⟩ 3):Addr).block]?=(g)[((Tl ⟨h.size,0,Te⟩ 3):Addr).block]?/\XC Tp 211 #[aK j] l (λn o=>∃p,n=aK p/\XRunU Tp (Tt 22 (.pointer (Td (Tl ⟨h.size,0,Te⟩ 2))) (aK m)) o (λq=>XRunU Tp (Tt 23 (.pointer (Td (Tl ⟨h.size,0,Te⟩ 3))) (aK p)) q (λr=>∃s,zb r (Tl ⟨h.size,0,Te⟩ 3)=Td (aK s)/\∃(t:Int->za->Prop) (u:Int->za->Nat),t 0 r/\∀v:Int,∀w:za,t v w->((decide (v<s.len)=Ta->∃x,(s.a=Td x/\0<=v/\v<s.len)/\∃y z A B,zc w (x.add (v.toNat*4)) 0 (tL y z A B)/\let C:=w.push (.cells tC 25);XRunU Tp (Tt 25 (.pointer (Td ⟨w.size,0,Te⟩)) (tA y z A B)) C (λD=>∃E,zb D (Tl ⟨h.size,0,Te⟩ 3)=Td (aK E)/\∃F G I J,zc D ⟨w.size,0,Te⟩ 0 (tL F G I J)/\XC Tp 151 #[tA F G I J] D (λL M=>∃N O P Q,L=tA N O P Q/\∃S,(E.a=Td S/\0<=v/\v<E.len)/\(M)[((Tl ⟨h.size,0,Te⟩ 3):Addr).block]?=(D)[((Tl ⟨h.size,0,Te⟩ 3):Addr).block]?/\XRunU Tp (Tt 25 (.pointer (Td (S.add (v.toNat*4)))) (tA N O P Q)) M (λT=>(t (Tj .i64 (v+1)) T/\u (Tj .i64 (v+1)) T<u v w)))))/\(decide (v<s.len)=Tc->∃U V W X,zc w ⟨h.size,0,Te⟩ 0 (tL U V W X)/\XRunU Tp (Tt 25 (.pointer (Td ⟨f.size,0,Te⟩)) (tA U V W X)) w (λY=>∃Z aa ab ac,zc Y ⟨f.size,0,Te⟩ 0 (tL Z aa ab ac)/\R (tA Z aa ab ac) Y)))))))):
  XC Tp 151 #[.agg #[.int .i64 b,.string c,.slice d.a d.len d.cap,.slice e.a e.len e.cap]] h R:=
 XF ⟨[(1,8000),(5,8000)],[(3,[(16,.one (.int .i64))])],[]⟩ [.cell 2 25] 29 Tryz.func151 H
theorem Zh(f:Sl)(h:za)(R:Value->za->Prop) (H:(f.a.isNone=Ta->R (.slice Te 0 0) h)/\(f.a.isNone=Tc->let b:=h.push (.cells #[] 9);XRun Tp (TB #[22,22] 22 #[.slice (Td ⟨h.size,0,Te⟩) 0 0,aK f]) b (λc d=>∃e,c=aK e/\R (aK e) d))):
  XC Tp 210 #[.slice f.a f.len f.cap] h R:=
 XF ⟨[],[],[]⟩ [.tmp 2] 8 Tryz.func210 H
theorem j5(f:Sl)(h:za)(R:Value->za->Prop) (H:(f.a.isNone=Ta->R (.slice Te 0 0) h)/\(f.a.isNone=Tc->let b:=h.push (.cells #[] 25);XRun Tp (TB #[23,23] 23 #[.slice (Td ⟨h.size,0,Te⟩) 0 0,aK f]) b (λc d=>∃e,c=aK e/\R (aK e) d))):
  XC Tp 211 #[.slice f.a f.len f.cap] h R:=
 XF ⟨[],[],[]⟩ [.tmp 2] 8 Tryz.func211 H
theorem Hs(b:Int)(c:Bt)(d:Sl)(e:Sl)(h:za)(R:Value->za->Prop) (H:let f:=h.push (.cells #[iV b,.string c,aK d,aK e] 25);let g:=f.push (.cells tC 25);∃i j k l,zc g ⟨h.size,0,Te⟩ 0 (tL i j k l)/\XC Tp 83 #[tA i j k l] g (λm n=>∃o,m=.bool o/\((!o)=Ta->XRunU Tp (Tt 25 (.pointer (Td ⟨f.size,0,Te⟩)) (tZ)) n (λp=>∃q r s t,zc p ⟨f.size,0,Te⟩ 0 (tL q r s t)/\R (tA q r s t) p))/\((!o)=Tc->∃u v w x,zc n ⟨h.size,0,Te⟩ 0 (tL u v w x)/\XC Tp 151 #[tA u v w x] n (λy z=>∃A B C D,y=tA A B C D/\XRunU Tp (Tt 25 (.pointer (Td ⟨f.size,0,Te⟩)) (tA A B C D)) z (λE=>∃F G I J,zc E ⟨f.size,0,Te⟩ 0 (tL F G I J)/\R (tA F G I J) E))))):
  XC Tp 90 #[.agg #[.int .i64 b,.string c,.slice d.a d.len d.cap,.slice e.a e.len e.cap]] h R:=
 XF ⟨[],[],[]⟩ [.cell 2 25] 9 Tryz.func90 H
theorem y5(b0:Option Addr)(c1:Int)(h:za)(R:Value->za->Prop) (H:XC Tp 123 #[.pointer b0] h (λb c=>b=.tuple #[]/\∃d,b0=Td d/\∃e,zb c (Tl d 1)=Td (aK e)/\let f:=c.push (.cells #[.int .u8 c1] 5);XRun Tp (TB #[87,87] 87 #[aK e,.slice (Td ⟨c.size,0,Te⟩) 1 1]) f (λg i=>∃j,g=aK j/\∃k,b0=Td k/\XRunU Tp (Tt 87 (.pointer (Td (Tl k 1))) (aK j)) i (λl=>R (.nilIface) l)))):
  XC Tp 133 #[.pointer b0,.int .u8 c1] h R:=
 XF ⟨[],[],[]⟩ [.tmp 4] 17 Tryz.func133 H
theorem yg(b0:Option Addr)(s1:Bt)(h:za)(R:Value->za->Prop) (H:XC Tp 123 #[.pointer b0] h (λb c=>b=.tuple #[]/\∃d,b0=Td d/\∃e,zb c (Tl d 1)=Td (aK e)/\XRun Tp (TB #[87,9] 87 #[aK e,.string s1]) c (λf g=>∃i,f=aK i/\∃j,b0=Td j/\XRunU Tp (Tt 87 (.pointer (Td (Tl j 1))) (aK i)) g (λk=>R (.tuple #[iV (s1.size:Int),.nilIface]) k)))):
  XC Tp 68 #[.pointer b0,.string s1] h R:=
 XF ⟨[],[],[]⟩ [.tmp 4,.tmp 5] 19 Tryz.func68 H
theorem Oy(C:Sl)(h:za)(R:Value->za->Prop) (H:XC Tp 78 #[aK C] h (λb c=>∃d,b=.bool d/\((!d)=Ta->R (.tuple #[.string (⟨#[]⟩:Bt),iV 1]) c)/\((!d)=Tc->let e:=c.push (.cells #[.pointer Te,.slice Te 0 0] 89);∃(f:Int->za->Prop) (g:Int->za->Nat),f 0 e/\∀i:Int,∀j:za,f i j->((decide (i<C.len)=Ta->∃k,(C.a=Td k/\0<=i/\i<C.len)/\∃l,zb j (k.add (i.toNat*1))=Td (.string l)/\XC Tp 133 #[.pointer (Td ⟨c.size,0,Te⟩),.int .u8 47] j (λm n=>∃o:Value,m=o/\XC Tp 134 #[.string l,.string (⟨#[126]⟩:Bt),.string (⟨#[126,48]⟩:Bt)] n (λp q=>∃r,p=.string r/\XC Tp 134 #[.string r,.string (⟨#[47]⟩:Bt),.string (⟨#[126,49]⟩:Bt)] q (λs t=>∃u,s=.string u/\XC Tp 68 #[.pointer (Td ⟨c.size,0,Te⟩),.string u] t (λv w=>∃x,∃y:Value,v=.tuple #[iV x,y]/\(f (Tj .i64 (i+1)) w/\g (Tj .i64 (i+1)) w<g i j))))))/\(decide (i<C.len)=Tc->XC Tp 70 #[.pointer (Td ⟨c.size,0,Te⟩)] j (λz A=>∃B,z=.string B/\R (.tuple #[.string B,iV 0]) A)))))):
  XC Tp 75 #[.slice C.a C.len C.cap] h R:=
 XF ⟨[],[(5,[(12,.one (.int .i64))])],[]⟩ [.tmp 2,.tmp 3] 23 Tryz.func75 H
end
section
variable {gl M:Fr} {F:FuncId} {A C:Array Value} {h:za}
theorem Gz:MapT Tp 213 9 4 (.bool Tc):=⟨by kernel_rfl,by kernel_rfl,⟨Tryz.t4,by kernel_rfl,by kernel_rfl⟩⟩
set_option maxHeartbeats 1000000 in
theorem Nh(hg:GL gl){ks:List Bt}{n:Int}(hk:∀k∈ks,(lb k).length<=1048576){R:Bool->Prop}(h:R (j8 ks&&decide ((ks.length:Int)=n))):PC Tp gl 147 [Arg.mk (.row .str) ks,Arg.mk (.int .i64) n] [.bool] R:=by
 intro o M vs hM ag ha
 match vs,ha with
 |[u,w],⟨h1,h2,_⟩=>
  obtain⟨s,rfl,Y⟩:=i4 h1;have hw:=Xf h2;subst hw;have Y:Rd M (.row .str) ks [aK s]:=Y;obtain⟨I,ak,aj⟩:=rowLen Y;apply PX.of;apply Mh s n;intro g0;have kg:Keep o.size o g0:=Keep.push _ _ (Tm _);have sg:g0.size=o.size+1:=To _;have mg:MapAt g0 o.size []:=MapAt.new o;clear_value g0;refine⟨λi V=>∃k:Nat,i=k/\k<=ks.length/\o.size<V.size/\(∃P,Later o M V P/\P o.size=Te)/\(∃l,MapAt V o.size l/\∀x,iY l x (.bool Tc)=.bool (decide (x∈ks.take k)))/\j8 (ks.take k)=Ta,λi _=>ks.length-i.toNat,⟨0,rfl,by omega,by omega,⟨M,Later.same ag kg,ag.none (Tm _)⟩,⟨[],mg,λx=>rfl⟩,by simp[j8]⟩,?_⟩;rintro i V ⟨k,rfl,ai,B,⟨P,A,O⟩,⟨l,D,Q⟩,C⟩;refine⟨λhc=>?_,λhc=>?_⟩;have p:k<ks.length:=by simp at hc;omega
  have ae:=Rd.mono A.le Y;refine kR A.ag ae p rfl rfl ?_;have L:=Z0 Gz D ks[k] Tc;rw[Q]at L;refine⟨decide (ks[k]∈ks.take k),L,?_⟩;have f:=E6 hg.tabs (l:=lb ks[k]) (R:=λb=>b=Jl (lb ks[k])) (by have:=hk _ (TA p);omega) rfl;rw[jA]at f;generalize hd:decide (ks[k]∈ks.take k)=d;refine⟨λv G=>∃b,v=.bool b/\(d=Tc->b=Jl (lb ks[k]))/\o.size<G.size/\(∃E,Later o M G E/\E o.size=Te)/\MapAt G o.size l,λhn=>?_,λhn=>⟨Ta,Ta,rfl,λe=>(by rw[e]at hn;cases hn),B,⟨P,A,O⟩,D⟩,λ_ v G ⟨b,e,_⟩=>⟨b,e⟩,?_⟩;refine f.go (vs:=[.string ks[k]]) (hM.trans A.le) A.ag (zh (rdStr _) zy) λv G E r t N ac=>⟨r,Jk N,r,rfl,λ_=>ac,by have:=t.keep.size;omega,⟨E,A.trans t,by rw[t.old _ B,O]⟩,D.keep (t.keep.get _ B)⟩;rintro b G ⟨b',e,H,ah,⟨E,t,J⟩,af⟩;cases e;have S:ks.take (k+1)=ks.take k++[ks[k]]:=Tu p;have U:j8 (ks.take (k+1))=(!d&&Jl (lb ks[k])):=by
   have j:=C;unfold j8 at j ⊢;rw[TC,zG]at j;rw[S,VV,j.1,<-hd];have:decide (List.take k ks++[ks[k]]).Nodup=!decide (ks[k]∈ks.take k):=by rw[T8];simp only[zG,VE,decide_eq_false_iff_not,Vd];constructor;rintro⟨_,_,h3⟩ q;exact h3 _ q _ (by simp) rfl;intro q;exact⟨j.2,by simp,λa ha b H e=>q (by simp at H;rw[<-H,<-e];exact ha)⟩
   rw[this];simp[Bool.and_comm]
  refine⟨λy=>?_,λy=>?_⟩;refine⟨E,_,t,Qf.2 (rdBool _),?_⟩;have hf:j8 (ks.take (k+1))=Tc:=by
   rw[U];cases d with
   |true=>rfl
   |false=>rw[H rfl]at y;simpa using y
  have ab:j8 ks=Tc:=by
   cases hks:j8 ks with
   |false=>rfl
   |true=>
    unfold j8 at hks hf;rw[TC,zG]at hks;have h1:((ks.take (k+1)).all λk=>Jl (lb k))=Ta:=by rw[T7]at hks ⊢;exact λx y=>hks.1 x (VJ y)
    have h2:(ks.take (k+1)).Nodup:=hks.2.sublist (List.take_sublist _ _);rw[h1,zJ h2]at hf;cases hf
  rw[ab]at h;exact h;have F:d=Tc:=by cases d with
   |true=>simp at y
   |false=>rfl
  have aa:Jl (lb ks[k])=Ta:=by rw[<-H F];rw[F]at y;simpa using y
  refine OG Gz af ks[k] (.bool Ta) λh6 m6 s6 o6=>?_;rw[yr p (by omega)];refine⟨⟨k+1,rfl,by omega,by omega,⟨E,⟨⟨by have:=t.keep.size;omega,λi hi=>by rw[o6 i (by omega)];exact t.keep.get i hi⟩,t.le,t.old,?_⟩,J⟩,⟨_,m6,λx=>?_⟩,by rw[U,F,aa];rfl⟩,by simp only[Tq];omega⟩;intro b c e;have Z:b≠o.size:=λe2=>by rw[e2,J]at e;cases e
  obtain⟨T,m,e'⟩:=t.ag b c e;exact⟨T,m,by rw[o6 b Z];exact e'⟩;unfold iY;rw[PL,S];by_cases z:ks[k]=x;subst z;rw[zA rfl];simp only[TE,TP,or_true,decide_true,Option.getD_some];rw[zv z];have:=Q x;unfold iY at this;rw[this];congr 1;rw[T8,zG,zG,TE,TP];exact⟨.inl,λe=>e.elim id λe=>absurd e.symm z⟩;have p:k=ks.length:=by simp at hc;omega
  subst p;rw[TN]at C;refine⟨P,_,A,Qf.2 (rdBool _),?_⟩;rw[C,UQ]at h;have:(((s.len:Nat):Int)==n)=decide ((ks.length:Int)=n):=by rw[I,T8];simp
  rw[this];exact h
def Bc(gl:Fr)(F:FuncId)(A C:Array Value)(h:za)(M:Fr)(t:Ty)(x:El t)(b:Bool):Prop:=
 zj Tp F=Ta/\∀h' M' u,Later h M h' M'->RdV M' t x u->PX Tp F (A++#[u]++C) h' M' [.bool] (λr=>r=b)
theorem Pv(ag:AgM M h){xs:List Tr}{s:Sl}(y:Rd M (.row .tree) xs [aK s]){p:Tr->Bool}(q:∀x∈xs,Bc gl F A C h M .tree x (p x)):
  PX Tp 145 #[aK s,.func (.func F) A C] h M [.bool] (λr=>r=xs.any p):=by
 apply PX.of;apply yw s F A C;apply jf s F A C;obtain⟨w,H,B⟩:=rowLen y;refine⟨λi m=>∃k:Nat,i=k/\k<=xs.length/\(∃l,Later h M m l)/\(xs.take k).any p=Tc,λi _=>xs.length-i.toNat,⟨0,rfl,by omega,⟨M,Later.refl ag⟩,by simp⟩,?_⟩;rintro i m ⟨k,rfl,I,⟨l,e⟩,c⟩;refine⟨λo=>?_,λo=>?_⟩;have b:k<xs.length:=by simp at o;omega
 obtain⟨a,sk,si,D,z,E,G⟩:=Yj e.ag (Rd.mono e.le y) b;refine⟨a,⟨D,by omega,by omega⟩,xs[k].kind,xs[k].text,sk,si,by rw[Tq];exact z,(q _ (TA b)).1,?_⟩;refine((q _ (TA b)).2 m l _ e (zu E G)).go λv J t r u f j=>⟨r,Jk f,λn=>?_,λn=>?_⟩;refine⟨(k:Int),rfl,t,_,e.trans u,Qf.2 (rdBool _),?_⟩;have:xs.any p=Ta:=List.any_eq_true.2 ⟨xs[k],TA b,by rw[<-j];exact n⟩;rw[this];simp;rw[yr b (by omega)];refine⟨⟨k+1,rfl,by omega,⟨t,e.trans u⟩,?_⟩,by simp only[Tq];omega⟩;rw[Tu b,List.any_append,c];simp only[List.any_cons,List.any_nil,<-j,n];rfl;have b:k=xs.length:=by simp at o;omega
 subst b;rw[TN]at c;refine⟨-1,rfl,l,_,e,Qf.2 (rdBool _),?_⟩;rw[c];rfl
theorem N3(ag:AgM M h){xs:List Bt}{s:Sl}(y:Rd M (.row .str) xs [aK s]){p:Bt->Bool}(q:∀x∈xs,Bc gl F A C h M .str x (p x)):
  PX Tp 135 #[aK s,.func (.func F) A C] h M [.bool] (λr=>r=xs.any p):=by
 apply PX.of;apply jq s F A C;apply wq s F A C;obtain⟨w,B,z⟩:=rowLen y;refine⟨λi m=>∃k:Nat,i=k/\k<=xs.length/\(∃l,Later h M m l)/\(xs.take k).any p=Tc,λi _=>xs.length-i.toNat,⟨0,rfl,by omega,⟨M,Later.refl ag⟩,by simp⟩,?_⟩;rintro i m ⟨k,rfl,D,⟨l,e⟩,c⟩;refine⟨λo=>?_,λo=>?_⟩;have b:k<xs.length:=by simp at o;omega
 refine kR e.ag (Rd.mono e.le y) b rfl rfl ⟨(q _ (TA b)).1,?_⟩;refine((q _ (TA b)).2 m l _ e (rdStr _)).go λv E t r u f j=>⟨r,Jk f,λn=>?_,λn=>?_⟩;refine⟨(k:Int),rfl,t,_,e.trans u,Qf.2 (rdBool _),?_⟩;have:xs.any p=Ta:=List.any_eq_true.2 ⟨xs[k],TA b,by rw[<-j];exact n⟩;rw[this];simp;rw[yr b (by omega)];refine⟨⟨k+1,rfl,by omega,⟨t,e.trans u⟩,?_⟩,by simp only[Tq];omega⟩;rw[Tu b,List.any_append,c];simp only[List.any_cons,List.any_nil,<-j,n];rfl;have b:k=xs.length:=by simp at o;omega
 subst b;rw[TN]at c;refine⟨-1,rfl,l,_,e,Qf.2 (rdBool _),?_⟩;rw[c];rfl
end
section
variable {l:List Bt} {gl:Fr} {v:Tr} {R:Bool -> Prop} {F:FuncId}
theorem NV:decide (((l.length:Nat):Int)>0)=!l.isEmpty:=by cases l <;> simp
theorem Hl{l:List Tr}:decide (((l.length:Nat):Int)>0)=!l.isEmpty:=by cases l <;> simp
theorem KR(s:Bt)(l:Bs):(s.toList==(bl l).toList)=(lb s==l):=by have:=l6 (lb s) l;rw[jA]at this;grind
theorem Ia{k n:Int}:(k==n)=decide (k=n):=by grind
set_option maxHeartbeats 1000000 in
theorem Cb(i:GL gl)(A:Sm v)(h:R (zo v)):PC Tp gl 89 [Arg.mk .tree v] [.bool] R:=by
 apply OZ;have n:(lb v.text).length<=1152921504606846976:=by have:=A.text;omega
 have key:∀b,b=zo v->R b:=λb D=>by grind
 have C:=vK i (s:=lb v.text) (R:=λr=>R r.2\/v.kind≠3) n;have f:=E6 i.tabs (l:=lb v.text) (R:=λr=>r=Jl (lb v.text)) (by omega) rfl;have j:=Hc i (s:=lb v.text) (R:=λr=>r=uh (lb v.text)) n rfl;have m:=vK i (s:=lb v.text) (R:=λr=>r.2=(kq (lb v.text)).2) n rfl;rw[jA]at f j m;simp only[Ia,NV,Hl,show(⟨#[116,114,117,101]⟩:Bt)=bl [116,114,117,101]from rfl,show(⟨#[102,97,108,115,101]⟩:Bt)=bl [102,97,108,115,101]from rfl,KR];unfold zo at key;refine⟨λw=>key _ ?_,λw=>⟨λq=>?_,λq=>⟨λz=>key _ ?_,λz=>?_⟩⟩⟩;grind;have c:v.kind=6:=by simpa using q
 refine Nh i (λk p=>A.key p) (key _ ?_);simp only[c];grind;grind;have o:v.kind≠5:=by simpa using w
 have c:v.kind≠6:=by simpa using q
 have e:v.keys.isEmpty=Ta/\v.items.isEmpty=Ta:=by cases p:v.keys.isEmpty <;> cases hi:v.items.isEmpty <;> simp[p,hi]at z ⊢
 simp only[o,c,if_false,e.1,e.2,Bool.and_true]at key;refine⟨λh1=>key _ ?_,λh1=>⟨λB=>key _ ?_,λB=>⟨λy=>?_,λy=>⟨λt=>?_,λt=>⟨λu=>?_,λu=>key _ ?_⟩⟩⟩⟩⟩;grind;grind;have:v.kind=3:=by simpa using y
 exact m.mono λr x=>key _ (by grind);have:v.kind=4:=by simpa using t
 exact f.mono λr x=>key _ (by grind);have:v.kind=7:=by simpa using u
 exact j.mono λr x=>key _ (by grind);simp_all
theorem mX{k:Nat}(h:k<l.length):l[((k:Int)).toNat]?=Td l[k]:=by simp
theorem SX(hF:zj Tp F=Ta){p:Tr->Bool}(hp:∀x,Sm x->PC Tp gl F [Arg.mk .tree x] [.bool] (λr=>r=p x))(n:Nat):∀(v:Tr),cK v<=n->Sm v->∀{h:za} {M:Fr} {u:Value},Fr.le gl M->AgM M h->RdV M .tree v u ->
  PX Tp 87 #[u,.func (.func F) #[] #[]] h M [.bool] (λr=>r=Qp p v):=by
 induction n with
 |zero=>intro v hn;have:=Qx v;omega
 |succ n ih=>
 intro v hn hv h M u Z ag hu;have Q:=hu;obtain⟨sk,si,rfl,rk,ri⟩:=qe hu;apply PX.of;apply MU v.kind v.text sk si F #[] #[];intro h1 l;have L1:Later h M h1 M:=Later.push ag _;have f:Later h1 M l (Mx M h1.size #[.func (.func F) #[] #[]]):=Later.frz L1.ag _ _;have s1:h1.size=h.size+1:=To _;have s2:l.size=h1.size+1:=To _;have t:zc l ⟨h.size,0,Te⟩ 0 [.int .i64 v.kind,.string v.text,aK sk,aK si]:=pr (h':=l) (by have:=f.keep;rw[s1]at this;exact this);have V:∀h':za,Keep l.size l h'->zb h' (Tl ⟨h.size,0,Te⟩ 3)=Td (aK si):=λh' k=>by refine PP (h:=h) (T:=25) (cs:=[.int .i64 v.kind,.string v.text,aK sk,aK si]) ?_ rfl;have:=f.keep.trans k (by omega);rw[s1]at this;exact this
 have o:zb l ⟨h1.size,0,Te⟩=Td (.func (.func F) #[] #[]):=f.ag.cell (mP _ _ _) rfl;have P:(Mx M h1.size #[.func (.func F) #[] #[]]) h1.size=Td #[.func (.func F) #[] #[]]:=mP _ _ _;have C:=L1.trans f;clear_value h1 l;generalize (Mx M h1.size #[.func (.func F) #[] #[]])=M2 at *;refine⟨_,o,v.kind,v.text,sk,si,t,hF,?_⟩;refine(hp v hv).go (vs:=[.agg #[.int .i64 v.kind,.string v.text,aK sk,aK si]]) (Z.trans C.le) C.ag (zh (RdV.mono C.le Q) zy) λw h3 J r A y hr=>?_;refine⟨r,Jk y,si,λ_=>V h3 A.keep,?_⟩;have i:=C.trans A;refine⟨λw B=>∃b,w=.bool b/\(r=Ta->b=!(lN p v.items))/\∃z,Later h M B z,λab=>?_,λaa=>⟨Ta,Ta,rfl,λe=>(by simp_all),J,i⟩,λ_ w B ⟨b,e,_⟩=>⟨b,e⟩,?_⟩;have S:Rd J (.row .tree) v.items [aK si]:=Rd.mono i.le ri;have L:J h1.size=Td #[.func (.func F) #[] #[]]:=A.le _ _ P;refine(Pv (gl:=gl) A.ag S (p:=λx=>!(Qp p x)) λx hx=>⟨by kernel_rfl,λh' M' u' L' N=>?_⟩).go λw B z b D m U=>⟨b,Jk m,b,rfl,λ_=>?_,z,i.trans D⟩;have ac:=qq hx;obtain⟨c,j,rfl,G,E⟩:=qe N;apply PX.of;show XC Tp 146 #[.agg #[.int .i64 x.kind,.string x.text,aK c,aK j],.pointer (Td ⟨h1.size,0,Te⟩)] h' _;apply IJ x.kind x.text c j;intro g1;have I:Later h' M' g1 M':=Later.push L'.ag _;have H:zc g1 ⟨h'.size,0,Te⟩ 0 [.int .i64 x.kind,.string x.text,aK c,aK j]:=pr (Keep.refl _ _);have Y:zb g1 ⟨h1.size,0,Te⟩=Td (.func (.func F) #[] #[]):=I.ag.cell (L'.le _ _ L) rfl;clear_value g1;refine⟨x.kind,x.text,c,j,H,_,Y,?_⟩;refine(ih x (by omega) (hv.item hx) (h:=g1) (M:=M') ((Z.trans i.le).trans L'.le) I.ag (zu G E)).go λw h5 M5 b L5 q O=>⟨b,Jk q,M5,_,I.trans L5,Qf.2 (rdBool _),by rw[O]⟩;rw[U,je,T8];simp;rintro b B ⟨b',e,hb,z,D⟩;cases e;refine⟨z,_,D,Qf.2 (rdBool _),?_⟩;grind [xg]
theorem Cw(i:zj Tp F=Ta){p:Tr->Bool}(b:∀x,Sm x->PC Tp gl F [Arg.mk .tree x] [.bool] (λr=>r=p x))(v:Tr)(c:Sm v){h:za}{M:Fr}{u:Value}(e:Fr.le gl M)(ag:AgM M h)(f:RdV M .tree v u): PX Tp 87 #[u,.func (.func F) #[] #[]] h M [.bool] (λr=>r=Qp p v):=SX i b (cK v) v (Tm _) c e ag f
theorem tj(D:GL gl)(B:Sm v)(P:R (we v)):PC Tp gl 83 [Arg.mk .tree v] [.bool] R:=by
 intro h M vs A ag O
 match vs,O with
 |[u],⟨m,_⟩=>have m:RdV M .tree v u:=m;have l:=m;obtain⟨sk,si,rfl,S,V⟩:=qe m;apply PX.of;apply Ro v.kind v.text sk si;intro h1;have n:Later h M h1 M:=Later.push ag _;have s1:h1.size=h.size+1:=To _;have f:∀h':za,Keep h1.size h1 h'->zc h' ⟨h.size,0,Te⟩ 0 [.int .i64 v.kind,.string v.text,aK sk,aK si]:=λh' k=>pr (h':=h') (by rw[s1]at k;exact k);clear_value h1;refine⟨v.kind,v.text,sk,si,f h1 (Keep.refl _ _),?_⟩;have q:PC Tp gl 86 [Arg.mk .tree v] [.bool] (λr=>r=Zj v):=Fh B rfl;refine q.go (vs:=[.agg #[.int .i64 v.kind,.string v.text,aK sk,aK si]]) (A.trans n.le) n.ag (zh (RdV.mono n.le l) zy) λw C J r t j T=>?_;refine⟨r,Jk j,v.kind,v.text,sk,si,λ_=>f C t.keep,?_⟩;have c:=n.trans t;refine⟨λw o=>∃b,w=.bool b/\(r=Ta->b=Qp zo v)/\∃z,Later h M o z,λN=>?_,λI=>⟨Ta,Ta,rfl,λe=>(by simp_all),J,c⟩,λ_ w o ⟨b,e,_⟩=>⟨b,e⟩,?_⟩;refine(Cw (F:=89) (by kernel_rfl) (p:=zo) (λx L=>Cb D L rfl) v B (A.trans c.le) t.ag (RdV.mono c.le l)).go λw U G b E i y=>⟨b,Jk i,b,rfl,λ_=>y,G,c.trans E⟩;rintro b o ⟨b',e,Q,z,H⟩;cases e;refine⟨z,_,H,Qf.2 (rdBool _),?_⟩;unfold we at P;grind
end
section
variable {h:za} {e:TypeId} {M:Fr} {K:Value -> za -> Prop} {cs:Array Value} {k:Nat} {vs:List Value}
theorem od:ElemT Tp 22 9 (.string ⟨#[]⟩) 1 16:=⟨by kernel_rfl,⟨Tryz.t9,by kernel_rfl,by kernel_rfl,by kernel_rfl,by kernel_rfl⟩,rfl,by omega⟩
theorem CY:ElemT Tp 23 25 (.agg #[.int .i64 0,.string ⟨#[]⟩,.slice Te 0 0,.slice Te 0 0]) 4 72:=⟨by kernel_rfl,⟨Tryz.t25,by kernel_rfl,by kernel_rfl,by kernel_rfl,by kernel_rfl⟩,rfl,by omega⟩
theorem D6{h h':za}{sz:Nat}(k:Keep (h.size+1) (h.push (.cells #[] e)) h')(base:Nat)(b:base<=h.size):Owns h' base e sz ⟨Td ⟨h.size,0,Te⟩,0,0⟩ []:=by refine⟨by simp,.inr ⟨h.size,0,#[],rfl,b,?_,Tm _,TK _,by simp,by simp⟩⟩;show h'[h.size]?=_;rw[k.get _ (by omega)];simp
theorem Ha(ag:AgM M h){ks:List Bt}{s:Sl}(q:Rd M (.row .str) ks [aK s])(D:ks.length*16<=140737488355328)
  (r:∀(c:Sl) (h':za),Keep h.size h h'->c.len=ks.length->Owns h' h.size 9 1 c (ks.map TH)->K (aK c) h'):XC Tp 210 #[aK s] h K:=by
 obtain⟨e,z,u⟩:=rowLen q;obtain⟨s2,f,_,_,cells,A,l⟩:=Rd.rowC ag q;simp only[aK,Ua]at f;have j:s2.a=s.a:=f.1.symm;have:=ML A;subst this;rw[j]at l;apply Zh s;refine⟨λw=>?_,λw=>?_⟩;have k:ks=[]:=by rcases l with h0|⟨b,o,x,_⟩;simpa using h0;simp_all
 subst k;exact r ⟨Te,0,0⟩ h (Keep.refl _ _) rfl (Owns.nil _ _ _ _);intro g;have m:Keep h.size h g:=Keep.push _ _ (Tm _);have F:g.size=h.size+1:=To _;have t:Owns g h.size 9 1 ⟨Td ⟨h.size,0,Te⟩,0,0⟩ []:=D6 (Keep.refl _ _) _ (Tm _);clear_value g;refine xb od t (src:=⟨s.a,s.len,s.cap⟩) (news:=ks.map TH) (n:=h.size) (l.keep m) (by simp[e]) (by simp[Value.oneCell']) (by grind) (by grind) (by omega) λc h' x f y E C=>⟨c,rfl,r c h' ?_ (by grind) (by simpa using f)⟩;refine⟨by omega,λi hi=>(y i (by omega) λp B=>?_).trans (m.get i hi)⟩;grind
theorem ON(ag:AgM M h){xs:List Tr}{s:Sl}(u:Rd M (.row .tree) xs [aK s])(F:xs.length*72<=140737488355328)
  (t:∀(c:Sl) (h':za) (cells:List Value),Keep h.size h h'->c.len=xs.length->Owns h' h.size 25 4 c cells->RowC M .tree xs cells->K (aK c) h'):XC Tp 211 #[aK s] h K:=by
 obtain⟨e,B,x⟩:=rowLen u;obtain⟨s2,j,_,_,cells,k,q⟩:=Rd.rowC ag u;simp only[aK,Ua]at j;have m:s2.a=s.a:=j.1.symm;rw[m]at q;have f:cells.length=xs.length*4:=k.1;apply j5 s;refine⟨λy=>?_,λy=>?_⟩;have l:cells=[]:=by rcases q with h0|⟨b,o,z,_⟩;exact h0;simp_all
 subst l;have:xs.length=0:=by simp at f;omega
 exact t ⟨Te,0,0⟩ h [] (Keep.refl _ _) (by simp[this]) (Owns.nil _ _ _ _) k;intro g;have r:Keep h.size h g:=Keep.push _ _ (Tm _);have D:g.size=h.size+1:=To _;have w:Owns g h.size 25 4 ⟨Td ⟨h.size,0,Te⟩,0,0⟩ []:=D6 (Keep.refl _ _) _ (Tm _);clear_value g;refine xb CY w (src:=⟨s.a,s.len,s.cap⟩) (news:=cells) (n:=h.size) (q.keep r) (by rw[f,e]) k.one (by grind) (by grind) (by omega) λc h' z j A G C=>⟨c,rfl,t c h' cells ?_ (by grind) (by simpa using j) k⟩;refine⟨by omega,λi hi=>(A i (by omega) λp E=>?_).trans (r.get i hi)⟩;grind
theorem Owns.blk{base:Nat}{sz:Nat}{s:Sl}{cells:List Value}(H:Owns h base e sz s cells):(s.len=0/\cells=[]/\s.cap=0)\/∃b cs,s.a=Td ⟨b,0,Te⟩/\base<=b/\Blk h b cs/\s.cap*sz<=cs.size/\cut cs 0 (s.len*sz)=cells/\s.len<=s.cap:=by rcases H.2 with⟨f,h0⟩|⟨g,cap,c,f,i,j,k,n,l,m⟩;left;have:=H.1;simp_all;right;simp only[Ua]at f;refine⟨g,c,f.1,i,⟨e,j⟩,?_,by unfold cut;simp_all,by omega⟩;simp_all
theorem Oe{n i k:Nat}(h:i+k<=n):(List.drop i (cut cs 0 n)).take k=cut cs i k:=by unfold cut;rw[Vp,List.drop_take,List.take_take,VS (by omega)]
theorem pn{h:za}{b:Nat}{cs:Array Value}(H:Blk h b cs):∀{vs:List Value} {o i:Nat},cut cs (o+i) vs.length=vs->zc h ⟨b,o,Te⟩ i vs
 |[],_,_,_=>trivial
 |v::vs,o,i,e=>by
  unfold cut at e;have c:o+i<cs.toList.length:=by rcases Up (o+i) cs.toList.length with f|f;exact f;grind
  rw[Uk c,TI,Vv]at e;injection e with e1 e2;refine⟨?_,pn H (i:=i+1) e2⟩;refine H.cellAdd ?_;grind
theorem vE:cut vs.toArray 0 vs.length=vs:=by unfold cut;simp
theorem E7:qm Tp 25=Ta:=by kernel_rfl
theorem F0:y8 Tp 25=4:=by kernel_rfl
theorem vQ:qm Tp 22=Ta:=by kernel_rfl
theorem uZ:y8 Tp 22=1:=by kernel_rfl
theorem Pi:qm Tp 23=Ta:=by kernel_rfl
theorem IP:y8 Tp 23=1:=by kernel_rfl
def ze(k:Int)(s:Bt)(sk si:Sl):List Value:=[.int .i64 k,.string s,aK sk,aK si]
theorem Aa(k:Int)(s:Bt)(sk si:Sl):∀u∈ze k s sk si,u.oneCell'=Ta:=by intro u b;simp[ze]at b;rcases b with rfl|rfl|rfl|rfl <;> simp[Value.oneCell',aK]
theorem FC(k:Int)(s:Bt)(sk si:Sl):(Value.agg #[.int .i64 k,.string s,aK sk,aK si]).cells.toList=ze k s sk si:=rfl
theorem AS(h:cs.size=vs.length):iI cs 0 vs=vs.toArray:=by unfold iI;simp_all
theorem jr{b:Nat}(H:Blk h b cs)(e:cs.size=4)(k:Int)(s:Bt)(sk si:Sl){K:za->Prop}
  (i:∀h':za,Blk h' b (ze k s sk si).toArray->h'.size=h.size->(∀j,j≠b->h'[j]?=h[j]?)->K h'):XRunU Tp (Tt 25 (.pointer (Td ⟨b,0,Te⟩)) (.agg #[.int .i64 k,.string s,.slice sk.a sk.len sk.cap,.slice si.a si.len si.cap])) h K:=
 X4 (vs:=ze k s sk si) E7 H (FC k s sk si) F0 (by rw[e];exact Tm _) (Aa k s sk si) λh' c l f=>i h' (by rw[AS (by rw[e];rfl)]at c;exact c) l f
theorem wH{bf:Nat->List Nat}{k x:Nat}:x∈(TZ k).flatMap bf↔∃j,j<k/\x∈bf j:=by simp
structure CI (h2 h':za) (M:Fr) (v:Tr) (b1 b2:Nat) (s1 s2:Sl) (bk bb:List Nat) (b:Nat) (cs:Array Value) (bf:Nat->List Nat) (k:Nat):Prop where
 ag:AgM M h'
 box1:Blk h' b1 (ze v.kind v.text s1 s2).toArray
 box2:∃c2:Array Value,Blk h' b2 c2/\c2.size=4
 keys:OKeys h' v.keys bk s1
 hz:(v.items=[]/\bb=[]/\s2.cap=0)\/(bb=[b]/\s2.a=Td ⟨b,0,Te⟩/\Blk h' b cs/\s2.cap*4<=cs.size)
 did:∀i (hx:i<v.items.length),i<k->OT h' v.items[i] (bf i) (cut cs (i*4) 4)
 todo:∀i (hx:i<v.items.length),k<=i->RdV M .tree v.items[i] (.agg (cut cs (i*4) 4).toArray)
 nd:(bk++(bb++(TZ k).flatMap bf)).Nodup
 big:∀x∈bk++(bb++(TZ k).flatMap bf),h2.size<=x
set_option maxHeartbeats 4000000 in
theorem Tf(n:Nat):∀(v:Tr),cK v<=n->Sm v->∀{h:za} {M:Fr} {u:Value},AgM M h->RdV M .tree v u ->
  XC Tp 151 #[u] h λw h'=>Keep h.size h h'/\∃bs sk si,w=.agg #[.int .i64 v.kind,.string v.text,aK sk,aK si]/\OT h' v bs (ze v.kind v.text sk si)/\∀b∈bs,h.size<=b:=by
 induction n with
 |zero=>intro v hn;have:=Qx v;omega
 |succ n ih=>
 intro v hn hv h M u ag hu;obtain⟨sk,si,rfl,rk,ri⟩:=qe hu;have aU:=hv.items;have aS:=hv.keys;apply G8 v.kind v.text sk si;intro h1 A;have kh:Keep h.size h A:=(Keep.push h (.cells (ze v.kind v.text sk si).toArray 25) (Tm _)).trans (Keep.push h1 _ (Tm _)) (by grind);have s1:h1.size=h.size+1:=To _;have s2:A.size=h1.size+1:=To _;have b1:Blk A h.size (ze v.kind v.text sk si).toArray:=by have:Blk h1 h.size (ze v.kind v.text sk si).toArray:=Blk.new _ _ _;exact this.ofKeep (Keep.push _ _ (Tm _))
 have b2:Blk A h1.size (ze 0 ⟨#[]⟩ ⟨Te,0,0⟩ ⟨Te,0,0⟩).toArray:=Blk.new _ _ _;clear_value h1 A;have S:=ag.keep kh;refine⟨sk,b1.cellAdd (o:=0) (k:=2) rfl,si,b1.cellAdd (o:=0) (k:=3) rfl,?_⟩;refine Ha S rk (by omega) λc1 h3 P l3 o3=>⟨c1,rfl,P.get _ (by grind [zd]),?_⟩;have aF:=S.keep P;refine ON aF ri (by omega) λc2 h4 cells k4 l4 o4 rc=>⟨c2,rfl,?_⟩;have af:=(b1.ofKeep P).ofKeep k4;have Z:=(b2.ofKeep P).ofKeep k4;have z3:=P.size;have z4:=k4.size;rw[show Tl ⟨h.size,0,Te⟩ 2=⟨h.size,2,Te⟩from zd _ _ _,show Tl ⟨h.size,0,Te⟩ 3=⟨h.size,3,Te⟩from zd _ _ _];refine X4 (vs:=[aK c1]) vQ af rfl uZ (by simp[ze]) (by simp[Value.oneCell',aK]) λh5 ae z5 f5=>?_;refine X4 (vs:=[aK c2]) Pi ae rfl IP (by simp[ze,iI]) (by simp[Value.oneCell',aK]) λh6 B z6 f6=>?_;have ay:iI (iI (ze v.kind v.text sk si).toArray 2 [aK c1]) 3 [aK c2]=(ze v.kind v.text c1 c2).toArray:=by simp[iI,ze]
 rw[ay]at B;have z:∀j,j≠h.size->h6[j]?=h4[j]?:=λj t=>(f6 j t).trans (f5 j t);refine⟨c2,B.cell (o:=3) rfl,?_⟩;have aj:Keep h.size h h6:=⟨by omega,λi hi=>by rw[z i (by omega),k4.get i (by omega),P.get i (by omega)];exact kh.get i hi⟩;obtain⟨bk,E,aJ,aL,aI⟩:∃bk,OKeys h6 v.keys bk c1/\bk.Nodup/\(∀x∈bk,A.size<=x)/\(∀x∈bk,x<h3.size):=by rcases Owns.blk o3 with⟨h0,Q,O⟩|⟨b,cs,J,e2,e3,e4,e5,e6⟩;exact⟨[],⟨l3,by omega,by omega,.inl ⟨by simpa using Q,rfl,O⟩⟩,Vk,by simp,by simp⟩;refine⟨[b],⟨l3,by omega,by omega,.inr ⟨b,cs,rfl,J,(e3.ofKeep k4).keep (z b (by omega)),by omega,by simp_all⟩⟩,by simp,by simpa using e2,by simpa using e3.lt⟩
 obtain⟨bb,b,cs,aa,p,L,aH,ah⟩:∃(bb:List Nat) (b:Nat) (cs:Array Value),v.items.length<=c2.cap/\((v.items=[]/\bb=[]/\c2.cap=0)\/(bb=[b]/\c2.a=Td ⟨b,0,Te⟩/\Blk h6 b cs/\c2.cap*4<=cs.size))/\(∀i,i<v.items.length->cut cs (i*4) 4=(cells.drop (i*4)).take 4)/\bb.Nodup/\∀x∈bb,h3.size<=x:=by
  rcases Owns.blk o4 with⟨h0,Q,O⟩|⟨b,cs,J,e2,e3,e4,e5,e6⟩;have:v.items.length=0:=by omega
  exact⟨[],0,#[],by omega,.inl ⟨TT this,rfl,O⟩,λi hi=>by omega,Vk,by simp⟩;refine⟨[b],b,cs,by omega,.inr ⟨rfl,J,e3.keep (z b (by omega)),e4⟩,λi hi=>?_,by simp,by simpa using e2⟩;grind [Oe]
 have ac:CI A h6 M v h.size h1.size c1 c2 bk bb b cs (λ_=>[]) 0:={
  ag:=ag.keep aj,box1:=B,box2:=⟨_,Z.keep (z _ (by omega)),rfl⟩,keys:=E,hz:=p,did:=λi _ hi=>by omega
  todo:=λi f _=>by rw[L i f];have:=rc.2 i f;unfold RdV;simp only[fR,if_true];exact⟨_,rfl,this⟩
  nd:=by grind
  big:=by grind }
 refine⟨λi h'=>∃(k:Nat) (cs:Array Value) (bf:Nat->List Nat),i=(k:Int)/\k<=v.items.length/\Keep h.size h h'/\A.size<=h'.size/\CI A h' M v h.size h1.size c1 c2 bk bb b cs bf k,λi _=>v.items.length-i.toNat,⟨0,cs,_,rfl,by omega,aj,by omega,ac⟩,?_⟩;clear ac L p E B ae af Z z f5 f6 o3 o4 rc;rintro i h7 ⟨k,cs,bf,rfl,hk,k7,z7,I⟩;refine⟨λQ=>?_,λQ=>?_⟩;have r:k<v.items.length:=by simp at Q;omega
 rcases I.hz with⟨h0,_⟩|⟨p,J,hb,an⟩;rw[h0]at r;simp at r;have L:v.items.length*4<=cs.size:=by omega
 have aG:=I.todo k r (Tm _);obtain⟨tk,ti,q,aA,ax⟩:=qe aG;have U:cut cs (k*4) 4=ze v.items[k].kind v.items[k].text tk ti:=by injection q with q;exact congrArg Vu q
 refine⟨⟨b,0,Te⟩,⟨J,by omega,by omega⟩,v.items[k].kind,v.items[k].text,tk,ti,?_,?_⟩;rw[zd,Tq,TJ];exact pn hb (vs:=ze v.items[k].kind v.items[k].text tk ti) (o:=k*4) (i:=0) U;intro h8;have z8:h8.size=h7.size+1:=To _;have k8:Keep h7.size h7 h8:=Keep.push _ _ (Tm _);have b8:Blk h8 h7.size (ze 0 ⟨#[]⟩ ⟨Te,0,0⟩ ⟨Te,0,0⟩).toArray:=Blk.new _ _ _;clear_value h8;refine jr b8 rfl _ _ _ _ λh9 b9 z9 f9=>?_;have k9:Keep h7.size h7 h9:=⟨by omega,λj t=>by rw[f9 j (by omega)];exact k8.get j t⟩;have box1:=I.box1.ofKeep k9;refine⟨c2,box1.cell (o:=3) rfl,v.items[k].kind,v.items[k].text,tk,ti,pn b9 (vs:=ze v.items[k].kind v.items[k].text tk ti) (o:=0) (i:=0) vE,?_⟩;have hm:v.items[k]∈v.items:=TA r;have aO:=qq hm;refine(ih v.items[k] (by omega) (hv.item hm) (I.ag.keep k9) (zu aA ax)).mono ?_;rintro w h10 ⟨C,bs,dk,di,rfl,ot,aM⟩;refine⟨v.items[k].kind,v.items[k].text,dk,di,rfl,⟨b,0,Te⟩,⟨J,by omega,by omega⟩,C.get _ box1.lt,?_⟩;have ak:=(hb.ofKeep k9).ofKeep C;have aN:=C.size;rw[zd,Tq,TJ];refine X4 (vs:=ze v.items[k].kind v.items[k].text dk di) E7 ak (FC _ _ _ _) F0 (by show k*4+4<=cs.size;omega) (Aa _ _ _ _) λaz au aY ab=>?_;have ai:Keep h7.size h7 h10:=k9.trans C (by omega);have aQ:=hb.lt;have fr:∀x,x≠b->x<h7.size->az[x]?=h7[x]?:=λx f hl=>by rw[ab x f];exact ai.get x hl
 have am:∀x∈bk++(bb++(TZ k).flatMap bf),A.size<=x:=I.big;have ah:A.size<=b:=am b (by rw[p];simp);have Y:=I.nd;rw[Vd]at Y;obtain⟨aP,V,aB⟩:=Y;rw[Vd]at V;obtain⟨aV,aT,aC⟩:=V;have H:∀x∈bk++(bb++(TZ k).flatMap bf),x<h7.size:=by intro x f;rw[TE,TE]at f;rcases f with f|f|f;obtain⟨_,_,_,q4⟩:=I.keys;rcases q4 with⟨_,rfl,_⟩|⟨b',cs',rfl,_,e,_⟩;cases f;simp at f;subst f;exact e.lt;grind;obtain⟨j,t,f⟩:=wH.1 f;exact(I.did j (by omega) t).lt x f
 have E:∀x∈bk,x≠b:=λx f e=>aB x f b (by rw[p];simp) e;have ar:∀j,j<k->∀x∈bf j,x≠b:=λj t x f e=>aC b (by rw[p];simp) x (wH.2 ⟨j,t,f⟩) e.symm;have al:∀x∈bs,x≠b:=λx f e=>by grind
 have F:(TZ (k+1)).flatMap (λj=>if j=k then bs else bf j)=(TZ k).flatMap bf++bs:=by
  rw[List.range_succ,Vm];congr 1;have:∀(l:List Nat),(∀x∈l,x<k)->l.flatMap (λj=>if j=k then bs else bf j)=l.flatMap bf:=by
   intro l;induction l with
   |nil=>intro _;rfl
   |cons a l aE=>intro hl;rw[UE,UE,zv (by have:=hl a (by simp);omega),aE λx f=>hl x (by simp[f])]
  exact this _ λx f=>by simpa using f
  simp
 rw[yr r (by omega)];refine⟨⟨k+1,iI cs (k*4) (ze v.items[k].kind v.items[k].text dk di),λj=>if j=k then bs else bf j,rfl,by omega,⟨by omega,λx f=>by rw[fr x (by omega) (by omega)];exact k7.get x f⟩,by omega,{
  ag:=λx c e=>?_,box1:=I.box1.keep (fr _ (by omega) (by omega)),box2:=?_,keys:=I.keys.frame λx f=>fr x (E x f) (H x (by simp[f])),hz:=.inr ⟨p,J,au,by rw[CP (by show k*4+4<=cs.size;omega)];exact an⟩,did:=?_,todo:=?_,nd:=?_,big:=?_ }⟩,by simp;omega⟩
 have f:=ag.lt e;obtain⟨T,m,e'⟩:=I.ag x c e;grind;obtain⟨q,D,N⟩:=I.box2;exact⟨q,D.keep (fr _ (by omega) D.lt),N⟩;intro j t aD;by_cases G:j=k;subst G;simp only[if_true];have:=Rm (cs:=cs) (o:=j*4) (vs:=ze v.items[j].kind v.items[j].text dk di) (by show j*4+4<=cs.size;omega);rw[show(ze v.items[j].kind v.items[j].text dk di).length=4 from rfl]at this;rw[this];exact ot.frame λx f=>ab x (al x f);simp only[G,if_false];rw[zV (by show k*4+4<=cs.size;omega) (by left;omega)];exact(I.did j t (by omega)).frame λx f=>fr x (ar j (by omega) x f) (H x (by rw[TE,TE];exact .inr (.inr (wH.2 ⟨j,by omega,f⟩))));intro j t aD;rw[zV (by show k*4+4<=cs.size;omega) (by right;show k*4+4<=j*4;omega)];exact I.todo j t (by omega);rw[F,<-TR,<-TR,Vd];refine⟨by grind,ot.nodup,λx f y hy e=>?_⟩;grind;intro x f;rw[F,<-TR,<-TR,TE]at f;grind;have r:k=v.items.length:=by simp at Q;omega
 subst r;refine⟨v.kind,v.text,c1,c2,pn I.box1 (vs:=ze v.kind v.text c1 c2) (o:=0) (i:=0) vE,?_⟩;obtain⟨q,D,N⟩:=I.box2;refine jr D N _ _ _ _ λh8 b8 z8 f8=>?_;refine⟨v.kind,v.text,c1,c2,pn b8 (vs:=ze v.kind v.text c1 c2) (o:=0) (i:=0) vE,⟨by omega,λx f=>by rw[f8 x (by omega)];exact k7.get x f⟩,_,c1,c2,rfl,?_,λx f=>by have:=I.big x f;omega⟩;have ot:OT h7 (.mk v.kind v.text v.keys v.items) (bk++(bb++(TZ v.items.length).flatMap bf)) (ze v.kind v.text c1 c2):=by exact OT.mk (b:=b) (cs:=cs) I.keys ⟨l4,by omega,aa⟩ I.hz (λi f=>I.did i f f) I.nd
 rw[xy]at ot;exact ot.frame λx f=>f8 x (by have:=I.big x f;omega)
end
end Go.X
end
section
namespace Go.X
open Go Go.Lib
section
mutual
def iS:Tr->Nat | .mk _ _ ks xs=>1+ks.length+ix xs
def ix:List Tr->Nat | []=>0|x::l=>iS x+ix l
end
theorem Pu(v:Tr):iS v=1+v.keys.length+ix v.items:=by cases v;rw[iS]
theorem GH:∀a b:List Tr,ix (a++b)=ix a+ix b
 |[],b=>by simp[ix]
 |x::l,b=>by rw[Um,ix,ix,GH l b];omega
theorem HX{l:List Tr}{k:Nat}(b:k<l.length):ix (l.take (k+1))=ix (l.take k)+iS l[k]:=by rw[Tu b,GH];simp[ix]
mutual
theorem qZ:∀v:Tr,cK v<=iS v
 |.mk k s ks xs=>by rw[cK,iS];have:=Ah xs;omega
theorem Ah:∀l:List Tr,Zc l<=ix l
 |[]=>by simp[Zc,ix]
 |x::l=>by rw[Zc,ix];have:=qZ x;have:=Ah l;omega
end
mutual
def iD:Tr->Prop | .mk _ s ks xs=>(s.size<=2048/\∀k∈ks,k.size<=1024)/\iJ xs
def iJ:List Tr->Prop | []=>True|x::l=>iD x/\iJ l
end
theorem SA(v:Tr):iD v↔(v.text.size<=2048/\∀k∈v.keys,k.size<=1024)/\iJ v.items:=by cases v;rw[iD]
theorem Fu:∀{l:List Tr},iJ l↔∀x∈l,iD x
 |[]=>by simp[iJ]
 |x::l=>by rw[iJ,Fu];simp
mutual
theorem Ds:∀(v:Tr),iS v<=1000000->iD v->jM 1048576 v
 |.mk k s ks xs,h,g=>by rw[iS]at h;rw[iD]at g;rw[jM];exact⟨⟨by omega,by omega,λk b=>by have:=g.1.2 k b;omega⟩,CZ xs (by omega) g.2⟩
theorem CZ:∀(l:List Tr),ix l<=1000000->iJ l->lG 1048576 l
 |[],_,_=>by rw[lG];trivial
 |x::l,h,g=>by rw[ix]at h;rw[iJ]at g;rw[lG];exact⟨Ds x (by omega) g.1,CZ l (by omega) g.2⟩
end
theorem Sm.few{v:Tr}(h:iS v<=1000000)(g:iD v):Sm v:=⟨by have:=qZ v;omega,Ds v h g⟩
structure PS (l:List Bt):Prop where
 n:l.length<=200
 s:∀x∈l,(lb x).length<=1024
def Z9(l:List Bt):Bool:=decide (l.length<=64)&&l.all λs=>Jl (lb s)
def np(c:UInt8):Bs:=if c=126 then [126,48]else if c=47 then [126,49]else [c]
def kZ(l:Bs):Bs:=l.flatMap np
def iL(l:List Bs):Bs:=l.flatMap λs=>47::kZ s
theorem LR(l:Bs):replaceAll (replaceAll l [126] [126,48]) [47] [126,49]=kZ l:=by rw[Wm (by simp) (by simp),Wm (by simp) (by simp),sO,sO,List.flatMap_assoc,kZ];congr 1;funext x;by_cases h:x=126;subst h;simp[np];by_cases b:x=47;subst b;simp[np];simp[np,h,b]
theorem Eo(l:Bs):(kZ l).length<=2*l.length:=by
 induction l with
 |nil=>simp[kZ]
 |cons c t b=>
  rw[kZ,UE,Ts];have:(np c).length<=2:=by by_cases h:c=126;simp[np,h];by_cases e:c=47 <;> simp[np,h,e]
  unfold kZ at b;rw[TI];omega
theorem BO(a b:List Bs):iL (a++b)=iL a++iL b:=by unfold iL;rw[Vm]
theorem NY(x:Bs):iL [x]=47::kZ x:=by simp[iL]
end
end Go.X
end
section
namespace Go.X
section
variable {gl:Fr} {l:List Tr} {R:Tr -> Prop}
theorem CU{gl:Fr}(v:Tr)(l d:Int)(z:0<=l/\l<=1000)(w:0<=d/\d<=61){R:Int->Prop}(h:∀r,-1000000000000000<=r->r<=l->(0<=r->r+iS v<=l)->R r):PC Tp gl 53 [Arg.mk .tree v,Arg.mk (.int .i64) l,Arg.mk (.int .i64) d] [.int .i64] R:=by
 refine PC.bd λf=>?_;have x:v.keys.length<=140737488355328/\v.items.length<=140737488355328:=f ⟨.tree,v⟩ (by simp);apply KJ;refine⟨λm=>h _ (by omega) (by omega) (by omega),λm=>?_⟩;have u:d<=60:=by simp at m;omega
 rw[hX (n:=l-1) (by omega),hX (by omega)];refine⟨λc i=>∃k:Nat,i=k/\k<=v.items.length/\-1000000000000000<=c/\c<=l/\(0<=c->c+(1+v.keys.length+ix (v.items.take k))<=l),λc i=>v.items.length-i.toNat,⟨0,rfl,by omega,by omega,by omega,λ_=>by simp[ix];omega⟩,?_⟩;rintro c i ⟨k,rfl,y,h1,q,j⟩;refine⟨λe=>?_,λe=>h c h1 q λh0=>?_⟩;have b:k<v.items.length/\0<=c:=by simp at e;omega
 refine⟨v.items[k],⟨by omega,oz b.1⟩,?_⟩;rw[xy,hX (by omega)];have o:=qq (TA b.1);refine CU v.items[k] c (d+1) ⟨b.2,by omega⟩ (by omega) λr t A p=>?_;rw[yr b.1 (by omega)];refine⟨⟨k+1,rfl,by omega,t,by omega,λh0=>?_⟩,by simp only[Tq];omega⟩;have:=p h0;have:=j b.2;rw[HX b.1];omega;have b:k=v.items.length:=by simp at e;omega
 subst b;have:=j h0;rw[TN]at this;rw[Pu];omega
termination_by cK v
theorem Bw{gl:Fr}(v:Tr){R:Bool->Prop}(h:∀b,(b=Ta->iD v)->R b):PC Tp gl 54 [Arg.mk .tree v] [.bool] R:=by
 refine PC.bd λr=>?_;have t:v.keys.length<=140737488355328/\v.items.length<=140737488355328:=r ⟨.tree,v⟩ (by simp);apply Sx;refine⟨λc=>h _ (λe=>by cases e),λc=>?_⟩;have m:v.text.size<=2048:=by simp at c;omega
 refine⟨λi=>∃k:Nat,i=k/\k<=v.keys.length/\∀x∈v.keys.take k,x.size<=1024,λi=>v.keys.length-i.toNat,⟨0,rfl,by omega,by simp⟩,?_⟩;rintro i ⟨k,rfl,w,h1⟩;refine⟨λq=>?_,λq=>?_⟩;have j:k<v.keys.length:=by simp at q;omega
 refine⟨v.keys[k],⟨by omega,mX j⟩,λ_=>h _ (λe=>by cases e),λp=>?_⟩;have o:v.keys[k].size<=1024:=by simp at p;omega
 rw[yr j (by omega)];refine⟨⟨k+1,rfl,by omega,?_⟩,by simp only[Tq];omega⟩;rw[Tu j];intro x c;rcases TE.1 c with c|c;exact h1 x c;simp at c;subst c;exact o;have j:k=v.keys.length:=by simp at q;omega
 subst j;rw[TN]at h1;refine⟨λi=>∃k:Nat,i=k/\k<=v.items.length/\∀x∈v.items.take k,iD x,λi=>v.items.length-i.toNat,⟨0,rfl,by omega,by simp⟩,?_⟩;rintro i ⟨k,rfl,w,n⟩;refine⟨λl=>?_,λl=>h _ λ_=>?_⟩;have f:k<v.items.length:=by simp at l;omega
 refine⟨v.items[k],⟨by omega,oz f⟩,?_⟩;rw[xy];have u:=qq (TA f);refine Bw v.items[k] λb t=>⟨λ_=>h _ (λe=>by cases e),λp=>?_⟩;rw[yr f (by omega)];refine⟨⟨k+1,rfl,by omega,?_⟩,by simp only[Tq];omega⟩;rw[Tu f];intro x c;rcases TE.1 c with c|c;exact n x c;simp at c;subst c;exact t (by simpa using p);have f:k=v.items.length:=by simp at l;omega
 subst f;rw[TN]at n;exact(SA v).2 ⟨⟨m,h1⟩,Fu.2 n⟩
termination_by cK v
theorem Pa(h:R (.mk 5 ⟨#[]⟩ [] l)):PC Tp gl 52 [Arg.mk (.row .tree) l] [.tree] R:=by apply Sf;exact h
theorem Bu{ks:List Bt}(h:R (.mk 6 ⟨#[]⟩ ks l)):PC Tp gl 47 [Arg.mk (.row .str) ks,Arg.mk (.row .tree) l] [.tree] R:=by apply G9;exact h
theorem DJ(b:GL gl){n:Int}(h1:-1000000<=n)(c:n<=1000000)(h:R (.mk 3 (bl (Jm (ql (Lib.itoa n)).1)) [] [])):PC Tp gl 51 [Arg.mk (.int .i64) n] [.tree] R:=by apply SD;refine ND b.pow (by omega) (by omega) ?_;exact D7 b.pow (Wn _ (by have:=Go.X.itoa_len n;omega)) h
theorem BZ{gl:Fr}(a b:Tr){R:Bool->Prop}(h:∀r,(r=Ta↔a=b)->R r):PC Tp gl 17 [Arg.mk .tree a,Arg.mk .tree b] [.bool] R:=by
 refine PC.bd λx=>?_;have H:a.keys.length<=140737488355328/\a.items.length<=140737488355328:=x ⟨.tree,a⟩ (by simp);apply JA;have z:∀s t:Bt,(s.toList==t.toList)=decide (s=t):=λs t=>by rw[jo,jo,T8,beq_iff_eq,zG];exact qD
 simp only[z];refine⟨λp=>h _ ⟨λe=>(by cases e),λe=>?_⟩,λp=>?_⟩;subst e;simp at p;have u:a.kind=b.kind/\a.text=b.text/\a.keys.length=b.keys.length/\a.items.length=b.items.length:=by simp at p;obtain⟨⟨⟨h1,n⟩,G⟩,I⟩:=p;exact⟨h1,n,by omega,by omega⟩
 obtain⟨D,F,E,B⟩:=u;refine⟨λi=>∃k:Nat,i=k/\k<=a.keys.length/\a.keys.take k=b.keys.take k,λi=>a.keys.length-i.toNat,⟨0,rfl,by omega,by simp⟩,?_⟩;rintro i ⟨k,rfl,C,h1⟩;refine⟨λw=>?_,λw=>?_⟩;have f:k<a.keys.length:=by simp at w;omega
 have m:k<b.keys.length:=by omega
 refine⟨a.keys[k],⟨by omega,mX f⟩,b.keys[k],⟨by omega,mX m⟩,λj=>h _ ⟨λe=>(by cases e),λe=>?_⟩,λj=>?_⟩;subst e;simp at j;have l:a.keys[k]=b.keys[k]:=by simpa using j
 rw[yr f (by omega)];refine⟨⟨k+1,rfl,by omega,?_⟩,by simp only[Tq];omega⟩;rw[Tu f,Tu m,h1,l];have f:k=a.keys.length:=by simp at w;omega
 subst f;rw[TN,E,TN]at h1;refine⟨λi=>∃k:Nat,i=k/\k<=a.items.length/\a.items.take k=b.items.take k,λi=>a.items.length-i.toNat,⟨0,rfl,by omega,by simp⟩,?_⟩;rintro i ⟨k,rfl,C,n⟩;refine⟨λq=>?_,λq=>h _ ⟨λ_=>?_,λ_=>rfl⟩⟩;have c:k<a.items.length:=by simp at q;omega
 have o:k<b.items.length:=by omega
 refine⟨a.items[k],⟨by omega,oz c⟩,b.items[k],⟨by omega,oz o⟩,?_⟩;rw[xy,xy];have A:=qq (TA c);refine BZ a.items[k] b.items[k] λr y=>⟨λj=>h _ ⟨λe=>(by cases e),λe=>?_⟩,λj=>?_⟩;subst e;rw[y.2 rfl]at j;cases j;have l:a.items[k]=b.items[k]:=y.1 (by simpa using j);rw[yr c (by omega)];refine⟨⟨k+1,rfl,by omega,?_⟩,by simp only[Tq];omega⟩;rw[Tu c,Tu o,n,l];have c:k=a.items.length:=by simp at q;omega
 subst c;rw[TN,B,TN]at n;have:=xy a;rw[D,F,h1,n,xy]at this;exact this.symm
termination_by cK a
end
end Go.X
end
section
namespace Go.X
open Go Go.Lib
section
variable {α:Type}
structure IsCmp {α:Type} (c:α->α->Int):Prop where
 rng:∀a b,c a b=-1\/c a b=0\/c a b=1
 eq0:∀a b,c a b=0↔a=b
 swap:∀a b,c b a=-c a b
 tr:∀a b d,c a b<=0->c b d<=0->c a d<=0
def il{α:Type}(c:α->α->Int):List α->List α->Int
 |[],[]=>0
 |[],_::_=>-1
 |_::_,[]=>1
 |a::l,b::m=>if c a b=0 then il c l m else c a b
theorem Do{c:α->α->Int}(H:IsCmp c):IsCmp (il c) where
 rng:=by
  intro a;induction a with
  |nil=>intro b;cases b <;> simp[il]
  |cons x a ih=>
   intro b;cases b with
   |nil=>simp[il]
   |cons y b=>rw[il];by_cases h:c x y=0;rw[zA h];exact ih b;rw[zv h];exact H.rng x y
 eq0:=by
  intro a;induction a with
  |nil=>intro b;cases b <;> simp[il]
  |cons x a ih=>
   intro b;cases b with
   |nil=>simp[il]
   |cons y b=>rw[il,U4,<-H.eq0 x y];by_cases h:c x y=0;rw[zA h];simp[h,ih];rw[zv h];simp[h]
 swap:=by
  intro a;induction a with
  |nil=>intro b;cases b <;> simp[il]
  |cons x a ih=>
   intro b;cases b with
   |nil=>simp[il]
   |cons y b=>rw[il,il,H.swap x y];by_cases h:c x y=0;rw[zA h,zA (by omega)];exact ih b;rw[zv h,zv (by omega)]
 tr:=by
  intro a;induction a with
  |nil=>intro b d h1 h2;cases d <;> simp[il]
  |cons x a ih=>
   intro b d h1 h2;cases b with
   |nil=>simp[il]at h1
   |cons y b=>
    cases d with
    |nil=>simp[il]at h2
    |cons z d=>rw[il]at h1 h2 ⊢;by_cases hxy:c x y=0;have:=(H.eq0 x y).1 hxy;subst this;rw[zA hxy]at h1;by_cases hyz:c x z=0;rw[zA hyz]at h2 ⊢;exact ih b d h1 h2;rw[zv hyz]at h2 ⊢;exact h2;rw[zv hxy]at h1;by_cases hyz:c y z=0;have:=(H.eq0 y z).1 hyz;subst this;rw[zv hxy];exact h1;rw[zv hyz]at h2;have h3:=H.tr x y z h1 h2;by_cases hxz:c x z=0;have:=(H.eq0 x z).1 hxz;subst this;have:=H.swap x y;omega;rw[zv hxz];exact h3
theorem NG{c:α->α->Int}(H:IsCmp c)(p x y:List α):il c (p++x) (p++y)=il c x y:=by
 induction p with
 |nil=>rfl
 |cons a p b=>rw[Um,Um,il,zA ((H.eq0 a a).2 rfl),b]
def lj(a b:UInt8):Int:=if a.toNat<b.toNat then -1 else if a.toNat=b.toNat then 0 else 1
theorem cmpU_is:IsCmp lj where
 rng:=λa b=>by unfold lj;by_cases h:a.toNat<b.toNat;rw[zA h];simp;rw[zv h];by_cases h2:a.toNat=b.toNat;rw[zA h2];simp;rw[zv h2];simp
 eq0:=λa b=>by unfold lj;rw[<-UInt8.toNat_inj];by_cases h:a.toNat<b.toNat;rw[zA h];omega;rw[zv h];by_cases h2:a.toNat=b.toNat;rw[zA h2];omega;rw[zv h2];omega
 swap:=λa b=>by unfold lj;by_cases h:a.toNat<b.toNat;rw[zv (by omega),zv (by omega),zA h];rfl;by_cases h2:b.toNat<a.toNat;rw[zA h2,zv h,zv (by omega)];rw[zv h2,zA (by omega),zv h,zA (by omega)];rfl
 tr:=λa b d=>by unfold lj;intro h1 h2;by_cases h:a.toNat<d.toNat;rw[zA h];omega;rw[zv h];by_cases h':a.toNat=d.toNat;rw[zA h'];omega;exfalso;by_cases g:a.toNat<b.toNat;rw[zv (show¬b.toNat<d.toNat by omega),zv (by omega)]at h2;omega;rw[zv g]at h1;by_cases g2:a.toNat=b.toNat;rw[zv (show¬b.toNat<d.toNat by omega),zv (by omega)]at h2;omega;rw[zv g2]at h1;omega
def iy:Bs->Bs->Int:=il lj
theorem cmpS_is:IsCmp iy:=Do cmpU_is
theorem A5:∀a b:Bs,U2 a b=decide (iy a b=-1)
 |[],[]=>by simp[U2,iy,il]
 |[],_::_=>by simp[U2,iy,il]
 |_::_,[]=>by simp[U2,iy,il]
 |a::l,b::m=>by
  have f:=A5 l m;unfold iy at f ⊢;rw[il,U2,f];by_cases h:a<b;have:lj a b=-1:=by unfold lj;rw[zA (UInt8.lt_iff_toNat_lt.1 h)]
  simp[h,this];by_cases c:a=b;subst c;simp[(cmpU_is.eq0 a a).2 rfl,h];have:lj a b=1:=by unfold lj;rw[zv (λe=>h (UInt8.lt_iff_toNat_lt.2 e)),zv (λe=>c (UInt8.toNat_inj.1 e))]
  simp[h,c,this]
def cmpL:List Bs->List Bs->Int:=il iy
theorem cmpL_is:IsCmp cmpL:=Do cmpS_is
theorem II{a b:List Bs}{k:Nat}(h:a.take k=b.take k):cmpL a b=cmpL (a.drop k) (b.drop k):=by have:=NG cmpS_is (a.take k) (a.drop k) (b.drop k);rw[UF,h,UF]at this;exact this
end
end Go.X
end
section
namespace Go.X
section
variable {k:Nat} {a b:List Bt} {gl:Fr} {R:Int -> Prop}
structure SL (l:List Bt):Prop where
 n:l.length<=1000000
 s:∀x∈l,(lb x).length<=1048576
theorem PS.sl{l:List Bt}(h:PS l):SL l:=⟨by have:=h.n;omega,λx b=>by have:=h.s x b;omega⟩
theorem RX{α:Type}{p:α->Bool}{l:List α}(b:k<l.length):(l.take (k+1)).all p=((l.take k).all p&&p l[k]):=by rw[Tu b,VV,V3,List.all_nil,Bool.and_true]
theorem Wo(s t:Bt):U2 s.toList t.toList=decide (iy (lb s) (lb t)=-1):=by rw[jo,jo,A5]
theorem sF(s t:Bt):(s.toList==t.toList)=decide (iy (lb s) (lb t)=0):=by rw[jo,jo,T8,beq_iff_eq,zG,cmpS_is.eq0]
def jR(a b:List Bt):Int:=cmpL (a.map lb) (b.map lb)
theorem Gq(h:a.take k=b.take k):jR a b=jR (a.drop k) (b.drop k):=by unfold jR;rw[II (k:=k),List.map_drop,List.map_drop];rw[<-List.map_take,<-List.map_take,h]
theorem QL(x y:Bt)(a b:List Bt):jR (x::a) (y::b)=if iy (lb x) (lb y)=0 then jR a b else iy (lb x) (lb y):=rfl
theorem wB(h : a.take k = b.take k)(hk : k = a.length \/ k = b.length): jR a b = if a.length < b.length then -1 else if b.length < a.length then 1 else 0 := by
  have hl := congrArg Uw h;simp only [UD] at hl;rw [Gq h];rcases hk with rfl | rfl;rw [List.drop_length];cases hd : b.drop a.length with
  | nil => have := List.drop_eq_nil_iff.1 hd; (rw [zv (by omega), zv (by omega)]; rfl)
  | cons y t => have : a.length < b.length := by
                  rcases Up a.length b.length with q | q;exact q;rw [Va q] at hd; cases hd
                rw [zA this]; rfl
  rw [List.drop_length];cases hd : a.drop b.length with
  | nil => have := List.drop_eq_nil_iff.1 hd; (rw [zv (by omega), zv (by omega)]; rfl)
  | cons y t => have : b.length < a.length := by
                  rcases Up b.length a.length with q | q;exact q;rw [Va q] at hd; cases hd
                rw [zv (by omega), zA this]; rfl
theorem BS(h:a.take k=b.take k)(e:k<a.length)(f:k<b.length)(c:iy (lb a[k]) (lb b[k])≠0):jR a b=iy (lb a[k]) (lb b[k]):=by rw[Gq h,Uk e,Uk f,QL,zv c]
theorem Bb(h:a.take k=b.take k)(c:k<a.length)(f:k<b.length)(e:iy (lb a[k]) (lb b[k])=0):a.take (k+1)=b.take (k+1):=by rw[Tu c,Tu f,h,qD.1 ((cmpS_is.eq0 _ _).1 e)]
theorem Oj(u:a.length<=1000000)(h:R (jR a b)):PC Tp gl 74 [Arg.mk (.row .str) a,Arg.mk (.row .str) b] [.int .i64] R:=by
 apply Wi;refine⟨λi=>∃k:Nat,i=k/\k<=a.length/\k<=b.length/\a.take k=b.take k,λi=>a.length-i.toNat,⟨0,rfl,by omega,by omega,by simp⟩,?_⟩;rintro i ⟨k,rfl,x,t,m⟩;refine⟨λl=>?_,λl=>?_⟩;have c:k<a.length/\k<b.length:=by simp at l;omega
 have p:=mX c.1;have q:=mX c.2;have o:=BS m c.1 c.2;have w:=cmpS_is.rng (lb a[k]) (lb b[k]);refine⟨a[k],⟨by omega,p⟩,b[k],⟨by omega,q⟩,λj=>?_,λj=>⟨a[k],⟨by omega,p⟩,b[k],⟨by omega,q⟩,λe=>?_,λe=>?_⟩⟩;rw[Wo]at j;have f:iy (lb a[k]) (lb b[k])=-1:=by simpa using j
 rw[o (by omega),f]at h;exact h;rw[Wo,sF]at e;have f:iy (lb a[k]) (lb b[k])=1:=by simp at e;omega
 rw[o (by omega),f]at h;exact h;rw[Wo]at j;rw[Wo,sF]at e;have f:iy (lb a[k]) (lb b[k])=0:=by simp at j e;omega
 have n:=yr c.1 (by omega);rw[n];exact⟨⟨k+1,rfl,by omega,by omega,Bb m c.1 c.2 f⟩,by have:=c.1;simp only[Tq];omega⟩;have c:k=a.length\/k=b.length:=by simp at l;by_cases j:k<a.length;right;have:=l j;omega;left;omega
 rw[wB m c]at h;refine⟨λj=>?_,λj=>⟨λe=>?_,λe=>?_⟩⟩;have:a.length<b.length:=by simp at j;omega
 rw[zA this]at h;exact h;have:b.length<a.length:=by simp at e;omega
 rw[zv (by omega),zA this]at h;exact h;have h1:¬a.length<b.length:=by simp at j;omega
 have r:¬b.length<a.length:=by simp at e;omega
 rw[zv h1,zv r]at h;exact h
theorem F9(a b:List Bt):jR a b=0↔a=b:=by unfold jR;rw[cmpL_is.eq0];constructor;intro h;have:=congrArg (List.map bl) h;rw[T9,T9]at this;have e:(bl ∘ lb)=(id:Bt->Bt):=funext λx=>jA x;rw[e,List.map_id,List.map_id]at this;exact this;rintro rfl;rfl
theorem Ls(c:a.length<=1000000){R:Bool->Prop}(h:∀r,(r=Ta↔a=b)->R r):PC Tp gl 40 [Arg.mk (.row .str) a,Arg.mk (.row .str) b] [.bool] R:=by apply Jv;refine Oj c (h _ ?_);rw[<-F9];simp
theorem LU{a b:Bt}(h:R (iy (lb a) (lb b))):PC Tp gl 143 [Arg.mk .str a,Arg.mk .str b] [.int .i64] R:=by
 apply Wj;apply Z7;apply Z7;have k:=cmpS_is.rng (lb a) (lb b);have e:∀s:Bt,(!(s.toList==s.toList))=Tc:=λs=>by simp
 rw[e,e];refine⟨λj=>(by cases j),λ_=>⟨λj=>(by cases j),λ_=>⟨λi=>?_,λi=>⟨λc=>?_,λc=>?_⟩⟩⟩⟩;rw[Wo]at i;have f:iy (lb a) (lb b)=-1:=by simpa using i
 rw[f]at h;exact h;rw[Wo,sF]at c;have f:iy (lb a) (lb b)=1:=by simp at c;omega
 rw[f]at h;exact h;rw[Wo]at i;rw[Wo,sF]at c;have f:iy (lb a) (lb b)=0:=by simp at i c;omega
 rw[f]at h;exact h
theorem Sj(q:a.length<=1000000)(h:R (jR a b)):PC Tp gl 48 [Arg.mk (.row .str) a,Arg.mk (.row .str) b] [.int .i64] R:=by
 apply Ot;apply xf;refine⟨λi=>∃k:Nat,i=k/\k<=a.length/\k<=b.length/\a.take k=b.take k,λi=>a.length-i.toNat,⟨0,rfl,by omega,by omega,by simp⟩,?_⟩;rintro i ⟨k,rfl,p,o,j⟩;refine⟨λm=>?_,λm=>?_⟩;have c:k<a.length:=by simp at m;omega
 refine⟨a[k],⟨by omega,mX c⟩,λf=>?_,λf=>?_⟩;have e:k=b.length:=by simp at f;omega
 rw[wB j (.inr e),zv (by omega),zA (by omega)]at h;exact h;have e:k<b.length:=by simp at f;omega
 refine⟨b[k],⟨by omega,mX e⟩,LU ⟨λn=>?_,λn=>?_⟩⟩;rw[BS j c e (by simpa using n)]at h;exact h;have l:=yr c (by omega);rw[l];exact⟨⟨k+1,rfl,by omega,by omega,Bb j c e (by simpa using n)⟩,by simp only[Tq];omega⟩;have c:k=a.length:=by simp at m;omega
 rw[wB j (.inl c)]at h;refine⟨λf=>?_,λf=>?_⟩;have:a.length<b.length:=by simp at f;omega
 rw[zA this]at h;exact h;have h1:¬a.length<b.length:=by simp at f;omega
 rw[zv h1,zv (by omega)]at h;exact h
end
section
theorem AC{l:List Bs}{m:Nat}(h:∀x∈l,x.length<=m):(iL l).length<=l.length*(2*m+1):=by
 induction l with
 |nil=>simp[iL]
 |cons x l b=>rw[show x::l=[x]++l from rfl,BO,NY,Ts,TI,Ts,UG,UX,V4];have h1:=b λy c=>h y (by simp[c]);have e:=Eo x;have f:=h x (by simp);omega
end
end Go.X
end
section
namespace Go.X
open Go Go.Proofs Go.Shelf Go.RowKit
section
def BK:Go.Shelf.Ren:=⟨fun|169=>70|n=>n,fun|70=>86|9=>9|0=>0|72=>89|37=>87|127=>133|3=>3|5=>5|n=>n,fun|n=>n⟩
theorem OA:Go.Proofs.Lays.n169 Tp BK:=by constructor <;> intros <;> kernel_rfl
theorem Kq:Builder.Extra Tp BK:={
 sizeBuilder:=by kernel_rfl
 liesBuilder:=by kernel_rfl
 t5:=VN
 a5:=Tryz.isAgg5
 z5:=Tryz.sizeOf5
 v5:=Tryz.zeroValue5
 infoByte:=by kernel_rfl
 cellsByte:=by kernel_rfl
 sizeByte:=by kernel_rfl
 neB5:=by decide }
theorem Xt(B b:Nat)(l:List UInt8)(w:World)(h:Lib.IsBuilder 89 5 B b (Lib.byteCells l) w)(c:B<=w.heap.size): Calls Tp 70 #[.pointer (Td ⟨b,0,Te⟩)] w λe w'=>e=.returned (.string ⟨l.toArray⟩)/\Below B w w':=Any.Builder_String_any OA Kq B b l w h c
end
end Go.X
end
section
namespace Go.X
open Go Go.X Go.Proofs Go.RowKit
section
variable {h h':za} {b:Nat} {l:Bs} {cs:Array Value} {K:Value -> za -> Prop}
def Bld(h:za)(b:Nat)(l:Bs):Prop:=∃(p:Option Addr) (s:Sl),h[b]?=Td (.cells #[.pointer p,aK s] 89 (0,0))/\(p=Te\/p=Td ⟨b,0,Te⟩)/\Owns h (b+1) 5 1 s (Lib.byteCells l)
theorem Bld.lt(H:Bld h b l):b<h.size:=by obtain⟨p,s,e,_⟩:=H;rcases Up b h.size with q|q;exact q;rw[Array.getElem?_eq_none q]at e;cases e
theorem Bld.keep(H:Bld h b l)(k:Keep h.size h h'):Bld h' b l:=by have c:=H.lt;obtain⟨p,s,e,f,i⟩:=H;exact⟨p,s,by rw[k.get b c];exact e,f,i.keepN k⟩
theorem Bld.new(h:za):Bld (h.push (.cells #[.pointer Te,.slice Te 0 0] 89)) h.size []:= ⟨Te,⟨Te,0,0⟩,qj _ _,.inl rfl,Owns.nil _ _ _ _⟩
theorem uE:(T6.info? 89).map (·.size)=Td 2:=by kernel_rfl
theorem LW:liesAt Tp T6.depth 89 (2 / T6.cellsOf 89) 0 89 1=Ta:=by kernel_rfl
theorem pq:T6.underlying 86=Td (.pointer 89):=by kernel_rfl
theorem s5:T6.underlying 199=Td .unsafePointer:=by kernel_rfl
set_option maxHeartbeats 1000000 in
set_option maxRecDepth 100000 in
theorem A7(b:Nat)(w:World)(h0:w.cell? ⟨b,0,Te⟩=Td (.pointer (Td ⟨b,0,Te⟩))):
  Calls Tp 123 #[.pointer (Td ⟨b,0,Te⟩)] w λe w'=>e=.returned (.tuple #[])/\w'=w:=by
 obtain⟨j,c,_⟩:=U1.1 uE;have mixed:=Tryz.mixed
 go_enter Tryz.func123,Tryz.ntmps123
 go_wp2
 rw[Lib.run_neq_ptr_same w _ pq c]
 go_wp2
 go_end0
 exact⟨rfl,rfl⟩
set_option maxHeartbeats 1000000 in
set_option maxRecDepth 100000 in
theorem I2(b:Nat)(w:World)(h0:w.cell? ⟨b,0,Te⟩=Td (.pointer Te))(c:w.shape? b=Td (89,2))(i:w.frozen? ⟨b,0,Te⟩=Tc):
  Calls Tp 123 #[.pointer (Td ⟨b,0,Te⟩)] w λe w'=>e=.returned (.tuple #[])/\w'=w.setCell ⟨b,0,Te⟩ (.pointer (Td ⟨b,0,Te⟩)):=by
 obtain⟨j,h,f⟩:=U1.1 uE;have mixed:=Tryz.mixed
 go_enter Tryz.func123,Tryz.ntmps123
 go_wp2
 rw[Lib.run_to_unsafe w ⟨b,0,Te⟩ pq s5 h (by rw[f];decide) c (Nat.zero_lt_succ 1)];simp only[Result.andThen];rw[Oper.upon_value]
 go_wp2
 rw[run_callFunc_extern Tryz.func195 (by kernel_rfl) (by kernel_rfl) (by kernel_rfl) (e:=WB) (by kernel_rfl)];rw[Lib.run_noEscape];simp only[Result.andThen];rw[Oper.upon_value]
 go_wp2
 rw[Lib.run_from_unsafe w ⟨b,0,Te⟩ s5 pq h c LW];simp only[Result.andThen];rw[Oper.upon_value]
 go_wp2
 go_end0
 exact⟨rfl,rfl⟩
theorem Ag{b o:Nat}{T:TypeId}(e:h[b]?=Td (.cells cs T (0,0)))(v:Value)(B:World)(d:Nat):(mk B d h).setCell ⟨b,o,Te⟩ v=mk B d (h.setIfInBounds b (.cells (cs.setIfInBounds o v) T (0,0))):=by
 unfold World.setCell mk;simp only;congr 1;have c:b<h.size:=(TD.1 e).1;apply VW;intro i;rw[Array.getElem?_modify];by_cases hi:i=b;subst hi;have f:h[i]=.cells cs T (0,0):=by have:=UA c;rw[e]at this;exact(TY this).symm
 simp[c,f];rw[zv (Ne.symm hi),Uo (Ne.symm hi)]
theorem Keep.ne(e:h'.size=h.size)(c:∀i,i≠b->h'[i]?=h[i]?):Keep b h h':=⟨by omega,λi hi=>c i (by omega)⟩
def Itk(h h':za):Prop:=∀(i:Nat) (s:Bt) (p:Nat),h[i]?=Td (.stringIter s p)->h'[i]?=Td (.stringIter s p)
theorem Itk.trans{a b c:za}(x:Itk a b)(y:Itk b c):Itk a c:=λi s p e=>y i s p (x i s p e)
theorem Itk.keep(k:Keep h.size h h'):Itk h h':=λi s p e=>by have hi:i<h.size:=(TD.1 e).1;rw[k.get i hi];exact e
theorem Itk.ne{T:TypeId}{m:Nat×Nat}(e:h[b]?=Td (.cells cs T m))(f:∀i,i≠b->h'[i]?=h[i]?):Itk h h':=λi s p c=>by by_cases hi:i=b;subst hi;rw[e]at c;cases c;rw[f i hi];exact c
theorem Itk.own{base:Nat}{e:TypeId}{sz:Nat}{s:Sl}{xs:List Value}(H:Owns h base e sz s xs)(f:∀i,i<h.size->(∀p,s.a=Td p->i≠p.block)->h'[i]?=h[i]?):Itk h h':=λi t p c=>by have hi:i<h.size:=(TD.1 c).1;rw[f i hi λq m l=>?_];exact c;rcases H.2 with⟨b,_⟩|⟨g,cap,j,b,_,k,_⟩;rw[m]at b;cases b;have k:h[g]?=Td (.cells j e (0,0)):=k;rw[m]at b;injection b with e1 _ _;injection e1 with e1;rw[l,e1]at c;rw[k]at c;cases c
theorem uw(H:Bld h b l)(k:∀h',Bld h' b l->Keep b h h'->h'.size=h.size->Itk h h'->K (.tuple #[]) h'):XC Tp 123 #[.pointer (Td ⟨b,0,Te⟩)] h K:=by
 have j:=H.lt;obtain⟨p,s,e,m,f⟩:=H;have c:∀B d,(mk B d h).cell? ⟨b,0,Te⟩=Td (.pointer p):=λB d=>by have:(mk B d h).heap[b]?=Td (.cells #[.pointer p,aK s] 89 (0,0)):=e;simp[World.cell?,this]
 rcases m with rfl|rfl;refine XC.of_calls λB d=>(I2 b (mk B d h) (c B d) ?_ ?_).mono ?_
 have:(mk B d h).heap[b]?=Td (.cells #[.pointer Te,aK s] 89 (0,0)):=e;simp[World.shape?,this];exact xY ⟨_,e⟩ B d;rintro e' w' ⟨rfl,rfl⟩;rw[Ag e];refine⟨_,rfl,rfl,rfl,rfl,?_⟩;show K _ (h.setIfInBounds b _);refine k _ ⟨_,s,?_,.inr rfl,?_⟩ ?_ (by simp) (Itk.ne e λi hi=>Uo (Ne.symm hi));rw[UW j];rfl;refine f.keep λq n=>?_;have:=f.base_le q n;rw[Uo (by omega)];exact Keep.setBlk _ (Tm _);refine XC.of_calls λB d=>(A7 b (mk B d h) (c B d)).mono ?_;rintro e' w' ⟨rfl,rfl⟩;exact⟨_,rfl,rfl,rfl,rfl,k _ ⟨_,s,e,.inr rfl,f⟩ (Keep.refl _ _) rfl (Itk.keep (Keep.refl _ _))⟩
theorem rL:ElemT Tp 87 5 (.int .u8 0) 1 1:=⟨by kernel_rfl,⟨Tryz.t5,by kernel_rfl,by kernel_rfl,by kernel_rfl,by kernel_rfl⟩,rfl,by omega⟩
theorem GA:T6.underlying 9=Td .string:=by kernel_rfl
theorem CF:qm Tp 87=Ta:=by kernel_rfl
theorem Bn:y8 Tp 87=1:=by kernel_rfl
theorem wP{p:Option Addr}{s t:Sl}(e:h[b]?=Td (.cells #[.pointer p,aK t] 89 (0,0)))(k:p=Te\/p=Td ⟨b,0,Te⟩)(i:Owns h (b+1) 5 1 s (Lib.byteCells l)){K:za->Prop}
  (r:∀h',Bld h' b l->Keep b h h'->h'.size=h.size->Itk h h'->K h'):XRunU Tp (Tt 87 (.pointer (Td ⟨b,1,Te⟩)) (.slice s.a s.len s.cap)) h K:=by
 intro B d;obtain⟨h',n,j,f,c⟩:=Z6 (P:=Tp) CF Bn e (o:=1) (v:=aK s) rfl (by simp) (by simp[aK,Value.cells,Value.oneCell']) B d;refine⟨d,h',n,r h' ⟨p,s,?_,k,?_⟩ (Keep.ne f c) f (Itk.ne e c)⟩;rw[j];rfl;refine i.keep λq m=>?_;have:=i.base_le q m;exact c _ (by omega)
theorem Qa(H:Bld h b l)(T:l.length<140737488355328)(c:UInt8)(P:∀h',Bld h' b (l++[c])->Keep b h h'->Itk h h'->K .nilIface h'):
  XC Tp 133 #[.pointer (Td ⟨b,0,Te⟩),.int .u8 (c.toNat:Int)] h K:=by
 apply y5;refine uw H λf B k2 Y F=>⟨rfl,_,rfl,?_⟩;have x:=B.lt;obtain⟨p,s,e,Q,t⟩:=B;have m:=t.1;rw[Lib.byteCells_length,Uj]at m;refine⟨s,Blk.cellAdd (o:=0) (k:=1) (cs:=#[.pointer p,aK s]) ⟨_,e⟩ rfl,?_⟩;intro j;have r:Keep f.size f j:=Keep.push _ _ (Tm _);have U:j.size=f.size+1:=To _;have b5:Blk j f.size #[.int .u8 (c.toNat:Int)]:=Blk.new _ _ _;have D:j[b]?=Td (.cells #[.pointer p,aK s] 89 (0,0)):=by rw[r.get b x];exact e
 have A:=t.keepN r;clear_value j;refine xb rL A (src:=⟨Td ⟨f.size,0,Te⟩,1,1⟩) (news:=[.int .u8 (c.toNat:Int)]) (n:=j.size) ?_ rfl (by simp[Value.oneCell']) (by simp only;omega) (by simp only;omega) (by omega) λC z Z I u q4 S=>⟨C,rfl,_,rfl,?_⟩;refine .inr ⟨f.size,0,rfl,by omega,λi v w=>?_⟩
 match i,w with
 |0,w=>cases w;exact b5.cell rfl
 have M:z[b]?=Td (.cells #[.pointer p,aK s] 89 (0,0)):=by rw[u b (by omega) λq y=>by have:=t.base_le q y;omega];exact D
 have E:Owns z (b+1) 5 1 C (Lib.byteCells (l++[c])):=by
  have:Lib.byteCells (l++[c])=Lib.byteCells l++[.int .u8 (c.toNat:Int)]:=by unfold Lib.byteCells;rw[Ug];rfl
  rw[this];exact I
 have G:Keep b h z:=k2.trans ⟨by omega,λi hi=>by rw[u i (by omega) λq y=>by have:=t.base_le q y;omega];exact r.get i (by omega)⟩ (Tm _);refine wP M Q E λO J L V N=>P O J (G.trans L (Tm _)) (F.trans ((Itk.keep r).trans ((Itk.own A u).trans N)))
theorem GX(H:Bld h b l)(f:l.length<140737488355328)(c:UInt8)(e:∀h',Bld h' b (l++[c])->Keep b h h'->K .nilIface h'):
  XC Tp 133 #[.pointer (Td ⟨b,0,Te⟩),.int .u8 (c.toNat:Int)] h K:=
 Qa H f c λh' a b _=>e h' a b
theorem FD(H:Bld h b l)(t:Bs)(hl:l.length+t.length<=140737488355328)(N:∀h',Bld h' b (l++t)->Keep b h h'->Itk h h'->K (.tuple #[.int .i64 (t.length:Int),.nilIface]) h'):
  XC Tp 68 #[.pointer (Td ⟨b,0,Te⟩),.string (bl t)] h K:=by
 apply yg;refine uw H λC z k2 U F=>⟨rfl,_,rfl,?_⟩;have A:=z.lt;obtain⟨p,s,e,Q,j⟩:=z;have f:=j.1;rw[Lib.byteCells_length,Uj]at f;refine⟨s,Blk.cellAdd (o:=0) (k:=1) (cs:=#[.pointer p,aK s]) ⟨_,e⟩ rfl,?_⟩;have c:=zt t;refine Xe rL j (x:=.string (bl t)) (m:=(bl t).size) (news:=Lib.byteCells t) (λB d=>?_) (by rw[c];omega) (by rw[c];omega) (by omega) λy u V S r Z Y=>⟨y,rfl,_,rfl,?_⟩;have:=Src.ofString (P:=Tp) (w:=mk B d C) GA (bl t);have O:byteCells (bl t)=Lib.byteCells t:=by unfold byteCells Lib.byteCells;have:(bl t).data.toList=t:=j4 t;rw[this]
 rw[O]at this;exact this;have I:u[b]?=Td (.cells #[.pointer p,aK s] 89 (0,0)):=by rw[r b (by omega) λq n=>by have:=j.base_le q n;omega];exact e
 have D:Owns u (b+1) 5 1 y (Lib.byteCells (l++t)):=by
  have:Lib.byteCells (l++t)=Lib.byteCells l++Lib.byteCells t:=by unfold Lib.byteCells;rw[Ug]
  rw[this];exact S
 have J:Keep b h u:=k2.trans ⟨by omega,λi hi=>r i (by omega) λq n=>by have:=j.base_le q n;omega⟩ (Tm _);refine wP I Q D λM E G T L=>?_;rw[c];exact N M E (J.trans G (Tm _)) (F.trans ((Itk.own j r).trans L))
theorem A4(H:Bld h b l)(t:Bs)(e:l.length+t.length<=140737488355328)(c:∀h',Bld h' b (l++t)->Keep b h h'->K (.tuple #[.int .i64 (t.length:Int),.nilIface]) h'):
  XC Tp 68 #[.pointer (Td ⟨b,0,Te⟩),.string (bl t)] h K:=
 FD H t e λh' a b _=>c h' a b
theorem vp(H:Bld h b l)(n:∀h',Keep b h h'->K (.string (bl l)) h'):XC Tp 70 #[.pointer (Td ⟨b,0,Te⟩)] h K:=by
 have j:=H.lt;obtain⟨p,s,e,m,i⟩:=H;refine XC.of_calls λB d=>(Xt b b l (mk B d h) ?_ (VO j)).mono ?_;have k:Lib.BuilderAt 89 5 b b (.pointer p) (Lib.byteCells l) (mk B d h):=by
  refine⟨Tm _,aK s,e,?_,?_⟩;have h1:=i.1;rw[Uj]at h1;rw[h1];exact i.base (Nat.le_succ b);intro f;cases ha:s.a with
  |none=>rw[aK,ha]at f;cases f
  |some q=>
   have:=i.base_le q ha;rw[aK,ha]at f;have:q.block=b:=by simpa[Value.ownBlock]using f
   omega
 rcases m with rfl|rfl;exact .inl k;exact .inr k;rintro e' w' ⟨rfl,c⟩;exact⟨_,rfl,c.os,c.tape,c.output,n _ ⟨c.size,c.block⟩⟩
end
end Go.X
end
section
namespace Go.X
open Go Go.Lib
section
theorem QI(l:Bs):decodeL l=dec l:=by rw[decodeL_N,dec]
theorem Ex{l:Bs}(h:l≠[])(b:jL (dec l)=Tc):encodeRune ((dec l).1:Int)=l.take (dec l).2:=by rw[<-QI]at b ⊢;refine encode_decode l h λ⟨h1,c⟩=>?_;unfold jL at b;rw[h1,c]at b;cases b
theorem Hz(l:Bs):(dec l).1<=1114111:=by
 have h0:=(l.getD 0 0).toNat_lt;have h1:=(l.getD 1 0).toNat_lt;have c:=(l.getD 2 0).toNat_lt;have b:=(l.getD 3 0).toNat_lt;unfold dec decodeN;repeat' split
 all_goals (simp only;omega)
def mN(c:UInt8):Bs:=
 if c=34\/c=92 then [92,c]else if c=8 then [92,98]else if c=12 then [92,102]else if c=10 then [92,110]else if c=13 then [92,114]else if c=9 then [92,116]
 else if c.toNat<32 then [92,117,48,48,Vj (48+c.toNat / 16),Vj (if c.toNat % 16<10 then 48+c.toNat % 16 else 87+c.toNat % 16)]else [c]
def iq(l:Bs):Bs:=l.flatMap mN
def iz(l:Bs):Bs×Int:=if Jl l then(34::iq l++[34],0)else([],2)
end
end Go.X
end
section
namespace Go.X
open Go Go.X Go.Proofs Go.RowKit
section
theorem PV{h:za}{b:Nat}{l:Bs}(H:Bld h b l){r:Int}(h0:0<=r)(h1:r<=1114111)(hl:l.length+4<=140737488355328){K:Value->za->Prop}(N:∀h' n,Bld h' b (l++Lib.encodeRune r)->Keep b h h'->Itk h h'->K (.tuple #[.int .i64 n,.nilIface]) h'):
  XC Tp 198 #[.pointer (Td ⟨b,0,Te⟩),.int .i32 r] h K:=by
 apply Zm;refine uw H λf C k2 z2 F=>⟨rfl,_,rfl,?_⟩;have t:=C.lt;obtain⟨p,s,e,S,w⟩:=C;have u:=w.1;rw[Lib.byteCells_length,Uj]at u;have c1:=Blk.cellAdd (o:=0) (k:=1) (v:=aK s) (cs:=#[.pointer p,aK s]) ⟨_,e⟩ rfl;refine⟨s,c1,_,rfl,s,c1,?_⟩;refine XC.of_calls λB d=>(Y7 (b+1) (aK s) s.len (Lib.byteCells l) r (by omega) (by omega) (mk B d f) w (by omega) (show b+1<=f.size by omega)).mono ?_;rintro e' w' ⟨D,rfl,q,o,j⟩;obtain⟨m,rfl,Y⟩:∃m:Sl,D=aK m/\m.len=s.len+(Lib.runeCells r).length:=by rcases q.2 with⟨rfl,hz⟩|⟨g,cap,T,rfl,_⟩;exact⟨⟨Te,0,0⟩,rfl,hz.symm⟩;exact⟨⟨_,_,_⟩,rfl,rfl⟩
 have E:Owns w'.heap (b+1) 5 1 m (Lib.byteCells (l++Lib.encodeRune r)):=by
  have Z:Lib.byteCells (l++Lib.encodeRune r)=Lib.byteCells l++Lib.runeCells r:=by rw[<-Lib.byteCells_encodeRune];unfold Lib.byteCells;rw[Ug]
  rw[Z];rw[<-Y]at q;exact q
 have I:w'.heap[b]?=Td (.cells #[.pointer p,aK s] 89 (0,0)):=by
  have x:=j.block b (by show b<(f.push o).size;rw[To];omega) (by
   intro c;cases ha:s.a with
   |none=>rw[aK,ha]at c;cases c
   |some a=>have:=w.base_le a ha;rw[aK,ha]at c;simp only[Value.ownBlock,Tn]at c;omega)
  rw[x];show(f.push o)[b]?=_;rw[Array.getElem?_push_lt t,<-e];simp[t]
 have J:Keep b h w'.heap:=by
  refine k2.trans ⟨?_,λi hi=>?_⟩ (Tm _);have:=j.size;have V:(f.push o).size<=w'.heap.size:=this;rw[To]at V;omega;have x:=j.block i (by show i<(f.push o).size;rw[To];omega) (by
   intro c;cases ha:s.a with
   |none=>rw[aK,ha]at c;cases c
   |some a=>have:=w.base_le a ha;rw[aK,ha]at c;simp only[Value.ownBlock,Tn]at c;omega)
  rw[x];show(f.push o)[i]?=_;rw[Array.getElem?_push_lt (by omega)];simp[show i<f.size by omega]
 have P:Itk f w'.heap:=Itk.own w λi hi y=>by
  have x:=j.block i (by show i<(f.push o).size;rw[To];omega) (by
   intro c;cases ha:s.a with
   |none=>rw[aK,ha]at c;cases c
   |some a=>have:=y a ha;rw[aK,ha]at c;simp only[Value.ownBlock,Tn]at c;exact this c)
  rw[x];show(f.push o)[i]?=_;rw[Array.getElem?_push_lt hi];simp[hi]
 refine⟨_,rfl,j.os,j.tape,j.output,m,rfl,_,rfl,?_⟩;refine wP I S E λM A G z7 L=>?_;have O:=A;obtain⟨Q,z,U,_,_⟩:=O;exact⟨_,rfl,z,Blk.cellAdd (o:=0) (k:=1) (v:=aK z) (cs:=#[.pointer Q,aK z]) ⟨_,U⟩ rfl,N M _ A (J.trans G (Tm _)) (F.trans (P.trans L))⟩
end
end Go.X
end
section
namespace Go.X
open Go Go.Lib
section
theorem QH(l:Bs):(replaceAll l [126] [126,48]).length<=2*l.length:=by
 rw[Wm (by simp) (by simp),sO];induction l with
 |nil=>simp
 |cons c t e=>
  rw[UE,Ts,TI];have:(if c=126 then [126,48]else [c]:Bs).length<=2:=by by_cases b:c=126;rw[zA b];simp;rw[zv b];simp
  omega
end
end Go.X
end
section
namespace Go.X
section
variable {gl:Fr} {l:List Bt}
theorem u7(B:GL gl)(D:SL l){R:Bool->Prop}(H:R (Z9 l)):PC Tp gl 78 [Arg.mk (.row .str) l] [.bool] R:=by
 intro h M vs t ag G
 match vs,G with
 |[u],⟨hu,_⟩=>
  obtain⟨s,rfl,k⟩:=i4 hu;have k:Rd M (.row .str) l [aK s]:=k;obtain⟨i,I,E⟩:=rowLen k;apply PX.of;apply RE s;have r:decide (((s.len:Nat):Int)<=64)=decide (l.length<=64):=by rw[i,T8,zG,zG];omega
  rw[r];refine⟨λv h'=>∃b,v=.bool b/\(decide (l.length<=64)=Ta->b=l.any λx=>!(Jl (lb x)))/\∃M',Later h M h' M',λj=>?_,λj=>⟨Ta,Ta,rfl,λe=>(by rw[e]at j;cases j),M,Later.refl ag⟩,λ_ v h' ⟨b,e,_⟩=>⟨b,e⟩,?_⟩;refine(N3 (gl:=gl) ag k (p:=λx=>!(Jl (lb x))) λx F=>⟨by kernel_rfl,λh' M' O L' m=>?_⟩).go λw L J b C c o=>⟨b,Jk c,b,rfl,λ_=>o,J,C⟩;have:=jw m;subst this;apply PX.of;show XC Tp 136 #[.string x] h' _;apply KF;have q:=QQ B.tabs (l:=lb x) (R:=λb=>b=Jl (lb x)) (by have:=D.s x F;omega) rfl;rw[jA]at q;exact q.go (vs:=[.string x]) (t.trans L'.le) L'.ag (zh (rdStr _) zy) λw N y b z f n=>⟨b,Jk f,y,_,z,Qf.2 (rdBool _),by rw[n]⟩;rintro b h' ⟨b',e,A,M',L'⟩;cases e;refine⟨M',_,L',Qf.2 (rdBool _),?_⟩;have:(bif decide (l.length<=64)then !b else Tc)=Z9 l:=by
   unfold Z9;cases j:decide (l.length<=64)with
   |false=>rfl
   |true=>rw[A j,zK,UQ,T8];simp
  rw[this];exact H
theorem Ce(e:GL gl){s old new:Bs}(j:s.length<=4194304)(b:1<=old.length)(f:new.length<=2){R:Bt->Prop}(h:R (bl (Lib.replaceAll s old new))):PC Tp gl 134 [Arg.mk .str (bl s),Arg.mk .str (bl old),Arg.mk .str (bl new)] [.str] R:=by have c:=Lib.countB_le (bl old) (by rw[zt];exact b) (bl s).size (bl s) (Tm _);rw[zt]at c;have i:Lib.countB (bl s) (bl old)*new.length<=s.length*2:=Vq c f;refine Nq e.max (by rw[zt];omega) (by rw[zt];exact b) (by rw[zt,zt];omega) ?_;rw[j4,j4,j4];exact h
theorem BC(Q:GL gl)(T:SL l){R:Bt×Int->Prop}(h1:Z9 l=Ta->R (bl (iL (l.map lb)),0))(h2:Z9 l=Tc->R (bl [],1)):PC Tp gl 75 [Arg.mk (.row .str) l] [.str,.int .i64] R:=by
 intro h M vs hM ag ha
 match vs,ha with
 |[u],⟨hu,_⟩=>
  obtain⟨s,rfl,J⟩:=i4 hu;have J:Rd M (.row .str) l [aK s]:=J;obtain⟨ab,ar,ai⟩:=rowLen J;have ret:∀(M':Fr) (x:Bt) (e:Int),Yg M' [.str,.int .i64] (x,e) (.tuple #[.string x,.int .i64 e]):=λM' x e=>⟨[_,_],⟨_,_,rfl,rfl,_,rfl,rfl⟩,rfl⟩;apply PX.of;apply Oy s;have p:PC Tp gl 78 [Arg.mk (.row .str) l] [.bool] (λr=>r=Z9 l):=u7 Q T rfl;refine p.go (vs:=[aK s]) hM ag (zh hu zy) λw g t r o C z=>⟨r,Jk C,λA=>⟨t,_,o,ret _ _ _,h2 (by rw[<-z];simpa using A)⟩,λA=>?_⟩;have n:Z9 l=Ta:=by rw[<-z];simpa using A
  have hn:l.length<=64:=by unfold Z9 at n;simp at n;exact n.1
  have tl:∀k,(iL ((l.take k).map lb)).length<=200000000:=by
   intro k;have:=AC (l:=(l.take k).map lb) (m:=1048576) λx A=>by obtain⟨y,hy,rfl⟩:=Ub.1 A;exact T.s y (VJ hy)
   have e:((l.take k).map lb).length<=64:=by rw[Tx,UD];omega
   have:((l.take k).map lb).length*(2*1048576+1)<=64*(2*1048576+1):=TX _ e;omega
  intro E;have L:Later g t E t:=Later.push o.ag _;have b4:Bld E g.size []:=Bld.new g;have ac:=o.trans L;have af:=b4.lt;clear_value E;refine⟨λi F=>∃k:Nat,i=k/\k<=l.length/\Bld F g.size (iL ((l.take k).map lb))/\Keep g.size E F,λi _=>l.length-i.toNat,⟨0,rfl,by omega,by simpa[iL]using b4,Keep.refl _ _⟩,?_⟩;rintro i F ⟨k,rfl,hk,S,k8⟩;have gz:g.size<=E.size:=L.keep.size;have q:Keep g.size g F:=L.keep.trans k8 (Tm _);have P:AgM t F:=o.ag.keep q;refine⟨λO=>?_,λO=>?_⟩;have b:k<l.length:=by simp at O;omega
  refine kR P (Rd.mono o.le J) b rfl rfl ?_;have hT:=tl k;have am:=T.s _ (TA b);refine GX S (by omega) 47 λh9 B9 I=>⟨_,rfl,?_⟩;have U:=q.trans I (Tm _);have V:AgM t h9:=o.ag.keep U;have e1:=Eo (lb l[k]);have ae:=QH (lb l[k]);have p1:=Ce (gl:=gl) Q (s:=lb l[k]) (old:=[126]) (new:=[126,48]) (by omega) (by simp) (by simp) (R:=λr=>r=bl (Lib.replaceAll (lb l[k]) [126] [126,48])) rfl;rw[jA]at p1;have D:=hM.trans o.le;refine p1.go (vs:=[.string l[k],.string (bl [126]),.string (bl [126,48])]) D V (zh (rdStr _) (zh (rdStr _) (zh (rdStr _) zy))) λv ah al r f c H=>⟨r,lF c,?_⟩;subst H;have p2:=Ce (gl:=gl) Q (s:=Lib.replaceAll (lb l[k]) [126] [126,48]) (old:=[47]) (new:=[126,49]) (by omega) (by simp) (by simp) (R:=λr=>r=bl (kZ (lb l[k]))) (by rw[LR]);refine p2.go (vs:=[.string _,.string (bl [47]),.string (bl [126,49])]) (D.trans f.le) f.ag (zh (rdStr _) (zh (rdStr _) (zh (rdStr _) zy))) λv an aj r N j B=>⟨r,lF j,?_⟩;subst B;have G:=f.keep.trans N.keep f.keep.size;have Y:=B9.keep G;refine A4 Y _ (by simp only[Ts,UG];omega) λak aa Z=>⟨_,_,rfl,?_⟩;have hw:=yr b (by omega);rw[hw];refine⟨⟨k+1,rfl,by omega,?_,?_⟩,by simp only[Tq];omega⟩;rw[Tu b,Ug,BO];have:iL (List.map lb [l[k]])=[47]++kZ (lb l[k]):=by simp[iL]
  rw[this,<-TR];exact aa;have z9:=B9.lt;exact((k8.trans I (Tm _)).trans (G.mono (by omega)) (Tm _)).trans Z (Tm _);have b:k=l.length:=by simp at O;omega
  subst b;rw[TN]at S;refine vp S λh9 I=>⟨_,rfl,t,_,?_,ret _ _ _,h1 n⟩;exact o.trans (Later.same o.ag (q.trans I (Tm _)))
end
end Go.X
end
section
namespace Go.X
open Go Go.X Go.Proofs Go.RowKit
section
variable {M:Fr} {h:za} {K:Value -> za -> Prop} {b o c:Nat}
def Brn(gl:Fr):Prop:=∃cs:Array Value,gl 7=Td cs/\cs[15]?=Td (.int .u8 4)
theorem Brn.mono{gl M:Fr}(h:Brn gl)(le:Fr.le gl M):Brn M:=by obtain⟨cs,e,h⟩:=h;exact⟨cs,le _ _ e,h⟩
theorem Re(c:K (.bool Ta) h):XC Tp 354 #[.int .i64 16] h K:=by apply wz;exact Eq.mpr (congrArg (λb=>K (.bool b) h) (by kernel_rfl)) c
theorem ME(f:Brn M)(ag:AgM M h)(c:K (.int .i64 4) h):XC Tp 355 #[.int .u64 16] h K:=by
 obtain⟨cs,e,i⟩:=f;apply Qh;refine⟨λb=>(by cases b),λ_=>?_⟩;apply Zl;refine⟨λb=>(by cases b),λ_=>⟨_,⟨rfl,by decide +kernel,by decide +kernel⟩,4,?_,4,rfl,c⟩⟩;have key:∀n:Nat,n=15->zb h (Tl ⟨7,0,Te⟩ n)=Td (.int .u8 4):=by rintro n rfl;exact ag.cell e i
 exact key _ (by kernel_rfl)
def BV:Bs:=[48,49,50,51,52,53,54,55,56,57,97,98,99,100,101,102,103,104,105,106,107,108,109,110,111,112,113,114,115,116,117,118,119,120,121,122]
def lJ(k:Nat):UInt8:=BV[k]?.getD 0
theorem Cq(k:Nat):yu (⟨#[48,49,50,51,52,53,54,55,56,57,97,98,99,100,101,102,103,104,105,106,107,108,109,110,111,112,113,114,115,116,117,118,119,120,121,122]⟩:Bt) k=((lJ k).toNat:Int):=Yl BV k
def Xi(c:Nat):Bs:=if c<16 then [lJ c]else [lJ 1,lJ (c % 16)]
def z65:Array Value:=#[.int .u8 0,.int .u8 0,.int .u8 0,.int .u8 0,.int .u8 0,.int .u8 0,.int .u8 0,.int .u8 0,.int .u8 0,.int .u8 0,.int .u8 0,.int .u8 0,.int .u8 0,.int .u8 0,.int .u8 0,.int .u8 0,.int .u8 0,.int .u8 0,.int .u8 0,.int .u8 0,.int .u8 0,.int .u8 0,.int .u8 0,.int .u8 0,.int .u8 0,.int .u8 0,.int .u8 0,.int .u8 0,.int .u8 0,.int .u8 0,.int .u8 0,.int .u8 0,.int .u8 0,.int .u8 0,.int .u8 0,.int .u8 0,.int .u8 0,.int .u8 0,.int .u8 0,.int .u8 0,.int .u8 0,.int .u8 0,.int .u8 0,.int .u8 0,.int .u8 0,.int .u8 0,.int .u8 0,.int .u8 0,.int .u8 0,.int .u8 0,.int .u8 0,.int .u8 0,.int .u8 0,.int .u8 0,.int .u8 0,.int .u8 0,.int .u8 0,.int .u8 0,.int .u8 0,.int .u8 0,.int .u8 0,.int .u8 0,.int .u8 0,.int .u8 0,.int .u8 0]
theorem Nz:qm Tp 5=Ta:=by kernel_rfl
theorem Iq:y8 Tp 5=1:=by kernel_rfl
theorem Rr{l:Bs}{cap:Nat}(f:∀j (c:j<l.length),zb h ⟨b,o+j,Te⟩=Td (.int .u8 (l[j].toNat:Int)))(e:K (.string (bl l)) h):
  XRun Tp (convert 87 9 (.slice (Td ⟨b,o,Te⟩) l.length cap)) h K:=by
 intro B d;refine⟨_,d,h,run_convert_bytes_back (P:=Tp) (mk B d h) 87 9 5 ⟨b,o,Te⟩ cap l Tryz.underlying87 VN Tryz.underlying9 λj c=>?_,e⟩;rw[uO,zd];exact f j c
theorem OS(b:c<18446744073709551616):Tj .u64 (((UC (Ul .u64) (c:Int)) &&& (UC (Ul .u64) (15:Int))).toNat:Int)=((c % 16:Nat):Int):=by rw[show(15:Int)=((15:Nat):Int)from rfl,RQ b (by decide)];congr 1;exact Nat.and_two_pow_sub_one_eq_mod c 4
theorem xF{k:Nat}(h:k<36):0<=(k:Int)/\(k:Int)<(((⟨#[48,49,50,51,52,53,54,55,56,57,97,98,99,100,101,102,103,104,105,106,107,108,109,110,111,112,113,114,115,116,117,118,119,120,121,122]⟩:Bt)).size:Int):=by have:(((⟨#[48,49,50,51,52,53,54,55,56,57,97,98,99,100,101,102,103,104,105,106,107,108,109,110,111,112,113,114,115,116,117,118,119,120,121,122]⟩:Bt)).size:Int)=36:=rfl;rw[this];omega
theorem FM{g:za}{cs:Array Value}(B:Blk g b cs)(c:o<cs.size){x:Int}{K:za->Prop}(e:∀g',Blk g' b (cs.setIfInBounds o (.int .u8 x))->g'.size=g.size->(∀i,i≠b->g'[i]?=g[i]?)->K g'):XRunU Tp (Tt 5 (.pointer (Td ⟨b,o,Te⟩)) (.int .u8 x)) g K:= j6 Nz Iq B c rfl e
set_option maxRecDepth 100000 in
set_option maxHeartbeats 4000000 in
theorem PK(hc:c<32)(T:Brn M)(ag:AgM M h)(Z:∀h',Keep h.size h h'->K (.tuple #[.slice Te 0 0,.string (bl (Xi c))]) h'):
  XC Tp 303 #[.slice Te 0 0,.int .u64 (c:Int),.int .i64 16,.bool Tc,.bool Tc] h K:=by
 refine xx ⟨Te,0,0⟩ (c:Int) 16 Tc Tc h K ?_;intro K2 H;refine⟨λb=>(by simp at b),λ_=>H _ ?_⟩;intro A;have Q:Keep h.size h A:=Keep.push _ _ (Tm _);have z3:A.size=h.size+1:=To _;have B3:Blk A h.size z65:=Blk.new _ _ _;clear_value A;have J:=ag.keep Q;intro K6 E;refine⟨λb=>(by cases b),λ_=>E _ _ ?_⟩;intro K9 I;have D:Tj .u64 16=16:=by decide
 have L:Tj .u64 (16-1)=15:=by decide
 rw[D,L];refine Re ⟨Ta,rfl,λ_=>?_,λb=>(by cases b)⟩;refine ME T J ⟨_,rfl,?_⟩;have p:z65.size=65:=rfl;have fin:∀(g:za) (cs:Array Value) (u i:Nat),Keep h.size h g->Blk g h.size cs->cs.size=65->u<16->1<=i->i<=65->(∀j,j<65-i->∃x:UInt8,(Xi c)[j+1]?=Td x/\cs[i+j]?=Td (.int .u8 (x.toNat:Int)))->(Xi c).length=66-i->(Xi c)[0]?=Td (lJ u) ->
   XRunU Tp (Tt 5 (.pointer (Td (Tl ⟨h.size,0,Te⟩ (((i-1:Nat):Int).toNat*1)))) (.int .u8 (yu (⟨#[48,49,50,51,52,53,54,55,56,57,97,98,99,100,101,102,103,104,105,106,107,108,109,110,111,112,113,114,115,116,117,118,119,120,121,122]⟩:Bt) ((u:Int)).toNat))) g (λB=>K9 (((i-1:Nat):Int)) B):=by
  intro g cs u i m r z hu S Y n w e;rw[Tq,Tq,Uj,Cq];rw[zd,TJ];refine FM r (by rw[z];omega) λg2 P V N=>I _ _ ?_;intro U t;refine⟨λb=>(by cases b),λ_=>t _ _ ?_⟩;refine⟨λb=>(by cases b),λ_=>⟨⟨by omega,by omega,by omega⟩,?_⟩⟩;have G:Keep h.size h g2:=⟨by have:=m.size;omega,λj l=>(N j (by omega)).trans (m.get j l)⟩;have F:VY (io (Td ⟨h.size,0,Te⟩) 1 ((i-1:Nat):Int).toNat 65) ((65:Int).toNat-((i-1:Nat):Int).toNat) (65-((i-1:Nat):Int).toNat)=.slice (Td ⟨h.size,i-1,Te⟩) (Xi c).length (65-(i-1)):=by rw[Tq,w,show(65:Int).toNat-(i-1)=66-i from by have:(65:Int).toNat=65:=rfl;omega];congr 1;unfold io;rw[zv (by omega)];simp only[VU,zd,TJ,Uj]
  rw[F];refine Rr (λj l=>?_) ⟨_,rfl,Z _ G⟩;refine P.cell ?_;rw[Array.getElem?_setIfInBounds];cases j with
  |zero=>rw[VM,zA rfl,zA (by rw[z];omega)];rw[Tv l]at e;rw[TY e]
  |succ j=>rw[zv (by omega)];obtain⟨x,y,C⟩:=n j (by omega);rw[show i-1+(j+1)=i+j from by omega,C];rw[Tv l]at y;rw[TY y]
 refine⟨λu i g=>Keep h.size h g/\((u=(c:Int)/\i=65/\Blk g h.size z65)\/(16<=c/\u=1/\i=64/\Blk g h.size (z65.setIfInBounds 64 (.int .u8 ((lJ (c % 16)).toNat:Int))))),λu _ _=>u.toNat,⟨Q,.inl ⟨rfl,rfl,B3⟩⟩,?_⟩;rintro u i g ⟨m,⟨rfl,rfl,r⟩|⟨f,rfl,rfl,r⟩⟩;refine⟨λb=>?_,λb=>?_⟩;have f:16<=c:=by have:=zH b;omega
 rw[OS (by omega)];have hX:Tj .i64 ((65:Int)-1)=64:=by decide
 rw[hX];refine⟨xF (by omega),_,⟨rfl,by decide,by decide⟩,?_⟩;rw[Tq,Cq,zd];refine FM (o:=64) r (by rw[p];omega) λg2 P V N=>⟨by decide,⟨⟨by have:=m.size;omega,λj l=>(N j (by omega)).trans (m.get j l)⟩,.inr ⟨f,?_,rfl,P⟩⟩,?_⟩;have:(min (Tj .u64 4).toNat 64)=4:=by decide
 rw[this];show(c:Int).fdiv 16=1;rw[Int.fdiv_eq_ediv_of_nonneg _ (by decide)];omega;have:(min (Tj .u64 4).toNat 64)=4:=by decide
 rw[this];show((c:Int).fdiv 16).toNat<(c:Int).toNat;rw[Int.fdiv_eq_ediv_of_nonneg _ (by decide)];omega;have f:c<16:=by have:=zI b;omega
 have hX:Tj .i64 ((65:Int)-1)=((65-1:Nat):Int):=by decide
 rw[hX];refine⟨xF (by omega),_,⟨rfl,by decide,by decide⟩,?_⟩;have q:Xi c=[lJ c]:=by unfold Xi;rw[zA f]
 exact fin g z65 c 65 m r rfl f (by omega) (by omega) (λj l=>by omega) (by rw[q];rfl) (by rw[q];rfl);refine⟨λb=>?_,λb=>?_⟩;exact absurd (zH b) (by omega);have O:Tj .i64 ((64:Int)-1)=((64-1:Nat):Int):=by decide
 rw[O];refine⟨xF (k:=1) (by omega),_,⟨rfl,by decide,by decide⟩,?_⟩;have q:Xi c=[lJ 1,lJ (c % 16)]:=by unfold Xi;rw[zv (by omega)]
 refine fin g _ 1 64 m r (by simp[p]) (by omega) (by omega) (by omega) (λj l=>?_) (by rw[q];rfl) (by rw[q];rfl);have:j=0:=by omega
 subst this;exact⟨_,by rw[q];rfl,by rw[Array.getElem?_setIfInBounds,zA rfl,zA (by rw[p];omega)]⟩
theorem Oq(i:c<32)(f:Brn M)(ag:AgM M h)(e:∀h',Keep h.size h h'->K (.string (bl (Xi c))) h'):XC Tp 199 #[.int .i64 (c:Int),.int .i64 16] h K:=by apply Xs;apply Zg;refine⟨λl=>(by simp at l),λ_=>?_⟩;have b:Tj .u64 (c:Int)=(c:Int):=Ra (by omega) (by omega);have j:decide ((c:Int)<0)=Tc:=decide_eq_false (by omega);rw[b,j];exact PK i f ag λh' k=>⟨⟨Te,0,0⟩,_,rfl,_,rfl,e h' k⟩
end
end Go.X
end
section
namespace Go.Proofs.YtplilfikcimcbaaGreatDoor
open Go Go.X Go.ChangeShapes Go.WideShapes Go.ChangeAt Go.RowKit Go.Lib
set_option linter.unusedVariables false
section
theorem LC{W:World}(h:laidMetH T6 kE W):Brn (Fz W):=by
 have hl:laidMet T6 kE W:=by rw[MakeChecks.laidMetH_plain _ _ _ (by kernel_rfl)]at h;exact h
 have hv : VarReads Tryz.prog W "math/bits.deBruijn64tab" (tabData .u8 [0, 1, 56, 2, 57, 49, 28, 3, 61, 58, 42, 50, 38, 29, 17, 4, 62, 47, 59, 36, 45, 43, 51, 22, 53, 39, 33, 30, 24, 18, 12, 5, 63, 55, 48, 27, 60, 41, 37, 16, 46, 35, 44, 21, 52, 32, 23, 11, 54, 26, 40, 15, 34, 20, 31, 10, 25, 14, 19, 9, 13, 8, 7, 6]) := by
  have := Go.Lib.laidMet.reads hl (List.mem_of_getElem? (show kE[1]? = some ("math/bits.deBruijn64tab", Rows.laid_math_bits_deBruijn64tab) from rfl));have e:(Rows.laid_math_bits_deBruijn64tab:DataW Unit)=tabData .u8 [0,1,56,2,57,49,28,3,61,58,42,50,38,29,17,4,62,47,59,36,45,43,51,22,53,39,33,30,24,18,12,5,63,55,48,27,60,41,37,16,46,35,44,21,52,32,23,11,54,26,40,15,34,20,31,10,25,14,19,9,13,8,7,6]:=by kernel_rfl
  rw[<-e];exact this
 obtain⟨cs,h1,h2⟩:=vy (g:=7) (t:=385) (e:=5) (m:=64) (by kernel_rfl) (by kernel_rfl) (by kernel_rfl) (by kernel_rfl) (by kernel_rfl) (by kernel_rfl) hv;exact⟨cs,h1,by rw[<-Uh,h2];rfl⟩
end
end Go.Proofs.YtplilfikcimcbaaGreatDoor
end
section
namespace Go.X
open Go Go.RowKit
section
def xz(v:Tr)(sk si:Sl):List Value:=[.int .i64 v.kind,.string v.text,aK sk,aK si]
end
section
variable {cs:Array Value} {o n b:Nat} {h:za}
theorem nW(h:o+n<=cs.size):(cut cs o n).length=n:=by unfold cut;simp;omega
theorem DR(H:Blk h b cs):Arr h.size h (Td ⟨b,o,Te⟩) (cut cs o n):=by refine .inr ⟨b,o,rfl,H.lt,λi v c=>H.cell ?_⟩;rw[qd]at c;split at c;rw[<-Uh];exact c;cases c
theorem Mn{P:Program}(H:Blk h b cs){vs:List Value}(k:o+vs.length<=cs.size)(h1:∀u∈vs,u.oneCell'=Ta)(B:World)(d:Nat):
  ∃h',(storeCells ⟨b,o,Te⟩ vs 0).run P (mk B d h)=.ok () (mk B d h')/\Blk h' b (iI cs o vs)/\h'.size=h.size/\∀j,j≠b->h'[j]?=h[j]?:=by
 obtain⟨T,e⟩:=H;obtain⟨h',l,c,i,f⟩:=zZ (P:=P) e k h1 B d;exact⟨h',l,⟨T,c⟩,i,f⟩
end
section
variable {cs:Array Value} {vs:List Value}
structure RowO (h:za) (s:Sl) (b:Nat) (cs:Array Value) (sz:Nat):Prop where
 le:s.len<=s.cap
 at_:(s.len=0/\s.cap=0)\/(s.a=Td ⟨b,0,Te⟩/\Blk h b cs/\s.cap*sz<=cs.size)
structure RowN (h h':za) (s':Sl) (b b':Nat) (cs':Array Value) (sz n:Nat) (cells:List Value):Prop where
 a:s'.a=Td ⟨b',0,Te⟩
 len:s'.len=n
 cap:n<=s'.cap
 blk:Blk h' b' cs'
 size:s'.cap*sz<=cs'.size
 cut:cut cs' 0 (n*sz)=cells
 new:b'=b\/h.size<=b'
 grow:h.size<=h'.size
 old:∀j,j<h.size->j≠b'->h'[j]?=h[j]?
theorem QF{n m:Nat}(f:n+vs.length<=cs.size)(c:m=n+vs.length):cut (iI cs n vs) 0 m=cut cs 0 n++vs:=by subst c;have b:(cut cs 0 n).length=n:=nW (by omega);apply Uf;intro q;rw[qd];split;rename_i e;rw[TJ,xS f];split;rename_i h1;rw[Vs (by rw[b];exact h1),qd,zA h1,TJ];rename_i h1;rw[Vr (by rw[b];omega),b];rename_i e;rw[Un];rw[Ts,b];omega
theorem vo{P:Program}{t e:TypeId}{z:Value}{sz bytes:Nat}(T:ElemT P t e z sz bytes){ty:TypeId}{h:za}{s:Sl}{b:Nat}(H:RowO h s b cs sz){bv x:Nat}(Y:Blk h bv vs.toArray)(i:vs.length=sz)(h1:∀u∈vs,u.oneCell'=Ta)(I:(s.len+1)*bytes<=140737488355328)(U:s.len+1<=140737488355328){K:Value->za->Prop} (A:∀(w:Sl) (h':za) (b':Nat) (cs':Array Value),RowN h h' w b b' cs' sz (s.len+1) (cut cs 0 (s.len*sz)++vs)->K (.slice w.a w.len w.cap) h'):
  XRun P (TB #[t,t] ty #[.slice s.a s.len s.cap,.slice (Td ⟨bv,0,Te⟩) 1 x]) h K:=by
 intro B d;have m:Arr h.size h (Td ⟨bv,0,Te⟩) vs:=by have:=DR Y (o:=0) (n:=vs.length);rw[show cut vs.toArray 0 vs.length=vs by unfold cut;simp]at this;exact this
 have E:∀B d,Src P sz t (.slice (Td ⟨bv,0,Te⟩) 1 x) 1 vs (mk B d h):=λB d=>Fj (P:=P) (s:=⟨Td ⟨bv,0,Te⟩,1,x⟩) m (by simp[i]) T.pos h1 T.slice B d;have O:(s.len+1)*sz=s.len*sz+sz:=VB _ _;by_cases y:s.len+1<=s.cap;rcases H.at_ with⟨_,h0⟩|⟨r,k,F⟩;omega;have Q:(s.len+1)*sz<=s.cap*sz:=TX _ y;obtain⟨h',G,S,r3,J⟩:=Mn (P:=P) k (o:=s.len*sz) (vs:=vs) (by rw[i];omega) h1 B d;have q:=Y1 (P:=P) (ty:=ty) T (s:=s) (h':=h') (E B d) y (λp C=>by rw[r]at C;cases C;rw[zd,TJ];exact G) (λD=>by rw[r]at D;cases D);refine⟨_,d,h',q,A ⟨s.a,s.len+1,s.cap⟩ h' b _ ⟨r,rfl,y,S,by rw[CP (by rw[i];omega)];exact F,QF (by rw[i];omega) (by rw[i];exact O),.inl rfl,by omega,λj V l=>J j l⟩⟩;have f:Arr h.size h s.a (cut cs 0 (s.len*sz))/\(cut cs 0 (s.len*sz)).length=s.len*sz:=by rcases H.at_ with⟨h0,_⟩|⟨r,k,F⟩;rw[h0,Nat.zero_mul];exact⟨.inl (by unfold cut;simp),by unfold cut;simp⟩;have Q:s.len*sz<=s.cap*sz:=TX _ H.le;rw[r];exact⟨DR k,nW (by omega)⟩
 obtain⟨c,blk,L,Z,q3,N,M⟩:=yR (P:=P) (ty:=ty) (base:=0) T f.2 (λB d=>Yh f.1 f.2 T.pos B d) E I U (TK _) (by omega) B d;refine⟨_,d+1,_,L,A ⟨Td ⟨h.size,0,Te⟩,s.len+1,c⟩ _ h.size blk ⟨rfl,rfl,Z,Blk.new _ _ _,by rw[N];exact Tm _,by unfold cut;rw[Vp];exact M,.inr (Tm _),by simp,λj V l=>by rw[VP,zv (by omega)]⟩⟩
end
end Go.X
end
section
namespace Go.X
section
variable {lo:Nat} {h h':za} {M M':Fr} {bs:List Nat}
def ORow(lo:Nat)(h:za)(M:Fr)(T:Ty)(xs:List (El T))(s:Sl)(bs:List Nat):Prop:=
 (xs=[]/\s.len=0/\s.cap=0/\bs=[])\/∃(b:Nat) (cs:Array Value),bs=[b]/\s.a=Td ⟨b,0,Te⟩/\s.len=xs.length/\s.len<=s.cap/\Blk h b cs/\s.cap*sz T<=cs.size/\lo<=b/\M b=Te/\∀i (hi:i<xs.length),Rd M T xs[i] (cut cs (i*sz T) (sz T))
theorem ORow.nil{T:Ty}:ORow lo h M T [] ⟨Te,0,0⟩ []:=.inl ⟨rfl,rfl,rfl,rfl⟩
theorem ORow.len{T:Ty}{xs:List (El T)}{s:Sl}(H:ORow lo h M T xs s bs):s.len=xs.length:=by rcases H with⟨rfl,h1,_⟩|⟨b,cs,_,_,h1,_⟩;exact h1;exact h1
theorem ORow.own{T:Ty}{xs:List (El T)}{s:Sl}(H:ORow lo h M T xs s bs):∀c∈bs,lo<=c/\c<h.size/\M c=Te:=by rcases H with⟨_,_,_,rfl⟩|⟨b,cs,rfl,_,_,_,e,_,h1,i,_⟩;intro c f;cases f;intro c f;rw[TP.1 f];exact⟨h1,e.lt,i⟩
theorem ORow.frame{T:Ty}{xs:List (El T)}{s:Sl}(H:ORow lo h M T xs s bs)(f:∀c∈bs,h'[c]?=h[c]?)(le:Fr.le M M')(l:∀c∈bs,M' c=Te):ORow lo h' M' T xs s bs:=by rcases H with H|⟨b,cs,rfl,h1,k,m,e,o,n,p,j⟩;exact .inl H;refine .inr ⟨b,cs,rfl,h1,k,m,?_,o,n,l b (by simp),λi hi=>Rd.mono le (j i hi)⟩;unfold Blk at e ⊢;rw[f b (by simp)];exact e
theorem ORow.call{T:Ty}{xs:List (El T)}{s:Sl}(H:ORow lo h M T xs s bs)(L:Later h M h' M'):ORow lo h' M' T xs s bs:=by refine H.frame (λc b=>L.keep.get c (H.own c b).2.1) L.le λc b=>?_;rw[L.old c (H.own c b).2.1];exact(H.own c b).2.2
theorem ORow.rd{T:Ty}{xs:List (El T)}{s:Sl}{bs all:List Nat}(H:ORow lo h M T xs s bs)(ag:AgM M h)(k:∀c∈bs,c∈all)(n:xs.length<=1000000):Rd (MxL M h all) (.row T) xs [aK s]:=by rcases H with⟨rfl,h1,e,rfl⟩|⟨b,cs,rfl,h1,e,m,l,q,o,p,f⟩;refine⟨_,rfl,s.a,s.cap,?_,⟨by simp,by simp⟩,.inl rfl⟩;show aK s=_;unfold aK;rw[h1];rfl;refine⟨_,rfl,s.a,s.cap,?_,⟨by omega,by omega⟩,?_⟩;unfold aK;rw[e];by_cases j:xs=[];exact .inl j;refine .inr ⟨b,0,cs,h1,MxL.at (k b (by simp)) l,λi hi=>?_⟩;rw[TJ];exact Rd.mono (qC ag all) (f i hi)
theorem ORow.app{t e:TypeId}{z:Value}{bytes:Nat}{T:Ty}(E:ElemT Tp t e z (sz T) bytes)(F:bytes<=1000){ty:TypeId}{xs:List (El T)}{s:Sl}(ag:AgM M h)(H:ORow lo h M T xs s bs)(af:lo<=h.size){bv Z:Nat}{vs:List Value}{x:El T}(hv:Blk h bv vs.toArray)(G:Rd M T x vs)(Q:xs.length<=1000000){K:Value->za->Prop} (hK:∀(n:Sl) (h':za) (bs':List Nat),ORow lo h' M T (xs++[x]) n bs'->h.size<=h'.size->(∀c∈bs',c∈bs\/h.size<=c)->(∀j,j<h.size->j∉bs->h'[j]?=h[j]?)->K (.slice n.a n.len n.cap) h'):
  XRun Tp (TB #[t,t] ty #[.slice s.a s.len s.cap,.slice (Td ⟨bv,0,Te⟩) 1 Z]) h K:=by
 have B:vs.length=sz T:=Rd.len G;have h1:∀u∈vs,u.oneCell'=Ta:=Rd.one G;have m:=H.len;have y:∀c,h.size<=c->M c=Te:=by
  intro c S;cases e:M c with
  |none=>rfl
  |some cs=>have:=ag.lt e;omega
 obtain⟨b,cs,f,Y,C⟩:∃b cs,RowO h s b cs (sz T)/\((bs=[b]/\lo<=b/\M b=Te)\/(b=h.size/\bs=[]))/\∀i (hi:i<xs.length),i*sz T+sz T<=cs.size/\Rd M T xs[i] (cut cs (i*sz T) (sz T)):=by rcases H with⟨rfl,I,P,rfl⟩|⟨b,cs,rfl,I,P,e3,e4,U,e6,V,e8⟩;exact⟨h.size,#[],⟨by omega,.inl ⟨I,P⟩⟩,.inr ⟨rfl,rfl⟩,λi hi=>by simp at hi⟩;refine⟨b,cs,⟨e3,.inr ⟨I,e4,U⟩⟩,.inl ⟨rfl,e6,V⟩,λi hi=>⟨?_,e8 i hi⟩⟩;have:(i+1)*sz T<=s.cap*sz T:=TX _ (by omega);rw[VB]at this;omega
 have r:(s.len+1)*bytes<=140737488355328:=by have:(s.len+1)*bytes<=1000001*1000:=Vq (by omega) F;omega
 refine vo E f hv B h1 r (by omega) λn h' b' cs' N=>?_;have l:(b'∈bs/\lo<=b'/\M b'=Te)\/h.size<=b':=by rcases N.new with e|e;rcases Y with⟨p,O,D⟩|⟨p,_⟩;subst e;exact .inl ⟨by rw[p];simp,O,D⟩;exact .inr (by omega);exact .inr e
 refine hK n h' [b'] (.inr ⟨b',cs',rfl,N.a,by rw[N.len,Ts,m];rfl,by rw[N.len];exact N.cap,N.blk,N.size,?_,?_,λi hi=>?_⟩) N.grow (λc S=>?_) λj hj Q=>N.old j hj λe=>?_;rcases l with q|q;exact q.2.1;omega;rcases l with q|q;exact q.2.2;exact y b' q;have w:=N.cut;have aa:i<xs.length+1:=by simpa using hi
 have hm:(i+1)*sz T<=(s.len+1)*sz T:=TX _ (by omega);have ac:(i+1)*sz T=i*sz T+sz T:=VB _ _;have ae:(s.len+1)*sz T=s.len*sz T+sz T:=VB _ _;have key:∀q,q<sz T->(cut cs' (i*sz T) (sz T))[q]?=(cut cs 0 (s.len*sz T)++vs)[i*sz T+q]?:=by intro q k;rw[qd,zA k,<-w,qd,zA (by omega),TJ]
 by_cases o:i<xs.length;rw[UR o];obtain⟨g1,g2⟩:=C i o;have ab:(i+1)*sz T<=s.len*sz T:=TX _ (by omega);have e:cut cs' (i*sz T) (sz T)=cut cs (i*sz T) (sz T):=by
  apply Uf;intro q;by_cases k:q<sz T;rw[key q k,Vs ?_,qd,qd,zA k,zA (by omega),TJ];have A:s.len*sz T<=cs.size:=by rcases f.at_ with⟨p,O⟩|⟨_,_,D⟩;omega;have:s.len*sz T<=s.cap*sz T:=TX _ f.le;omega
  rw[nW (by omega)];omega;rw[qd,qd,zv k,zv k]
 rw[e];exact g2;have J:i=xs.length:=by omega
 subst J;rw[Vf (Tm _)];have L:(cut cs 0 (s.len*sz T)).length=xs.length*sz T:=by
  rcases f.at_ with⟨p,O⟩|⟨_,_,D⟩;have:xs.length=0:=by omega
  rw[p,this];unfold cut;simp;have:s.len*sz T<=s.cap*sz T:=TX _ f.le;rw[nW (by omega),m]
 have e:cut cs' (xs.length*sz T) (sz T)=vs:=by apply Uf;intro q;by_cases k:q<sz T;rw[key q k,Vr (by omega),L];congr 1;omega;rw[qd,zv k,Un (by omega)]
 rw[e];simpa using G;rw[TP.1 S];rcases l with q|q;exact .inl q.1;exact .inr q;rcases l with q|q;exact Q (by rw[e];exact q.1);omega
end
end Go.X
end
section
namespace Go.X
open Go Go.X Go.Proofs Go.RowKit
section
variable {cs:Array Value} {o n z b:Nat} {l:List Value} {g:za}
structure CR (g:za) (z:Nat) (els:List (List Value)) (sl:Sl) (b:Nat) (cs:Array Value):Prop where
 ro:RowO g sl b cs z
 ln:sl.len=els.length
 el:∀(i:Nat) (e:List Value),els[i]?=Td e->(i+1)*z<=cs.size/\cut cs (i*z) z=e
theorem oM(c:l.length=n)(h:∀q,q<n->cs.toList[o+q]?=l[q]?):cut cs o n=l:=by apply Uf;intro q;rw[qd];split;rename_i b;exact h q b;rename_i b;rw[Un (by omega)]
theorem x5(h:cut cs o n=l){q:Nat}(b:q<n):cs.toList[o+q]?=l[q]?:=by rw[<-h,qd,zA b]
theorem CR.blk{els:List (List Value)}{sl:Sl}(H:CR g z els sl b cs)(c:els≠[]):sl.a=Td ⟨b,0,Te⟩/\Blk g b cs:=by rcases H.ro.at_ with⟨h1,_⟩|⟨h1,e,_⟩;have:=H.ln;rw[h1]at this;exact absurd (Vl.1 this.symm) c;exact⟨h1,e⟩
theorem CR.frame{g g':za}{els:List (List Value)}{sl:Sl}(H:CR g z els sl b cs)(f:els≠[]\/sl.cap≠0->g'[b]?=g[b]?):CR g' z els sl b cs:=by refine⟨⟨H.ro.le,?_⟩,H.ln,H.el⟩;rcases H.ro.at_ with h1|⟨h1,e,h⟩;exact .inl h1;by_cases c:sl.cap=0;exact .inl ⟨by have:=H.ro.le;omega,c⟩;exact .inr ⟨h1,e.keep (f (.inr c)),h⟩
theorem CR.app{t e:TypeId}{O:Value}{bytes z:Nat}(E:ElemT Tp t e O z bytes)(y:bytes<=1000){ty:TypeId}{els:List (List Value)}{sl:Sl}(H:CR g z els sl b cs){bv D:Nat}{vs:List Value}(Q:Blk g bv vs.toArray)(l:vs.length=z)(h1:∀u∈vs,u.oneCell'=Ta)(T:els.length<=1000000){K:Value->za->Prop} (G:∀(h:Sl) (g':za) (b':Nat) (cs':Array Value),CR g' z (els++[vs]) h b' cs'->g.size<=g'.size->((b'=b/\¬(sl.len=0/\sl.cap=0))\/g.size<=b')->b'<g'.size->(∀j,j<g.size->j≠b'->g'[j]?=g[j]?)->K (.slice h.a h.len h.cap) g'):
  XRun Tp (TB #[t,t] ty #[.slice sl.a sl.len sl.cap,.slice (Td ⟨bv,0,Te⟩) 1 D]) g K:=by
 have c:=H.ln;have n:(sl.len+1)*bytes<=140737488355328:=by have:(sl.len+1)*bytes<=1000001*1000:=Vq (by omega) y;omega
 obtain⟨b0,f,r,x,m⟩:∃b0 f,RowO g sl b0 f z/\((b0=b/\¬(sl.len=0/\sl.cap=0))\/g.size<=b0)/\(∀(i:Nat) (e:List Value),els[i]?=Td e->(i+1)*z<=f.size/\cut f (i*z) z=e):=by by_cases h0:sl.len=0/\sl.cap=0;have P:els=[]:=Vl.1 (by omega);exact⟨g.size,#[],⟨H.ro.le,.inl h0⟩,.inr (Tm _),λi e hi=>by rw[P]at hi;cases hi⟩;exact⟨b,cs,H.ro,.inl ⟨rfl,h0⟩,H.el⟩
 refine vo E r Q l h1 n (by omega) λh g' b' cs' N=>G h g' b' cs' ⟨⟨by rw[N.len];exact N.cap,.inr ⟨N.a,N.blk,N.size⟩⟩,by rw[N.len,Ts,c];rfl,λi e hi=>?_⟩ N.grow ?_ N.blk.lt N.old;have C:i<els.length+1:=by have:=(T5.1 hi).1;rw[Ts]at this;exact this
 have U:(i+1)*z<=(sl.len+1)*z:=TX _ (by omega);have I:(sl.len+1)*z<=h.cap*z:=TX _ N.cap;have J:(i+1)*z=i*z+z:=VB _ _;have M:(sl.len+1)*z=sl.len*z+z:=VB _ _;have:=N.size;refine⟨by omega,?_⟩;have o:=N.cut;have key:∀q,i*z+q<(sl.len+1)*z->cs'.toList[i*z+q]?=(cut f 0 (sl.len*z)++vs)[i*z+q]?:=λq p=>by rw[<-o,qd,zA p,TJ]
 have k:(cut f 0 (sl.len*z)).length=sl.len*z:=by
  by_cases h0:els=[];have:sl.len=0:=by rw[c,h0];rfl
  rw[this,Nat.zero_mul];unfold cut;simp;have L:els.length-1<els.length:=by have:=UH.2 h0;omega
  have:=(m (els.length-1) _ (Tv L)).1;rw[show els.length-1+1=els.length by omega,<-c]at this;exact nW (by omega)
 by_cases w:i<els.length;rw[Vs w]at hi;obtain⟨S,B⟩:=m i e hi;have F:(i+1)*z<=sl.len*z:=TX _ (by omega);refine oM (by rw[<-B];exact nW (by omega)) λq p=>?_;rw[key q (by omega),Vs (by rw[k];omega),qd,zA (by omega),TJ];exact x5 B p;have A:i=els.length:=by omega
 subst A;rw[Vr (Tm _),Nat.sub_self]at hi;cases hi;refine oM l λq p=>?_;have V:els.length*z=sl.len*z:=by rw[c]
 rw[key q (by omega),Vr (by rw[k];omega),k];congr 1;omega;rcases N.new with e|e;rcases x with q|q;exact .inl ⟨e.trans q.1,q.2⟩;exact .inr (by omega);exact .inr e
end
end Go.X
end
section
namespace Go.X
section
theorem QB(gl:Fr)(c:Tr)(R:Bool->Prop) (H:∃a:Bool->Prop,((c.kind != 7)=Ta->PC Tp gl 89 [Arg.mk .tree (Tr.mk c.kind c.text c.keys c.items)] [.bool] a)/\∀b:Bool,((c.kind != 7)=Ta->a b)->R (bif (c.kind != 7)then b else Tc)):
  PC Tp gl 88 [Arg.mk .tree c] [.bool] R:=
 PF ⟨[],[],[],[]⟩ [.tmp 2] 10 Tryz.func88 H
end
section
theorem Rh(b:Int)(c:Bt)(d:Sl)(e:Sl)(h:za)(R:Value->za->Prop) (H:let f:=h.push (.cells #[iV b,.string c,aK d,aK e] 25);∃g i j k,zc f ⟨h.size,0,Te⟩ 0 (tL g i j k)/\XC Tp 49 #[tA g i j k] f (λl m=>∃n,l=.bool n/\((!n)=Ta->R (.tuple #[.string (⟨#[]⟩:Bt),iV 1]) m)/\((!n)=Tc->let o:=m.push (.cells #[.pointer Te,.slice Te 0 0,.bool Tc,iV 0] 207);∃p q r s,zc o ⟨h.size,0,Te⟩ 0 (tL p q r s)/\XC Tp 201 #[.pointer (Td ⟨m.size,0,Te⟩),tA p q r s,iV 0] o (λt u=>t=.tuple #[]/\XC Tp 70 #[.pointer (Td (Tl ⟨m.size,0,Te⟩ 0))] u (λv w=>∃x,v=.string x/\R (.tuple #[.string x,iV 0]) w))))):
  XC Tp 126 #[.agg #[.int .i64 b,.string c,.slice d.a d.len d.cap,.slice e.a e.len e.cap]] h R:=
 XF ⟨[],[],[]⟩ [.tmp 2,.tmp 3] 12 Tryz.func126 H
theorem Ju(L:Option Addr)(b:Int)(c:Bt)(d:Sl)(e:Sl)(J:Int)(h:za)(R:Value->za->Prop) (H:let f:=h.push (.cells #[iV b,.string c,aK d,aK e] 25);∃g,zb f (Tl ⟨h.size,0,Te⟩ 0)=Td (iV g)/\((g==1)=Ta->∃i,L=Td i/\XC Tp 68 #[.pointer (Td (Tl i 0)),.string (⟨#[110,117,108,108]⟩:Bt)] f (λj k=>∃l,∃m:Value,j=.tuple #[iV l,m]/\R (.tuple #[]) k))/\((g==1)=Tc->((g==4)=Ta->∃n,zb f (Tl ⟨h.size,0,Te⟩ 1)=Td (.string n)/\XC Tp 253 #[.pointer L,.string n] f (λo p=>o=.tuple #[]/\R (.tuple #[]) p))/\((g==4)=Tc->((g==5)=Ta->∃q r s t,zc f ⟨h.size,0,Te⟩ 0 (tL q r s t)/\XC Tp 254 #[.pointer L,tA q r s t,iV J,.string (⟨#[91,93]⟩:Bt),.func (.func 255) #[.pointer L] #[]] f (λu v=>u=.tuple #[]/\R (.tuple #[]) v))/\((g==5)=Tc->((g==6)=Ta->∃w x y z,zc f ⟨h.size,0,Te⟩ 0 (tL w x y z)/\XC Tp 254 #[.pointer L,tA w x y z,iV J,.string (⟨#[123,125]⟩:Bt),.func (.func 256) #[.pointer L] #[]] f (λA B=>A=.tuple #[]/\R (.tuple #[]) B))/\((g==6)=Tc->∃C,L=Td C/\∃D,zb f (Tl ⟨h.size,0,Te⟩ 1)=Td (.string D)/\XC Tp 68 #[.pointer (Td (Tl C 0)),.string D] f (λE F=>∃G,∃I:Value,E=.tuple #[iV G,I]/\R (.tuple #[]) F)))))):
  XC Tp 201 #[.pointer L,.agg #[.int .i64 b,.string c,.slice d.a d.len d.cap,.slice e.a e.len e.cap],.int .i64 J] h R:=
 XF ⟨[(2,8000)],[],[]⟩ [] 42 Tryz.func201 H
theorem Ja(k:Option Addr)(s1:Bt)(h:za)(R:Value->za->Prop) (H:XC Tp 125 #[.string s1] h (λa b=>∃c d,a=.tuple #[.string c,iV d]/\∃e,k=Td e/\XC Tp 68 #[.pointer (Td (Tl e 0)),.string c] b (λf g=>∃i,∃j:Value,f=.tuple #[iV i,j]/\R (.tuple #[]) g))):
  XC Tp 253 #[.pointer k,.string s1] h R:=
 XF ⟨[],[],[]⟩ [] 16 Tryz.func253 H
theorem Jw(V:Option Addr)(b:Int)(c:Bt)(d:Sl)(e:Sl)(P:Int)(Q:Bt)(S:FuncId)(U:Array Value)(T:Array Value)(h:za)(R:Value->za->Prop) (H:let f:=h.push (.cells #[iV b,.string c,aK d,aK e] 25);∃g,V=Td g/\(0<=(0:Int)/\(0:Int)<(Q.size:Int))/\XC Tp 133 #[.pointer (Td (Tl g 0)),.int .u8 (yu Q (0:Int).toNat)] f (λi j=>∃k:Value,i=k/\∃l,zb j (Tl ⟨h.size,0,Te⟩ 3)=Td (aK l)/\∃(m:Int->za->Prop) (n:Int->za->Nat),m 0 j/\∀o:Int,∀p:za,m o p->((decide (o<l.len)=Ta->∀q:za->Prop,(∀r:za,(XC Tp 307 #[.pointer V,iV (Tj .i64 (P+1))] r (λs t=>s=.tuple #[]/\∃u v w x,zc t ⟨h.size,0,Te⟩ 0 (tL u v w x)/\zj Tp S=Ta/\XC Tp S (U++#[tA u v w x,iV o,iV (Tj .i64 (P+1))]++T) t (λy z=>y=.tuple #[]/\(m (Tj .i64 (o+1)) z/\n (Tj .i64 (o+1)) z<n o p))))->q r)->(decide (o>0)=Ta->∃A,V=Td A/\XC Tp 133 #[.pointer (Td (Tl A 0)),.int .u8 44] p (λB C=>∃D:Value,B=D/\q C))/\(decide (o>0)=Tc->q p))/\(decide (o<l.len)=Tc->∀E:za->Prop,(∀F:za,(∃G,V=Td G/\(0<=(1:Int)/\(1:Int)<(Q.size:Int))/\XC Tp 133 #[.pointer (Td (Tl G 0)),.int .u8 (yu Q (1:Int).toNat)] F (λI J=>∃L:Value,I=L/\R (.tuple #[]) J))->E F)->∃M,zb p (Tl ⟨h.size,0,Te⟩ 3)=Td (aK M)/\(decide ((M.len:Int)>0)=Ta->XC Tp 307 #[.pointer V,iV P] p (λN O=>N=.tuple #[]/\E O))/\(decide ((M.len:Int)>0)=Tc->E p))))):
  XC Tp 254 #[.pointer V,.agg #[.int .i64 b,.string c,.slice d.a d.len d.cap,.slice e.a e.len e.cap],.int .i64 P,.string Q,.func (.func S) U T] h R:=
 XF ⟨[(1,8000),(12,8000)],[(3,[(20,.one (.int .i64))])],[(7,[]),(12,[])]⟩ [] 53 Tryz.func254 H
theorem Wp(r:Option Addr)(b:Int)(c:Bt)(d:Sl)(e:Sl)(q:Int)(p:Int)(h:za)(R:Value->za->Prop) (H:let f:=h.push (.cells #[iV b,.string c,aK d,aK e] 25);∃g,zb f (Tl ⟨h.size,0,Te⟩ 3)=Td (aK g)/\∃i,(g.a=Td i/\0<=q/\q<g.len)/\∃j k l m,zc f (i.add (q.toNat*4)) 0 (tL j k l m)/\XC Tp 201 #[.pointer r,tA j k l m,iV p] f (λn o=>n=.tuple #[]/\R (.tuple #[]) o)):
  XC Tp 255 #[.pointer r,.agg #[.int .i64 b,.string c,.slice d.a d.len d.cap,.slice e.a e.len e.cap],.int .i64 q,.int .i64 p] h R:=
 XF ⟨[],[],[]⟩ [] 16 Tryz.func255 H
theorem Jb(J:Option Addr)(b:Int)(c:Bt)(d:Sl)(e:Sl)(I:Int)(G:Int)(h:za)(R:Value->za->Prop) (H:let f:=h.push (.cells #[iV b,.string c,aK d,aK e] 25);∃g,zb f (Tl ⟨h.size,0,Te⟩ 2)=Td (aK g)/\∃i,(g.a=Td i/\0<=I/\I<g.len)/\∃j,zb f (i.add (I.toNat*1))=Td (.string j)/\XC Tp 253 #[.pointer J,.string j] f (λk l=>k=.tuple #[]/\∃m,J=Td m/\XC Tp 133 #[.pointer (Td (Tl m 0)),.int .u8 58] l (λn o=>∃p:Value,n=p/\∀q:za->Prop,(∀r:za,(∃s,zb r (Tl ⟨h.size,0,Te⟩ 3)=Td (aK s)/\∃t,(s.a=Td t/\0<=I/\I<s.len)/\∃u v w x,zc r (t.add (I.toNat*4)) 0 (tL u v w x)/\XC Tp 201 #[.pointer J,tA u v w x,iV G] r (λy z=>y=.tuple #[]/\R (.tuple #[]) z))->q r)->∃A,J=Td A/\∃B,zb o (Tl A 2)=Td (.bool B)/\(B=Ta->∃C,J=Td C/\XC Tp 133 #[.pointer (Td (Tl C 0)),.int .u8 32] o (λD E=>∃F:Value,D=F/\q E))/\(B=Tc->q o)))):
  XC Tp 256 #[.pointer J,.agg #[.int .i64 b,.string c,.slice d.a d.len d.cap,.slice e.a e.len e.cap],.int .i64 I,.int .i64 G] h R:=
 XF ⟨[],[],[(5,[])]⟩ [] 35 Tryz.func256 H
theorem Wq(t:Option Addr)(r:Int)(h:za)(R:Value->za->Prop) (H:∃a,t=Td a/\∃b,zb h (Tl a 2)=Td (.bool b)/\(b=Ta->∃c,t=Td c/\XC Tp 133 #[.pointer (Td (Tl c 0)),.int .u8 10] h (λd e=>∃f:Value,d=f/\∃g,t=Td g/\∃i,t=Td i/\∃j,zb e (Tl i 3)=Td (iV j)/\XC Tp 200 #[.string (⟨#[32]⟩:Bt),iV (Tj .i64 (j*r))] e (λk l=>∃m,k=.string m/\XC Tp 68 #[.pointer (Td (Tl g 0)),.string m] l (λn o=>∃p,∃q:Value,n=.tuple #[iV p,q]/\R (.tuple #[]) o))))/\(b=Tc->R (.tuple #[]) h)):
  XC Tp 307 #[.pointer t,.int .i64 r] h R:=
 XF ⟨[(2,8000)],[],[]⟩ [] 23 Tryz.func307 H
theorem N4(b:Int)(c:Bt)(d:Sl)(e:Sl)(h:za)(R:Value->za->Prop) (H:let f:=h.push (.cells #[iV b,.string c,aK d,aK e] 25);let g:=f.push (.cells tC 25);∃i j k l,zc g ⟨h.size,0,Te⟩ 0 (tL i j k l)/\XC Tp 83 #[tA i j k l] g (λm n=>∃o,m=.bool o/\((!o)=Ta->XRunU Tp (Tt 25 (.pointer (Td ⟨f.size,0,Te⟩)) (tZ)) n (λp=>∃q r s t,zc p ⟨f.size,0,Te⟩ 0 (tL q r s t)/\R (tA q r s t) p))/\((!o)=Tc->∃u v w x,zc n ⟨h.size,0,Te⟩ 0 (tL u v w x)/\XC Tp 101 #[tA u v w x] n (λy z=>∃A B C D,y=tA A B C D/\XRunU Tp (Tt 25 (.pointer (Td ⟨f.size,0,Te⟩)) (tA A B C D)) z (λE=>∃F G I J,zc E ⟨f.size,0,Te⟩ 0 (tL F G I J)/\R (tA F G I J) E))))):
  XC Tp 56 #[.agg #[.int .i64 b,.string c,.slice d.a d.len d.cap,.slice e.a e.len e.cap]] h R:=
 XF ⟨[],[],[]⟩ [.cell 2 25] 9 Tryz.func56 H
theorem RS(b:Int)(c:Bt)(d:Sl)(e:Sl)(h:za)(R:Value->za->Prop) (H:let f:=h.push (.cells #[iV b,.string c,aK d,aK e] 25);let g:=f.push (.cells tC 25);∃i,zb g (Tl ⟨h.size,0,Te⟩ 0)=Td (iV i)/\∃j,zb g (Tl ⟨h.size,0,Te⟩ 1)=Td (.string j)/\let k:=g.push (.cells tC 25);XRunU Tp (Tt 25 (.pointer (Td ⟨g.size,0,Te⟩)) (.agg #[iV i,.string j,.slice Te 0 0,.slice Te 0 0])) k (λl=>∃m,zb l (Tl ⟨h.size,0,Te⟩ 0)=Td (iV m)/\((m != 6)=Ta->∃n,zb l (Tl ⟨h.size,0,Te⟩ 3)=Td (aK n)/\∃(o:Int->za->Prop) (p:Int->za->Nat),o 0 l/\∀q:Int,∀r:za,o q r->((decide (q<n.len)=Ta->∃s,(n.a=Td s/\0<=q/\q<n.len)/\∃t u v w,zc r (s.add (q.toNat*4)) 0 (tL t u v w)/\let x:=r.push (.cells tC 25);XRunU Tp (Tt 25 (.pointer (Td ⟨r.size,0,Te⟩)) (tA t u v w)) x (λy=>∃z,zb y (Tl ⟨g.size,0,Te⟩ 3)=Td (aK z)/\∃A B C D,zc y ⟨r.size,0,Te⟩ 0 (tL A B C D)/\XC Tp 101 #[tA A B C D] y (λE F=>∃G I J L,E=tA G I J L/\(F)[((Tl ⟨g.size,0,Te⟩ 3):Addr).block]?=(y)[((Tl ⟨g.size,0,Te⟩ 3):Addr).block]?/\let M:=F.push (.cells #[iV G,.string I,aK J,aK L] 25);(M)[((Tl ⟨g.size,0,Te⟩ 3):Addr).block]?=(y)[((Tl ⟨g.size,0,Te⟩ 3):Addr).block]?/\XRun Tp (TB #[23,23] 23 #[aK z,.slice (Td ⟨F.size,0,Te⟩) 1 1]) M (λN O=>∃P,N=aK P/\XRunU Tp (Tt 23 (.pointer (Td (Tl ⟨g.size,0,Te⟩ 3))) (aK P)) O (λQ=>(o (Tj .i64 (q+1)) Q/\p (Tj .i64 (q+1)) Q<p q r))))))/\(decide (q<n.len)=Tc->∃S T U V,zc r ⟨g.size,0,Te⟩ 0 (tL S T U V)/\XRunU Tp (Tt 25 (.pointer (Td ⟨f.size,0,Te⟩)) (tA S T U V)) r (λW=>∃X Y Z aa,zc W ⟨f.size,0,Te⟩ 0 (tL X Y Z aa)/\R (tA X Y Z aa) W))))/\((m != 6)=Tc->∃ab ac ad ae,zc l ⟨h.size,0,Te⟩ 0 (tL ab ac ad ae)/\XC Tp 142 #[tA ab ac ad ae] l (λaf ag=>∃ah:Option Nat,af=.map ah/\XC Tp 162 #[.map ah] ag (λai aj=>∃ak:Value,ai=ak/\XC Tp 161 #[ak] aj (λal am=>∃an,al=aK an/\XRunU Tp (Tt 22 (.pointer (Td (Tl ⟨g.size,0,Te⟩ 2))) (aK an)) am (λao=>∃ap,zb ao (Tl ⟨g.size,0,Te⟩ 2)=Td (aK ap)/\∃(aq:Int->za->Prop) (ar:Int->za->Nat),aq 0 ao/\∀au:Int,∀av:za,aq au av->((decide (au<ap.len)=Ta->∃aw,(ap.a=Td aw/\0<=au/\au<ap.len)/\∃ax,zb av (aw.add (au.toNat*1))=Td (.string ax)/\∃ay,zb av (Tl ⟨g.size,0,Te⟩ 3)=Td (aK ay)/\∃az aA aB aC,QExec Tp (UV 144 (.map ah) (.string ax) Tc) av (tA az aA aB aC)/\(av)[((Tl ⟨g.size,0,Te⟩ 3):Addr).block]?=(av)[((Tl ⟨g.size,0,Te⟩ 3):Addr).block]?/\XC Tp 101 #[tA az aA aB aC] av (λaD aE=>∃aF aG aH aI,aD=tA aF aG aH aI/\(aE)[((Tl ⟨g.size,0,Te⟩ 3):Addr).block]?=(av)[((Tl ⟨g.size,0,Te⟩ 3):Addr).block]?/\let aJ:=aE.push (.cells #[iV aF,.string aG,aK aH,aK aI] 25);(aJ)[((Tl ⟨g.size,0,Te⟩ 3):Addr).block]?=(av)[((Tl ⟨g.size,0,Te⟩ 3):Addr).block]?/\XRun Tp (TB #[23,23] 23 #[aK ay,.slice (Td ⟨aE.size,0,Te⟩) 1 1]) aJ (λaL aM=>∃aN,aL=aK aN/\XRunU Tp (Tt 23 (.pointer (Td (Tl ⟨g.size,0,Te⟩ 3))) (aK aN)) aM (λaO=>(aq (Tj .i64 (au+1)) aO/\ar (Tj .i64 (au+1)) aO<ar au av)))))/\(decide (au<ap.len)=Tc->∃aP aQ aS aT,zc av ⟨g.size,0,Te⟩ 0 (tL aP aQ aS aT)/\XRunU Tp (Tt 25 (.pointer (Td ⟨f.size,0,Te⟩)) (tA aP aQ aS aT)) av (λaU=>∃aV aW aX aY,zc aU ⟨f.size,0,Te⟩ 0 (tL aV aW aX aY)/\R (tA aV aW aX aY) aU)))))))))):
  XC Tp 101 #[.agg #[.int .i64 b,.string c,.slice d.a d.len d.cap,.slice e.a e.len e.cap]] h R:=
 XF ⟨[(6,8000),(14,8000)],[(4,[(20,.one (.int .i64))]),(12,[(42,.one (.int .i64))])],[]⟩ [.cell 2 25] 57 Tryz.func101 H
theorem Oh(b:Int)(c:Bt)(d:Sl)(e:Sl)(h:za)(R:Value->za->Prop) (H:let f:=h.push (.cells #[iV b,.string c,aK d,aK e] 25);∃g,zb f (Tl ⟨h.size,0,Te⟩ 2)=Td (aK g)/\let i:=f.push (.map #[] 0);∃j,zb i (Tl ⟨h.size,0,Te⟩ 2)=Td (aK j)/\∃(k:Int->za->Prop) (l:Int->za->Nat),k 0 i/\∀m:Int,∀n:za,k m n->((decide (m<j.len)=Ta->∃o,(j.a=Td o/\0<=m/\m<j.len)/\∃p,zb n (o.add (m.toNat*1))=Td (.string p)/\∃q,zb n (Tl ⟨h.size,0,Te⟩ 3)=Td (aK q)/\∃r,(q.a=Td r/\0<=m/\m<q.len)/\∃s t u v,zc n (r.add (m.toNat*4)) 0 (tL s t u v)/\XRunU Tp (UN 144 (.map (Td f.size)) (.string p) (tA s t u v)) n (λw=>(k (Tj .i64 (m+1)) w/\l (Tj .i64 (m+1)) w<l m n)))/\(decide (m<j.len)=Tc->R (.map (Td f.size)) n))):
  XC Tp 142 #[.agg #[.int .i64 b,.string c,.slice d.a d.len d.cap,.slice e.a e.len e.cap]] h R:=
 XF ⟨[],[(3,[(13,.one (.int .i64))])],[]⟩ [.tmp 2] 27 Tryz.func142 H
theorem IL(b:Int)(c:Bt)(d:Sl)(e:Sl)(h:za)(R:Value->za->Prop) (H:let f:=h.push (.cells #[iV b,.string c,aK d,aK e] 25);∃g i j k,zc f ⟨h.size,0,Te⟩ 0 (tL g i j k)/\XC Tp 86 #[tA g i j k] f (λl m=>∃n,l=.bool n/\∃o p q r,(n=Ta->zc m ⟨h.size,0,Te⟩ 0 (tL o p q r))/\∃s:Value->za->Prop,(n=Ta->XC Tp 87 #[tA o p q r,.func (.func 88) #[] #[]] m (λt u=>∃v,t=.bool v/\s (.bool v) u))/\(n=Tc->∃w,s (.bool w) m)/\(n=Ta->∀x y,s x y->∃z,x=.bool z)/\∀A:Bool,∀B,s (.bool A) B->R (.bool (bif n then A else Tc)) B)):
  XC Tp 49 #[.agg #[.int .i64 b,.string c,.slice d.a d.len d.cap,.slice e.a e.len e.cap]] h R:=
 XF ⟨[],[],[]⟩ [.tmp 2] 9 Tryz.func49 H
end
section
variable {gl:Fr} {v:Tr} {R:Bool -> Prop}
theorem Ir(f:GL gl)(i:Sm v)(h:R (decide (v.kind≠7)&&zo v)):PC Tp gl 88 [Arg.mk .tree v] [.bool] R:=by
 apply QB;simp only[xy];refine⟨λb=>b=zo v,λ_=>Cb f i rfl,λb c=>?_⟩;cases hk:(v.kind != 7)with
 |false=>
  have e:v.kind=7:=by simpa using hk
  have:(decide (v.kind≠7)&&zo v)=Tc:=by simp[e]
  rw[this]at h;simpa[hk]using h
 |true=>
  have e:v.kind≠7:=by simpa using hk
  have c:=c hk;subst c;have:(decide (v.kind≠7)&&zo v)=zo v:=by simp[e]
  rw[this]at h;simpa[hk]using h
theorem Yn(H:GL gl)(D:Sm v)(o:R (zm v)):PC Tp gl 49 [Arg.mk .tree v] [.bool] R:=by
 intro h M vs C ag S
 match vs,S with
 |[u],⟨n,_⟩=>
  have n:RdV M .tree v u:=n;have m:=n;obtain⟨sk,si,rfl,T,V⟩:=qe n;apply PX.of;apply IL v.kind v.text sk si;intro h1;have q:Later h M h1 M:=Later.push ag _;have s1:h1.size=h.size+1:=To _;have f:∀h':za,Keep h1.size h1 h'->zc h' ⟨h.size,0,Te⟩ 0 [.int .i64 v.kind,.string v.text,aK sk,aK si]:=λh' k=>pr (h':=h') (by rw[s1]at k;exact k);clear_value h1;refine⟨v.kind,v.text,sk,si,f h1 (Keep.refl _ _),?_⟩;have y:PC Tp gl 86 [Arg.mk .tree v] [.bool] (λr=>r=Zj v):=Fh D rfl;refine y.go (vs:=[.agg #[.int .i64 v.kind,.string v.text,aK sk,aK si]]) (C.trans q.le) q.ag (zh (RdV.mono q.le m) zy) λw E O r z j N=>?_;refine⟨r,Jk j,v.kind,v.text,sk,si,λ_=>f E z.keep,?_⟩;have c:=q.trans z;refine⟨λw t=>∃b,w=.bool b/\(r=Ta->b=Qp (λx=>decide (x.kind≠7)&&zo x) v)/\∃B,Later h M t B,λQ=>?_,λl=>⟨Ta,Ta,rfl,λe=>(by rw[e]at l;cases l),O,c⟩,λ_ w t ⟨b,e,_⟩=>⟨b,e⟩,?_⟩;refine(Cw (F:=88) (by kernel_rfl) (p:=λx=>decide (x.kind≠7)&&zo x) (λx P=>Ir H P rfl) v D (C.trans c.le) z.ag (RdV.mono c.le m)).go λw U J b I i A=>⟨b,Jk i,b,rfl,λ_=>A,J,c.trans I⟩;rintro b t ⟨b',e,G,B,L⟩;cases e;refine⟨B,_,L,Qf.2 (rdBool _),?_⟩;unfold zm at o;rw[<-N]at o;cases r with
  |false=>exact o
  |true=>rw[zK,G rfl];exact o
end
section
def yQ(P:Program)(t:TypeId)(n:Nat)(u:Value)(h:za)(K:Value->za->Prop):Prop:=
 ml P (do let x <-Instr.buildSlice t n #[(0,u)];pure (VF x)) h λb h'=>match b with
  |.value v=>K v h'
  |.skip=>K undef h'
  |_=>False
end
section
theorem Kb(b:Int)(c:Bt)(d:Sl)(e:Sl)(h:za)(R:Value->za->Prop) (H:let f:=h.push (.cells #[iV b,.string c,aK d,aK e] 25);let g:=f.push (.cells #[.slice Te 0 0,.slice Te 0 0] 31);∃i j k l,zc g ⟨h.size,0,Te⟩ 0 (tL i j k l)/\XC Tp 49 #[tA i j k l] g (λm n=>∃o,m=.bool o/\((!o)=Ta->XRunU Tp (Tt 31 (.pointer (Td ⟨f.size,0,Te⟩)) (.agg #[.slice Te 0 0,.slice Te 0 0])) n (λp=>∃q r,zc p ⟨f.size,0,Te⟩ 0 [aK q,aK r]/\R (.tuple #[.agg #[aK q,aK r],iV 1]) p))/\((!o)=Tc->let s:=n.push (.cells #[.slice Te 0 0,.slice Te 0 0] 69);∃t u v w,zc s ⟨h.size,0,Te⟩ 0 (tL t u v w)/\XC Tp 56 #[tA t u v w] s (λx y=>∃z A B C,x=tA z A B C/\XC Tp 55 #[.pointer (Td ⟨n.size,0,Te⟩),tA z A B C] y (λD E=>D=.tuple #[]/\∃F,zb E (Tl (Tl ⟨n.size,0,Te⟩ 0) 0)=Td (aK F)/\(decide ((F.len:Int)>512)=Ta->XRunU Tp (Tt 31 (.pointer (Td ⟨f.size,0,Te⟩)) (.agg #[.slice Te 0 0,.slice Te 0 0])) E (λG=>∃I J,zc G ⟨f.size,0,Te⟩ 0 [aK I,aK J]/\R (.tuple #[.agg #[aK I,aK J],iV 6]) G))/\(decide ((F.len:Int)>512)=Tc->∃L M,zc E (Tl ⟨n.size,0,Te⟩ 0) 0 [aK L,aK M]/\XRunU Tp (Tt 31 (.pointer (Td ⟨f.size,0,Te⟩)) (.agg #[aK L,aK M])) E (λN=>∃O P,zc N ⟨f.size,0,Te⟩ 0 [aK O,aK P]/\R (.tuple #[.agg #[aK O,aK P],iV 0]) N))))))):
  XC Tp 14 #[.agg #[.int .i64 b,.string c,.slice d.a d.len d.cap,.slice e.a e.len e.cap]] h R:=
 XF ⟨[],[],[]⟩ [.cell 2 31,.tmp 3] 20 Tryz.func14 H
theorem Lv(b:Sl)(c:Sl)(h:za)(R:Value->za->Prop) (H:let d:=h.push (.cells #[aK b,aK c] 31);∃e f,zc d ⟨h.size,0,Te⟩ 0 [aK e,aK f]/\XC Tp 21 #[.agg #[aK e,aK f]] d (λg i=>∃j,g=.bool j/\((!j)=Ta->R (.slice Te 0 0) i)/\((!j)=Tc->let k:=i.push (.map #[] 0);∃l,zb k (Tl ⟨h.size,0,Te⟩ 1)=Td (aK l)/\∃(m:Int->za->Prop) (n:Int->za->Nat),m 0 k/\∀o:Int,∀p:za,m o p->((decide (o<l.len)=Ta->∃q,(l.a=Td q/\0<=o/\o<l.len)/\∃r,zb p (q.add (o.toNat*1))=Td (iV r)/\XRunU Tp (UN 79 (.map (Td i.size)) (iV r) (iV o)) p (λs=>(m (Tj .i64 (o+1)) s/\n (Tj .i64 (o+1)) s<n o p)))/\(decide (o<l.len)=Tc->XRun Tp (VX 79 (.map (Td i.size))) p (λt u=>∃v:Option Addr,t=.pointer v/\∃(w:Sl->za->Prop) (x:Sl->za->Nat),w (⟨Te,0,0⟩:Sl) u/\∀y:Sl,∀z:za,w y z->(XRun Tp (Vn (.pointer v) Tc 0) z (λA B=>(A=.tuple #[.bool Tc]/\(Tc=Ta->XRun Tp (VH (.pointer v)) B (λC D=>∃E F:Value,C=.tuple #[E,F]/\yQ Tp 29 1 F D (λG I=>XRun Tp (TB #[29,29] 29 #[aK y,G]) I (λJ L=>∃M,J=aK M/\(w M L/\x M L<x y z)))))/\(Tc=Tc->XC Tp 64 #[aK y] B (λN O=>N=.tuple #[]/\R (aK y) O)))\/∃P Q:Value,A=.tuple #[.bool Ta,P,Q]/\(Ta=Ta->XRun Tp (VH (.pointer v)) B (λS T=>∃U V:Value,S=.tuple #[U,V]/\yQ Tp 29 1 V T (λW X=>XRun Tp (TB #[29,29] 29 #[aK y,W]) X (λY Z=>∃aa,Y=aK aa/\(w aa Z/\x aa Z<x y z)))))/\(Ta=Tc->XC Tp 64 #[aK y] B (λab ac=>ab=.tuple #[]/\R (aK y) ac)))))))))):
  XC Tp 28 #[.agg #[.slice b.a b.len b.cap,.slice c.a c.len c.cap]] h R:=
 XF ⟨[],[(5,[(16,.one (.int .i64))]),(11,[(6,.one (.sl))])],[]⟩ [.tmp 2] 38 Tryz.func28 H
theorem Wr(b0:Option Addr)(b:Int)(c:Bt)(d:Sl)(e:Sl)(h:za)(R:Value->za->Prop) (H:let f:=h.push (.cells #[.pointer b0] 112);let g:=f.push (.cells #[iV b,.string c,aK d,aK e] 25);∃i,zb g (Tl ⟨f.size,0,Te⟩ 0)=Td (iV i)/\((i==5)=Ta->∃j:Option Addr,zb g ⟨h.size,0,Te⟩=Td (.pointer j)/\XC Tp 94 #[.pointer j,.string (⟨#[91]⟩:Bt),.func (.func 95) #[] #[.pointer (Td ⟨f.size,0,Te⟩),.pointer (Td ⟨h.size,0,Te⟩)]] g (λk l=>k=.tuple #[]/\R (.tuple #[]) l))/\((i==5)=Tc->((i==6)=Ta->∃m:Option Addr,zb g ⟨h.size,0,Te⟩=Td (.pointer m)/\XC Tp 94 #[.pointer m,.string (⟨#[123]⟩:Bt),.func (.func 96) #[] #[.pointer (Td ⟨f.size,0,Te⟩),.pointer (Td ⟨h.size,0,Te⟩)]] g (λn o=>n=.tuple #[]/\R (.tuple #[]) o))/\((i==6)=Tc->∃p:Option Addr,zb g ⟨h.size,0,Te⟩=Td (.pointer p)/\∃q r s t,zc g ⟨f.size,0,Te⟩ 0 (tL q r s t)/\XC Tp 97 #[tA q r s t] g (λu v=>∃w,u=.string w/\(v)[(⟨h.size,0,Te⟩:Addr).block]?=(g)[(⟨h.size,0,Te⟩:Addr).block]?/\XC Tp 94 #[.pointer p,.string w,.func (.func 100) #[] #[]] v (λx y=>x=.tuple #[]/\R (.tuple #[]) y))))):
  XC Tp 55 #[.pointer b0,.agg #[.int .i64 b,.string c,.slice d.a d.len d.cap,.slice e.a e.len e.cap]] h R:=
 XF ⟨[(2,8000)],[],[]⟩ [] 20 Tryz.func55 H
theorem Oi(b:Sl)(c:Sl)(h:za)(R:Value->za->Prop) (H:let d:=h.push (.cells #[aK b,aK c] 31);∃e,zb d (Tl ⟨h.size,0,Te⟩ 0)=Td (aK e)/\∃f,zb d (Tl ⟨h.size,0,Te⟩ 1)=Td (aK f)/\∃g,((!((e.len:Int) != (f.len:Int)))=Ta->zb d (Tl ⟨h.size,0,Te⟩ 0)=Td (aK g))/\((bif ((e.len:Int) != (f.len:Int))then Ta else(decide ((g.len:Int)>512)))=Ta->R (.tuple #[.slice Te 0 0,.bool Tc]) d)/\((bif ((e.len:Int) != (f.len:Int))then Ta else(decide ((g.len:Int)>512)))=Tc->∃i,zb d (Tl ⟨h.size,0,Te⟩ 1)=Td (aK i)/\XRun Tp (Uc 29 (iV (i.len:Int)) (iV (i.len:Int))) d (λj k=>∃l,j=aK l/\∃m,zb k (Tl ⟨h.size,0,Te⟩ 1)=Td (aK m)/\∃(n:Sl->Int->za->Prop) (o:Sl->Int->za->Nat),n (⟨Te,0,0⟩:Sl) 0 k/\∀p:Sl,∀q:Int,∀r:za,n p q r->((decide (q<m.len)=Ta->∃s,(m.a=Td s/\0<=q/\q<m.len)/\∃t,zb r (s.add (q.toNat*1))=Td (iV t)/\((bif (decide (t<0))then Ta else(decide (t>q)))=Ta->R (.tuple #[.slice Te 0 0,.bool Tc]) r)/\((bif (decide (t<0))then Ta else(decide (t>q)))=Tc->∃(u:Sl->za->Prop) (w:Sl->za->Nat),u p r/\∀x:Sl,∀y:za,u x y->(∃z,(decide ((x.len:Int)>0)=Ta->(x.a=Td z/\0<=(Tj .i64 ((x.len:Int)-1))/\(Tj .i64 ((x.len:Int)-1))<(x.len:Int)))/\∃A,(decide ((x.len:Int)>0)=Ta->zb y (z.add ((Tj .i64 ((x.len:Int)-1)).toNat*1))=Td (iV A))/\((bif (decide ((x.len:Int)>0))then(decide (A>=t))else Tc)=Ta->∃B,(x.a=Td B/\0<=(Tj .i64 ((x.len:Int)-1))/\(Tj .i64 ((x.len:Int)-1))<(x.len:Int))/\∃C,zb y (B.add ((Tj .i64 ((x.len:Int)-1)).toNat*1))=Td (iV C)/\∃D,zb y (Tl ⟨h.size,0,Te⟩ 1)=Td (aK D)/\∃E,(D.a=Td E/\0<=C/\C<D.len)/\∃F,zb y (E.add (C.toNat*1))=Td (iV F)/\(decide (F<t)=Ta->R (.tuple #[.slice Te 0 0,.bool Tc]) y)/\(decide (F<t)=Tc->∃G,(l.a=Td G/\0<=C/\C<l.len)/\let I:za->Prop:=λ(J:za)=>((u (⟨io x.a 1 ((0:Int).toNat) ((x.cap:Int).toNat),(Tj .i64 ((x.len:Int)-1)).toNat-(0:Int).toNat,(x.cap:Int).toNat-(0:Int).toNat⟩:Sl) J/\w (⟨io x.a 1 ((0:Int).toNat) ((x.cap:Int).toNat),(Tj .i64 ((x.len:Int)-1)).toNat-(0:Int).toNat,(x.cap:Int).toNat-(0:Int).toNat⟩:Sl) J<w x y));(((Te:Option Value)=Te\/∃v,(Td (iV (Tj .i64 ((x.len:Int)-1))):Option Value)=Td v)/\(0<=(0:Int)/\(0:Int)<=(Tj .i64 ((x.len:Int)-1))/\(Tj .i64 ((x.len:Int)-1))<=(x.cap:Int)/\(x.cap:Int)<=(x.cap:Int))/\XRunU Tp (Tt 3 (.pointer (Td (G.add (C.toNat*1)))) (iV q)) y (λL=>I L))/\(XRunU Tp (Tt 3 (.pointer (Td (G.add (C.toNat*1)))) (iV q)) y (λM=>((Te:Option Value)=Te\/∃v,(Td (iV (Tj .i64 ((x.len:Int)-1))):Option Value)=Td v)/\(0<=(0:Int)/\(0:Int)<=(Tj .i64 ((x.len:Int)-1))/\(Tj .i64 ((x.len:Int)-1))<=(x.cap:Int)/\(x.cap:Int)<=(x.cap:Int))/\I M))))/\((bif (decide ((x.len:Int)>0))then(decide (A>=t))else Tc)=Tc->∃N,(l.a=Td N/\0<=q/\q<l.len)/\XRunU Tp (Tt 3 (.pointer (Td (N.add (q.toNat*1)))) (iV (-1))) y (λO=>let P:=O.push (.cells #[iV q] 3);XRun Tp (TB #[29,29] 29 #[aK x,.slice (Td ⟨O.size,0,Te⟩) 1 1]) P (λQ S=>∃T,Q=aK T/\(n T (Tj .i64 (q+1)) S/\o T (Tj .i64 (q+1)) S<o p q r)))))))/\(decide (q<m.len)=Tc->R (.tuple #[aK l,.bool Ta]) r))))):
  XC Tp 60 #[.agg #[.slice b.a b.len b.cap,.slice c.a c.len c.cap]] h R:=
 XF ⟨[(14,8000)],[(6,[(5,.one (.sl)),(29,.one (.int .i64))]),(10,[(5,.one (.sl))])],[]⟩ [.tmp 2,.tmp 3] 85 Tryz.func60 H
theorem RB(b:Int)(c:Bt)(d:Sl)(e:Sl)(f:Int)(g:Bt)(i:Sl)(j:Sl)(h:za)(R:Value->za->Prop) (H:let k:=h.push (.cells #[iV b,.string c,aK d,aK e] 25);let l:=k.push (.cells #[iV f,.string g,aK i,aK j] 25);∀m:Bool->za->Prop,(∀n:Bool,∀o:za,((n=Ta->R (.bool Tc) o)/\(n=Tc->∃p,zb o (Tl ⟨h.size,0,Te⟩ 0)=Td (iV p)/\((p != 6)=Ta->∃q,zb o (Tl ⟨h.size,0,Te⟩ 3)=Td (aK q)/\∃r,zb o (Tl ⟨k.size,0,Te⟩ 3)=Td (aK r)/\XC Tp 140 #[aK q,aK r,.func (.func 84) #[] #[]] o (λs t=>∃u,s=.bool u/\R (.bool u) t))/\((p != 6)=Tc->∃v w x y,zc o ⟨h.size,0,Te⟩ 0 (tL v w x y)/\∃z A B C,zc o ⟨k.size,0,Te⟩ 0 (tL z A B C)/\XC Tp 142 #[tA v w x y] o (λD E=>∃F:Option Nat,D=.map F/\(E)[(⟨k.size,0,Te⟩:Addr).block]?=(o)[(⟨k.size,0,Te⟩:Addr).block]?/\XC Tp 142 #[tA z A B C] E (λG I=>∃J:Option Nat,G=.map J/\XC Tp 141 #[.map F,.map J,.func (.func 84) #[] #[]] I (λL M=>∃N,L=.bool N/\R (.bool N) M))))))->m n o)->∃O,zb l (Tl ⟨h.size,0,Te⟩ 0)=Td (iV O)/\∃P,zb l (Tl ⟨k.size,0,Te⟩ 0)=Td (iV P)/\((O != P)=Ta->m (O != P) l)/\((O != P)=Tc->∃Q,zb l (Tl ⟨h.size,0,Te⟩ 1)=Td (.string Q)/\∃S,zb l (Tl ⟨k.size,0,Te⟩ 1)=Td (.string S)/\((!(Q.toList==S.toList))=Ta->m (!(Q.toList==S.toList)) l)/\((!(Q.toList==S.toList))=Tc->∃T,zb l (Tl ⟨h.size,0,Te⟩ 3)=Td (aK T)/\∃U,zb l (Tl ⟨k.size,0,Te⟩ 3)=Td (aK U)/\m ((T.len:Int) != (U.len:Int)) l))):
  XC Tp 84 #[.agg #[.int .i64 b,.string c,.slice d.a d.len d.cap,.slice e.a e.len e.cap],.agg #[.int .i64 f,.string g,.slice i.a i.len i.cap,.slice j.a j.len j.cap]] h R:=
 XF ⟨[(7,8000)],[],[(4,[(5,.one (.bool))])]⟩ [.tmp 4] 37 Tryz.func84 H
theorem R3(b0:Option Addr)(O:Bt)(P:FuncId)(S:Array Value)(Q:Array Value)(h:za)(R:Value->za->Prop) (H:∃b,b0=Td b/\∃c,zb h (Tl (Tl b 0) 0)=Td (aK c)/\zj Tp P=Ta/\XC Tp P (S++#[]++Q) h (λd e=>d=.tuple #[]/\∃f,b0=Td f/\∃g,zb e (Tl (Tl f 0) 0)=Td (aK g)/\(decide ((g.len:Int)<=512)=Ta->∃i,b0=Td i/\∃j,zb e (Tl (Tl i 0) 0)=Td (aK j)/\∃k,b0=Td k/\∃l,zb e (Tl (Tl k 0) 1)=Td (aK l)/\let m:Sl->Sl->za->Prop:=λ(n:Sl) (o:Sl) (p:za)=>(XRun Tp (TB #[29,29] 29 #[aK l,aK n]) p (λq r=>∃s,q=aK s/\∃t,b0=Td t/\XRunU Tp (Tt 22 (.pointer (Td (Tl (Tl t 0) 0))) (aK o)) r (λu=>∃v,b0=Td v/\XRunU Tp (Tt 29 (.pointer (Td (Tl (Tl v 0) 1))) (aK s)) u (λw=>R (.tuple #[]) w))));let x:Sl->Sl->za->Prop:=λ(y:Sl) (z:Sl) (A:za)=>(XRun Tp (TB #[22,22] 22 #[aK j,aK z]) A (λB C=>∃D,B=aK D/\(C)[((Tl (Tl k 0) 1):Addr).block]?=(e)[((Tl (Tl k 0) 1):Addr).block]?/\m y D C));(let E:=e.push (.cells #[.string O] 9);(E)[((Tl (Tl k 0) 1):Addr).block]?=(e)[((Tl (Tl k 0) 1):Addr).block]?/\(E)[((Tl (Tl i 0) 0):Addr).block]?=(e)[((Tl (Tl i 0) 0):Addr).block]?/\(XRun Tp (TB #[22,22] 22 #[aK j,.slice (Td ⟨e.size,0,Te⟩) 1 1]) E (λF G=>∃I,F=aK I/\(G)[((Tl (Tl k 0) 1):Addr).block]?=(e)[((Tl (Tl k 0) 1):Addr).block]?/\let J:=G.push (.cells #[iV (c.len:Int)] 3);(J)[((Tl (Tl k 0) 1):Addr).block]?=(e)[((Tl (Tl k 0) 1):Addr).block]?/\m (⟨Td ⟨G.size,0,Te⟩,1,1⟩:Sl) I J))/\(let L:=E.push (.cells #[iV (c.len:Int)] 3);(L)[((Tl (Tl k 0) 1):Addr).block]?=(e)[((Tl (Tl k 0) 1):Addr).block]?/\(L)[((Tl (Tl i 0) 0):Addr).block]?=(e)[((Tl (Tl i 0) 0):Addr).block]?/\x (⟨Td ⟨E.size,0,Te⟩,1,1⟩:Sl) (⟨Td ⟨e.size,0,Te⟩,1,1⟩:Sl) L))/\(let M:=e.push (.cells #[iV (c.len:Int)] 3);(M)[((Tl (Tl k 0) 1):Addr).block]?=(e)[((Tl (Tl k 0) 1):Addr).block]?/\(M)[((Tl (Tl i 0) 0):Addr).block]?=(e)[((Tl (Tl i 0) 0):Addr).block]?/\let N:=M.push (.cells #[.string O] 9);(N)[((Tl (Tl k 0) 1):Addr).block]?=(e)[((Tl (Tl k 0) 1):Addr).block]?/\(N)[((Tl (Tl i 0) 0):Addr).block]?=(e)[((Tl (Tl i 0) 0):Addr).block]?/\x (⟨Td ⟨e.size,0,Te⟩,1,1⟩:Sl) (⟨Td ⟨M.size,0,Te⟩,1,1⟩:Sl) N))/\(decide ((g.len:Int)<=512)=Tc->R (.tuple #[]) e))):
  XC Tp 94 #[.pointer b0,.string O,.func (.func P) S Q] h R:=
 XF ⟨[(3,8000)],[],[]⟩ [] 46 Tryz.func94 H
theorem Jc(w:Addr)(c1:Addr)(h:za)(R:Value->za->Prop) (H:∃b,zb h (Tl w 3)=Td (aK b)/\∃(c:Int->za->Prop) (d:Int->za->Nat),c 0 h/\∀e:Int,∀f:za,c e f->((decide (e<b.len)=Ta->∃g,(b.a=Td g/\0<=e/\e<b.len)/\∃i j k l,zc f (g.add (e.toNat*4)) 0 (tL i j k l)/\let m:=f.push (.cells tC 25);XRunU Tp (Tt 25 (.pointer (Td ⟨f.size,0,Te⟩)) (tA i j k l)) m (λn=>∃o:Option Addr,zb n c1=Td (.pointer o)/\∃p q r s,zc n ⟨f.size,0,Te⟩ 0 (tL p q r s)/\XC Tp 55 #[.pointer o,tA p q r s] n (λt u=>t=.tuple #[]/\(c (Tj .i64 (e+1)) u/\d (Tj .i64 (e+1)) u<d e f))))/\(decide (e<b.len)=Tc->R (.tuple #[]) f))):
  XC Tp 95 #[.pointer (Td w),.pointer (Td c1)] h R:=
 XF ⟨[],[(1,[(7,.one (.int .i64))])],[]⟩ [] 15 Tryz.func95 H
theorem Jd(Y:Addr)(c1:Addr)(h:za)(R:Value->za->Prop) (H:∃b,zb h (Tl Y 3)=Td (aK b)/\∃(c:Int->za->Prop) (d:Int->za->Nat),c 0 h/\∀e:Int,∀f:za,c e f->((decide (e<b.len)=Ta->∃g,(b.a=Td g/\0<=e/\e<b.len)/\∃i j k l,zc f (g.add (e.toNat*4)) 0 (tL i j k l)/\let m:=f.push (.cells tC 25);XRunU Tp (Tt 25 (.pointer (Td ⟨f.size,0,Te⟩)) (tA i j k l)) m (λn=>∃o:Option Addr,zb n c1=Td (.pointer o)/\∃p,zb n (Tl Y 2)=Td (aK p)/\∃q,(p.a=Td q/\0<=e/\e<p.len)/\∃r,zb n (q.add (e.toNat*1))=Td (.string r)/\let s:Bt->za->Prop:=λt (u:za)=>(XC Tp 94 #[.pointer o,.string t,.func (.func 99) #[] #[.pointer (Td c1),.pointer (Td ⟨f.size,0,Te⟩)]] u (λv w=>v=.tuple #[]/\(c (Tj .i64 (e+1)) w/\d (Tj .i64 (e+1)) w<d e f)));let x:Int->Bt->Sl->Sl->za->Prop:=λy z (A:Sl) (B:Sl) (C:za)=>(XC Tp 97 #[tA y z A B] C (λD E=>∃F,D=.string F/\yz (((⟨#[107]⟩:Bt)).size+F.size)/\(E)[(c1:Addr).block]?=(n)[(c1:Addr).block]?/\s ((⟨#[107]⟩:Bt)++F) E));(XC Tp 98 #[.string r] n (λG I=>∃J L M N,G=tA J L M N/\(I)[(c1:Addr).block]?=(n)[(c1:Addr).block]?/\(XC Tp 97 #[tA J L M N] I (λO P=>∃Q,O=.string Q/\yz (((⟨#[107]⟩:Bt)).size+Q.size)/\(P)[(c1:Addr).block]?=(n)[(c1:Addr).block]?/\(P)[(c1:Addr).block]?=(n)[(c1:Addr).block]?/\s ((⟨#[107]⟩:Bt)++Q) P))/\((I)[(c1:Addr).block]?=(n)[(c1:Addr).block]?/\x J L M N I)))/\((n)[((q.add (e.toNat*1)):Addr).block]?=(n)[((q.add (e.toNat*1)):Addr).block]?/\(n)[((Tl Y 2):Addr).block]?=(n)[((Tl Y 2):Addr).block]?/\(n)[(c1:Addr).block]?=(n)[(c1:Addr).block]?/\XC Tp 98 #[.string r] n (λS T=>∃U V W X,S=tA U V W X/\(T)[(c1:Addr).block]?=(n)[(c1:Addr).block]?/\x U V W X T))))/\(decide (e<b.len)=Tc->R (.tuple #[]) f))):
  XC Tp 96 #[.pointer (Td Y),.pointer (Td c1)] h R:=
 XF ⟨[(3,8000)],[(1,[(7,.one (.int .i64))])],[]⟩ [] 24 Tryz.func96 H
theorem Qy(j:Addr)(c1:Addr)(h:za)(R:Value->za->Prop) (H:∃b:Option Addr,zb h j=Td (.pointer b)/\∃c d e f,zc h c1 0 (tL c d e f)/\XC Tp 55 #[.pointer b,tA c d e f] h (λg i=>g=.tuple #[]/\R (.tuple #[]) i)):
  XC Tp 99 #[.pointer (Td j),.pointer (Td c1)] h R:=
 XF ⟨[],[],[]⟩ [] 5 Tryz.func99 H
theorem Je(h:za)(R:Value->za->Prop) (H:R (.tuple #[]) h):
  XC Tp 100 #[] h R:=
 XF ⟨[],[],[]⟩ [] 0 Tryz.func100 H
theorem qh(F:Sl)(G:Sl)(I:FuncId)(J:Array Value)(L:Array Value)(h:za)(R:Value->za->Prop) (H:(((F.len:Int) != (G.len:Int))=Ta->R (.bool Tc) h)/\(((F.len:Int) != (G.len:Int))=Tc->∃(b:Int->za->Prop) (c:Int->za->Nat),b 0 h/\∀d:Int,∀e:za,b d e->((decide (d<F.len)=Ta->∃f,(F.a=Td f/\0<=d/\d<F.len)/\∃g i j k,zc e (f.add (d.toNat*4)) 0 (tL g i j k)/\let l:=e.push (.cells tC 25);XRunU Tp (Tt 25 (.pointer (Td ⟨e.size,0,Te⟩)) (tA g i j k)) l (λm=>∃n,(G.a=Td n/\0<=d/\d<G.len)/\∃o p q r,zc m (n.add (d.toNat*4)) 0 (tL o p q r)/\let s:=m.push (.cells tC 25);XRunU Tp (Tt 25 (.pointer (Td ⟨m.size,0,Te⟩)) (tA o p q r)) s (λt=>∃u v w x,zc t ⟨e.size,0,Te⟩ 0 (tL u v w x)/\∃y z A B,zc t ⟨m.size,0,Te⟩ 0 (tL y z A B)/\zj Tp I=Ta/\XC Tp I (J++#[tA u v w x,tA y z A B]++L) t (λC D=>∃E,C=.bool E/\((!E)=Ta->R (.bool Tc) D)/\((!E)=Tc->(b (Tj .i64 (d+1)) D/\c (Tj .i64 (d+1)) D<c d e))))))/\(decide (d<F.len)=Tc->R (.bool Ta) e)))):
  XC Tp 140 #[.slice F.a F.len F.cap,.slice G.a G.len G.cap,.func (.func I) J L] h R:=
 XF ⟨[],[(4,[(17,.one (.int .i64))])],[]⟩ [.tmp 6] 32 Tryz.func140 H
theorem zn(aH:Option Nat)(aG:Option Nat)(aD:FuncId)(aF:Array Value)(aE:Array Value)(h:za)(R:Value->za->Prop) (H:∃b,QExec Tp (Vh #[144] 3 #[.map aH]) h (iV b)/\∃c,QExec Tp (Vh #[144] 3 #[.map aG]) h (iV c)/\((b != c)=Ta->R (.bool Tc) h)/\((b != c)=Tc->XRun Tp (VX 144 (.map aH)) h (λd e=>∃f:Option Addr,d=.pointer f/\∃(g:za->Prop) (i:za->Nat),g e/\∀j:za,g j->(XRun Tp (Vn (.pointer f) Tc 0) j (λk l=>(k=.tuple #[.bool Tc]/\(Tc=Ta->XRun Tp (VH (.pointer f)) l (λm n=>∃o p:Value,m=.tuple #[o,p]/\let q:=n.push (.cells tC 25);XRunU Tp (Tt 25 (.pointer (Td ⟨n.size,0,Te⟩)) p) q (λr=>∃s t u v w,QExec Tp (UV 144 (.map aG) o Ta) r (.tuple #[tA s t u v,.bool w])/\let x:=r.push (.cells tC 25);XRunU Tp (Tt 25 (.pointer (Td ⟨r.size,0,Te⟩)) (tA s t u v)) x (λy=>∃z A B C,((!(!w))=Ta->zc y ⟨n.size,0,Te⟩ 0 (tL z A B C))/\∃D E F G,((!(!w))=Ta->zc y ⟨r.size,0,Te⟩ 0 (tL D E F G))/\∃I:Value->za->Prop,((!(!w))=Ta->zj Tp aD=Ta/\XC Tp aD (aF++#[tA z A B C,tA D E F G]++aE) y (λJ L=>∃M,J=.bool M/\I (.bool M) L))/\((!(!w))=Tc->∃N,I (.bool N) y)/\((!(!w))=Ta->∀O P,I O P->∃Q,O=.bool Q)/\∀S:Bool,∀T,I (.bool S) T->((bif (!w)then Ta else(!S))=Ta->R (.bool Tc) T)/\((bif (!w)then Ta else(!S))=Tc->(g T/\i T<i j))))))/\(Tc=Tc->R (.bool Ta) l))\/∃U V:Value,k=.tuple #[.bool Ta,U,V]/\(Ta=Ta->XRun Tp (VH (.pointer f)) l (λW X=>∃Y Z:Value,W=.tuple #[Y,Z]/\let aa:=X.push (.cells tC 25);XRunU Tp (Tt 25 (.pointer (Td ⟨X.size,0,Te⟩)) Z) aa (λab=>∃ac ad ae af ag,QExec Tp (UV 144 (.map aG) Y Ta) ab (.tuple #[tA ac ad ae af,.bool ag])/\let ah:=ab.push (.cells tC 25);XRunU Tp (Tt 25 (.pointer (Td ⟨ab.size,0,Te⟩)) (tA ac ad ae af)) ah (λai=>∃aj ak al am,((!(!ag))=Ta->zc ai ⟨X.size,0,Te⟩ 0 (tL aj ak al am))/\∃an ao ap aq,((!(!ag))=Ta->zc ai ⟨ab.size,0,Te⟩ 0 (tL an ao ap aq))/\∃ar:Value->za->Prop,((!(!ag))=Ta->zj Tp aD=Ta/\XC Tp aD (aF++#[tA aj ak al am,tA an ao ap aq]++aE) ai (λau av=>∃aw,au=.bool aw/\ar (.bool aw) av))/\((!(!ag))=Tc->∃ax,ar (.bool ax) ai)/\((!(!ag))=Ta->∀ay az,ar ay az->∃aA,ay=.bool aA)/\∀aB:Bool,∀aC,ar (.bool aB) aC->((bif (!ag)then Ta else(!aB))=Ta->R (.bool Tc) aC)/\((bif (!ag)then Ta else(!aB))=Tc->(g aC/\i aC<i j))))))/\(Ta=Tc->R (.bool Ta) l)))))):
  XC Tp 141 #[.map aH,.map aG,.func (.func aD) aF aE] h R:=
 XF ⟨[],[(4,[])],[]⟩ [.tmp 6] 38 Tryz.func141 H
end
end Go.X
end
section
namespace Go.X
open Go Go.ChangeMaps
section
variable {h h':za} {m r:Nat} {P:Program} {t kt et ty:TypeId} {K:Value -> za -> Prop} {dn:List Value}
def MapW(h:za)(m:Nat)(l:List (Value×Value)):Prop:=
 ∃c b,h[m]?=Td (.map c b)/\c.toList.map (λe=>(e.key,e.val))=l/\(∀e∈c.toList,e.born<b)/\(c.toList.map (·.born)).Nodup
theorem MapW.keep{l:List (Value×Value)}(H:MapW h m l)(k:h'[m]?=h[m]?):MapW h' m l:=by obtain⟨b,c,h1,e⟩:=H;exact⟨b,c,k.trans h1,e⟩
theorem MapW.lt{l:List (Value×Value)}(H:MapW h m l):m<h.size:=by obtain⟨b,c,h1,e⟩:=H;grind
theorem MapW.new(h:za):MapW (h.push (.map #[] 0)) h.size []:=⟨#[],0,qj _ _,rfl,by simp,by simp⟩
def Qq(l:List (Bt×Value)):List (Value×Value):=l.map λp=>(TH p.1,p.2)
theorem MapW.at{l:List (Bt×Value)}(H:MapW h m (Qq l)):MapAt h m l:=by obtain⟨b,c,h1,e,_⟩:=H;exact⟨b,c,h1,e⟩
theorem FR{z:Value}(T:MapT P t kt et z){l:List (Bt×Value)}(H:MapW h m (Qq l))(k:Bt)(v:Value){K:za->Prop}
  (x:∀h':za,MapW h' m (Qq (kH l k v))->h'.size=h.size->(∀i,i≠m->h'[i]?=h[i]?)->K h'):XRunU P (UN t (.map (Td m)) (.string k) v) h K:=by
 have f:=H.lt;obtain⟨b,c,h1,q,M,J⟩:=H;intro B d;have C:=QExec.underlying (h:=h) T.map B d;have w:=Zq (P:=P) h1 B d;have D:=Wa T.key Tc k h B d;have n:∀o:Obj,(setObj m o).run P (mk B d h)=.ok () (mk B d (h.setIfInBounds m o)):=by intro o;have:(mk B d h).heap[m]?=Td (.map b c):=h1;simp[setObj,Sem.run,this];rfl
 unfold UN;rcases Yy k b.toList l 0 q with⟨g1,g2⟩|⟨j,O,e,g1,g2,I,L,G,E⟩;refine⟨d,h.setIfInBounds m (.map (b.push { key:=.string k,val:=v,born:=c }) (c+1)),?_,x _ ⟨b.push { key:=.string k,val:=v,born:=c },c+1,by simp[f],?_,?_,?_⟩ (by simp) (λi hi=>by grind)⟩;rw[Sem.run_bind,C];simp only[Result.andThen_ok,Sem.run_bind,w,D];rw[xc T.key k b.toList Te h g2 B d];simp_all;rw[Yz g1];unfold Qq at q ⊢;simp[q];grind;grind;have A:j<b.size:=by have:=(T5.1 g2).1;simpa using this
 have u:((b.modify j λe=>{ e with key:=.string k,val:=v }).toList.map (·.born))=b.toList.map (·.born):=by apply Uf;intro i;simp only[Array.toList_modify,Us,List.getElem?_modify];by_cases F:j=i;simp_all;simp_all
 refine⟨d,_,?_,x (h.setIfInBounds m (.map (b.modify j λe=>{ e with key:=.string k,val:=v }) c)) ⟨b.modify j λe=>{ e with key:=.string k,val:=v },c,by simp[f],?_,?_,?_⟩ (by simp) (λi hi=>by grind)⟩;rw[Sem.run_bind,C];simp only[Result.andThen_ok,Sem.run_bind,w,D];rw[xc T.key k b.toList _ h G B d];simp only[Result.andThen_ok,TJ];have p:((b[j]?).map (·.key)).getD (.string k)=.string k:=by
  have:b[j]?=Td e:=by simpa using g2
  rw[this];exact I
 rw[p];have N:Vo (.string k) (.string k)=pure (.string k):=by unfold Vo;rw[zA (by show(k==k)=Ta;simp)]
 simp_all;have:=E v;unfold Qq;grind;intro y r;have:y.born∈((b.modify j λe=>{ e with key:=.string k,val:=v }).toList.map (·.born)):=Ub.2 ⟨y,r,rfl⟩;grind;simp_all
def MapIt(h:za)(r m:Nat)(l:List (Value×Value))(dn:List Value):Prop:=
 ∃j f b i c,h[r]?=Td (.mapIter (Td m) b i c)/\h[m]?=Td (.map j f)/\j.toList.map (λe=>(e.key,e.val))=l/\(∀e∈j.toList,e.born<b)/\b<=c/\b<=f/\(j.toList.map (·.born)).Nodup /\
  ∀e∈j.toList,i.contains e.born=Ta↔e.key∈dn
theorem MapIt.keep{l:List (Value×Value)}(H:MapIt h r m l dn)(i:h'[r]?=h[r]?)(k2:h'[m]?=h[m]?):MapIt h' r m l dn:=by obtain⟨k,e,b,f,c,h1,j,n⟩:=H;exact⟨k,e,b,f,c,i.trans h1,k2.trans j,n⟩
def AO(h:za)(r m:Nat)(k v:Value):Prop:=
 ∃(i:Array MapEntry) (b c:Nat) (f:Array Nat) (e:MapEntry),h[r]?=Td (.mapIter (Td m) c (f.push e.born) b)/\h[m]?=Td (.map i b)/\e∈i.toList/\(i.toList.map (·.born)).Nodup/\e.key=k/\e.val=v
theorem wc(p:P.underlying t=Td (.map kt et)){l:List (Value×Value)}(H:MapW h m l)
  (q:∀h',h'.size=h.size+1->Keep h.size h h'->MapIt h' h.size m l []->K (.pointer (Td ⟨h.size,0,Te⟩)) h'):XRun P (VX t (.map (Td m))) h K:=by
 have b:=H.lt;obtain⟨j,c,h1,f,n,i⟩:=H;intro B d;have k:=QExec.underlying (h:=h) p B d;have o:=Zq (P:=P) h1 B d;refine⟨.pointer (Td ⟨h.size,0,Te⟩),d,h.push (.mapIter (Td m) c #[] c),?_,q _ (by simp) (Keep.push _ _ (Tm _)) ⟨j,c,c,#[],c,qj _ _,?_,f,n,Tm _,Tm _,i,λe r=>by simp⟩⟩;unfold VX;rw[Sem.run_bind,k];simp only[Result.andThen_ok,Sem.run_bind,o,Sem.run_pure];rfl;grind
theorem H8{c:List MapEntry}(h:(c.map (·.born)).Nodup){a b:MapEntry}(f:a∈c)(j:b∈c)(e:a.born=b.born):a=b:=by
 induction c with
 |nil=>cases f
 |cons x c i=>grind
theorem My{c:List MapEntry}(h:(c.map (·.key)).Nodup){a b:MapEntry}(f:a∈c)(j:b∈c)(e:a.key=b.key):a=b:=by
 induction c with
 |nil=>cases f
 |cons x c i=>grind
def leftN(h:za)(r m:Nat):Nat:=match h[r]?,h[m]? with
 |some (.mapIter _ _ seen _),Td (.map es _)=>(es.toList.filter λe=>!seen.contains e.born).length
 |_,_=>0
theorem leftN.keep(b:h'[r]?=h[r]?)(k2:h'[m]?=h[m]?):leftN h' r m=leftN h r m:=by unfold leftN;rw[b,k2]
theorem Eh{α:Type}{p q:α->Bool}(h:∀x,p x=Ta->q x=Ta):∀l:List α,(l.filter p).length<=(l.filter q).length
 |[]=>Tm _
 |x::l=>by have:=Eh h l;grind
theorem filter_lt{α:Type}{p q:α->Bool}(h:∀x,p x=Ta->q x=Ta){e:α}(h1:p e=Tc)(c:q e=Ta):∀l:List α,e∈l->(l.filter p).length<(l.filter q).length
 |[],b=>by cases b
 |x::l,b=>by rw[Vx,Vx];rcases Tz.1 b with rfl|b;have:=Eh h l;grind;have:=filter_lt h h1 c l b;grind
theorem vh{l:List (Value×Value)}(H:MapIt h r m l dn)(Y:(l.map (·.1)).Nodup)(G:r≠m) (y:(∀p∈l,p.1∈dn)->K (.tuple #[.bool Tc]) h) (u:∀k v,(k,v)∈l->k∉dn->∀h',MapIt h' r m l (k::dn)->AO h' r m k v->h'.size=h.size->(∀j,j≠r->h'[j]?=h[j]?)->leftN h' r m<leftN h r m->K (.tuple #[.bool Ta,k,v]) h'):
  XRun P (Vn (.pointer (Td ⟨r,0,Te⟩)) Tc ty) h K:=by
 obtain⟨o,b,f,i,c,h1,C,E,J,U,O,I,L⟩:=H;intro B d;have T:(o.toList.map (·.key)).Nodup:=by
  have e:o.toList.map (·.key)=l.map (·.1):=by rw[<-E,T9];rfl
  rw[e];exact Y
 rcases run_next_at (P:=P) (mk B d h) ty r m f c i o b h1 C J U with⟨Q,A⟩|⟨e,M,w1,S,A⟩;refine⟨_,d,h,A,y λp N=>?_⟩;rw[<-E]at N;obtain⟨x,w,rfl⟩:=Ub.1 N;refine(L x w).1 ?_;have:leftOf o i=#[]:=Array.eq_empty_of_size_eq_zero Q;unfold leftOf at this;simp_all;have n:e∈o.toList/\i.contains e.born=Tc:=by unfold leftOf at M;simpa using M
 have V:r<h.size:=(TD.1 h1).1;have z:∃D,setBlock w1 r (.mapIter (Td m) f (i.push e.born) b)=mk B D (h.setIfInBounds r (.mapIter (Td m) f (i.push e.born) b)):=by rcases S with rfl|rfl;exact⟨d,rfl⟩;exact⟨d+1,rfl⟩
 obtain⟨D,F⟩:=z;rw[F]at A;have q:(h.setIfInBounds r (.mapIter (Td m) f (i.push e.born) b))[m]?=Td (.map o b):=by rw[Uo G];exact C
 have t:(h.setIfInBounds r (.mapIter (Td m) f (i.push e.born) b))[r]?=Td (.mapIter (Td m) f (i.push e.born) b):=by simp[V]
 refine⟨_,D,_,A,u e.key e.val (by grind) (λhm=>?_) _ ⟨o,b,f,i.push e.born,b,t,q,E,J,O,O,I,λx w=>?_⟩ ⟨o,b,f,i,e,t,q,n.1,I,rfl,rfl⟩ (by simp) (λj Z=>by grind) ?_⟩;grind;rw[Tz,<-L x w];simp only[Array.contains_eq_mem,Array.mem_push,zG];constructor;rintro(h|h);exact .inr h;exact .inl (by rw[H8 I w n.1 h]);rintro(h|h);exact .inr (by rw[My T w n.1 h]);exact .inl h;unfold leftN;rw[t,q,h1,C];refine filter_lt (e:=e) (λx w=>?_) ?_ ?_ _ n.1;simp_all;simp;grind
theorem vn{k v:Value}(H:AO h r m k v)(n:K (.tuple #[k,v]) h):XRun P (VH (.pointer (Td ⟨r,0,Te⟩))) h K:=by obtain⟨l,c,b,f,e,h1,i,o,j,rfl,rfl⟩:=H;intro B d;exact⟨_,d,h,run_entry_at (P:=P) (mk B d h) r m b f l c e h1 i o j,n⟩
theorem GG(j:P.underlying t=Td (.map kt et)){l:List (Value×Value)}(H:MapW h m l):QExec P (Vh #[t] ty #[.map (Td m)]) h (.int .i64 (l.length:Int)):=by
 obtain⟨f,c,h1,e,_⟩:=H;intro B d;have i:=QExec.underlying (h:=h) j B d;have k:=Zq (P:=P) h1 B d;have b:l.length=f.size:=by rw[<-e];simp
 simp[Vh,i,k,goInt,b]
end
end Go.X
end
section
namespace Go.X
open Go Go.X Go.Proofs Go.Lib
section
theorem mapVal:MapT Tp 144 9 25 (.agg #[.int .i64 0,.string ⟨#[]⟩,.slice Te 0 0,.slice Te 0 0]):=⟨by kernel_rfl,by kernel_rfl,⟨Tryz.t25,by kernel_rfl,by kernel_rfl⟩⟩
theorem CJ(k:Bt):∀(ks:List Bt) (us:List Value) (i:Nat),ks.length=us.length->(idxFromS ks k i=-1/\Xp (ks.zip us) k=Te)\/∃j u,idxFromS ks k i=((i+j:Nat):Int)/\us[j]?=Td u/\Xp (ks.zip us) k=Td u
 |[],[],_,_=>.inl ⟨rfl,rfl⟩
 |z::ks,u::us,i,h=>by unfold idxFromS;rw[U7,Xp];by_cases hz:z=k;rw[zA hz];exact .inr ⟨0,u,rfl,rfl,by rw[zA hz]⟩;rw[zv hz,zv hz];rcases CJ k ks us (i+1) (by simpa using h)with h1|⟨j,w,h1,b,c⟩;exact .inl h1;exact .inr ⟨j+1,w,by rw[h1];congr 1;omega,by simpa using b,c⟩
 |[],_::_,_,h=>by simp at h
 |_::_,[],_,h=>by simp at h
theorem wM{l:List (Bt×Value)}{k:Bt}(h:k∉l.map (·.1)):Xp l k=Te:=by
 induction l with
 |nil=>rfl
 |cons p l b=>simp only[TV,Tz,not_or]at h;rw[Xp,zv (λe=>h.1 e.symm),b h.2]
theorem Gg{α β:Type}{xs:List α}{ys:List β}{k:Nat}(b:k<xs.length){u:β}(c:ys.length=k):(xs.take (k+1)).zip (ys++[u])=(xs.take k).zip ys++[(xs[k],u)]:=by rw[Tu b,List.zip_append (by simp;omega)];rfl
set_option maxHeartbeats 1000000 in
theorem wA{v:Tr}(V:v.keys.Nodup)(hl:v.keys.length=v.items.length)(hi:v.items.length<=1000000000000){h:za}{M:Fr}{u:Value}(ag:AgM M h)(T:RdV M .tree v u){K:Value->za->Prop} (Q:∀(h':za) (m:Nat) (us:List Value),Keep h.size h h'->h.size<=m->us.length=v.items.length->(∀i (h1:i<v.items.length) (l:i<us.length),RdV M .tree v.items[i] us[i])->MapW h' m (Qq (v.keys.zip us))->K (.map (Td m)) h'):
  XC Tp 142 #[u] h K:=by
 obtain⟨sk,si,rfl,E,J⟩:=qe T;obtain⟨B,_,_⟩:=rowLen E;obtain⟨li,_,_⟩:=rowLen J;apply Oh v.kind v.text sk si;intro h1;have L:Keep h.size h h1:=Keep.push _ _ (Tm _);have b1:Blk h1 h.size (ze v.kind v.text sk si).toArray:=Blk.new _ _ _;have z1:h1.size=h.size+1:=To _;clear_value h1;refine⟨sk,b1.cellAdd (by rfl),?_⟩;intro c;have D:Keep h1.size h1 c:=Keep.push _ _ (Tm _);have O:MapW c h1.size []:=MapW.new _;have z3:c.size=h1.size+1:=To _;clear_value c;have b3:=b1.ofKeep D;have P:Keep h.size h c:=L.trans D (by omega);refine⟨sk,b3.cellAdd (by rfl),λx g=>∃(k:Nat) (us:List Value),x=(k:Int)/\k<=v.items.length/\us.length=k/\g.size=c.size/\(∀j,j≠h1.size->g[j]?=c[j]?)/\(∀i (h1:i<v.items.length) (l:i<us.length),RdV M .tree v.items[i] us[i])/\MapW g h1.size (Qq ((v.keys.take k).zip us)),λx _=>v.items.length-x.toNat,⟨0,[],rfl,TK _,rfl,rfl,λ_ _=>rfl,λi _ l=>by simp at l,by simpa[Qq]using O⟩,?_⟩;rintro x g ⟨k,us,rfl,hk,n,zg,z,G,y⟩;have C:Keep h.size h g:=⟨by omega,λj t=>by rw[z j (by omega)];exact P.get j t⟩;have agg:=ag.keep C;refine⟨λr=>?_,λr=>?_⟩;have b:k<v.keys.length:=by rw[B]at r;simp at r;omega
 have p:k<v.items.length:=by omega
 refine kR agg E b rfl rfl ?_;have S:Blk g h.size (ze v.kind v.text sk si).toArray:=b3.keep (z _ (by omega));obtain⟨a,F,H,Z,A,N,Y⟩:=Yj agg J p;refine⟨si,S.cellAdd (by rfl),a,⟨Z,by omega,by omega⟩,v.items[k].kind,v.items[k].text,F,H,?_,?_⟩;rw[Tq];exact A;refine FR mapVal y v.keys[k] _ λg' o U w=>?_;rw[yr p (by omega)];refine⟨⟨k+1,us++[.agg #[.int .i64 v.items[k].kind,.string v.items[k].text,aK F,aK H]],rfl,by omega,by simp;omega,by omega,λj t=>(w j t).trans (z j t),λi h1 l=>?_,?_⟩,by simp only[Tq];omega⟩;rw[List.getElem_append];split;rename_i c;exact G i h1 c;rename_i c;have:i=k:=by simp at l;omega
 subst this;simp only[n,Nat.sub_self,List.getElem_cons_zero];exact zu N Y;rw[Gg b n];have f:Xp ((v.keys.take k).zip us) v.keys[k]=Te:=wM λI=>by
  rw[List.map_fst_zip (by simp;omega)]at I;have q:=V;have e:v.keys=v.keys.take k++v.keys[k]::v.keys.drop (k+1):=by rw[<-Uk b,UF]
  rw[e,Vd]at q;exact q.2.2 _ I _ TQ rfl
 rw[Yz f]at o;exact o;have b:k=v.keys.length:=by rw[B]at r;simp at r;omega
 subst b;rw[TN]at y;exact Q g h1.size us C (by omega) (by omega) G y
end
end Go.X
end
section
namespace Go.X
section
theorem Ou(gl:Fr)(b:(List Bt)×List Int)(R:Bool->Prop) (H:PC Tp gl 60 [Arg.mk (.pair (.row .str) (.row (.int .i64))) (b.1,b.2)] [.row (.int .i64),.bool] (λa:(List Int)×Bool=>R a.2)):
  PC Tp gl 21 [Arg.mk (.pair (.row .str) (.row (.int .i64))) b] [.bool] R:=
 PF ⟨[],[],[],[]⟩ [.tmp 2] 11 Tryz.func21 H
theorem Sb(gl:Fr)(f:Tr)(b1:Tr)(R:Bool->Prop) (H:PC Tp gl 83 [Arg.mk .tree (Tr.mk f.kind f.text f.keys f.items)] [.bool] (λa:Bool=>∃b:Bool->Prop,(a=Ta->PC Tp gl 83 [Arg.mk .tree (Tr.mk b1.kind b1.text b1.keys b1.items)] [.bool] b)/\∀c:Bool,(a=Ta->b c)->∃d:Bool->Prop,((bif a then c else Tc)=Ta->PC Tp gl 84 [Arg.mk .tree (Tr.mk f.kind f.text f.keys f.items),Arg.mk .tree (Tr.mk b1.kind b1.text b1.keys b1.items)] [.bool] d)/\∀e:Bool,((bif a then c else Tc)=Ta->d e)->R (bif (bif a then c else Tc)then e else Tc))):
  PC Tp gl 46 [Arg.mk .tree f,Arg.mk .tree b1] [.bool] R:=
 PF ⟨[],[],[],[]⟩ [.tmp 4] 16 Tryz.func46 H
theorem SE(gl:Fr)(b:Tr)(R:Bt->Prop) (H:PC Tp gl 126 [Arg.mk .tree (Tr.mk b.kind b.text b.keys b.items)] [.str,.int .i64] (λa:Bt×Int=>R a.1)):
  PC Tp gl 97 [Arg.mk .tree b] [.str] R:=
 PF ⟨[],[],[],[]⟩ [.tmp 2] 11 Tryz.func97 H
end
end Go.X
end
section
namespace Go.X
open Go Go.Lib
section
variable {v:Tr}
theorem uL(x:Bt):∀(l:List Bt) (i:Nat),(idxFromS l x i=-1/\x∉l)\/∃k:Nat,idxFromS l x i=((i+k:Nat):Int)/\k<l.length/\l[k]?=Td x
 |[],i=>.inl ⟨rfl,by simp⟩
 |z::l,i=>by unfold idxFromS;by_cases h:z=x;rw[zA h];exact .inr ⟨0,rfl,by simp,by simp[h]⟩;rw[zv h];rcases uL x l (i+1)with⟨h1,b⟩|⟨k,h1,b,c⟩;exact .inl ⟨h1,by simp[b];exact λe=>h e.symm⟩;exact .inr ⟨k+1,by rw[h1];congr 1;omega,by simp;omega,by simpa using c⟩
theorem x9{q:Tr->Bool}{v x:Tr}(h:Qp q v=Ta)(b:x∈v.items):Qp q x=Ta:=by rw[xg,TC,je,T7]at h;exact h.2 x b
theorem sY{q:Tr->Bool}(h:Qp q v=Ta):q v=Ta:=by rw[xg,TC]at h;exact h.1
end
section
theorem Hp{v:Tr}(h:we v=Ta):cK v<=4096:=by unfold we Zj at h;simp at h;omega
def zT:Tr:=.mk 0 ⟨#[]⟩ [] []
end
section
def nJ(v:Tr):Bool:=decide (v.kind=0/\lb v.text=[]/\v.keys=[]/\v.items=[])
abbrev dK:=Bt×List Bt×List Bt×Tr
def oR:Bs:=[97,100,100]
def rH:Bs:=[114,101,109,111,118,101]
def Ws:Bs:=[114,101,112,108,97,99,101]
def q7:Bs:=[109,111,118,101]
def vV:Bs:=[99,111,112,121]
def wX:Bs:=[116,101,115,116]
def Jn(s:Bs):Bool×Bool×Bool:=if s=oR\/s=Ws\/s=wX then(Ta,Tc,Ta)else if s=q7\/s=vV then(Tc,Ta,Ta)else(Tc,Tc,decide (s=rH))
def j9(o:dK):Bool:=(Jn (lb o.1)).2.2&&(Z9 o.2.1&&(Z9 o.2.2.1&&(((Jn (lb o.1)).2.1||decide (o.2.2.1=[]))&&(bif (Jn (lb o.1)).1 then zm o.2.2.2 else nJ o.2.2.2))))
mutual
def Za:Tr->Tr->Bool
 |.mk k s ks xs,b=>decide (k=b.kind)&&(decide (s=b.text)&&(decide (xs.length=b.items.length)&&(if k=6 then mo ks xs b else mZ xs b.items)))
def mZ:List Tr->List Tr->Bool
 |[],[]=>Ta
 |x::l,y::m=>Za x y&&mZ l m
 |_,_=>Tc
def mo:List Bt->List Tr->Tr->Bool
 |_,[],_=>Ta
 |[],_::_,_=>Tc
 |k::ks,x::xs,b=>(match b.items[(idxOfS b.keys k).toNat]? with
  |some y=>decide (0<=idxOfS b.keys k)&&Za x y
  |none=>Tc)&&mo ks xs b
end
theorem Ep{v:Tr}(h:zo v=Ta)(b:v.kind=6):v.keys.length=v.items.length:=by unfold zo at h;simp[b]at h;exact h.1.2
end
section
variable {v:Tr}
theorem GU{q:Tr->Bool}(h:q v=Ta)(hi:∀x∈v.items,Qp q x=Ta):Qp q v=Ta:=by rw[xg,h,UQ,je,T7];exact hi
theorem HA(h:zm v=Ta):we v=Ta:=by
 unfold zm at h;unfold we;rw[TC]at h ⊢;refine⟨h.1,?_⟩;have key:∀n (x:Tr),cK x<=n->Qp (λx=>decide (x.kind≠7)&&zo x) x=Ta->Qp zo x=Ta:=by
  intro n;induction n with
  |zero=>intro x f;have:=Qx x;omega
  |succ n e=>intro x f b;have:=sY b;simp at this;refine GU this.2 λy c=>e y (by have:=qq c;omega) (x9 b c)
 exact key _ v (Tm _) h.2
theorem xR(h:we v=Ta):Qp zo v=Ta:=by unfold we at h;rw[TC]at h;exact h.2
end
section
def kV(b:List Bt)(ys:List Tr)(q:Tr->Tr->Bool)(k:Bt)(x:Tr):Bool:=match ys[(idxOfS b k).toNat]? with
 |some y=>decide (0<=idxOfS b k)&&q x y
 |none=>Tc
theorem FQ(b:Tr):∀(ks:List Bt) (xs:List Tr),ks.length=xs.length->mo ks xs b=(ks.zip xs).all λp=>kV b.keys b.items Za p.1 p.2
 |[],[],_=>by simp[mo]
 |k::ks,x::xs,h=>by rw[mo,FQ b ks xs (by simpa using h)];rfl
 |[],_::_,h=>by simp at h
 |_::_,[],h=>by simp at h
theorem Ff:∀(xs ys:List Tr),xs.length=ys.length->mZ xs ys=(xs.zip ys).all λp=>Za p.1 p.2
 |[],[],_=>by simp[mZ]
 |x::xs,y::ys,h=>by rw[mZ,Ff xs ys (by simpa using h)];rfl
 |[],_::_,h=>by simp at h
 |_::_,[],h=>by simp at h
theorem qO(a b:Tr):Za a b=(decide (a.kind=b.kind)&&(decide (a.text=b.text)&&(decide (a.items.length=b.items.length)&&(if a.kind=6 then mo a.keys a.items b else mZ a.items b.items)))):=by cases a;rw[Za]
end
end Go.X
end
section
namespace Go.X
open Go Go.X Go.Proofs Go.Lib
section
variable {gl M:Fr} {F:FuncId} {xs ys:List Tr} {h:za}
theorem MO(hF:zj Tp F=Ta){q:Tr->Tr->Bool}(hp:∀x∈xs,∀y∈ys,PC Tp gl F [Arg.mk .tree x,Arg.mk .tree y] [.bool] (λr=>r=q x y)){s1 s2:Sl}(hM:Fr.le gl M)(ag:AgM M h) (r1:Rd M (.row .tree) xs [aK s1]) (r2:Rd M (.row .tree) ys [aK s2]):
  PX Tp 140 #[aK s1,aK s2,.func (.func F) #[] #[]] h M [.bool] (λr=>r=(decide (xs.length=ys.length)&&(xs.zip ys).all λp=>q p.1 p.2)):=by
 obtain⟨T,n1,_⟩:=rowLen r1;obtain⟨l2,n2,_⟩:=rowLen r2;apply PX.of;apply qh s1 s2 F #[] #[];refine⟨λB=>⟨M,_,Later.refl ag,Qf.2 (rdBool _),?_⟩,λB=>?_⟩;have:¬xs.length=ys.length:=by rw[T,l2]at B;simp at B;omega
 simp[this];have ae:xs.length=ys.length:=by rw[T,l2]at B;simp at B;omega
 refine⟨λi g=>∃(k:Nat) (M':Fr),i=(k:Int)/\k<=xs.length/\Later h M g M'/\((xs.zip ys).take k).all (λp=>q p.1 p.2)=Ta,λi _=>xs.length-i.toNat,⟨0,M,rfl,TK _,Later.refl ag,by simp⟩,?_⟩;rintro i g ⟨k,M',rfl,hk,L,b⟩;refine⟨λC=>?_,λC=>?_⟩;have n:k<xs.length:=by rw[T]at C;simp at C;omega
 have H:k<ys.length:=by omega
 obtain⟨a,G,A,ea,Z,t1,t2⟩:=Yj L.ag (r1.mono L.le) n;refine⟨a,⟨ea,by omega,by omega⟩,xs[k].kind,xs[k].text,G,A,by rw[Tq];exact Z,?_⟩;intro e;have aj:Keep g.size g e:=Keep.push _ _ (Tm _);have ai:Blk e g.size (ze 0 ⟨#[]⟩ ⟨Te,0,0⟩ ⟨Te,0,0⟩).toArray:=Blk.new _ _ _;have al:e.size=g.size+1:=To _;clear_value e;refine jr ai rfl _ _ _ _ λc ab au Y=>?_;have O:Keep g.size g c:=⟨by omega,λj hj=>by rw[Y j (by omega)];exact aj.get j hj⟩;have t:=L.ag.keep O;obtain⟨a2,Q,S,aa,z,t3,t4⟩:=Yj t (r2.mono L.le) H;refine⟨a2,⟨aa,by omega,by omega⟩,ys[k].kind,ys[k].text,Q,S,by rw[Tq];exact z,?_⟩;intro l;have P:Keep c.size c l:=Keep.push _ _ (Tm _);have af:Blk l c.size (ze 0 ⟨#[]⟩ ⟨Te,0,0⟩ ⟨Te,0,0⟩).toArray:=Blk.new _ _ _;have am:l.size=c.size+1:=To _;clear_value l;refine jr af rfl _ _ _ _ λm ah an N=>?_;have u:Blk m g.size (ze xs[k].kind xs[k].text G A).toArray:=(ab.ofKeep P).keep (N _ (by omega));have ak:Keep g.size g m:=⟨by omega,λj hj=>by rw[N j (by omega),P.get j (by omega)];exact O.get j hj⟩;have f:Later h M m M':=L.trans (Later.same L.ag ak);refine⟨xs[k].kind,xs[k].text,G,A,u.ld (cs:=ze xs[k].kind xs[k].text G A),ys[k].kind,ys[k].text,Q,S,ah.ld (cs:=ze ys[k].kind ys[k].text Q S),hF,?_⟩;have o:=(hp xs[k] (TA n) ys[k] (TA H)).px (h:=m) (M:=M') (vs:=[.agg #[.int .i64 xs[k].kind,.string xs[k].text,aK G,aK A],.agg #[.int .i64 ys[k].kind,.string ys[k].text,aK Q,aK S]]) (hM.trans f.le) f.ag (zh (zu t1 t2) (zh (zu t3 t4) zy));refine o.go λw ar E r J D hr=>?_;have hr:r=q xs[k] ys[k]:=hr;subst hr;have I:(xs.zip ys).take (k+1)=(xs.zip ys).take k++[(xs[k],ys[k])]:=by rw[Tu (by simp;omega)];simp
 refine⟨q xs[k] ys[k],Jk D,λhf=>⟨E,_,f.trans J,Qf.2 (rdBool _),?_⟩,λht=>?_⟩;have U:q xs[k] ys[k]=Tc:=by simpa using hf
 have:(xs.zip ys).all (λp=>q p.1 p.2)=Tc:=by rw[List.all_eq_false];exact⟨(xs[k],ys[k]),VK.2 ⟨k,by simp;omega,by simp⟩,by simp[U]⟩
 rw[this,Bool.and_false];have V:q xs[k] ys[k]=Ta:=by simpa using ht
 rw[yr n (by omega)];refine⟨⟨k+1,E,rfl,n,f.trans J,?_⟩,by simp only[Tq];omega⟩;rw[I,VV,b];simp[V];have ac:k=xs.length:=by rw[T]at C;simp at C;omega
 subst ac;refine⟨M',_,L,Qf.2 (rdBool _),?_⟩;rw[UK (by simp;omega)]at b;rw[b];simp[ae]
theorem JU{l:List Bt}(h:l.Nodup){i j:Nat}(hi:i<l.length)(b:j<l.length)(e:l[i]=l[j]):i=j:=by unfold List.Nodup at h;rw[List.pairwise_iff_getElem]at h;rcases Nat.lt_trichotomy i j with h1|h1|h1;exact absurd e (h i j hi b h1);exact h1;exact absurd e.symm (h j i b hi h1)
theorem Dp{a b:Bt}(h:TH a=TH b):a=b:=by injection h
theorem RA(ks:List Bt)(us:List Value)(h:ks.length=us.length):(Qq (ks.zip us)).map (·.1)=ks.map TH:=by
 unfold Qq;rw[T9];have:(ks.zip us).map (λp=>TH p.1)=(ks.zip us).unzip.1.map TH:=by simp
 show(ks.zip us).map (λp=>TH p.1)=_;rw[this,List.unzip_zip h]
theorem Kc{ks:List Bt}(h:ks.Nodup):(ks.map TH).Nodup:=by
 induction ks with
 |nil=>simp
 |cons k ks b=>rw[Ut]at h;rw[TV,Ut];refine⟨λc=>?_,b h.2⟩;obtain⟨x,f,e⟩:=Ub.1 c;exact h.1 (Dp e ▸ f)
set_option maxHeartbeats 2000000 in
theorem H7(hF:zj Tp F=Ta){q:Tr->Tr->Bool}{f l:List Bt}{A o:List Value}(au:f.Nodup)(la:f.length=xs.length)(be:l.length=ys.length)(a6:A.length=xs.length)(a8:o.length=ys.length)(aV:xs.length<=1000000000000/\ys.length<=1000000000000) (hp:∀x∈xs,∀y∈ys,PC Tp gl F [Arg.mk .tree x,Arg.mk .tree y] [.bool] (λr=>r=q x y)) {B m2:Nat} (hM:Fr.le gl M) (ag:AgM M h) (w1:MapW h B (Qq (f.zip A))) (w2:MapW h m2 (Qq (l.zip o))) (ra:∀i (h1:i<xs.length) (h2:i<A.length),RdV M .tree xs[i] A[i]) (rb:∀i (h1:i<ys.length) (h2:i<o.length),RdV M .tree ys[i] o[i]):
  PX Tp 141 #[.map (Td B),.map (Td m2),.func (.func F) #[] #[]] h M [.bool] (λr=>r=(decide (xs.length=ys.length)&&(f.zip xs).all λp=>kV l ys q p.1 p.2)):=by
 apply PX.of;apply zn (Td B) (Td m2) F #[] #[];have L1:(Qq (f.zip A)).length=xs.length:=by unfold Qq;simp;omega
 have E:(Qq (l.zip o)).length=ys.length:=by unfold Qq;simp;omega
 have Q:=GG (P:=Tp) (ty:=3) mapVal.map w1;have O:=GG (P:=Tp) (ty:=3) mapVal.map w2;rw[L1]at Q;rw[E]at O;refine⟨xs.length,Q,ys.length,O,λhx=>⟨M,_,Later.refl ag,Qf.2 (rdBool _),?_⟩,λhx=>?_⟩;have:¬xs.length=ys.length:=by simp at hx;omega
 simp[this];have aQ:xs.length=ys.length:=by simp at hx;omega
 have aT:=w1.lt;have am:=w2.lt;have aS:((Qq (f.zip A)).map (·.1)).Nodup:=by rw[RA _ _ (by omega)];exact Kc au
 refine wc mapVal.map w1 λh4 z4 k4 aP=>⟨Td ⟨h.size,0,Te⟩,rfl,?_⟩;refine⟨λg=>∃dn M',MapIt g h.size B (Qq (f.zip A)) dn/\Later h M g M'/\h.size<g.size/\∀i (h1:i<f.length) (h2:i<xs.length),TH f[i]∈dn->kV l ys q f[i] xs[i]=Ta,λg=>leftN g h.size B,⟨[],M,aP,Later.same ag k4,by omega,λi _ _ hm=>by cases hm⟩,?_⟩;rintro g ⟨dn,M',it,L,zg,an⟩;have kg:=L.keep;refine vh it aS (by omega) (λah=>.inl ⟨rfl,(λZ=>by cases Z),λ_=>⟨M',_,L,Qf.2 (rdBool _),?_⟩⟩) λk u ay hk g1 aO aC z1 f1 ai=>.inr ⟨k,u,rfl,λ_=>?_,λZ=>by cases Z⟩;have aB:((f.zip xs).all λp=>kV l ys q p.1 p.2)=Ta:=by rw[T7];intro p U;obtain⟨i,hi,e⟩:=List.getElem_of_mem U;rw[List.length_zip,Nat.lt_min]at hi;have:=an i hi.1 hi.2 (ah (.string f[i],A[i]) (by unfold Qq;refine Ub.2 ⟨(f[i],A[i]),VK.2 ⟨i,by simp;omega,by simp⟩,rfl⟩));rw[<-e];simpa using this
 rw[aB];simp[aQ]
 ·obtain⟨i,aM,aE,ek,eu⟩:∃i,∃(h1:i<f.length) (h2:i<A.length),k=.string f[i]/\u=A[i]:=by unfold Qq at ay;obtain⟨p,U,e⟩:=Ub.1 ay;obtain⟨i,hi,H⟩:=List.getElem_of_mem U;rw[List.length_zip,Nat.lt_min]at hi;simp at H;injection e with e3 e4;exact⟨i,hi.1,hi.2,by rw[<-e3,<-H],by rw[<-e4,<-H]⟩
  subst ek;subst eu;have ae:i<xs.length:=by omega
  have ar:Keep h.size h g1:=⟨by omega,λj V=>by rw[f1 j (by omega)];exact kg.get j V⟩;have az:AgM M' g1:=λb c e=>by obtain⟨T,mm,H⟩:=L.ag b c e;by_cases hb:b=h.size;subst hb;obtain⟨_,_,_,_,_,e3,_⟩:=it;rw[e3]at H;cases H;exact⟨T,mm,by rw[f1 b hb];exact H⟩
  refine vn aC ⟨_,_,rfl,?_⟩;intro I;have aL:Keep g1.size g1 I:=Keep.push _ _ (Tm _);have aJ:Blk I g1.size (ze 0 ⟨#[]⟩ ⟨Te,0,0⟩ ⟨Te,0,0⟩).toArray:=Blk.new _ _ _;have aZ:I.size=g1.size+1:=To _;clear_value I;obtain⟨ck,ci,eu,t1,t2⟩:=qe (ra i ae aE);rw[eu];refine jr aJ rfl _ _ _ _ λt aI aY aF=>?_;have S:Keep g1.size g1 t:=⟨by omega,λj V=>by rw[aF j (by omega)];exact aL.get j V⟩;have aU:=az.keep S;have aG:MapW t m2 (Qq (l.zip o)):=w2.keep ((S.get _ (by omega)).trans (ar.get _ am));have n:=Z0 mapVal aG.at f[i] Ta;simp only[if_true]at n;obtain⟨y,N,G,hget,t3,t4,hm1⟩:∃(y:Tr) (N G:Sl),iY (l.zip o) f[i] (.agg #[.int .i64 0,.string ⟨#[]⟩,.slice Te 0 0,.slice Te 0 0])=.agg #[.int .i64 y.kind,.string y.text,aK N,aK G]/\RdV M .tree y (.agg #[.int .i64 y.kind,.string y.text,aK N,aK G]) /\
    ((Xp (l.zip o) f[i]).isSome=Ta->y∈ys)/\kV l ys q f[i] xs[i]=((Xp (l.zip o) f[i]).isSome&&q xs[i] y):=by
   rcases CJ f[i] l o 0 (by omega)with⟨g1,g2⟩|⟨j,w,g1,g2,g3⟩;refine⟨zT,⟨Te,0,0⟩,⟨Te,0,0⟩,by unfold iY;rw[g2];rfl,?_,?_,?_⟩;refine zu (v:=zT) ?_ ?_;exact⟨_,rfl,Te,0,rfl,⟨by simp[zT],by simp[zT]⟩,.inl rfl⟩;exact⟨_,rfl,Te,0,rfl,⟨by simp[zT],by simp[zT]⟩,.inl rfl⟩;rw[g2];intro Z;cases Z;rw[g2];unfold kV idxOfS;rw[g1];simp;split;rfl;rfl;obtain⟨V,ej⟩:=T5.1 g2;have ac:j<ys.length:=by omega
   have hr:=rb j ac V;rw[ej]at hr;obtain⟨N,G,ew,t3,t4⟩:=qe hr;refine⟨ys[j],N,G,by unfold iY;rw[g3];exact ew,by rw[<-ew];exact hr,λ_=>TA ac,?_⟩;rw[g3];unfold kV idxOfS;rw[g1];simp[Tv ac]
  rw[hget]at n;refine⟨y.kind,y.text,N,G,(Xp (l.zip o) f[i]).isSome,n,?_⟩;intro J;have al:Keep t.size t J:=Keep.push _ _ (Tm _);have aN:Blk J t.size (ze 0 ⟨#[]⟩ ⟨Te,0,0⟩ ⟨Te,0,0⟩).toArray:=Blk.new _ _ _;have ba:J.size=t.size+1:=To _;clear_value J;refine jr aN rfl _ _ _ _ λm aH a7 aj=>?_;have ak:Blk m g1.size (ze xs[i].kind xs[i].text ck ci).toArray:=(aI.ofKeep al).keep (aj _ (by omega));have z:Keep g1.size g1 m:=⟨by omega,λj V=>by rw[aj j (by omega),al.get j (by omega)];exact S.get j V⟩;have aA:Keep h.size h m:=ar.trans z (by omega);have C:Later h M m M':=⟨aA,L.le,L.old,az.keep z⟩;have af:MapIt m h.size B (Qq (f.zip A)) (.string f[i]::dn):=aO.keep (z.get _ (by omega)) (z.get _ (by omega));have aa:leftN m h.size B<leftN g h.size B:=by rw[leftN.keep (z.get h.size (by omega)) (z.get B (by omega))];exact ai
  refine⟨xs[i].kind,xs[i].text,ck,ci,λ_=>ak.ld (cs:=ze xs[i].kind xs[i].text ck ci),y.kind,y.text,N,G,λ_=>aH.ld (cs:=ze y.kind y.text N G),?_⟩;have ab:kV l ys q f[i] xs[i]=Tc->((f.zip xs).all λp=>kV l ys q p.1 p.2)=Tc:=λhf=>by rw[List.all_eq_false];exact⟨(f[i],xs[i]),VK.2 ⟨i,by simp;omega,by simp⟩,by simp[hf]⟩
  refine⟨λw g2=>∃b M2,w=.bool b/\Later m M' g2 M2/\((Xp (l.zip o) f[i]).isSome=Ta->b=q xs[i] y),λD=>⟨hF,?_⟩,λD=>⟨Ta,Ta,M',rfl,Later.refl C.ag,λZ=>by rw[Z]at D;cases D⟩,λ_ w g2 ⟨b,_,e,_⟩=>⟨b,e⟩,?_⟩;have aD:(Xp (l.zip o) f[i]).isSome=Ta:=by simpa using D
  have Y:=(hp xs[i] (TA ae) y (t4 aD)).px (h:=m) (M:=M') (vs:=[.agg #[.int .i64 xs[i].kind,.string xs[i].text,aK ck,aK ci],.agg #[.int .i64 y.kind,.string y.text,aK N,aK G]]) (hM.trans C.le) C.ag (zh (RdV.mono L.le (zu t1 t2)) (zh (RdV.mono L.le t3) zy));exact Y.go λw g2 M2 r E ax hr=>⟨r,Jk ax,r,M2,rfl,E,λ_=>hr⟩;rintro b g2 ⟨b',M2,e,E,hb⟩;cases e;refine⟨λhf=>⟨M2,_,C.trans E,Qf.2 (rdBool _),?_⟩,λht=>⟨⟨_,M2,af.keep (E.keep.get _ (by omega)) (E.keep.get _ (by omega)),C.trans E,by have:=E.keep.size;omega,λi2 h1 h2 hm=>?_⟩,?_⟩⟩;have:kV l ys q f[i] xs[i]=Tc:=by
   rw[hm1];cases D:(Xp (l.zip o) f[i]).isSome with
   |false=>rfl
   |true=>rw[D]at hf;rw[<-hb D];simpa using hf
  rw[ab this,Bool.and_false];rcases Tz.1 hm with e|hm;have H:=Dp e;have:i2=i:=JU au h1 aM H;subst this;rw[hm1];cases D:(Xp (l.zip o) f[i2]).isSome with
  |false=>rw[D]at ht;simp at ht
  |true=>rw[D]at ht;rw[<-hb D];simpa using ht
  exact an i2 h1 h2 hm;show leftN g2 h.size B<leftN g h.size B;rw[leftN.keep (E.keep.get h.size (by omega)) (E.keep.get B (by omega))];exact aa
end
end Go.X
end
section
namespace Go.X
section
theorem OK(gl:Fr)(h:List (Bt×(List Bt)×(List Bt)×Tr))(R:(List Bt)->Prop) (H:∃(a:(List Bt)->Int->Prop) (b:(List Bt)->Int->Nat),a [] 0/\∀c:List Bt,∀d:Int,a c d->((decide (d<h.length)=Ta->∃e:Bt×(List Bt)×(List Bt)×Tr,(0<=d/\h[d.toNat]?=Td e)/\PC Tp gl 75 [Arg.mk (.row .str) e.2.1] [.str,.int .i64] (λf:Bt×Int=>((c.length+Uw ([f.1]:List Bt))*16<=140737488355328/\(a (c++[f.1]) (Tj .i64 (d+1))/\b (c++[f.1]) (Tj .i64 (d+1))<b c d))))/\(decide (d<h.length)=Tc->R c))):
  PC Tp gl 41 [Arg.mk (.row (.pair .str (.pair (.row .str) (.pair (.row .str) .tree)))) h] [.row .str] R:=
 PF ⟨[],[],[(3,⟨[(3,.one (.own 9 .str)),(10,.one (.dat (.int .i64)))],[],[],[100192,100640]⟩)],[]⟩ [.tmp 2] 26 Tryz.func41 H
theorem H9(gl:Fr)(h:Bt×(List Bt)×(List Bt)×Tr)(R:Bool->Prop) (H:PC Tp gl 77 [Arg.mk .str h.1] [.bool,.bool,.bool] (λa:Bool×Bool×Bool=>∀b:Bool->Prop,(∀c:Bool,((c=Ta->R Tc)/\(c=Tc->(a.1=Ta->PC Tp gl 49 [Arg.mk .tree (Tr.mk h.2.2.2.kind h.2.2.2.text h.2.2.2.keys h.2.2.2.items)] [.bool] (λd:Bool=>R d))/\(a.1=Tc->PC Tp gl 79 [Arg.mk .tree (Tr.mk h.2.2.2.kind h.2.2.2.text h.2.2.2.keys h.2.2.2.items)] [.bool] (λe:Bool=>R e))))->b c)->((!a.2.2)=Ta->b (!a.2.2))/\((!a.2.2)=Tc->PC Tp gl 78 [Arg.mk (.row .str) h.2.1] [.bool] (λf:Bool=>((!f)=Ta->b (!f))/\((!f)=Tc->PC Tp gl 78 [Arg.mk (.row .str) h.2.2.1] [.bool] (λg:Bool=>((!g)=Ta->b (!g))/\((!g)=Tc->b (bif (!a.2.1)then(decide ((h.2.2.1.length:Int)>0))else Tc)))))))):
  PC Tp gl 44 [Arg.mk (.pair .str (.pair (.row .str) (.pair (.row .str) .tree))) h] [.bool] R:=
 PF ⟨[],[],[],[(6,⟨[(13,.one (.dat .bool))],[],[1],[100832]⟩)]⟩ [.tmp 2] 40 Tryz.func44 H
theorem KE(gl:Fr)(c:Bt)(R:(Bool×Bool×Bool)->Prop) (H:∀a:Bool->Prop,(∀b:Bool,((b=Ta->R (Ta,Tc,Ta))/\(b=Tc->((c.toList==(⟨#[109,111,118,101]⟩:Bt).toList)=Ta->((c.toList==(⟨#[109,111,118,101]⟩:Bt).toList)=Ta->R (Tc,Ta,Ta))/\((c.toList==(⟨#[109,111,118,101]⟩:Bt).toList)=Tc->R (Tc,Tc,(c.toList==(⟨#[114,101,109,111,118,101]⟩:Bt).toList))))/\((c.toList==(⟨#[109,111,118,101]⟩:Bt).toList)=Tc->((c.toList==(⟨#[99,111,112,121]⟩:Bt).toList)=Ta->R (Tc,Ta,Ta))/\((c.toList==(⟨#[99,111,112,121]⟩:Bt).toList)=Tc->R (Tc,Tc,(c.toList==(⟨#[114,101,109,111,118,101]⟩:Bt).toList))))))->a b)->((c.toList==(⟨#[97,100,100]⟩:Bt).toList)=Ta->a (c.toList==(⟨#[97,100,100]⟩:Bt).toList))/\((c.toList==(⟨#[97,100,100]⟩:Bt).toList)=Tc->((c.toList==(⟨#[114,101,112,108,97,99,101]⟩:Bt).toList)=Ta->a (c.toList==(⟨#[114,101,112,108,97,99,101]⟩:Bt).toList))/\((c.toList==(⟨#[114,101,112,108,97,99,101]⟩:Bt).toList)=Tc->a (c.toList==(⟨#[116,101,115,116]⟩:Bt).toList)))):
  PC Tp gl 77 [Arg.mk .str c] [.bool,.bool,.bool] R:=
 PF ⟨[],[],[],[(5,⟨[(6,.one (.dat .bool))],[],[],[100384]⟩)]⟩ [.tmp 2,.tmp 3,.tmp 4] 15 Tryz.func77 H
theorem Sz(gl:Fr)(b:Tr)(R:Bool->Prop) (H:R (bif (bif (b.kind==0)then(b.text.toList==(⟨#[]⟩:Bt).toList)else Tc)then((Tj .i64 ((b.keys.length:Int)+(b.items.length:Int)))==0)else Tc)):
  PC Tp gl 79 [Arg.mk .tree b] [.bool] R:=
 PF ⟨[],[],[],[]⟩ [.tmp 2] 21 Tryz.func79 H
theorem Hi(gl:Fr)(c:List Bt)(R:Bt->Prop) (H:PC Tp gl 75 [Arg.mk (.row .str) c] [.str,.int .i64] (λa:Bt×Int=>PC Tp gl 125 [Arg.mk .str a.1] [.str,.int .i64] (λb:Bt×Int=>R b.1))):
  PC Tp gl 124 [Arg.mk (.row .str) c] [.str] R:=
 PF ⟨[],[],[],[]⟩ [.tmp 2] 18 Tryz.func124 H
theorem Se(gl:Fr)(h:List Tr)(R:((List ((List Bt)×List Int))×Int)->Prop) (H:∃(a:Int->Prop) (b:Int->Nat),a 0/\∀c:Int,a c->((decide (c<h.length)=Ta->∃d,(0<=c/\h[c.toNat]?=Td d)/\PC Tp gl 49 [Arg.mk .tree (Tr.mk d.kind d.text d.keys d.items)] [.bool] (λe:Bool=>((!e)=Ta->R ([],1))/\((!e)=Tc->(a (Tj .i64 (c+1))/\b (Tj .i64 (c+1))<b c))))/\(decide (c<h.length)=Tc->(decide ((h.length:Int)>64)=Ta->R ([],6))/\(decide ((h.length:Int)>64)=Tc->∃(f:(List ((List Bt)×List Int))->Int->Int->Prop) (g:(List ((List Bt)×List Int))->Int->Int->Nat),f [] 512 0/\∀i:List ((List Bt)×List Int),∀j k:Int,f i j k->((decide (k<h.length)=Ta->∃l,(0<=k/\h[k.toNat]?=Td l)/\PC Tp gl 14 [Arg.mk .tree (Tr.mk l.kind l.text l.keys l.items)] [.pair (.row .str) (.row (.int .i64)),.int .i64] (λm:((List Bt)×List Int)×Int=>((bif (m.2 != 0)then Ta else(decide ((Tj .i64 (j-(m.1.1.length:Int)))<0)))=Ta->R ([],6))/\((bif (m.2 != 0)then Ta else(decide ((Tj .i64 (j-(m.1.1.length:Int)))<0)))=Tc->((i.length+Uw ([(m.1.1,m.1.2)]:List ((List Bt)×List Int)))*48<=140737488355328/\(f (i++[(m.1.1,m.1.2)]) (Tj .i64 (j-(m.1.1.length:Int))) (Tj .i64 (k+1))/\g (i++[(m.1.1,m.1.2)]) (Tj .i64 (j-(m.1.1.length:Int))) (Tj .i64 (k+1))<g i j k)))))/\(decide (k<h.length)=Tc->R (i,0))))))):
  PC Tp gl 182 [Arg.mk (.row .tree) h] [.row (.pair (.row .str) (.row (.int .i64))),.int .i64] R:=
 PF ⟨[],[],[(2,⟨[(14,.one (.dat (.int .i64)))],[],[],[100896]⟩),(12,⟨[(6,.one (.own 31 (.pair (.row .str) (.row (.int .i64))))),(7,.one (.dat (.int .i64))),(27,.one (.dat (.int .i64)))],[],[],[100384,100448,101728]⟩)],[]⟩ [.tmp 2,.tmp 3] 53 Tryz.func182 H
end
end Go.X
end
section
namespace Go.X
open Go Go.X Go.Proofs Go.RowKit
section
variable {b:Nat} {h h':za} {ln:Bool} {nd:Int} {l:Bs} {K:Value -> za -> Prop}
def nU(o:Obj):Bool:=match o with
 |.cells _ T _=>!(Nat.beq T 5) && !(Nat.beq T 207)
 |_=>Ta
def Otk(h h':za):Prop:=∀(i:Nat) (o:Obj),h[i]?=Td o->nU o=Ta->h'[i]?=Td o
theorem Otk.trans{a b c:za}(x:Otk a b)(y:Otk b c):Otk a c:=λi o e n=>y i o (x i o e n) n
theorem Otk.keep(k:Keep h.size h h'):Otk h h':=λi o e _=>by have hi:i<h.size:=(TD.1 e).1;rw[k.get i hi];exact e
theorem Otk.ne{cs:Array Value}{m:Nat×Nat}(e:h[b]?=Td (.cells cs 207 m))(f:∀i,i≠b->h'[i]?=h[i]?):Otk h h':=λi o c n=>by by_cases hi:i=b;subst hi;rw[e]at c;cases c;cases n;rw[f i hi];exact c
theorem Otk.own{base:Nat}{sz:Nat}{s:Sl}{xs:List Value}(H:Owns h base 5 sz s xs)(f:∀i,i<h.size->(∀p,s.a=Td p->i≠p.block)->h'[i]?=h[i]?):Otk h h':=λi o c n=>by have hi:i<h.size:=(TD.1 c).1;rw[f i hi λq l k=>?_];exact c;rcases H.2 with⟨b,_⟩|⟨g,cap,e,b,_,j,_⟩;rw[l]at b;cases b;have j:h[g]?=Td (.cells e 5 (0,0)):=j;rw[l]at b;injection b with e1 _ _;injection e1 with e1;rw[k,e1]at c;rw[j]at c;cases c;cases n
theorem JM:liesAt Tp T6.depth 207 (4 / T6.cellsOf 207) 0 89 1=Ta:=by kernel_rfl
def Prn(h:za)(b:Nat)(ln:Bool)(nd:Int)(l:Bs):Prop:=∃(p:Option Addr) (s:Sl),h[b]?=Td (.cells #[.pointer p,aK s,.bool ln,.int .i64 nd] 207 (0,0))/\(p=Te\/p=Td ⟨b,0,Te⟩)/\Owns h (b+1) 5 1 s (Lib.byteCells l)
theorem Prn.lt(H:Prn h b ln nd l):b<h.size:=by obtain⟨p,s,e,_⟩:=H;rcases Up b h.size with q|q;exact q;rw[Array.getElem?_eq_none q]at e;cases e
theorem Prn.keep(H:Prn h b ln nd l)(k:Keep h.size h h'):Prn h' b ln nd l:=by have c:=H.lt;obtain⟨p,s,e,f,i⟩:=H;exact⟨p,s,by rw[k.get b c];exact e,f,i.keepN k⟩
theorem Prn.new(h:za)(ln:Bool)(nd:Int):Prn (h.push (.cells #[.pointer Te,.slice Te 0 0,.bool ln,.int .i64 nd] 207)) h.size ln nd []:= ⟨Te,⟨Te,0,0⟩,qj _ _,.inl rfl,Owns.nil _ _ _ _⟩
set_option maxHeartbeats 1000000 in
set_option maxRecDepth 100000 in
theorem Lj(b:Nat)(w:World)(h0:w.cell? ⟨b,0,Te⟩=Td (.pointer Te))(c:w.shape? b=Td (207,4))(i:w.frozen? ⟨b,0,Te⟩=Tc):
  Calls Tp 123 #[.pointer (Td ⟨b,0,Te⟩)] w λe w'=>e=.returned (.tuple #[])/\w'=w.setCell ⟨b,0,Te⟩ (.pointer (Td ⟨b,0,Te⟩)):=by
 obtain⟨j,h,f⟩:=U1.1 uE;have mixed:=Tryz.mixed
 go_enter Tryz.func123,Tryz.ntmps123
 go_wp2
 rw[Lib.run_to_unsafe w ⟨b,0,Te⟩ pq s5 h (by rw[f];decide) c (Nat.zero_lt_succ 3)];simp only[Result.andThen];rw[Oper.upon_value]
 go_wp2
 rw[run_callFunc_extern Tryz.func195 (by kernel_rfl) (by kernel_rfl) (by kernel_rfl) (e:=WB) (by kernel_rfl)];rw[Lib.run_noEscape];simp only[Result.andThen];rw[Oper.upon_value]
 go_wp2
 rw[Lib.run_from_unsafe w ⟨b,0,Te⟩ s5 pq h c JM];simp only[Result.andThen];rw[Oper.upon_value]
 go_wp2
 go_end0
 exact⟨rfl,rfl⟩
theorem Dz(H:Prn h b ln nd l)(k:∀h',Prn h' b ln nd l->Keep b h h'->h'.size=h.size->Otk h h'->K (.tuple #[]) h'):XC Tp 123 #[.pointer (Td ⟨b,0,Te⟩)] h K:=by
 have j:=H.lt;obtain⟨p,s,e,m,f⟩:=H;have c:∀B d,(mk B d h).cell? ⟨b,0,Te⟩=Td (.pointer p):=λB d=>by have:(mk B d h).heap[b]?=Td (.cells #[.pointer p,aK s,.bool ln,.int .i64 nd] 207 (0,0)):=e;simp[World.cell?,this]
 rcases m with rfl|rfl;refine XC.of_calls λB d=>(Lj b (mk B d h) (c B d) ?_ ?_).mono ?_
 have:(mk B d h).heap[b]?=Td (.cells #[.pointer Te,aK s,.bool ln,.int .i64 nd] 207 (0,0)):=e;simp[World.shape?,this];exact xY ⟨_,e⟩ B d;rintro e' w' ⟨rfl,rfl⟩;rw[Ag e];refine⟨_,rfl,rfl,rfl,rfl,?_⟩;show K _ (h.setIfInBounds b _);refine k _ ⟨_,s,?_,.inr rfl,?_⟩ ?_ (by simp) (Otk.ne e λi hi=>Uo (Ne.symm hi));rw[UW j];rfl;refine f.keep λq n=>?_;have:=f.base_le q n;rw[Uo (by omega)];exact Keep.setBlk _ (Tm _);refine XC.of_calls λB d=>(A7 b (mk B d h) (c B d)).mono ?_;rintro e' w' ⟨rfl,rfl⟩;exact⟨_,rfl,rfl,rfl,rfl,k _ ⟨_,s,e,.inr rfl,f⟩ (Keep.refl _ _) rfl (Otk.keep (Keep.refl _ _))⟩
theorem An{p:Option Addr}{s t:Sl}(e:h[b]?=Td (.cells #[.pointer p,aK t,.bool ln,.int .i64 nd] 207 (0,0)))(k:p=Te\/p=Td ⟨b,0,Te⟩)(i:Owns h (b+1) 5 1 s (Lib.byteCells l)){K:za->Prop}
  (r:∀h',Prn h' b ln nd l->Keep b h h'->h'.size=h.size->Otk h h'->K h'):XRunU Tp (Tt 87 (.pointer (Td ⟨b,1,Te⟩)) (.slice s.a s.len s.cap)) h K:=by
 intro B d;obtain⟨h',n,j,f,c⟩:=Z6 (P:=Tp) CF Bn e (o:=1) (v:=aK s) rfl (by simp) (by simp[aK,Value.cells,Value.oneCell']) B d;refine⟨d,h',n,r h' ⟨p,s,?_,k,?_⟩ (Keep.ne f c) f (Otk.ne e c)⟩;rw[j];rfl;refine i.keep λq m=>?_;have:=i.base_le q m;exact c _ (by omega)
theorem Zs(H:Prn h b ln nd l)(T:l.length<140737488355328)(c:UInt8)(P:∀h',Prn h' b ln nd (l++[c])->Keep b h h'->Otk h h'->K .nilIface h'):
  XC Tp 133 #[.pointer (Td ⟨b,0,Te⟩),.int .u8 (c.toNat:Int)] h K:=by
 apply y5;refine Dz H λf B k2 Y F=>⟨rfl,_,rfl,?_⟩;have x:=B.lt;obtain⟨p,s,e,Q,t⟩:=B;have m:=t.1;rw[Lib.byteCells_length,Uj]at m;refine⟨s,Blk.cellAdd (o:=0) (k:=1) (cs:=#[.pointer p,aK s,.bool ln,.int .i64 nd]) ⟨_,e⟩ rfl,?_⟩;intro j;have r:Keep f.size f j:=Keep.push _ _ (Tm _);have U:j.size=f.size+1:=To _;have b5:Blk j f.size #[.int .u8 (c.toNat:Int)]:=Blk.new _ _ _;have D:j[b]?=Td (.cells #[.pointer p,aK s,.bool ln,.int .i64 nd] 207 (0,0)):=by rw[r.get b x];exact e
 have A:=t.keepN r;clear_value j;refine xb rL A (src:=⟨Td ⟨f.size,0,Te⟩,1,1⟩) (news:=[.int .u8 (c.toNat:Int)]) (n:=j.size) ?_ rfl (by simp[Value.oneCell']) (by simp only;omega) (by simp only;omega) (by omega) λC z Z I u q4 S=>⟨C,rfl,_,rfl,?_⟩;refine .inr ⟨f.size,0,rfl,by omega,λi v w=>?_⟩
 match i,w with
 |0,w=>cases w;exact b5.cell rfl
 have M:z[b]?=Td (.cells #[.pointer p,aK s,.bool ln,.int .i64 nd] 207 (0,0)):=by rw[u b (by omega) λq y=>by have:=t.base_le q y;omega];exact D
 have E:Owns z (b+1) 5 1 C (Lib.byteCells (l++[c])):=by
  have:Lib.byteCells (l++[c])=Lib.byteCells l++[.int .u8 (c.toNat:Int)]:=by unfold Lib.byteCells;rw[Ug];rfl
  rw[this];exact I
 have G:Keep b h z:=k2.trans ⟨by omega,λi hi=>by rw[u i (by omega) λq y=>by have:=t.base_le q y;omega];exact r.get i (by omega)⟩ (Tm _);refine An M Q E λO J L V N=>P O J (G.trans L (Tm _)) (F.trans ((Otk.keep r).trans ((Otk.own A u).trans N)))
theorem Qr(H:Prn h b ln nd l)(t:Bs)(hl:l.length+t.length<=140737488355328)(N:∀h',Prn h' b ln nd (l++t)->Keep b h h'->Otk h h'->K (.tuple #[.int .i64 (t.length:Int),.nilIface]) h'):
  XC Tp 68 #[.pointer (Td ⟨b,0,Te⟩),.string (bl t)] h K:=by
 apply yg;refine Dz H λC z k2 U F=>⟨rfl,_,rfl,?_⟩;have A:=z.lt;obtain⟨p,s,e,Q,j⟩:=z;have f:=j.1;rw[Lib.byteCells_length,Uj]at f;refine⟨s,Blk.cellAdd (o:=0) (k:=1) (cs:=#[.pointer p,aK s,.bool ln,.int .i64 nd]) ⟨_,e⟩ rfl,?_⟩;have c:=zt t;refine Xe rL j (x:=.string (bl t)) (m:=(bl t).size) (news:=Lib.byteCells t) (λB d=>?_) (by rw[c];omega) (by rw[c];omega) (by omega) λy u V S r Z Y=>⟨y,rfl,_,rfl,?_⟩;have:=Src.ofString (P:=Tp) (w:=mk B d C) GA (bl t);have O:byteCells (bl t)=Lib.byteCells t:=by unfold byteCells Lib.byteCells;have:(bl t).data.toList=t:=j4 t;rw[this]
 rw[O]at this;exact this;have I:u[b]?=Td (.cells #[.pointer p,aK s,.bool ln,.int .i64 nd] 207 (0,0)):=by rw[r b (by omega) λq n=>by have:=j.base_le q n;omega];exact e
 have D:Owns u (b+1) 5 1 y (Lib.byteCells (l++t)):=by
  have:Lib.byteCells (l++t)=Lib.byteCells l++Lib.byteCells t:=by unfold Lib.byteCells;rw[Ug]
  rw[this];exact S
 have J:Keep b h u:=k2.trans ⟨by omega,λi hi=>r i (by omega) λq n=>by have:=j.base_le q n;omega⟩ (Tm _);refine An I Q D λM E G T L=>?_;rw[c];exact N M E (J.trans G (Tm _)) (F.trans ((Otk.own j r).trans L))
theorem G3(b:Nat)(p:Value)(ln:Bool)(nd:Int)(v:Value)(l:Bs)(w:World)(n:w.heap[b]?=Td (.cells #[p,v,.bool ln,.int .i64 nd] 207 (0,0)))(f:w.ownsRow (b+1) 5 1 v l.length (Lib.byteCells l))(h0:l≠[]):
  Calls Tp 70 #[.pointer (Td ⟨b,0,Te⟩)] w λe w'=>e=.returned (.string ⟨l.toArray⟩)/\Below (b+1) w w':=by
 have h:l.length≠0:=by simpa using h0
 obtain⟨g,cap,c,rfl,k,t,y,q,z,m⟩:∃g cap c,v=.slice (Td ⟨g,0,Te⟩) l.length cap/\b+1<=g/\w.heap[g]?=Td (.cells c 5 (0,0))/\_:=by rcases f.2 with⟨_,hz⟩|⟨g,cap,c,B,r⟩;exact absurd hz h;exact⟨g,cap,c,B,r⟩
 have c1:w.drew.cell? ⟨b,1,Te⟩=Td (.slice (Td ⟨g,0,Te⟩) l.length cap):=by have:w.drew.heap[b]?=Td (.cells #[p,.slice (Td ⟨g,0,Te⟩) l.length cap,.bool ln,.int .i64 nd] 207 (0,0)):=n;rw[Lib.cell_of_heap this];rfl
 have u:(Builtin.unsafeSliceData_ #[87] 133 #[.slice (Td ⟨g,0,Te⟩) l.length cap]).run Tp w.drew=.ok (.pointer (Td ⟨g,0,Te⟩)) w.drew:= Lib.run_unsafeSliceData_row _ _ _ _ _ _ (by omega);have o:(Builtin.unsafeString_ #[133,3] 9 #[.pointer (Td ⟨g,0,Te⟩),.int .i64 l.length]).run Tp w.drew=.ok (.string ⟨l.toArray⟩) (w.drew.freeze ⟨g,0,Te⟩ l.length):=by refine Lib.run_unsafeString_row w.drew 133 3 9 5 Tryz.underlying133 (by kernel_rfl) g c.size (by have i:w.drew.heap[g]?=Td (.cells c 5 (0,0)):=t;simp[World.shape?,i]) l h0 (by omega) (by have:maxLen=9223372036854775807:=rfl;omega) ?_;intro j x A;have:=f.cells (g:=g) rfl j (.int .u8 x.toNat) (by simp[Lib.byteCells,A]);exact this
 have mixed:=Tryz.mixed
 go_enter Tryz.func70,Tryz.ntmps70
 go_wp2
 go_region_o
 all_goals (go_wp2;go_ret;exact⟨rfl,Lib.below_freeze (Below.drew (Below.refl (b+1) w)) (p:=⟨g,0,Te⟩) k _⟩)
theorem Hu(H:Prn h b ln nd l)(h0:l≠[])(k:∀h',Keep b h h'->K (.string (bl l)) h'):XC Tp 70 #[.pointer (Td ⟨b,0,Te⟩)] h K:=by obtain⟨p,s,e,m,j⟩:=H;have f:=j.1;rw[Lib.byteCells_length,Uj]at f;refine XC.of_calls λB d=>(G3 b (.pointer p) ln nd (aK s) l (mk B d h) e (by rw[f];exact j) h0).mono ?_;rintro e' w' ⟨rfl,c⟩;exact⟨_,rfl,c.os,c.tape,c.output,k _ ⟨c.size,λi hi=>c.block i (by omega)⟩⟩
end
end Go.X
end
section
namespace Go.X
open Go Go.Lib
section
def r7(r:Nat):Prop:=r<55296\/(57344<=r/\r<=1114111)
theorem Bv{x:Int}(h0:0<=x)(h1:x<256):(x.toNat.toUInt8).toNat=x.toNat:=by simp_all
theorem IN(l:Bs):r7 (dec l).1:=by have h0:=(l.getD 0 0).toNat_lt;have h1:=(l.getD 1 0).toNat_lt;have c:=(l.getD 2 0).toNat_lt;have b:=(l.getD 3 0).toNat_lt;unfold r7 dec decodeN;grind
def iu(x:Tr):Bool:=decide (x.kind≠7)&&zo x
mutual
theorem un{p q:Tr->Bool}(h:∀x,p x=Ta->q x=Ta):∀v:Tr,Qp p v=Ta->Qp q v=Ta
 |.mk k s ks xs,hv=>by rw[Qp,TC]at hv ⊢;exact⟨h _ hv.1,De h xs hv.2⟩
theorem De{p q:Tr->Bool}(h:∀x,p x=Ta->q x=Ta):∀l:List Tr,lN p l=Ta->lN q l=Ta
 |[],_=>rfl
 |x::l,hl=>by rw[lN,TC]at hl ⊢;exact⟨un h x hl.1,De h l hl.2⟩
end
end
section
theorem M1(a b:Bs):iq (a++b)=iq a++iq b:=by unfold iq;rw[Vm]
theorem PO(c:UInt8):(mN c).length<=6:=by
 unfold mN;repeat' split
 all_goals simp
theorem v9:∀l:Bs,(iq l).length<=6*l.length
 |[]=>by simp[iq]
 |c::l=>by have:=v9 l;have h1:=PO c;have e:iq (c::l)=mN c++iq l:=rfl;rw[e,Ts,TI];omega
theorem QJ{c:UInt8}(h:128<=c.toNat):mN c=[c]:=by
 have ne:∀n:Nat,n<128->c≠Vj n:=λn b e=>by rw[e,UInt8.toNat_ofNat']at h;omega
 unfold mN;rw[zv (by rintro(e|e);exact ne 34 (by omega) e;exact ne 92 (by omega) e),zv (show¬c=8 from ne 8 (by omega)),zv (show¬c=12 from ne 12 (by omega)),zv (show¬c=10 from ne 10 (by omega)),zv (show¬c=13 from ne 13 (by omega)),zv (show¬c=9 from ne 9 (by omega)),zv (by omega)]
theorem EX:∀{l:Bs},(∀c∈l,128<=c.toNat)->iq l=l
 |[],_=>rfl
 |c::l,h=>by have e:iq (c::l)=mN c++iq l:=rfl;rw[e,QJ (h c TQ),EX λx b=>h x (TS _ b)];rfl
theorem OH{r:Nat}(h:r7 r)(j:128<=r):∀c∈encodeRune (r:Int),128<=c.toNat:=by
 unfold r7 at h;intro c i;unfold encodeRune at i;obtain⟨x,b,rfl⟩:=Ub.1 i;have key:∀y:Int,x=y->128<=y->y<256->128<=x.toNat.toUInt8.toNat:=λy e h1 f=>by subst e;rw[Bv (by omega) f];omega
 by_cases f:r<=2047;rw[encodeRuneZ_two (by omega) (by omega)]at b;simp only[Tz,List.not_mem_nil,or_false]at b;rcases b with e|e <;> exact key _ e (by omega) (by omega);by_cases k:r<=65535;rw[encodeRuneZ_three (by omega)]at b;simp only[Tz,List.not_mem_nil,or_false]at b;rcases b with e|e|e <;> exact key _ e (by omega) (by omega);rw[encodeRuneZ_four (by omega) (by omega)]at b;simp only[Tz,List.not_mem_nil,or_false]at b;rcases b with e|e|e|e <;> exact key _ e (by omega) (by omega)
def jF(r:Nat):Nat:=if r=34\/r=92 then r else if r=8 then 98 else if r=12 then 102 else if r=10 then 110 else if r=13 then 114 else if r=9 then 116 else 0
def uk(k:Nat):UInt8:=Vj (if k<10 then 48+k else 87+k)
def ox(r:Nat):Bs:=if jF r≠0 then [92,Vj (jF r)]else if 32<=r then encodeRune (r:Int)else [92,117,48,48,Vj (48+r / 16),uk (r % 16)]
theorem Oa:(TZ 128).all (λk=>decide (mN (Vj k)=ox k))=Ta:=by kernel_rfl
theorem KS{l:Bs}(h:l≠[])(j:jL (dec l)=Tc):iq (l.take (dec l).2)=ox (dec l).1:=by
 by_cases f:(dec l).1<128;obtain⟨c,t,rfl⟩:=Vb h;have k:c.toNat<128:=by
  rcases Up c.toNat 128 with h1|h1;exact h1;exfalso;have b:=Ex h j;have p:=(Yk (c::t)).1;have o:encodeRune ((dec (c::t)).1:Int)=[((dec (c::t)).1:Int).toNat.toUInt8]:=by unfold encodeRune;rw[encodeRuneZ_one (by omega) (by omega)];rfl
  obtain⟨n,i⟩:∃n,(dec (c::t)).2=n+1:=⟨(dec (c::t)).2-1,by omega⟩;rw[o,i,Vv]at b;injection b with b _;rw[<-b,Bv (by omega) (by omega)]at h1;omega
 rw[sZ k]at f ⊢;have:=T7.1 Oa c.toNat (Ui.2 k);have:=zH this;rw[UInt8.ofNat_toNat]at this;rw[<-this];simp[iq];have f:128<=(dec l).1:=by omega
 have e:=Ex h j;have m:jF (dec l).1=0:=by unfold jF;rw[zv (by omega),zv (by omega),zv (by omega),zv (by omega),zv (by omega),zv (by omega)]
 unfold ox;rw[zv (by rw[m];exact λh=>h rfl),zA (by omega),<-e];exact EX (OH (IN l) f)
end
end Go.X
end
section
namespace Go.X
open Go Go.X Go.Proofs Go.RowKit
section
variable {h:za} {it:Nat} {K:Value -> za -> Prop} {gl:Fr} {t:Bs}
theorem Lq{P:Program}{s:Bt}{p:Nat}(e:h[it]?=Td (.stringIter s p)){T:TypeId}(h1:p<s.size->K (.tuple #[.bool Ta,.int .i64 (p:Int),.int .i32 (jO s p)]) (h.setIfInBounds it (.stringIter s (iA s p))))
  (h0:s.size<=p->K (.tuple #[.bool Tc]) h):XRun P (Vn (.pointer (Td ⟨it,0,Te⟩)) Ta T) h K:=by
 have f:∀(w:World),w.heap[it]?=Td (.stringIter s p)->(getObj it).run P w=.ok (.stringIter s p) w:=λw e=>by simp[getObj,Sem.run,e]
 have i:∀(w:World) (c:Obj),w.heap[it]?=Td (.stringIter s p)->(setObj it c).run P w=.ok () { w with heap:=w.heap.setIfInBounds it c }:=λw c e=>by simp[setObj,Sem.run,e]
 intro B d;by_cases b:p<s.size;have k:iH s p=Ta:=by simpa[iH,V1]using b
 have j:iA s p=p+(V9 s p).2:=by unfold iA;rw[show Nat.blt p s.size=Ta from k];rfl
 refine⟨_,d,_,?_,h1 b⟩;unfold Vn;simp only;rw[Sem.run_bind,f (mk B d h) e];simp only[Result.andThen_ok,b,if_true];rw[Sem.run_bind,i (mk B d h) _ e,j];rfl;refine⟨_,d,h,?_,h0 (by omega)⟩;unfold Vn;simp only;rw[Sem.run_bind,f (mk B d h) e];simp only[Result.andThen_ok,b,if_false];rfl
theorem Bld.other{h h':za}{b:Nat}{l:Bs}(H:Bld h b l){s:Bt}{p:Nat}(e:h[it]?=Td (.stringIter s p))(f:∀i,i≠it->h'[i]?=h[i]?):Bld h' b l:=by obtain⟨q,r,n,u,o⟩:=H;refine⟨q,r,?_,u,o.keep λa t=>?_⟩;rw[f b (λc=>by rw[c,e]at n;cases n)];exact n;refine f _ λc=>?_;rcases o.2 with⟨j,_⟩|⟨g,cap,m,j,_,k,_⟩;rw[t]at j;cases j;have k:h[g]?=Td (.cells m 5 (0,0)):=k;rw[t]at j;injection j with e1 _ _;injection e1 with e1;rw[e1]at c;have c:g=it:=c;rw[c,e]at k;cases k
theorem Bld.zero(h:za):Bld (h.push (.cells #[.pointer Te,.slice Te 0 0] 89)) h.size []:= ⟨Te,⟨Te,0,0⟩,qj _ _,.inl rfl,Owns.nil _ _ _ _⟩
theorem LX{r:Nat}(x:r<=1114111)(c:K (.int .u8 (jF r:Int)) h):XC Tp 197 #[.int .i32 (r:Int)] h K:=by
 apply HW;intro u j;have i:∀n:Nat,((r:Int)==(n:Int))=decide (r=n):=λn=>by rw[T8];simp only[beq_iff_eq,zG];omega
 have l:((r:Int)==34)=decide (r=34):=i 34;have p:((r:Int)==92)=decide (r=92):=i 92;have w:((r:Int)==8)=decide (r=8):=i 8;have q:((r:Int)==12)=decide (r=12):=i 12;have o:((r:Int)==10)=decide (r=10):=i 10;have m:((r:Int)==13)=decide (r=13):=i 13;have t:((r:Int)==9)=decide (r=9):=i 9;unfold jF at c;have fin:∀b:Bool,(b=Ta↔r=34\/r=92)->u b h:=λb k=>by
  refine j _ _ ⟨λf=>?_,λf=>?_⟩;rw[zA (k.1 f)]at c;have e:Tj .u8 (r:Int)=(r:Int):=by rcases k.1 f with rfl|rfl <;> rfl
  rw[e];exact c;rw[zv (λh=>by rw[k.2 h]at f;cases f)]at c;rw[w,q,o,m,t];refine⟨λh=>?_,λh=>?_⟩;rw[zA (zH h)]at c;exact c;rw[zv (zI h)]at c;refine⟨λh=>?_,λh=>?_⟩;rw[zA (zH h)]at c;exact c;rw[zv (zI h)]at c;refine⟨λh=>?_,λh=>?_⟩;rw[zA (zH h)]at c;exact c;rw[zv (zI h)]at c;refine⟨λh=>?_,λh=>?_⟩;rw[zA (zH h)]at c;exact c;rw[zv (zI h)]at c;refine⟨λh=>?_,λh=>?_⟩;rw[zA (zH h)]at c;exact c;rw[zv (zI h)]at c;exact c
 rw[l,p];refine⟨λf=>fin _ ?_,λf=>fin _ ?_⟩;rw[f];exact⟨λ_=>.inl (zH f),λ_=>rfl⟩;rw[zG];exact⟨.inr,λh=>h.resolve_left (zI f)⟩
theorem NC{c:Nat}(b:c<32):[92,117]++Lib.repeatL [48] (4-(Xi c).length)++Xi c=[92,117,48,48,Vj (48+c / 16),uk (c % 16)]/\((Xi c).length=1\/(Xi c).length=2):=by
 have:(TZ 32).all (λc=>decide ([92,117]++Lib.repeatL [48] (4-(Xi c).length)++Xi c=[92,117,48,48,Vj (48+c / 16),uk (c % 16)]/\((Xi c).length=1\/(Xi c).length=2)))=Ta:=by kernel_rfl
 exact zH (T7.1 this c (Ui.2 b))
set_option maxRecDepth 100000 in
set_option maxHeartbeats 4000000 in
theorem E4(hg:GL gl)(ht:t.length<=1048576){M:Fr}(hM:Fr.le gl M)(hb:Brn M)(ag:AgM M h)(Y:∀h',Keep h.size h h'->K (.tuple #[.string (bl (iz t).1),.int .i64 (iz t).2]) h'):
  XC Tp 125 #[.string (bl t)] h K:=by
 apply LI
 refine(vJ hg.tabs (l:=t) (by omega) (R:=λr=>r.2=Jl t) λk=>rfl).go hM ag (zh (a:=Arg.mk .str _) (rdStr _) zy) λv f M2 r L2 U hr=>?_
 obtain⟨n,is⟩:=r
 have hr:is=Jl t:=hr
 subst hr
 obtain⟨_,⟨u1,_,rfl,aC,u2,rfl,B⟩,rfl⟩:=U
 obtain rfl:=Xf aC
 have B:u2=.bool (Jl t):=by rw[Qo rfl]at B;simpa[Rd]using B
 subst B
 refine⟨_,_,rfl,?_⟩
 unfold iz at Y
 refine⟨λq=>?_,λq=>?_⟩
 ·have:Jl t=Tc:=by simpa using q
  rw[this]at Y
  exact Y f L2.keep
 have hu:Jl t=Ta:=by simpa using q
 rw[zA hu]at Y
 intro h5
 have k5:Keep f.size f h5:=Keep.push _ _ (Tm _)
 have z5:h5.size=f.size+1:=To _
 have B5:Bld h5 f.size []:=Bld.zero f
 clear_value h5
 have z2:=L2.keep.size
 refine Qa B5 (by simp) 34 λu B7 k7 i7=>⟨_,rfl,?_⟩
 have z7:f.size<u.size:=B7.lt
 intro D
 have k9:Keep u.size u D:=Keep.push _ _ (Tm _)
 have z9:D.size=u.size+1:=To _
 have B9:Bld D f.size [34]:=B7.keep k9
 have e9:D[u.size]?=Td (.stringIter (bl t) 0):=qj _ _
 clear_value D
 have H:Keep h.size h D:=⟨by omega,λj I=>by rw[k9.get j (by omega),k7.get j (by omega),k5.get j (by omega),L2.keep.get j I]⟩
 refine⟨λg=>∃p,p<=t.length/\Bld g f.size (34::iq (t.take p))/\g[u.size]?=Td (.stringIter (bl t) p)/\Jl (t.drop p)=Ta/\Keep f.size D g,λg=>match g[u.size]? with
  |some (.stringIter _ p)=>t.length-p
  |_=>0,⟨0,by omega,B9,e9,hu,Keep.refl _ _⟩,?_⟩
 rintro g ⟨p,hp,Bg,eg,z,kg⟩
 have aJ:(iq (t.take p)).length<=6*t.length:=by
  have:=v9 (t.take p)
  rw[UD]at this;omega
 refine Lq eg (λP=>.inr ⟨_,_,rfl,λ_=>?_,λq=>(by cases q)⟩) (λy=>.inl ⟨rfl,λq=>(by cases q),λ_=>?_⟩)
 ·-- a rune more
  rw[zt]at P
  have hd:t.drop p≠[]:=by intro e;rw[List.drop_eq_nil_iff]at e;omega
  have F:jL (dec (t.drop p))=Tc:=by
   rw[Wk hd]at z
   cases hbd:jL (dec (t.drop p))with
   |true=>rw[hbd]at z;cases z
   |false=>rfl
  have N:Jl (t.drop (p+(dec (t.drop p)).2))=Ta:=by
   rw[Wk hd,F]at z
   rw[<-VI];simpa using z
  have hq:=KS hd F
  have hw:=Yk (t.drop p)
  have S:=wU hd
  rw[UJ]at S
  have G:=Hz (t.drop p)
  have o:iq (t.take (p+(dec (t.drop p)).2))=iq (t.take p)++ox (dec (t.drop p)).1:=by
   rw[<-hq,<-M1,List.take_add]
  rw[s8,qT t p P]
  generalize hr:(dec (t.drop p)).1=r at G o ⊢
  generalize hn:(dec (t.drop p)).2=n at hw S N o ⊢
  have aj:u.size<g.size:=(TD.1 eg).1
  generalize A:g.setIfInBounds u.size (.stringIter (bl t) (p+n))=h14
  have T:∀i,i≠u.size->h14[i]?=g[i]?:=λi hi=>by rw[<-A,Uo (Ne.symm hi)]
  have ak:h14[u.size]?=Td (.stringIter (bl t) (p+n)):=by rw[<-A,UW aj]
  have aP:h14.size=g.size:=by rw[<-A];simp
  have C:=Bg.other eg T
  have J:Keep f.size D h14:=⟨by have:=kg.size;omega,λj I=>by rw[T j (by omega)];exact kg.get j I⟩
  have fin:∀g':za,Bld g' f.size (34::iq (t.take p)++ox r)->Keep f.size h14 g'->Itk h14 g'->(∃p,p<=t.length/\Bld g' f.size (34::iq (t.take p))/\g'[u.size]?=Td (.stringIter (bl t) p)/\Jl (t.drop p)=Ta/\Keep f.size D g') /\
    (match g'[u.size]? with|some (.stringIter _ p)=>t.length-p|_=>0)<(match g[u.size]? with|some (.stringIter _ p)=>t.length-p|_=>0):=λg' B' k' i'=>by
   have e':=i' _ _ _ ak
   refine⟨⟨p+n,by omega,by rw[o];exact B',e',N,J.trans k' (Tm _)⟩,?_⟩
   rw[e',eg]
   show t.length-(p+n)<t.length-p
   omega
  have aV:(34::iq (t.take p)).length=(iq (t.take p)).length+1:=rfl
  unfold ox at fin
  refine LX G ⟨_,rfl,λq=>?_,λq=>?_⟩
  ·have h0:jF r≠0:=by intro e;rw[e]at q;simp at q
   rw[zA h0]at fin
   have aa:jF r<256:=by
    unfold jF
    repeat' split
    all_goals omega
   have e8:((Vj (jF r)).toNat:Int)=(jF r:Int):=by rw[UInt8.toNat_ofNat'];omega
   refine Qa C (by omega) 92 λaN ae aI aD=>⟨_,rfl,?_⟩
   rw[<-e8]
   refine Qa ae (by simp;omega) (Vj (jF r)) λaA O ay aH=>⟨_,rfl,?_⟩
   refine fin aA ?_ (aI.trans ay (Tm _)) (aD.trans aH)
   rw[TR]at O;exact O
  ·have h0:jF r=0:=by
    have:((jF r:Int) != 0)=Tc:=q
    simpa using this
   rw[zv (by rw[h0];exact λh=>h rfl)]at fin
   refine⟨λy=>?_,λb=>?_⟩
   ·have y:32<=r:=by have:=zH y;omega
    rw[zA y]at fin
    refine PV C (by omega) (by omega) (by omega) λam m aF aG aE=>⟨_,_,rfl,?_⟩
    exact fin am aF aG aE
   ·have b:r<32:=by have:=zI b;omega
    rw[zv (by omega)]at fin
    obtain⟨au,aU⟩:=NC b
    rw[hX (by omega)]
    have Q:Keep h.size h h14:=⟨by have:=J.size;have:=H.size;omega,λj I=>by rw[J.get j (by omega),H.get j I]⟩
    have E:AgM M h14:=ag.keep Q
    refine Oq b hb E λaS w=>⟨_,rfl,?_⟩
    have aL:(Xi r).length<=4:=by omega
    rw[zt,hX (by omega),show(4:Int)-((Xi r).length:Int)=((4-(Xi r).length:Nat):Int)from by omega]
    refine(u9 (gl:=gl) (s:=bl [48]) (c:=4-(Xi r).length) (by omega) (by rw[zt];simp;omega) (R:=λx=>x=bl (Lib.repeatL [48] (4-(Xi r).length))) (by rw[j4])).go hM (E.keep w) (zh (a:=Arg.mk .str _) (rdStr _) (zh (a:=Arg.mk (.int .i64) _) (Qv _ _) zy)) λv az aO x L U q=>?_
    subst q
    have U:=jw (Qf.1 U)
    have ac:=Lib.repeatL_length [48] (4-(Xi r).length)
    have hz:(Lib.repeatL [48] (4-(Xi r).length)).length<=4:=by rw[ac];simp
    refine⟨_,U,?_,?_,?_⟩
    ·show yz ((bl [92,117]).size+(bl (Lib.repeatL [48] (4-(Xi r).length))).size)
     unfold yz
     rw[zt,zt];simp only[TI,Uu];omega
    ·show yz ((bl [92,117]++bl (Lib.repeatL [48] (4-(Xi r).length))).size+(bl (Xi r)).size)
     unfold yz
     rw[jd,zt,zt,Ts];simp only[TI,Uu];omega
    ·have e:((⟨#[92,117]⟩:Bt)++bl (Lib.repeatL [48] (4-(Xi r).length)))++bl (Xi r)=bl ([92,117]++Lib.repeatL [48] (4-(Xi r).length)++Xi r):=by
      show(bl [92,117]++bl (Lib.repeatL [48] (4-(Xi r).length)))++bl (Xi r)=_
      rw[jd,jd]
     rw[e,au]
     have aT:=w.size
     have ah:=(C.keep w).keep L.keep
     have aB:Itk h14 az:=(Itk.keep w).trans (Itk.keep L.keep)
     have aM:=C.lt
     refine FD ah _ (by simp only[TI,Uu];omega) λaf al ai ar=>⟨_,_,rfl,?_⟩
     exact fin af al (((w.mono (m:=f.size) (by omega)).trans (L.keep.mono (m:=f.size) (by omega)) (Tm _)).trans ai (Tm _)) (aB.trans ar)
 ·rw[zt]at y
  have ax:p=t.length:=by omega
  subst ax
  rw[TN]at Bg
  refine Qa Bg (by rw[TN]at aJ;simp;omega) 34 λaY ab V aQ=>⟨_,rfl,?_⟩
  refine vp ab λan Z=>⟨_,rfl,?_⟩
  refine Y an ⟨?_,λj I=>?_⟩
  ·have:=kg.size;have:=V.size;have:=Z.size;omega
  ·rw[Z.get j (by omega),V.get j (by omega),kg.get j (by omega),H.get j I]
theorem GJ(j:GL gl)(i:Brn gl)(f:t.length<=1048576){R:Bt×Int->Prop}(e:R (bl (iz t).1,(iz t).2)):PC Tp gl 125 [Arg.mk .str (bl t)] [.str,.int .i64] R:=by
 intro h M vs b ag c
 match vs,c with
 |[u1],⟨a1,_⟩=>obtain rfl:=jw (s:=bl t) a1;apply PX.of;exact E4 j f b (i.mono b) ag λh' k=>⟨M,_,Later.same ag k,⟨[_,_],⟨_,_,rfl,rdStr _,_,rfl,Qv _ _⟩,rfl⟩,e⟩
end
end Go.X
end
section
namespace Go.X
open Go Go.Lib
section
def xh(ln:Bool)(nd lv:Nat):Bs:=if ln then 10::UL (nd*lv) 32 else []
def Zn(ln:Bool)(nd lv:Nat):List Bs->Bs
 |[]=>[]
 |p::ps=>xh ln nd lv++p++ps.flatMap λq=>44::(xh ln nd lv++q)
def jx(ln:Bool)(nd lv:Nat)(ps:List Bs):Bs:=Zn ln nd (lv+1) ps++(if ps=[]then []else xh ln nd lv)
def i3(ln:Bool)(k:Bt)(p:Bs):Bs:=(iz (lb k)).1++58::((if ln then [32]else [])++p)
mutual
def Yo(ln:Bool)(nd:Nat):Tr->Nat->Bs
 |.mk k s ks xs,lv=>if k=1 then [110,117,108,108]else if k=4 then(iz (lb s)).1 else if k=5 then 91::jx ln nd lv (qF ln nd xs (lv+1))++[93]
  else if k=6 then 123::jx ln nd lv (List.zipWith (i3 ln) ks (qF ln nd xs (lv+1)))++[125]else lb s
def qF(ln:Bool)(nd:Nat):List Tr->Nat->List Bs
 |[],_=>[]
 |x::l,lv=>Yo ln nd x lv::qF ln nd l lv
end
theorem Fs(ln:Bool)(nd:Nat)(lv:Nat):∀l:List Tr,qF ln nd l lv=l.map λx=>Yo ln nd x lv
 |[]=>rfl
 |x::l=>by rw[qF,Fs ln nd lv l];rfl
theorem nA(ln:Bool)(nd:Nat)(v:Tr)(lv:Nat):Yo ln nd v lv=if v.kind=1 then [110,117,108,108]else if v.kind=4 then(iz (lb v.text)).1 else if v.kind=5 then 91::jx ln nd lv (v.items.map λx=>Yo ln nd x (lv+1))++[93]
  else if v.kind=6 then 123::jx ln nd lv (List.zipWith (i3 ln) v.keys (v.items.map λx=>Yo ln nd x (lv+1)))++[125]else lb v.text:=by
 cases v with
 |mk k s ks xs=>rw[Yo,Fs]
theorem Pw(ln:Bool)(nd lv:Nat)(ps:List Bs)(p:Bs):Zn ln nd lv (ps++[p])=Zn ln nd lv ps++((if ps=[]then []else [44])++(xh ln nd lv++p)):=by
 cases ps with
 |nil=>simp[Zn]
 |cons q b=>rw[Um,Zn,Zn,Vm,zv (by simp)];simp[TR]
theorem Bl(ln:Bool)(nd lv:Nat){ps:List Bs}{n:Nat}(h:n<ps.length):Zn ln nd lv (ps.take (n+1))=Zn ln nd lv (ps.take n)++((if n=0 then []else [44])++(xh ln nd lv++ps[n])):=by rw[Tu h,Pw];congr 2;by_cases h0:n=0;subst h0;rfl;rw[zv h0,zv (by intro e;rw[List.take_eq_nil_iff]at e;rcases e with e|e;exact h0 e;rw[e]at h;simp at h)]
theorem Ed(ln:Bool)(nd lv:Nat){ps:List Bs}:∀{n:Nat},n<=ps.length->(Zn ln nd lv (ps.take n)).length<=(Zn ln nd lv ps).length:=by
 have step:∀k n,n+k=ps.length->(Zn ln nd lv (ps.take n)).length<=(Zn ln nd lv ps).length:=by
  intro k;induction k with
  |zero=>intro n h;rw[VM]at h;subst h;rw[TN];exact Tm _
  |succ k b=>intro n h;have h1:=b (n+1) (by omega);rw[Bl ln nd lv (by omega),Ts]at h1;omega
 intro n h;exact step (ps.length-n) n (by omega)
theorem zS:∀n:Nat,repeatL [32] n=UL n 32
 |0=>rfl
 |n+1=>by rw[show repeatL [32] (n+1)=[32]++repeatL [32] n from rfl,zS n];rfl
theorem CG:∀{l:List Tr} {y:Tr},y∈l->ie y<=X7 l
 |x::l,y,h=>by rw[X7];rcases Tz.1 h with rfl|h;omega;have:=CG h;omega
theorem s7{v x:Tr}(h:x∈v.items):ie x<ie v:=by have:=CG h;rw[mJ v];omega
end
end Go.X
end
section
namespace Go.X
open Go Go.X Go.Proofs Go.RowKit
section
variable {b:Nat} {g g':za} {K:Value -> za -> Prop}
structure FrP (b:Nat) (g g':za):Prop where
 keep:Keep b g g'
 oth:Otk g g'
theorem FrP.refl(b:Nat)(g:za):FrP b g g:=⟨Keep.refl _ _,λi o e _=>e⟩
theorem FrP.trans{g g' c:za}(h:FrP b g g')(k:FrP b g' c):FrP b g c:=⟨h.keep.trans k.keep (Tm _),h.oth.trans k.oth⟩
theorem FrP.ofKeep(k:Keep g.size g g')(c:b<=g.size):FrP b g g':=⟨k.mono c,Otk.keep k⟩
theorem FrP.blk(h:FrP b g g'){c:Nat}{cs:Array Value}(e:g[c]?=Td (.cells cs 25 (0,0))):g'[c]?=Td (.cells cs 25 (0,0)):=h.oth c _ e rfl
structure Low (gl M:Fr) (b:Nat) (g:za):Prop where
 hM:Fr.le gl M
 ag:AgM M g
 low:∀c cs,M c=Td cs->c<b
theorem Low.frp{gl M:Fr}(L:Low gl M b g)(f:FrP b g g'):Low gl M b g':=⟨L.hM,λc cs e=>by rw[f.keep.get c (L.low c cs e)];exact L.ag c cs e,L.low⟩
theorem add0(b:Nat):Tl ⟨b,0,Te⟩ 0=⟨b,0,Te⟩:=rfl
section
variable {gl M : Fr} {b N : Nat} {ln : Bool} {l : Bs} {g : za}
theorem SK(i:GL gl)(n:Brn gl)(H:Prn g b ln (N:Int) l)(L:Low gl M b g){t:Bs}(j:t.length<=1048576)(c:l.length+(iz t).1.length<=140737488355328)(o:∀g',Prn g' b ln (N:Int) (l++(iz t).1)->FrP b g g'->K (.tuple #[]) g'):
  XC Tp 253 #[.pointer (Td ⟨b,0,Te⟩),.string (bl t)] g K:=by
 apply Ja;refine E4 i j L.hM (n.mono L.hM) L.ag λh' k=>⟨_,_,rfl,_,rfl,?_⟩;rw[add0];have f:=FrP.ofKeep k (VO H.lt);refine Qr (H.keep k) _ c λe h p m=>⟨_,_,rfl,o e h (f.trans ⟨p,m⟩)⟩
theorem Cy(i:GL gl)(h:Brn gl)(H:Prn g b ln (N:Int) l)(L:Low gl M b g){s:Bt}(f:(lb s).length<=1048576)(c:l.length+(iz (lb s)).1.length<=140737488355328)(e:∀g',Prn g' b ln (N:Int) (l++(iz (lb s)).1)->FrP b g g'->K (.tuple #[]) g'):
  XC Tp 253 #[.pointer (Td ⟨b,0,Te⟩),.string s] g K:=by
 have:=SK i h H L (t:=lb s) f c e;rw[jA]at this;exact this
theorem Dc(H:Prn g b ln (N:Int) l)(L:Low gl M b g){lv:Nat}(U:N<=8)(w:lv<=100)(C:l.length+(xh ln N lv).length<=140737488355328)(j:∀g',Prn g' b ln (N:Int) (l++xh ln N lv)->FrP b g g'->K (.tuple #[]) g'):
  XC Tp 307 #[.pointer (Td ⟨b,0,Te⟩),.int .i64 (lv:Int)] g K:=by
 apply Wq;obtain⟨p,s,e,z,A⟩:=H;refine⟨_,rfl,ln,Blk.cellAdd (o:=0) (k:=2) (cs:=#[.pointer p,aK s,.bool ln,.int .i64 (N:Int)]) ⟨_,e⟩ rfl,λf=>?_,λf=>?_⟩;subst f;unfold xh at C j;simp only[if_true,TI,Vg]at C j;refine⟨_,rfl,?_⟩;rw[add0];refine Zs (b:=b) (nd:=(N:Int)) ⟨p,s,e,z,A⟩ (by omega) 10 λO r P I=>⟨_,rfl,_,rfl,_,rfl,?_⟩;have t:=r;obtain⟨E,V,F,G,J⟩:=t;have D:FrP b g O:=⟨P,I⟩;have y:=L.frp D;have B:N*lv<=800:=Ux (Vq U w) (by omega);refine⟨(N:Int),Blk.cellAdd (o:=0) (k:=3) (cs:=#[.pointer E,aK V,.bool Ta,.int .i64 (N:Int)]) ⟨_,F⟩ rfl,?_⟩;rw[show((N:Int)*(lv:Int))=((N*lv:Nat):Int)from by rw[Int.natCast_mul],hX (by omega)];refine(u9 (gl:=gl) (s:=bl [32]) (c:=N*lv) (by omega) (by rw[zt];simp;omega) (R:=λx=>x=bl (UL (N*lv) 32)) (by rw[j4,zS])).go y.hM y.ag (zh (a:=Arg.mk .str _) (rdStr _) (zh (a:=Arg.mk (.int .i64) _) (Qv _ _) zy)) λv Q T x i w S=>?_;subst S;refine⟨_,jw (Qf.1 w),?_⟩;have u:=FrP.ofKeep i.keep (VO r.lt);rw[add0];refine Qr (r.keep i.keep) _ (by simp only[Ts,TI,Uu,Vg];omega) λm h q n=>⟨_,_,rfl,?_⟩;refine j m ?_ ((D.trans u).trans ⟨q,n⟩);rw[TR]at h;exact h;subst f;refine j g ?_ (FrP.refl _ _);have:l++xh Tc N lv=l:=by unfold xh;simp
 rw[this];exact⟨p,s,e,z,A⟩
end
end
end Go.X
end
section
namespace Go.X
section
section
variable {lo hi : Nat} {g : za} {b0 : Nat} {v : Tr} {sk si : Sl}
theorem EA:qm Tp 22=Ta:=by kernel_rfl
theorem Gi:y8 Tp 22=1:=by kernel_rfl
theorem JL:qm Tp 23=Ta:=by kernel_rfl
theorem JX:y8 Tp 23=1:=by kernel_rfl
end
end
end Go.X
end
section
namespace Go.X
open Go Go.Code
section
variable {ro:Option Nat} {n:Nat} {P:Program} {f:FuncId} {args:Array Value} {w:World} {o:Oper} {a:Act} {e:bK} {h:za}
abbrev rf(ro:Option Nat):Fence:={ Fence.wide with round:=ro }
def j0(K:Act->World->Prop):Exit->Act->World->Prop
 |.normal,a,w=>K a w
 |_,_,_=>False
theorem Qb{K:Act->World->Prop}:¬LetsOut (j0 K):=λ⟨_,_,h⟩=>h
theorem MR{R:Ending->World->Prop}(h:Calls P f args w R):CallsIn (rf ro) n P f args w R:=by have h1:CallsIn Fence.wide n P f args w R:=callsIn_wide.2 h;exact h1
theorem HE{row:String}{R:Value->World->Prop}(h:Rows P row args w R):RowsIn (rf ro) n P row args w R:=by have h1:RowsIn Fence.wide n P row args w R:=λc cs _=>let ⟨v,w',r,s⟩:=h c cs;⟨v,w',r,stepsIn_wide.2 s⟩;exact h1
def wu(o:Oper):Bool:=match o.op with
 |.defer _=>Tc
 |_=>Ta
theorem QW(h:wu o=Ta):∀c,o.op≠.defer c:=by intro c e;unfold wu at h;grind
theorem DY(c:wu o=Ta){K:Act->World->Prop}{Q:Exit->Act->World->Prop}(h:o.wp P a w K Q):o.wpIn (rf ro) n P a w K Q:=by
 refine⟨λ_ _=>trivial,?_⟩;rw[Oper.semAt_eq _ _ _ (QW c)];unfold Oper.wp at h;generalize (execOp a.eval o).run P w=r at *;cases r with
 |ok x w'=>
  cases x with
  |enter f args=>exact⟨λb=>(by cases b),MR h⟩
  |row row args=>exact⟨λb=>(by cases b),HE h⟩
  |value v=>exact h
  |skip=>exact h
  |defer d=>exact h
  |_=>exact h.elim
 |halt x w'=>cases x <;> first|exact h|exact h.elim
theorem oV{ro:Option Nat}{n:Nat}{P:Program}{ops:Array Oper}{K:Act->World->Prop}{Q:Exit->Act->World->Prop}: ∀(l i:List Oper) (a:Act) (w:World),l.all wu=Ta->wpList P ops (j0 K) l a w->(∀a w,K a w->wpListIn (rf ro) n P ops Q i a w)->wpListIn (rf ro) n P ops Q (l++i) a w
 |[],i,a,w,_,h,hK=>hK a w h
 |o::l,i,a,w,hd,h,hK=>by
  rw[V3,TC]at hd;rw[Um];unfold wpListIn;unfold wpList at h;by_cases k:Ue o (yielded ops a.tmps)=Ta;rw[zA k]at h ⊢;rcases h with h|⟨_,h⟩;have h1:=DY (ro:=ro) (n:=n) hd.1 h;have m:=Oper.wpIn_mono (λa w p=>oV l i a w hd.2 p hK) h1;refine⟨m.1,?_⟩;have b:=m.2;revert b;generalize (o.semAt (rf ro).round a.eval).run P w=r;cases r with
  |ok x w'=>
   cases x with
   |enter f args=>exact λb=>⟨b.1,CallsIn.mono b.2 λe j c=>by cases e <;> first|exact c|exact c.elim|exact(Qb c).elim⟩
   |round l f tmps assign body=>exact λb=>⟨b.1,RoundIn.mono b.2 λe j c=>by cases e <;> first|exact c|exact c.elim|exact(Qb c).elim⟩
   |_=>exact λb=>b
  |halt x w'=>cases x <;> first|exact λb=>b|exact λb=>b.elim
  exact(Qb h).elim;rw[zv k]at h ⊢;exact⟨λ_ _=>trivial,oV l i _ _ hd.2 h hK⟩
theorem rC{ro:Option Nat}{n:Nat}{P:Program}{j:Region.Mode}{ops:Array Oper}{K:Act->World->Prop}(c:∀(i:Nat) (o:Oper),ops[i]?=Td o->wu o=Ta):∀(fuel:Nat) (listed:Array Bool) (a:Act) (w:World),wpAny P j ops (j0 K) fuel listed a w->wpAnyIn (rf ro) n P j ops (j0 K) fuel listed a w
 |0,_,_,_,h=>h
 |fuel+1,listed,a,w,h=>by refine⟨h.1,λi hi=>?_⟩;have b:=h.2 i hi;unfold wpOp at b;unfold wpOpIn;split at b;rename_i e;rw[e];exact rC c fuel _ _ _ b;rename_i o e;rw[e];simp only;by_cases f:Ue o (yielded ops a.tmps)=Ta;rw[zA f]at b ⊢;rcases b with b|⟨_,b⟩;exact Oper.wpIn_mono (λa w k=>rC c fuel _ a w k) (DY (c i o e) b);exact(Qb b).elim;rw[zv f]at b ⊢;exact⟨λ_ _=>trivial,rC c fuel _ _ _ b⟩
def Qs(D:List Deferred)(a:Act):Act:={ a with defers:=a.defers++D }
theorem Ap{D:List Deferred}{K:Act->World->Prop}{R:Act->World->Prop}(h:o.wp P a w K (j0 R)):o.wp P (Qs D a) w (λa1 w1=>∃c,a1=Qs D c/\K c w1) (j0 λa1 w1=>∃c,a1=Qs D c/\R c w1):=by
 unfold Oper.wp at h ⊢;have b:(Qs D a).eval=a.eval:=rfl;rw[b];have i:∀d v,(Qs D a).put d v=Qs D (a.put d v):=λd v=>by cases d <;> rfl
 generalize (execOp a.eval o).run P w=r at *;cases r with
 |ok x w'=>
  cases x with
  |enter f args=>exact Calls.mono h λe j b=>by cases e with
    |returned v=>grind
    |panicked ch=>exact b
    |outgrown=>exact(Qb b).elim
  |row row args=>exact Rows.mono h λv j b=>⟨_,i _ _,b⟩
  |value v=>exact⟨_,i _ _,h⟩
  |skip=>exact⟨_,i _ _,h⟩
  |defer d=>exact⟨(Act.put { a with defers:=d::a.defers } o.dst undef),(by cases o.dst <;> rfl),(show K (Act.put { a with defers:=d::a.defers } o.dst undef) w' from h)⟩
  |_=>exact h.elim
 |halt x w'=>cases x <;> first|exact h|exact h.elim
theorem sM{P:Program}{j:Region.Mode}{ops:Array Oper}{D:List Deferred}{K:Act->World->Prop}:∀(fuel:Nat) (listed:Array Bool) (a:Act) (w:World),wpAny P j ops (j0 K) fuel listed a w->wpAny P j ops (j0 λa1 w1=>∃c,a1=Qs D c/\K c w1) fuel listed (Qs D a) w
 |0,_,a,_,h=>⟨h.1,a,rfl,h.2⟩
 |fuel+1,listed,a,w,h=>by
  refine⟨λm=>⟨a,rfl,h.1 m⟩,λi hi=>?_⟩;have b:=h.2 i hi;unfold wpOp at b ⊢;have l:yielded ops (Qs D a).tmps=yielded ops a.tmps:=rfl;split at b;exact sM fuel _ _ _ b;rename_i o p;rw[l];by_cases f:Ue o (yielded ops a.tmps)=Ta;rw[zA f]at b ⊢;rcases b with b|⟨_,b⟩;exact .inl (Oper.wp_mono (λa1 w1 ⟨c,e,n⟩=>by rw[e];exact sM fuel _ c w1 n) (Ap b));exact(Qb b).elim;rw[zv f]at b ⊢;have k:(Qs D a).put o.dst undef=Qs D (a.put o.dst undef):=by cases o.dst <;> rfl
  rw[k];exact sM fuel _ _ _ b
def YX(P:Program)(l:Nat)(args:Array Value)(h:za)(K:Value->za->Prop):Prop:=
 ∀(m:Nat) (B:World) (d:Nat),∃fn tmps assign body,(Instr.yield l args).run P (mk B d h)=.ok (.round l fn tmps assign body) (mk B d h) /\
  RoundIn (rf Te) m P l fn tmps assign body (mk B d h) λe w'=>∃v b h',e=.returned v/\w'=mk B b h'/\K v h'
def Np(o:Oper):Bool:=match o.op with
 |.call c=>match c.callee with
  |.value x=>!(oT x)
  |_=>Tc
 |_=>Tc
def tc:List Oper->Option (List Oper×Oper×List Oper)
 |[]=>Te
 |o::l=>bif Np o then Td ([],o,l)else match tc l with
  |some (pre,o',post)=>Td (o::pre,o',post)
  |none=>Te
theorem NF{l:List Oper}:∀{pre b:List Oper} {o:Oper},tc l=Td (pre,o,b)->l=pre++o::b:=by
 induction l with
 |nil=>intro pre b o h;cases h
 |cons x l c=>intro pre b o h;rw[tc]at h;grind
def sw(P:Program)(o:Oper)(e:bK)(h:za)(K:Value->za->Prop):Prop:=match o.op with
 |.call c=>match c.callee with
  |.value x=>match Jq e [] x with
   |some (.func (.yield l) A C)=>bif (bif (Nat.beq A.size 0)then(Nat.beq C.size 0)else Tc)then(bif known e [] c.args.toList then YX P l (c.args.map (i0 e [])) h λv h'=>typed P o.type v λb=>K b h' else False)else False
   |_=>False
  |_=>False
 |_=>False
theorem PI{n m:Nat}{K:Value->za->Prop}(H:sw P o e h K)(i:Sat n e a)(B:World)(d:Nat){next:Act->World->Prop}{Q:Exit->Act->World->Prop}
  (D:∀v u h',K v h'->next (a.put o.dst v) (mk B u h')):o.wpIn (rf Te) m P a (mk B d h) next Q:=by
 unfold sw at H;split at H;rename_i c j;split at H;rename_i x f;split at H;rename_i l A C q;obtain⟨hA,k,H⟩:A=#[]/\C=#[]/\(bif known e [] c.args.toList then YX P l (c.args.map (i0 e [])) h λv h'=>typed P o.type v λp=>K p h' else False):=by simp_all
 subst hA;subst k;cases hk:known e [] c.args.toList with
 |false=>simp_all
 |true=>
  rw[hk]at H;simp only[zK]at H;obtain⟨fn,tmps,assign,body,h1,t⟩:=H (m-1) B d;have z:a.eval x=.func (.yield l) #[] #[]:=qg i (c:=[]) trivial q;have b:c.args.map a.eval=c.args.map (i0 e []):=by apply Array.map_congr_left;intro y r;exact Yq i (c:=[]) trivial hk y (by simpa using r)
  have w:(o.semAt (rf Te).round a.eval).run P (mk B d h)=.ok (.round l fn tmps assign body) (mk B d h):=by show(execOp a.eval o).run P (mk B d h)=_;simp only[execOp,j,resolve,f,z,VL,Sem.run_bind,Sem.run_pure,Result.andThen_ok,invoke];rw[b];simpa using h1
  refine⟨λ_ _=>trivial,?_⟩;rw[w];refine⟨λf=>(by cases f),t.mono ?_⟩;grind [wj]
 simp_all;simp_all;simp_all
def yS(P:Program)(n:Nat)(f:List (Nat×Nat))(id:Nat)(ops:Array Oper)(b:Bool)(K:bK->za->Prop)(e:bK)(h:za):Prop:=
 match tc ops.toList with
 |none=>regionF P n f id ops b K e h
 |some (pre,o,post)=>bif b then False else bif (pre.all wu&&post.all wu)then(match o.guard with
  |none=>bif jy n [] o.dst then wR P n ops (λc h1=>sw P o c h1 λv i=>wR P n ops K post (putO c o.dst [] v) i) pre e h else False
  |some _=>False)else False
theorem I6(S:P.follows .mixedOrders=Ta){G:List (Nat×Nat)}{id:Nat}{ops:Array Oper}{c:Bool}{K:bK->za->Prop} (H:yS P n G id ops c K e h) (m:Nat) (B:World) (d:Nat) (E:Sat n e a) {Q:Exit->Act->World->Prop}
  (D:∀j f k h',Sat n j f->Same (wb ops.toList) a f->K j h'->Q .normal f (mk B k h')):(V7 id ops c).wpIn (rf Te) m P Q a (mk B d h):=by
 unfold yS at H;split at H;exact wpIn_wide.2 (BQ S H B d E D);rename_i pre o b y;have p:=NF y;cases c with
 |true=>grind
 |false=>
  simp only[zL]at H;cases hnd:(pre.all wu&&b.all wu)with
  |false=>simp_all
  |true=>
   rw[hnd]at H;simp only[zK]at H;rw[TC]at hnd;split at H;rename_i J;cases hd:jy n [] o.dst with
   |false=>simp_all
   |true=>
    rw[hd]at H;simp only[zK]at H;refine wpIn_region_list ?_;have q:∀x∈wb pre,x∈wb ops.toList:=λx N=>by rw[p,Yw];simp_all
    have r:∀i,o.dst=Td i->i∈wb ops.toList:=λi hi=>by rw[p,Yw];exact TU _ (by simp[wb,hi])
    have A:∀x∈wb b,x∈wb ops.toList:=λx N=>by rw[p,Yw];refine TU _ ?_;unfold wb;grind
    rw[p];refine oV (K:=λa1 w1=>∃l d1 h1,w1=mk B d1 h1/\Sat n l a1/\Same (wb ops.toList) a a1/\sw P o l h1 λv C=>wR P n ops K b (putO l o.dst [] v) C) pre (o::b) a _ hnd.1 (pU B pre e h a d H E λj f k h' u z L=>⟨j,k,h',rfl,u,z.mono q,L⟩) ?_;rintro a1 w1 ⟨l,d1,h1,rfl,s1,M,u⟩;unfold wpListIn;have t:Ue o (yielded ops a1.tmps)=Ta:=by simp[Ue,J]
    rw[zA t];refine PI u s1 B d1 λv d2 C z=>?_;have s2:Sat n (putO l o.dst [] v) (a1.put o.dst v):=s1.putO hd (λ_=>rfl) (λT=>absurd trivial T);rw[<-Uq b];refine oV (K:=λf w'=>Q .normal f w') b [] _ _ hnd.2 (pU B b _ _ _ _ z s2 λj f k h' I O F=>?_) λa w h=>h;exact D j f k h' I ((M.trans (Same.put a1 o.dst v r)).trans (O.mono A)) F
   simp_all
def WI(P:Program)(n:Nat)(pl:Plan):Code->Q9->bK->za->Prop
 |.skip,Q,e,h=>Q .normal e h
 |.ret,Q,e,h=>Q .ret e h
 |.exit id,Q,e,h=>Q (.exit id) e h
 |.label _,Q,e,h=>Q .normal e h
 |.goto l,Q,e,h=>Q (.goto l) e h
 |.region id ops draw,Q,e,h=>yS P n pl.tails id ops draw (λe h=>Q .normal e h) e h
 |.seq x y,Q,e,h=>match pG pl.joins (yc y)with
  |none=>WI P n pl x (l5 (λe h=>WI P n pl y Q e h) Q) e h
  |some J=>CM J (λe h=>WI P n pl y Q e h) (λK=>WI P n pl x (l5 K Q) e h) (Yx (j3 x) e)
 |.cond c x y,Q,e,h=>match Jq e [] c with
  |some (.bool b)=>(b=Ta->WI P n pl x Q e h)/\(b=Tc->WI P n pl y Q e h)
  |_=>False
 |.block id x,Q,e,h=>WI P n pl x (lP id Q) e h
 |.loop x,Q,e,h=>match pG pl.loops (yc x)with
  |some J=>wT J (λf e h=>WI P n pl x (l5 f Q) e h) (Yx (j3 x) e) e h
  |none=>False
 |_,_,_,_=>False
theorem Nx(hm:P.follows .mixedOrders=Ta){pl:Plan}:∀(c:Code) (Q:Q9) (e:bK) (h:za),WI P n pl c Q e h ->
  ∀(m:Nat) (B:World) (d:Nat) (a:Act),Sat n e a->c.wpIn (rf Te) m P (CO n B (j3 c) a Q) a (mk B d h):=by
 intro c;induction c with
 |skip=>exact λQ e h H m B d a f=>wpIn_skip ⟨e,d,h,rfl,f,Same.refl _ _,H⟩
 |ret=>exact λQ e h H m B d a f=>wpIn_ret ⟨e,d,h,rfl,f,Same.refl _ _,H⟩
 |exit id=>exact λQ e h H m B d a f=>wpIn_exit ⟨e,d,h,rfl,f,Same.refl _ _,H⟩
 |label l=>exact λQ e h H m B d a f=>wpIn_label ⟨e,d,h,rfl,f,Same.refl _ _,H⟩
 |goto l=>exact λQ e h H m B d a f=>wpIn_goto ⟨e,d,h,rfl,f,Same.refl _ _,H⟩
 |region id ops aj=>exact λQ e h H m B d a f=>I6 hm H m B d f λe' a' d' h' k o q3=>⟨e',d',h',rfl,k,o,q3⟩
 |seq x y A C=>
  intro Q e h H m B d a f;simp only[WI]at H;have G:∀i∈j3 x,i∈j3 (x.seq y):=λi hi=>TF _ hi;have O:∀i∈j3 y,i∈j3 (x.seq y):=λi hi=>TU _ hi;split at H;refine wpIn_seq (wpIn_mono (A _ _ _ H m B d a f) ?_);rintro ex a1 w1 ⟨z,d1,h1,rfl,s1,u,k⟩;cases ex with
  |normal=>refine wpIn_mono (C _ _ _ k m B d1 a1 s1) ?_;rintro ex a2 w2 ⟨r,d2,t,rfl,s2,w,o⟩;exact⟨r,d2,t,rfl,s2,(u.mono G).trans (w.mono O),o⟩
  |_=>exact⟨z,d1,h1,rfl,s1,u.mono G,k⟩
  rename_i J hJ;have H':=H (nq (yv J) λvs=>λh=>WI P n pl y Q (Zw J vs++Yx (j3 x) e) h) (y3 λvs h L=>L);refine wpIn_seq (wpIn_mono (A _ _ _ H' m B d a f) ?_);rintro ex a1 w1 ⟨z,d1,h1,rfl,s1,u,k⟩;cases ex with
  |normal=>obtain⟨vs,q,N,L,hk⟩:=J9 k;have Y:=xJ L;subst Y;have S:Sat n (Zw J vs++Yx (j3 x) e) a1:=J8 f s1.defers s1.size u (qn s1 N);refine wpIn_mono (C _ _ _ hk m B d1 a1 S) ?_;rintro ex a2 w2 ⟨r,d2,t,rfl,s2,w,o⟩;exact⟨r,d2,t,rfl,s2,(u.mono G).trans (w.mono O),o⟩
  |_=>exact⟨z,d1,h1,rfl,s1,u.mono G,k⟩
 |cond c x y A C=>intro Q e h H m B d a f;simp only[WI]at H;have G:∀i∈j3 x,i∈j3 (V0 c x y):=λi hi=>TF _ hi;have O:∀i∈j3 y,i∈j3 (V0 c x y):=λi hi=>TU _ hi;split at H;rename_i b D;refine wpIn_cond_split (qg f (c:=[]) trivial D) (λT=>?_) (λab=>?_);refine wpIn_mono (A _ _ _ (H.1 T) m B d a f) ?_;rintro ex a2 w2 ⟨r,d2,t,rfl,s2,w,o⟩;exact⟨r,d2,t,rfl,s2,w.mono G,o⟩;refine wpIn_mono (C _ _ _ (H.2 ab) m B d a f) ?_;rintro ex a2 w2 ⟨r,d2,t,rfl,s2,w,o⟩;exact⟨r,d2,t,rfl,s2,w.mono O,o⟩;exact H.elim
 |block id x ih=>
  intro Q e h H m B d a f;refine wpIn_block (wpIn_mono (ih _ _ _ H m B d a f) ?_);rintro ex a1 w1 ⟨z,d1,h1,rfl,s1,u,k⟩;cases ex with
  |exit i=>simp only[lP]at k;simp only[Exit.inBlock];by_cases D:Nat.beq i id=Ta;rw[zA (TL D)];simp only[D,zK]at k;exact⟨z,d1,h1,rfl,s1,u,k⟩;rw[zv (λhe=>D (by rw[he];simp))];simp only[D,zL]at k;exact⟨z,d1,h1,rfl,s1,u,k⟩
  |_=>exact⟨z,d1,h1,rfl,s1,u,k⟩
 |loop x ih=>
  intro Q e h H m B d a f;simp only[WI]at H;split at H;rename_i J hJ;obtain⟨I,μ,h0,E⟩:=H;obtain⟨aa,p0,ah,ai,af⟩:=J9 h0;let F:=mU (yv J) I μ;let at_:Act->Option ((za->Prop)×(za->Nat)):=λa1=>(Js (λi=>Td (qc a1 i)) J).bind λvs=>iK (yv J) vs F;refine wpIn_loop (λa1 w1=>∃d1 h1 vs p,w1=mk B d1 h1/\a1.defers=[]/\a1.tmps.size=n/\Same (j3 x) a a1/\Js (λi=>Td (qc a1 i)) J=Td vs/\iK (yv J) vs F=Td p/\p.1 h1) (λa1 w1=>match at_ a1 with|some p=>p.2 w1.heap|none=>0) ⟨d,h,aa,p0,rfl,f.defers,f.size,Same.refl _ _,qn f ah,ai,af⟩ ?_;rintro a1 w1 ⟨d1,h1,vs,p,rfl,U,ae,j,N,hp,hI⟩;have s1:Sat n (Zw J vs++Yx (j3 x) e) a1:=J8 f U ae j N;have D:=sd hp E h1 hI;refine wpIn_mono (ih _ _ _ D m B d1 a1 s1) ?_;rintro ex a2 w2 ⟨r,d2,t,rfl,s2,w,o⟩;cases ex with
  |normal=>
   obtain⟨Z,q,M,L,V,ac⟩:=J9 o;refine⟨⟨d2,t,Z,q,rfl,s2.defers,s2.size,j.trans w,qn s2 M,L,V⟩,?_⟩;have z:at_ a1=Td p:=by simp only[at_,N,U0];exact hp
   have r:at_ a2=Td q:=by simp only[at_,qn s2 M,U0];exact L
   rw[z,r];exact ac
  |_=>exact⟨r,d2,t,rfl,s2,j.trans w,o⟩
  exact H.elim
 |_=>exact λQ e h H=>H.elim
def lH(P:Program)(f:FuncId)(args:Array Value)(h:za)(R:Value->za->Prop):Prop:=
 ∀(m:Nat) (B:World) (d:Nat),CallsIn (rf Te) m P f args (mk B d h) λe w'=>∃v b h',e=.returned v/\w'=mk B b h'/\R v h'
theorem vX(t:P.follows .mixedOrders=Ta)(pl:Plan)(vs:List Value){fn:Func}{rs:List ResultVar}(p:P.funcs[f]?=Td fn)(b:Zz fn=Ta)(o:fn.results.toList=rs)(r:fn.ntmps=n)
  (hz:Nat.ble vs.length n=Ta) {R:Value->za->Prop} (H:WI P n pl (codeOf fn) (rq P rs R) (kC 0 vs) h):lH P f vs.toArray h R:=by
 have k:fn.body=Td (codeOf fn):=by unfold Zz at b;unfold codeOf;split at b;omega;cases b
 intro m B d;subst r;refine callsIn_of_wp p k trivial ?_ rfl;have x:vs.length<=fn.ntmps:=UU hz;have q:Sat fn.ntmps (kC 0 vs) { tmps:=vs.toArray++Ve (fn.ntmps-vs.toArray.size) undef,defers:=[] }:=by
  refine⟨rfl,by simp;omega,?_⟩;refine Xa vs.toArray _ vs 0 λj v u=>?_;have i:j<vs.length:=by rcases Up j vs.length with h|h;exact h;simp_all
  simp only[TJ,Uv];rw[U9 (by simpa using i)];simp[u]
 refine wpIn_mono (Nx t (codeOf fn) _ _ _ H m B d _ q) ?_;rintro ex a w ⟨z,d1,h1,rfl,s1,y,e⟩;cases ex with
 |normal=>obtain⟨v,l,c⟩:=Zy s1 o e;exact⟨s1.defers,v,c B d1,v,d1,h1,rfl,rfl,l⟩
 |ret=>obtain⟨v,l,c⟩:=Zy s1 o e;exact⟨s1.defers,v,c B d1,v,d1,h1,rfl,rfl,l⟩
 |_=>exact e.elim
end
end Go.X
end
