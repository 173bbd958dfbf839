/- A part of the proof: nothing is stated here for its own sake. -/
import Derived.Test.YtjohlemfgcmaoaaGreatDoorPuC
import Derived.Lib.AppendZerosOnto
import Derived.RangeFuncCalls
open _root_.Go.Addr renaming add->Ad
open _root_.Array renaming getD_eq_getD_getElem?->BI,getElem?_append_left->Cv,getElem?_eq_some_iff->An,getElem?_push->BV,getElem?_setIfInBounds_ne->AB,getElem?_setIfInBounds_self_of_lt->Ci,getElem?_toList->Ca,length_toList->Cx,push->Cn,replicate->BJ,size->AZ,size_push->Aj,size_setIfInBounds->A0
open _root_.Bool renaming and_eq_false_iff->Cp,and_eq_true->Ao,and_true->C6,eq_iff_iff->AM,false_eq_true->Bc,false_or->Dw,or_eq_false_iff->Do,or_eq_true->BK,true_and->Cc
open _root_.Go.Builtin renaming append_->Au
open _root_.Go.Code renaming cond->DL,region->DO
open _root_.Go.Deferred renaming ofValue->Dq
open _root_.Go.Extern.AbiNoEscape renaming same->DZ
open _root_.False renaming elim->Db
open _root_.Go.Instr renaming lookup->C9,mapUpdate->Ce,next->CW,storeAt->Af
open _root_.Int renaming toNat_natCast->Ag
open _root_.Go.IntKind renaming wrap->Aa
open _root_.List renaming all_append->Dd,all_cons->De,all_eq_true->Av,append_assoc->AH,append_nil->AR,cons_append->AD,drop_drop->BM,drop_eq_getElem_cons->Bw,drop_eq_nil_of_le->Br,drop_zero->BQ,exists_cons_of_ne_nil->Bq,ext_getElem?->Bu,getElem?_append_left->BG,getElem?_append_right->BD,getElem?_drop->A9,getElem?_eq_getElem->Ak,getElem?_eq_none->BH,getElem?_eq_some_iff->A1,getElem?_map->Bf,getElem?_modify->BF,getElem?_take->AK,getElem_append_left->BL,getElem_append_right->BW,getElem_mem->AE,length->Cd,length_append->Ah,length_cons->Aq,length_drop->AI,length_eq_zero_iff->Bl,length_map->Ap,length_nil->A4,length_pos_iff->Bv,length_replicate->Co,length_take->AN,map_append->Bh,map_cons->As,map_map->A7,map_nil->Cb,mem_append->Aw,mem_append_left->Ar,mem_append_right->AC,mem_cons->Ai,mem_cons_of_mem->Ae,mem_cons_self->Am,mem_filter->Cf,mem_flatMap->Cg,mem_map->AJ,mem_of_getElem?->Bz,mem_range->AU,mem_singleton->AY,nil_append->A8,nodup_append->Cw,nodup_cons->Ba,nodup_nil->C0,not_mem_nil->CU,range->Bj,replicate->BC,take_length->A5,take_of_length_le->BE,take_succ_cons->CL,take_succ_eq_append_getElem->Ay,take_take->DF,take_zero->CZ
open _root_.List.cons renaming injEq->BN
open _root_.Nat renaming add_assoc->CP,add_sub_cancel_left->CI,add_zero->CO,blt_eq->Cm,eq_of_beq_eq_true->Al,le_of_ble_eq_true->BS,le_of_lt->Da,le_refl->Ab,le_trans->BX,lt_or_ge->AX,lt_trichotomy->Di,min_eq_left->Cj,mul_le_mul_right->AQ,mul_one->B0,not_lt_zero->CJ,pow_succ->DI,strongRecOn->Dc,sub_self->Dr,succ_mul->CN,zero_add->AL,zero_le->AW,zero_mul->DD
open _root_.Option renaming bind_some->CC,map_eq_some_iff->Ck
open _root_.Option.some renaming inj->Az,injEq->Ac
open _root_.Prod renaming fst->D3
open _root_.Prod.mk renaming injEq->Bi
open _root_.Go.Region renaming wanted->BU
open _root_.Go.Proofs.Tryz renaming prog->AF
open _root_.UInt8 renaming ofNat->Bb
open _root_.Go.Utf8 renaming decode->DW
open _root_.Go.Value renaming string->A3
set_option linter.unusedVariables false
set_option maxRecDepth 100000
namespace Go.X
end Go.X
namespace Go.Proofs
end Go.Proofs
open Go Go.X Go.Proofs
open _root_.Bool renaming true->Ta,false->Tc
open _root_.Option renaming some->Td,none->Te
section
namespace Go.Proofs.YtjohlemfgcmaoaaGreatDoor
open Go Go.X Go.ChangeShapes Go.WideShapes Go.ChangeAt Go.RowKit Go.Lib
set_option linter.unusedVariables false
section
variable {cs:List Value} {H:Type} {held:Bool} {fuel:Nat}
theorem z6n(c:cs.length=2):cs=(cs.drop 0).take 1++(cs.drop 1).take 1:=by
 match cs,c with
 |[a,b],_=>rfl
theorem qf4{enc:TypeId×Value->H}{W:World}{sp:Nat->Bool}{x:DataW H×List MemPlace}(h:DataW.trod enc AF W 0 sp held fuel 59 cs=some x)(b:zjr AF 59 x.1):∃xs:List Int,Rd (Fz W) (.row (.int .i64)) xs cs:= z4q (T:=.int .i64) Tryz.underlying59 (by kernel_rfl) (by decide) (by decide +kernel) (λ_ _ cs y c e=>qdf Tryz.underlying3 c) h b
theorem ql4{enc:TypeId×Value->H}{W:World}{sp:Nat->Bool}{x:DataW H×List MemPlace}(h:DataW.trod enc AF W 0 sp held fuel 71 cs=some x)(u:zjr AF 71 x.1):∃o:List ByteArray×List Int,Rd (Fz W) (.pair (.row .str) (.row (.int .i64))) o cs:=by
 obtain⟨xs,n,rfl,B,w,f,b⟩:=DataW.trod_struct Tryz.underlying71 h;have i:cs.length=2:=w.trans (by kernel_rfl);have l:xs.length=2:=f;have k:DataW.trod enc AF W 0 sp held n 23 ((cs.drop 0).take (AF.cellsOf 23))=xs[0]?:=b 0 _ rfl;have e:DataW.trod enc AF W 0 sp held n 59 ((cs.drop 1).take (AF.cellsOf 59))=xs[1]?:=b 1 _ rfl;rw[Ak (by omega)]at k e;have c:∀(j:Nat) (t:TypeId) (r:j<xs.length),([23,59]:List TypeId)[j]?=some t->zjr AF t (xs[j]).1:=λj t r A m z=>u m (by rw[B];unfold DataW.weights;rw[Tryz.underlying71];exact DataW.weights_mem_each (j:=j) (t:=t) (d:=(xs[j]).1) (by rw[<-A];rfl) (by rw[Bf,Ak r];rfl) m z);have c1:AF.cellsOf 23=1:=by kernel_rfl
 have c2:AF.cellsOf 59=1:=by kernel_rfl
 rw[c1]at k;rw[c2]at e;obtain⟨p,s⟩:=qfr k (c 0 _ (by omega) rfl);obtain⟨q,y⟩:=qf4 e (c 1 _ (by omega) rfl);exact⟨(p,q),_,_,z6n i,s,y⟩
theorem qi4{M:Fr}{x:List ByteArray×List Int}{cs:Array Value}(h:Rd M (.pair (.row .str) (.row (.int .i64))) x cs.toList):RdV M (.pair (.row .str) (.row (.int .i64))) x (.agg cs):=by unfold RdV;simp only[zhf,if_true];exact⟨cs.toList,by simp,h⟩
end
end Go.Proofs.YtjohlemfgcmaoaaGreatDoor
end
section
namespace Go.X
open Go Go.X Go.Proofs Go.RowKit
section
variable {b:Nat} {h h':zb} {s:Sl} {ln:Bool} {nd:Int} {l:Bs} {K:Value -> zb -> Prop}
def nU(o:Obj):Bool:=match o with
 |.cells _ T _=>!(Nat.beq T 5) && !(Nat.beq T 128)
 |_=>Ta
def Otk(h h':zb):Prop:=∀(i:Nat) (o:Obj),h[i]?=Td o->nU o=Ta->h'[i]?=Td o
theorem Otk.trans{a b c:zb}(x:Otk a b)(y:Otk b c):Otk a c:=λi o e n=>y i o (x i o e n) n
theorem Otk.keep(k:Keep h.size h h'):Otk h h':=λi o e _=>by have hi:i<h.size:=(An.1 e).1;rw[k.get i hi];exact e
theorem Otk.ne{cs:Array Value}{m:Nat×Nat}(e:h[b]?=Td (.cells cs 128 m))(f:∀i,i≠b->h'[i]?=h[i]?):Otk h h':=λi o c n=>by by_cases hi:i=b;subst hi;rw[e]at c;cases c;cases n;rw[f i hi];exact c
theorem Otk.own{base:Nat}{sz:Nat}{xs:List Value}(H:Owns h base 5 sz s xs)(f:∀i,i<h.size->(∀p,s.a=Td p->i≠p.block)->h'[i]?=h[i]?):Otk h h':=λi o b n=>by have hi:i<h.size:=(An.1 b).1;rw[f i hi λq m l=>?_];exact b;rcases H.2 with⟨c,_⟩|⟨g,cap,e,c,_,k,_⟩;rw[m]at c;cases c;have k:h[g]?=Td (.cells e 5 (0,0)):=k;rw[m]at c;injection c with e1 _ _;injection e1 with e1;rw[l,e1]at b;rw[k]at b;cases b;cases n
theorem qf5:liesAt Tp AF.depth 128 (4 / AF.cellsOf 128) 0 112 1=Ta:=by kernel_rfl
def Prn(h:zb)(b:Nat)(ln:Bool)(nd:Int)(l:Bs):Prop:=∃(p:Option Addr) (s:Sl),h[b]?=Td (.cells #[.pointer p,slV s,.bool ln,.int .i64 nd] 128 (0,0))/\(p=Te\/p=Td ⟨b,0,Te⟩)/\Owns h (b+1) 5 1 s (Lib.byteCells l)
theorem Prn.lt(H:Prn h b ln nd l):b<h.size:=by obtain⟨p,s,e,_⟩:=H;rcases AX b h.size with q|q;exact q;rw[Array.getElem?_eq_none q]at e;cases e
theorem Prn.keep(H:Prn h b ln nd l)(k:Keep h.size h h'):Prn h' b ln nd l:=by have c:=H.lt;obtain⟨p,s,e,i,f⟩:=H;exact⟨p,s,by rw[k.get b c];exact e,i,f.keepN k⟩
theorem Prn.new(h:zb)(ln:Bool)(nd:Int):Prn (h.push (.cells #[.pointer Te,.slice Te 0 0,.bool ln,.int .i64 nd] 128)) h.size ln nd []:= ⟨Te,⟨Te,0,0⟩,yd _ _,.inl rfl,Owns.nil _ _ _ _⟩
set_option maxHeartbeats 1000000 in
set_option maxRecDepth 100000 in
theorem zs1(b:Nat)(w:World)(h0:w.cell? ⟨b,0,Te⟩=Td (.pointer Te))(c:w.shape? b=Td (128,4))(i:w.frozen? ⟨b,0,Te⟩=Tc):
  Calls Tp 152 #[.pointer (Td ⟨b,0,Te⟩)] w λe w'=>e=.returned (.tuple #[])/\w'=w.setCell ⟨b,0,Te⟩ (.pointer (Td ⟨b,0,Te⟩)):=by
 obtain⟨j,h,f⟩:=Ck.1 zvx;have mixed:=Tryz.mixed
 go_enter Tryz.func152,Tryz.ntmps152
 go_wp2
 rw[Lib.run_to_unsafe w ⟨b,0,Te⟩ zss zph h (by rw[f];decide) c (Nat.zero_lt_succ 3)];simp only[Result.andThen];rw[Oper.upon_value]
 go_wp2
 rw[run_callFunc_extern Tryz.func219 (by kernel_rfl) (by kernel_rfl) (by kernel_rfl) (e:=DZ) (by kernel_rfl)];rw[Lib.run_noEscape];simp only[Result.andThen];rw[Oper.upon_value]
 go_wp2
 rw[Lib.run_from_unsafe w ⟨b,0,Te⟩ zph zss h c qf5];simp only[Result.andThen];rw[Oper.upon_value]
 go_wp2
 go_end0
 exact⟨rfl,rfl⟩
theorem qm6(H:Prn h b ln nd l)(m:∀h',Prn h' b ln nd l->Keep b h h'->h'.size=h.size->Otk h h'->K (.tuple #[]) h'):XC Tp 152 #[.pointer (Td ⟨b,0,Te⟩)] h K:=by
 have f:=H.lt;obtain⟨p,s,e,n,k⟩:=H;have c:∀B d,(mk B d h).cell? ⟨b,0,Te⟩=Td (.pointer p):=λB d=>by have:(mk B d h).heap[b]?=Td (.cells #[.pointer p,slV s,.bool ln,.int .i64 nd] 128 (0,0)):=e;simp[World.cell?,this]
 rcases n with rfl|rfl;refine XC.of_calls λB d=>(zs1 b (mk B d h) (c B d) ?_ ?_).mono ?_
 have:(mk B d h).heap[b]?=Td (.cells #[.pointer Te,slV s,.bool ln,.int .i64 nd] 128 (0,0)):=e;simp[World.shape?,this];exact zfg ⟨_,e⟩ B d;rintro e' w' ⟨rfl,rfl⟩;rw[znb e];refine⟨_,rfl,rfl,rfl,rfl,?_⟩;show K _ (h.setIfInBounds b _);refine m _ ⟨_,s,?_,.inr rfl,?_⟩ ?_ (by simp) (Otk.ne e λi hi=>AB (Ne.symm hi));rw[Ci f];rfl;refine k.keep λq o=>?_;have:=k.base_le q o;rw[AB (by omega)];exact Keep.setBlk _ (Ab _);refine XC.of_calls λB d=>(zna b (mk B d h) (c B d)).mono ?_;rintro e' w' ⟨rfl,rfl⟩;exact⟨_,rfl,rfl,rfl,rfl,m _ ⟨_,s,e,.inr rfl,k⟩ (Keep.refl _ _) rfl (Otk.keep (Keep.refl _ _))⟩
theorem z6o{p:Option Addr}{s t:Sl}(e:h[b]?=Td (.cells #[.pointer p,slV t,.bool ln,.int .i64 nd] 128 (0,0)))(k:p=Te\/p=Td ⟨b,0,Te⟩)(f:Owns h (b+1) 5 1 s (Lib.byteCells l)){K:zb->Prop}
  (m:∀h',Prn h' b ln nd l->Keep b h h'->h'.size=h.size->Otk h h'->K h'):XRunU Tp (Af 110 (.pointer (Td ⟨b,1,Te⟩)) (.slice s.a s.len s.cap)) h K:=by
 intro B d;obtain⟨h',u,n,i,c⟩:=Q1 (P:=Tp) z5z z6a e (o:=1) (v:=slV s) rfl (by simp) (by simp[slV,Value.cells,Value.oneCell']) B d;refine⟨d,h',u,m h' ⟨p,s,?_,k,?_⟩ (Keep.ne i c) i (Otk.ne e c)⟩;rw[n];rfl;refine f.keep λq r=>?_;have:=f.base_le q r;exact c _ (by omega)
theorem Qu(H:Prn h b ln nd l)(hl:l.length<140737488355328)(c:UInt8)(L:∀h',Prn h' b ln nd (l++[c])->Keep b h h'->Otk h h'->K .nilIface h'):
  XC Tp 81 #[.pointer (Td ⟨b,0,Te⟩),.int .u8 (c.toNat:Int)] h K:=by
 apply j9;refine qm6 H λm B k2 z2 M=>⟨rfl,_,rfl,?_⟩;have z:=B.lt;obtain⟨p,s,e,F,u⟩:=B;have r:=u.1;rw[Lib.byteCells_length,B0]at r;refine⟨s,Blk.cellAdd (o:=0) (k:=1) (cs:=#[.pointer p,slV s,.bool ln,.int .i64 nd]) ⟨_,e⟩ rfl,?_⟩;intro f;have t:Keep m.size m f:=Keep.push _ _ (Ab _);have U:f.size=m.size+1:=Aj _;have b5:Blk f m.size #[.int .u8 (c.toNat:Int)]:=Blk.new _ _ _;have Q:f[b]?=Td (.cells #[.pointer p,slV s,.bool ln,.int .i64 nd] 128 (0,0)):=by rw[t.get b z];exact e
 have C:=u.keepN t;clear_value f;refine zbb elemU8 C (src:=⟨Td ⟨m.size,0,Te⟩,1,1⟩) (news:=[.int .u8 (c.toNat:Int)]) (n:=f.size) ?_ rfl (by simp[Value.oneCell']) (by simp only;omega) (by simp only;omega) (by omega) λD w Y E x Z V=>⟨D,rfl,_,rfl,?_⟩;refine .inr ⟨m.size,0,rfl,by omega,λi v A=>?_⟩
 match i,A with
 |0,A=>cases A;exact b5.cell rfl
 have S:w[b]?=Td (.cells #[.pointer p,slV s,.bool ln,.int .i64 nd] 128 (0,0)):=by rw[x b (by omega) λq y=>by have:=u.base_le q y;omega];exact Q
 have N:Owns w (b+1) 5 1 D (Lib.byteCells (l++[c])):=by
  have:Lib.byteCells (l++[c])=Lib.byteCells l++[.int .u8 (c.toNat:Int)]:=by unfold Lib.byteCells;rw[Bh];rfl
  rw[this];exact E
 have P:Keep b h w:=k2.trans ⟨by omega,λi hi=>by rw[x i (by omega) λq y=>by have:=u.base_le q y;omega];exact t.get i (by omega)⟩ (Ab _);refine z6o S F N λJ G O z7 I=>L J G (P.trans O (Ab _)) (M.trans ((Otk.keep t).trans ((Otk.own C x).trans I)))
theorem Yz(H:Prn h b ln nd l)(t:Bs)(hl:l.length+t.length<=140737488355328)(L:∀h',Prn h' b ln nd (l++t)->Keep b h h'->Otk h h'->K (.tuple #[.int .i64 (t.length:Int),.nilIface]) h'):
  XC Tp 85 #[.pointer (Td ⟨b,0,Te⟩),.string (bl t)] h K:=by
 apply jd;refine qm6 H λN z k2 z2 O=>⟨rfl,_,rfl,?_⟩;have F:=z.lt;obtain⟨p,s,e,D,n⟩:=z;have f:=n.1;rw[Lib.byteCells_length,B0]at f;refine⟨s,Blk.cellAdd (o:=0) (k:=1) (cs:=#[.pointer p,slV s,.bool ln,.int .i64 nd]) ⟨_,e⟩ rfl,?_⟩;have c:=zf t;refine zbg elemU8 n (x:=.string (bl t)) (m:=(bl t).size) (news:=Lib.byteCells t) (λB d=>?_) (by rw[c];omega) (by rw[c];omega) (by omega) λA r Z C u q4 Y=>⟨A,rfl,_,rfl,?_⟩;have:=Src.ofString (P:=Tp) (w:=mk B d N) ql1 (bl t);have M:byteCells (bl t)=Lib.byteCells t:=by unfold byteCells Lib.byteCells;have:(bl t).data.toList=t:=yh t;rw[this]
 rw[M]at this;exact this;have Q:r[b]?=Td (.cells #[.pointer p,slV s,.bool ln,.int .i64 nd] 128 (0,0)):=by rw[u b (by omega) λq y=>by have:=n.base_le q y;omega];exact e
 have S:Owns r (b+1) 5 1 A (Lib.byteCells (l++t)):=by
  have:Lib.byteCells (l++t)=Lib.byteCells l++Lib.byteCells t:=by unfold Lib.byteCells;rw[Bh]
  rw[this];exact C
 have J:Keep b h r:=k2.trans ⟨by omega,λi hi=>u i (by omega) λq y=>by have:=n.base_le q y;omega⟩ (Ab _);refine z6o Q D S λI E U V G=>?_;rw[c];exact L I E (J.trans U (Ab _)) (O.trans ((Otk.own n u).trans G))
theorem zv9(b:Nat)(p:Value)(ln:Bool)(nd:Int)(v:Value)(l:Bs)(w:World)(h:w.heap[b]?=Td (.cells #[p,v,.bool ln,.int .i64 nd] 128 (0,0)))(f:w.ownsRow (b+1) 5 1 v l.length (Lib.byteCells l))(h0:l≠[]):
  Calls Tp 87 #[.pointer (Td ⟨b,0,Te⟩)] w λe w'=>e=.returned (.string ⟨l.toArray⟩)/\Below (b+1) w w':=by
 have i:l.length≠0:=by simpa using h0
 obtain⟨g,cap,c,rfl,n,s,o,t,y,m⟩:∃g cap c,v=.slice (Td ⟨g,0,Te⟩) l.length cap/\b+1<=g/\w.heap[g]?=Td (.cells c 5 (0,0))/\_:=by rcases f.2 with⟨_,A⟩|⟨g,cap,c,u,r⟩;exact absurd A i;exact⟨g,cap,c,u,r⟩
 have c1:w.drew.cell? ⟨b,1,Te⟩=Td (.slice (Td ⟨g,0,Te⟩) l.length cap):=by have:w.drew.heap[b]?=Td (.cells #[p,.slice (Td ⟨g,0,Te⟩) l.length cap,.bool ln,.int .i64 nd] 128 (0,0)):=h;rw[Lib.cell_of_heap this];rfl
 have z:(Builtin.unsafeSliceData_ #[110] 181 #[.slice (Td ⟨g,0,Te⟩) l.length cap]).run Tp w.drew=.ok (.pointer (Td ⟨g,0,Te⟩)) w.drew:= Lib.run_unsafeSliceData_row _ _ _ _ _ _ (by omega);have q:(Builtin.unsafeString_ #[181,3] 9 #[.pointer (Td ⟨g,0,Te⟩),.int .i64 l.length]).run Tp w.drew=.ok (.string ⟨l.toArray⟩) (w.drew.freeze ⟨g,0,Te⟩ l.length):=by refine Lib.run_unsafeString_row w.drew 181 3 9 5 Tryz.underlying181 (by kernel_rfl) g c.size (by have k:w.drew.heap[g]?=Td (.cells c 5 (0,0)):=s;simp[World.shape?,k]) l h0 (by omega) (by have:maxLen=9223372036854775807:=rfl;omega) ?_;intro j x B;have:=f.cells (g:=g) rfl j (.int .u8 x.toNat) (by simp[Lib.byteCells,B]);exact this
 have mixed:=Tryz.mixed
 go_enter Tryz.func87,Tryz.ntmps87
 go_wp2
 go_region_o
 all_goals (go_wp2;go_ret;exact⟨rfl,Lib.below_freeze (Below.drew (Below.refl (b+1) w)) (p:=⟨g,0,Te⟩) n _⟩)
theorem qf6(H:Prn h b ln nd l)(h0:l≠[])(m:∀h',Keep b h h'->K (.string (bl l)) h'):XC Tp 87 #[.pointer (Td ⟨b,0,Te⟩)] h K:=by obtain⟨p,s,e,n,k⟩:=H;have f:=k.1;rw[Lib.byteCells_length,B0]at f;refine XC.of_calls λB d=>(zv9 b (.pointer p) ln nd (slV s) l (mk B d h) e (by rw[f];exact k) h0).mono ?_;rintro e' w' ⟨rfl,c⟩;exact⟨_,rfl,c.os,c.tape,c.output,m _ ⟨c.size,λi hi=>c.block i (by omega)⟩⟩
end
end Go.X
end
section
namespace Go.X
section
theorem zhq(b:Int)(c:Bt)(d:Sl)(e:Sl)(h:zb)(R:Value->zb->Prop) (H:let f:=h.push (.cells #[iV b,.string c,slV d,slV e] 26);∃g i j k,zd f ⟨h.size,0,Te⟩ 0 (tL g i j k)/\XC Tp 33 #[tA g i j k] f (λl m=>∃n,l=.bool n/\((!n)=Ta->R (.tuple #[.string (⟨#[]⟩:Bt),iV 1]) m)/\((!n)=Tc->let o:=m.push (.cells #[.pointer Te,.slice Te 0 0,.bool Tc,iV 0] 128);∃p q r s,zd o ⟨h.size,0,Te⟩ 0 (tL p q r s)/\XC Tp 97 #[.pointer (Td ⟨m.size,0,Te⟩),tA p q r s,iV 0] o (λt u=>t=.tuple #[]/\XC Tp 87 #[.pointer (Td (Ad ⟨m.size,0,Te⟩ 0))] u (λv w=>∃x,v=.string x/\R (.tuple #[.string x,iV 0]) w))))):
  XC Tp 34 #[.agg #[.int .i64 b,.string c,.slice d.a d.len d.cap,.slice e.a e.len e.cap]] h R:=
 XF ⟨[],[],[]⟩ [.tmp 2,.tmp 3] 12 Tryz.func34 H
theorem Xt(L:Option Addr)(b:Int)(c:Bt)(d:Sl)(e:Sl)(J:Int)(h:zb)(R:Value->zb->Prop) (H:let f:=h.push (.cells #[iV b,.string c,slV d,slV e] 26);∃g,zc f (Ad ⟨h.size,0,Te⟩ 0)=Td (iV g)/\((g==1)=Ta->∃i,L=Td i/\XC Tp 85 #[.pointer (Td (Ad i 0)),.string (⟨#[110,117,108,108]⟩:Bt)] f (λj k=>∃l,∃m:Value,j=.tuple #[iV l,m]/\R (.tuple #[]) k))/\((g==1)=Tc->((g==4)=Ta->∃n,zc f (Ad ⟨h.size,0,Te⟩ 1)=Td (.string n)/\XC Tp 168 #[.pointer L,.string n] f (λo p=>o=.tuple #[]/\R (.tuple #[]) p))/\((g==4)=Tc->((g==5)=Ta->∃q r s t,zd f ⟨h.size,0,Te⟩ 0 (tL q r s t)/\XC Tp 169 #[.pointer L,tA q r s t,iV J,.string (⟨#[91,93]⟩:Bt),.func (.func 170) #[.pointer L] #[]] f (λu v=>u=.tuple #[]/\R (.tuple #[]) v))/\((g==5)=Tc->((g==6)=Ta->∃w x y z,zd f ⟨h.size,0,Te⟩ 0 (tL w x y z)/\XC Tp 169 #[.pointer L,tA w x y z,iV J,.string (⟨#[123,125]⟩:Bt),.func (.func 171) #[.pointer L] #[]] f (λA B=>A=.tuple #[]/\R (.tuple #[]) B))/\((g==6)=Tc->∃C,L=Td C/\∃D,zc f (Ad ⟨h.size,0,Te⟩ 1)=Td (.string D)/\XC Tp 85 #[.pointer (Td (Ad C 0)),.string D] f (λE F=>∃G,∃I:Value,E=.tuple #[iV G,I]/\R (.tuple #[]) F)))))):
  XC Tp 97 #[.pointer L,.agg #[.int .i64 b,.string c,.slice d.a d.len d.cap,.slice e.a e.len e.cap],.int .i64 J] h R:=
 XF ⟨[(2,8000)],[],[]⟩ [] 42 Tryz.func97 H
theorem W6(k:Option Addr)(s1:Bt)(h:zb)(R:Value->zb->Prop) (H:XC Tp 27 #[.string s1] h (λa b=>∃c d,a=.tuple #[.string c,iV d]/\∃e,k=Td e/\XC Tp 85 #[.pointer (Td (Ad e 0)),.string c] b (λf g=>∃i,∃j:Value,f=.tuple #[iV i,j]/\R (.tuple #[]) g))):
  XC Tp 168 #[.pointer k,.string s1] h R:=
 XF ⟨[],[],[]⟩ [] 16 Tryz.func168 H
theorem Xu(Y:Option Addr)(b:Int)(c:Bt)(d:Sl)(e:Sl)(P:Int)(Q:Bt)(S:FuncId)(V:Array Value)(U:Array Value)(h:zb)(R:Value->zb->Prop) (H:let f:=h.push (.cells #[iV b,.string c,slV d,slV e] 26);∃g,Y=Td g/\(0<=(0:Int)/\(0:Int)<(Q.size:Int))/\XC Tp 81 #[.pointer (Td (Ad g 0)),.int .u8 (zr Q (0:Int).toNat)] f (λi j=>∃k:Value,i=k/\∃l,zc j (Ad ⟨h.size,0,Te⟩ 3)=Td (slV l)/\∃(m:Int->zb->Prop) (n:Int->zb->Nat),m 0 j/\∀o:Int,∀p:zb,m o p->((decide (o<l.len)=Ta->∀q:zb->Prop,(∀r:zb,(XC Tp 235 #[.pointer Y,iV (Aa .i64 (P+1))] r (λs t=>s=.tuple #[]/\∃u v w x,zd t ⟨h.size,0,Te⟩ 0 (tL u v w x)/\zh Tp S=Ta/\XC Tp S (V++#[tA u v w x,iV o,iV (Aa .i64 (P+1))]++U) t (λy z=>y=.tuple #[]/\(m (Aa .i64 (o+1)) z/\n (Aa .i64 (o+1)) z<n o p))))->q r)->(decide (o>0)=Ta->∃A,Y=Td A/\XC Tp 81 #[.pointer (Td (Ad A 0)),.int .u8 44] p (λB C=>∃D:Value,B=D/\q C))/\(decide (o>0)=Tc->q p))/\(decide (o<l.len)=Tc->∀E:zb->Prop,(∀F:zb,(∃G,Y=Td G/\(0<=(1:Int)/\(1:Int)<(Q.size:Int))/\XC Tp 81 #[.pointer (Td (Ad G 0)),.int .u8 (zr Q (1:Int).toNat)] F (λI J=>∃L:Value,I=L/\R (.tuple #[]) J))->E F)->∃M,zc p (Ad ⟨h.size,0,Te⟩ 3)=Td (slV M)/\(decide ((M.len:Int)>0)=Ta->XC Tp 235 #[.pointer Y,iV P] p (λN O=>N=.tuple #[]/\E O))/\(decide ((M.len:Int)>0)=Tc->E p))))):
  XC Tp 169 #[.pointer Y,.agg #[.int .i64 b,.string c,.slice d.a d.len d.cap,.slice e.a e.len e.cap],.int .i64 P,.string Q,.func (.func S) V U] h R:=
 XF ⟨[(1,8000),(12,8000)],[(3,[(20,.one (.int .i64))])],[(7,[]),(12,[])]⟩ [] 53 Tryz.func169 H
theorem zap(r:Option Addr)(b:Int)(c:Bt)(d:Sl)(e:Sl)(q:Int)(p:Int)(h:zb)(R:Value->zb->Prop) (H:let f:=h.push (.cells #[iV b,.string c,slV d,slV e] 26);∃g,zc f (Ad ⟨h.size,0,Te⟩ 3)=Td (slV g)/\∃i,(g.a=Td i/\0<=q/\q<g.len)/\∃j k l m,zd f (i.add (q.toNat*4)) 0 (tL j k l m)/\XC Tp 97 #[.pointer r,tA j k l m,iV p] f (λn o=>n=.tuple #[]/\R (.tuple #[]) o)):
  XC Tp 170 #[.pointer r,.agg #[.int .i64 b,.string c,.slice d.a d.len d.cap,.slice e.a e.len e.cap],.int .i64 q,.int .i64 p] h R:=
 XF ⟨[],[],[]⟩ [] 16 Tryz.func170 H
theorem W8(J:Option Addr)(b:Int)(c:Bt)(d:Sl)(e:Sl)(I:Int)(G:Int)(h:zb)(R:Value->zb->Prop) (H:let f:=h.push (.cells #[iV b,.string c,slV d,slV e] 26);∃g,zc f (Ad ⟨h.size,0,Te⟩ 2)=Td (slV g)/\∃i,(g.a=Td i/\0<=I/\I<g.len)/\∃j,zc f (i.add (I.toNat*1))=Td (.string j)/\XC Tp 168 #[.pointer J,.string j] f (λk l=>k=.tuple #[]/\∃m,J=Td m/\XC Tp 81 #[.pointer (Td (Ad m 0)),.int .u8 58] l (λn o=>∃p:Value,n=p/\∀q:zb->Prop,(∀r:zb,(∃s,zc r (Ad ⟨h.size,0,Te⟩ 3)=Td (slV s)/\∃t,(s.a=Td t/\0<=I/\I<s.len)/\∃u v w x,zd r (t.add (I.toNat*4)) 0 (tL u v w x)/\XC Tp 97 #[.pointer J,tA u v w x,iV G] r (λy z=>y=.tuple #[]/\R (.tuple #[]) z))->q r)->∃A,J=Td A/\∃B,zc o (Ad A 2)=Td (.bool B)/\(B=Ta->∃C,J=Td C/\XC Tp 81 #[.pointer (Td (Ad C 0)),.int .u8 32] o (λD E=>∃F:Value,D=F/\q E))/\(B=Tc->q o)))):
  XC Tp 171 #[.pointer J,.agg #[.int .i64 b,.string c,.slice d.a d.len d.cap,.slice e.a e.len e.cap],.int .i64 I,.int .i64 G] h R:=
 XF ⟨[],[],[(5,[])]⟩ [] 35 Tryz.func171 H
theorem zaq(s:Option Addr)(r:Int)(h:zb)(R:Value->zb->Prop) (H:∃a,s=Td a/\∃b,zc h (Ad a 2)=Td (.bool b)/\(b=Ta->∃c,s=Td c/\XC Tp 81 #[.pointer (Td (Ad c 0)),.int .u8 10] h (λd e=>∃f:Value,d=f/\∃g,s=Td g/\∃i,s=Td i/\∃j,zc e (Ad i 3)=Td (iV j)/\XC Tp 86 #[.string (⟨#[32]⟩:Bt),iV (Aa .i64 (j*r))] e (λk l=>∃m,k=.string m/\XC Tp 85 #[.pointer (Td (Ad g 0)),.string m] l (λn o=>∃p,∃q:Value,n=.tuple #[iV p,q]/\R (.tuple #[]) o))))/\(b=Tc->R (.tuple #[]) h)):
  XC Tp 235 #[.pointer s,.int .i64 r] h R:=
 XF ⟨[(2,8000)],[],[]⟩ [] 23 Tryz.func235 H
theorem zkg(b:Int)(c:Bt)(d:Sl)(e:Sl)(h:zb)(R:Value->zb->Prop) (H:let f:=h.push (.cells #[iV b,.string c,slV d,slV e] 26);let g:=f.push (.cells tC 26);∃i j k l,zd g ⟨h.size,0,Te⟩ 0 (tL i j k l)/\XC Tp 88 #[tA i j k l] g (λm n=>∃o,m=.bool o/\((!o)=Ta->XRunU Tp (Af 26 (.pointer (Td ⟨f.size,0,Te⟩)) (tZ)) n (λp=>∃q r s t,zd p ⟨f.size,0,Te⟩ 0 (tL q r s t)/\R (tA q r s t) p))/\((!o)=Tc->∃u v w x,zd n ⟨h.size,0,Te⟩ 0 (tL u v w x)/\XC Tp 98 #[tA u v w x] n (λy z=>∃A B C D,y=tA A B C D/\XRunU Tp (Af 26 (.pointer (Td ⟨f.size,0,Te⟩)) (tA A B C D)) z (λE=>∃F G I J,zd E ⟨f.size,0,Te⟩ 0 (tL F G I J)/\R (tA F G I J) E))))):
  XC Tp 37 #[.agg #[.int .i64 b,.string c,.slice d.a d.len d.cap,.slice e.a e.len e.cap]] h R:=
 XF ⟨[],[],[]⟩ [.cell 2 26] 9 Tryz.func37 H
theorem zkh(b:Int)(c:Bt)(d:Sl)(e:Sl)(h:zb)(R:Value->zb->Prop) (H:let f:=h.push (.cells #[iV b,.string c,slV d,slV e] 26);let g:=f.push (.cells tC 26);∃i,zc g (Ad ⟨h.size,0,Te⟩ 0)=Td (iV i)/\∃j,zc g (Ad ⟨h.size,0,Te⟩ 1)=Td (.string j)/\let k:=g.push (.cells tC 26);XRunU Tp (Af 26 (.pointer (Td ⟨g.size,0,Te⟩)) (.agg #[iV i,.string j,.slice Te 0 0,.slice Te 0 0])) k (λl=>∃m,zc l (Ad ⟨h.size,0,Te⟩ 0)=Td (iV m)/\((m != 6)=Ta->∃n,zc l (Ad ⟨h.size,0,Te⟩ 3)=Td (slV n)/\∃(o:Int->zb->Prop) (p:Int->zb->Nat),o 0 l/\∀q:Int,∀r:zb,o q r->((decide (q<n.len)=Ta->∃s,(n.a=Td s/\0<=q/\q<n.len)/\∃t u v w,zd r (s.add (q.toNat*4)) 0 (tL t u v w)/\let x:=r.push (.cells tC 26);XRunU Tp (Af 26 (.pointer (Td ⟨r.size,0,Te⟩)) (tA t u v w)) x (λy=>∃z,zc y (Ad ⟨g.size,0,Te⟩ 3)=Td (slV z)/\∃A B C D,zd y ⟨r.size,0,Te⟩ 0 (tL A B C D)/\XC Tp 98 #[tA A B C D] y (λE F=>∃G I J L,E=tA G I J L/\(F)[((Ad ⟨g.size,0,Te⟩ 3):Addr).block]?=(y)[((Ad ⟨g.size,0,Te⟩ 3):Addr).block]?/\let M:=F.push (.cells #[iV G,.string I,slV J,slV L] 26);(M)[((Ad ⟨g.size,0,Te⟩ 3):Addr).block]?=(y)[((Ad ⟨g.size,0,Te⟩ 3):Addr).block]?/\XRun Tp (Au #[24,24] 24 #[slV z,.slice (Td ⟨F.size,0,Te⟩) 1 1]) M (λN O=>∃P,N=slV P/\XRunU Tp (Af 24 (.pointer (Td (Ad ⟨g.size,0,Te⟩ 3))) (slV P)) O (λQ=>(o (Aa .i64 (q+1)) Q/\p (Aa .i64 (q+1)) Q<p q r))))))/\(decide (q<n.len)=Tc->∃S T U V,zd r ⟨g.size,0,Te⟩ 0 (tL S T U V)/\XRunU Tp (Af 26 (.pointer (Td ⟨f.size,0,Te⟩)) (tA S T U V)) r (λW=>∃X Y Z aa,zd W ⟨f.size,0,Te⟩ 0 (tL X Y Z aa)/\R (tA X Y Z aa) W))))/\((m != 6)=Tc->∃ab ac ad ae,zd l ⟨h.size,0,Te⟩ 0 (tL ab ac ad ae)/\XC Tp 172 #[tA ab ac ad ae] l (λaf ag=>∃ah:Option Nat,af=.map ah/\XC Tp 174 #[.map ah] ag (λai aj=>∃ak:Value,ai=ak/\XC Tp 173 #[ak] aj (λal am=>∃an,al=slV an/\XRunU Tp (Af 23 (.pointer (Td (Ad ⟨g.size,0,Te⟩ 2))) (slV an)) am (λao=>∃ap,zc ao (Ad ⟨g.size,0,Te⟩ 2)=Td (slV ap)/\∃(aq:Int->zb->Prop) (ar:Int->zb->Nat),aq 0 ao/\∀au:Int,∀av:zb,aq au av->((decide (au<ap.len)=Ta->∃aw,(ap.a=Td aw/\0<=au/\au<ap.len)/\∃ax,zc av (aw.add (au.toNat*1))=Td (.string ax)/\∃ay,zc av (Ad ⟨g.size,0,Te⟩ 3)=Td (slV ay)/\∃az aA aB aC,QExec Tp (C9 193 (.map ah) (.string ax) Tc) av (tA az aA aB aC)/\(av)[((Ad ⟨g.size,0,Te⟩ 3):Addr).block]?=(av)[((Ad ⟨g.size,0,Te⟩ 3):Addr).block]?/\XC Tp 98 #[tA az aA aB aC] av (λaD aE=>∃aF aG aH aI,aD=tA aF aG aH aI/\(aE)[((Ad ⟨g.size,0,Te⟩ 3):Addr).block]?=(av)[((Ad ⟨g.size,0,Te⟩ 3):Addr).block]?/\let aJ:=aE.push (.cells #[iV aF,.string aG,slV aH,slV aI] 26);(aJ)[((Ad ⟨g.size,0,Te⟩ 3):Addr).block]?=(av)[((Ad ⟨g.size,0,Te⟩ 3):Addr).block]?/\XRun Tp (Au #[24,24] 24 #[slV ay,.slice (Td ⟨aE.size,0,Te⟩) 1 1]) aJ (λaL aM=>∃aN,aL=slV aN/\XRunU Tp (Af 24 (.pointer (Td (Ad ⟨g.size,0,Te⟩ 3))) (slV aN)) aM (λaO=>(aq (Aa .i64 (au+1)) aO/\ar (Aa .i64 (au+1)) aO<ar au av)))))/\(decide (au<ap.len)=Tc->∃aP aQ aS aT,zd av ⟨g.size,0,Te⟩ 0 (tL aP aQ aS aT)/\XRunU Tp (Af 26 (.pointer (Td ⟨f.size,0,Te⟩)) (tA aP aQ aS aT)) av (λaU=>∃aV aW aX aY,zd aU ⟨f.size,0,Te⟩ 0 (tL aV aW aX aY)/\R (tA aV aW aX aY) aU)))))))))):
  XC Tp 98 #[.agg #[.int .i64 b,.string c,.slice d.a d.len d.cap,.slice e.a e.len e.cap]] h R:=
 XF ⟨[(6,8000),(14,8000)],[(4,[(20,.one (.int .i64))]),(12,[(42,.one (.int .i64))])],[]⟩ [.cell 2 26] 57 Tryz.func98 H
theorem zhr(b:Int)(c:Bt)(d:Sl)(e:Sl)(h:zb)(R:Value->zb->Prop) (H:let f:=h.push (.cells #[iV b,.string c,slV d,slV e] 26);∃g,zc f (Ad ⟨h.size,0,Te⟩ 2)=Td (slV g)/\let i:=f.push (.map #[] 0);∃j,zc i (Ad ⟨h.size,0,Te⟩ 2)=Td (slV j)/\∃(k:Int->zb->Prop) (l:Int->zb->Nat),k 0 i/\∀m:Int,∀n:zb,k m n->((decide (m<j.len)=Ta->∃o,(j.a=Td o/\0<=m/\m<j.len)/\∃p,zc n (o.add (m.toNat*1))=Td (.string p)/\∃q,zc n (Ad ⟨h.size,0,Te⟩ 3)=Td (slV q)/\∃r,(q.a=Td r/\0<=m/\m<q.len)/\∃s t u v,zd n (r.add (m.toNat*4)) 0 (tL s t u v)/\XRunU Tp (Ce 193 (.map (Td f.size)) (.string p) (tA s t u v)) n (λw=>(k (Aa .i64 (m+1)) w/\l (Aa .i64 (m+1)) w<l m n)))/\(decide (m<j.len)=Tc->R (.map (Td f.size)) n))):
  XC Tp 172 #[.agg #[.int .i64 b,.string c,.slice d.a d.len d.cap,.slice e.a e.len e.cap]] h R:=
 XF ⟨[],[(3,[(13,.one (.int .i64))])],[]⟩ [.tmp 2] 27 Tryz.func172 H
theorem zl7(b:Int)(c:Bt)(d:Sl)(e:Sl)(h:zb)(R:Value->zb->Prop) (H:let f:=h.push (.cells #[iV b,.string c,slV d,slV e] 26);∃g i j k,zd f ⟨h.size,0,Te⟩ 0 (tL g i j k)/\XC Tp 93 #[tA g i j k] f (λl m=>∃n,l=.bool n/\∃o p q r,(n=Ta->zd m ⟨h.size,0,Te⟩ 0 (tL o p q r))/\∃s:Value->zb->Prop,(n=Ta->XC Tp 94 #[tA o p q r,.func (.func 95) #[] #[]] m (λt u=>∃v,t=.bool v/\s (.bool v) u))/\(n=Tc->∃w,s (.bool w) m)/\(n=Ta->∀x y,s x y->∃z,x=.bool z)/\∀A:Bool,∀B,s (.bool A) B->R (.bool (bif n then A else Tc)) B)):
  XC Tp 33 #[.agg #[.int .i64 b,.string c,.slice d.a d.len d.cap,.slice e.a e.len e.cap]] h R:=
 XF ⟨[],[],[]⟩ [.tmp 2] 9 Tryz.func33 H
end
end Go.X
end
section
namespace Go.X
open Go Go.Lib
section
variable {a:Nat}
abbrev Tk:=Int×Int×Int
def xo:Bs:=[32,9,10,13]
def ya:Bs:=[123,125,91,93,44,58]
def zc3:Bs:=[45,43,46,48,49,50,51,52,53,54,55,56,57,101,69]
def zc4:Bs:=[45,48,49,50,51,52,53,54,55,56,57]
def we:Bs:=[97,98,99,100,101,102,103,104,105,106,107,108,109,110,111,112,113,114,115,116,117,118,119,120,121,122]
def Ye(p:UInt8->Bool)(l:Bs):Nat:=(l.takeWhile p).length
theorem z6p(p:UInt8->Bool)(l:Bs):Ye p l<=l.length:=(List.takeWhile_sublist p).length_le
theorem zyb{p:UInt8->Bool}{c:UInt8}{l:Bs}(h:p c=Ta):0<Ye p (c::l):=by unfold Ye;rw[List.takeWhile_cons,if_pos h];simp
theorem zwa{p:UInt8->Bool}:∀{l:Bs} {k:Nat} (b:k<=l.length),(∀j (f:j<k),p (l[j]'(by omega))=Ta)->(∀h:k<l.length,p l[k]=Tc)->Ye p l=k
 |[],k,b,h1,h2=>by simp at b;subst b;rfl
 |c::l,0,b,h1,h2=>by have:=h2 (by simp);unfold Ye;rw[List.takeWhile_cons,if_neg (by simp at this;simp[this])];rfl
 |c::l,k+1,b,h1,h2=>by have e:=h1 0 (by omega);simp only[List.getElem_cons_zero]at e;unfold Ye;rw[List.takeWhile_cons,if_pos e,Aq];have:=zwa (p:=p) (l:=l) (k:=k) (by simp at b;omega) (λj f=>by have:=h1 (j+1) (by omega);simpa using this) (λi=>by have:=h2 (by simp;omega);simpa using this);unfold Ye at this;omega
def Qj(s:Bs):Int:=if s=[116,114,117,101]then 10 else if s=[102,97,108,115,101]then 11 else if s=[110,117,108,108]then 12 else 0
def xp(l:Bs)(c:UInt8):Bool:=decide (c∈l)
def Z5(s:Bs)(a:Nat):Int×Nat×Int:=match s.drop a with
 |[]=>(0,a,2)
 |c::t=>
  if c∈ya then(2+indexByte ya c,a+1,0)
  else if c∈xo then(1,a+Ye (xp xo) (c::t),0)
  else if c=34 then(if(yq s a).2.2=0 then(8,(yq s a).2.1,0)else(0,(yq s a).2.1,(yq s a).2.2))
  else if c∈zc4 then(if(zj ((c::t).take (Ye (xp zc3) (c::t)))).2=0 then(9,a+Ye (xp zc3) (c::t),0)else(0,a,(zj ((c::t).take (Ye (xp zc3) (c::t)))).2))
  else if Qj ((c::t).take (Ye (xp we) (c::t)))=0 then(0,a,2)else(Qj ((c::t).take (Ye (xp we) (c::t))),a+Ye (xp we) (c::t),0)
theorem z05{t:Bs}(h:(yq t a).2.2=0):a<(yq t a).2.1/\(yq t a).2.1<=t.length:=by
 unfold yq at h ⊢;split at h;rename_i b;rw[if_pos b];have:=(zsx _ (t.drop (a+1)) rfl).1;have c:a<t.length:=by rcases AX a t.length with h1|h1;exact h1;rw[Br h1]at b;cases b
 rw[AI]at this;dsimp only at h ⊢;split at h;rename_i e;rw[if_pos e];dsimp only;omega;cases h;cases h
theorem Jt{s:Bs}(o:a<s.length)(h:(Z5 s a).2.2=0):a<(Z5 s a).2.1/\(Z5 s a).2.1<=s.length:=by
 have m:s.drop a=s[a]::s.drop (a+1):=Bw o;have q:(s[a]::s.drop (a+1)).length=s.length-a:=by rw[<-m,AI]
 have rb:=λp=>z6p p (s[a]::s.drop (a+1));rw[q]at rb;unfold Z5 at h ⊢;rw[m]at h ⊢;dsimp only at h ⊢;split;dsimp only;omega;rename_i h1;rw[if_neg h1]at h;split;rename_i k;have:=zyb (p:=xp xo) (l:=s.drop (a+1)) (c:=s[a]) (by unfold xp;exact decide_eq_true k);have:=rb (xp xo);dsimp only;omega;rename_i k;rw[if_neg k]at h;split;rename_i i;rw[if_pos i]at h;split at h;rename_i b;rw[if_pos b];exact z05 b;rename_i b;exact absurd h b;rename_i i;rw[if_neg i]at h;split;rename_i b;rw[if_pos b]at h;split at h;rename_i f;rw[if_pos f];have n:s[a]∈zc3:=by
  have:∀c∈zc4,c∈zc3:=by decide
  exact this _ b
 have:=zyb (p:=xp zc3) (l:=s.drop (a+1)) (c:=s[a]) (by unfold xp;exact decide_eq_true n);have:=rb (xp zc3);dsimp only;omega;rename_i f;exact absurd h f;rename_i b;rw[if_neg b]at h;split at h;cases h;rename_i f;rw[if_neg f];have:0<Ye (xp we) (s[a]::s.drop (a+1)):=by refine Nat.pos_of_ne_zero λe=>f ?_;rw[e];rfl
 have:=rb (xp we);dsimp only;omega
def Q8:Nat->Bs->Nat->List Tk->List Tk×Nat×Int
 |0,_,a,o=>(o,a,0)
 |f+1,s,a,o=>if a<s.length then(if(Z5 s a).2.2=0 then Q8 f s (Z5 s a).2.1 (o++[((Z5 s a).1,((a:Int),((Z5 s a).2.1:Int)))])else([],(Z5 s a).2.1,(Z5 s a).2.2))else(o,a,0)
def yr(s:Bs):List Tk×Nat×Int:=if 65536<s.length then([],0,3)else Q8 s.length s 0 []
end
section
variable {s:Bs}
abbrev Sp:=Int×Int
abbrev Nd:=Int×Sp×Sp×List Int×List Sp
structure PSt where
 rest:List Tk
 last:Int
 nodes:List Nd
abbrev PR(α:Type):=α ⊕ (Int×Int)
def PSt.kind(st:PSt):Int:=match st.rest with | []=>0|t::_=>t.1
def PSt.here(st:PSt)(n:Nat):Int:=match st.rest with | []=>(n:Int)|t::_=>t.2.1
def PSt.skip(st:PSt):PSt:=match st.rest with | []=>st|t::r=>⟨r,t.2.2,st.nodes⟩
def zu(k:Int):Int:=if k=12 then 1 else if k=10\/k=11 then 2 else if k=9 then 3 else if k=8 then 4 else if k=4 then 5 else if k=2 then 6 else 0
def z6q(k:Int)(p:Sp)(x:Nd):Nd:=(x.1,x.2.1,x.2.2.1,x.2.2.2.1++[k],x.2.2.2.2++[p])
def qf7(t:Int)(x:Nd):Nd:=(x.1,(x.2.1.1,t),x.2.2)
def PSt.addKid(st:PSt)(n:Nat)(k:Int)(p:Sp):PSt:=⟨st.rest,st.last,st.nodes.modify n (z6q k p)⟩
def PSt.setTo(st:PSt)(n:Nat):PSt:=⟨st.rest,st.last,st.nodes.modify n (qf7 st.last)⟩
def PSt.err{α:Type}(st:PSt)(s:Bs)(e:Int):PR α:=.inr (st.here s.length,e)
abbrev znf:=List Bs->PSt->PR (List Bs×PSt)
def Ju(s:Bs)(n:Nat)(closing:Int)(kid:znf):Nat->List Bs->PSt->PR PSt
 |0,_,st=>st.err s 2
 |f+1,had,st=>match kid had st with
  |.inr e=>.inr e
  |.inl (had',st')=>
   if st'.kind=closing then .inl (st'.addKid n st.nodes.length (st.last,st'.here s.length)).skip
   else if st'.kind=6 then Ju s n closing kid f had' (st'.addKid n st.nodes.length (st.last,st'.here s.length)).skip
   else st'.err s 2
def Xv(s:Bs)(n:Nat)(closing:Int)(kid:znf)(st:PSt):PR PSt:=
 if st.kind=closing then .inl st.skip else Ju s n closing kid (st.rest.length+1) [] st
abbrev zs2:=Sp->PSt->PR PSt
def zep(val:zs2):znf:=λhad st=>match val (0,0) st with
 |.inl st'=>.inl (had,st')
 |.inr e=>.inr e
def J4(s:Bs)(p:Sp):Bs:=(s.drop p.1.toNat).take (p.2.toNat-p.1.toNat)
def zs3(s:Bs)(val:zs2):znf:=λhad st=>match st.rest with
 |[]=>st.err s 2
 |t::_=>
  if t.1=8 then
   if(Xn (J4 s t.2)).1∈had then st.err s 7
   else if st.skip.kind=7 then match val t.2 st.skip.skip with
    |.inl st'=>.inl (had++[(Xn (J4 s t.2)).1],st')
    |.inr e=>.inr e
   else st.skip.err s 2
  else st.err s 2
def PSt.open(st:PSt)(key:Sp):PSt:=match st.rest with
 |[]=>st
 |t::r=>⟨r,t.2.2,st.nodes++[(zu t.1,t.2,key,[],[])]⟩
def zup(s:Bs)(val:zs2)(n:Nat)(k:Int)(st:PSt):PR PSt:=
 if k=5 then Xv s n 5 (zep val) st else if k=6 then Xv s n 3 (zs3 s val) st else .inl st
def J5(s:Bs):Nat->zs2
 |0,key,st=>if zu st.kind=0 then st.err s 2 else st.err s 5
 |d+1,key,st=>if zu st.kind=0 then st.err s 2 else if st.nodes.length=4096 then st.err s 6 else
  match zup s (J5 s d) st.nodes.length (zu st.kind) (st.open key)with
  |.inl st'=>.inl (st'.setTo st.nodes.length)
  |.inr e=>.inr e
def zw(l:List Tk):List Tk:=l.filter λt=>decide (t.1≠1)
def Yf(s:Bs):(Bs×List Nd)×Int×Int:=
 if(yr s).2.2=0 then
  match J5 s 32 (0,0) ⟨zw (yr s).1,0,[]⟩with
  |.inl st=>if st.rest=[]then((s,st.nodes),(s.length:Int),0)else(([],[]),st.here s.length,2)
  |.inr e=>(([],[]),e.1,e.2)
 else(([],[]),((yr s).2.1:Int),(yr s).2.2)
def TkW(s:Bs)(t:Tk):Prop:=0<=t.2.1/\t.2.1<t.2.2/\t.2.2<=(s.length:Int)/\(2<=t.1/\t.1<=7->t.2.2=t.2.1+1)
theorem z6r{a:Nat}(b:a<s.length)(h:2<=(Z5 s a).1/\(Z5 s a).1<=7):(Z5 s a).2.1=a+1:=by
 have c:s.drop a=s[a]::s.drop (a+1):=Bw b;unfold Z5 at h ⊢;rw[c]at h ⊢;dsimp only at h ⊢;have f:∀l:Bs,Qj l=0\/Qj l=10\/Qj l=11\/Qj l=12:=λl=>by unfold Qj;split;exact .inr (.inl rfl);split;exact .inr (.inr (.inl rfl));split;exact .inr (.inr (.inr rfl));exact .inl rfl
 split;rfl;rename_i h1;rw[if_neg h1]at h;split at h;omega;rename_i i;split at h;split at h <;> (dsimp only at h;omega);split at h;split at h <;> (dsimp only at h;omega);split at h;dsimp only at h;omega;dsimp only at h;rcases f ((s[a]::s.drop (a+1)).take (Ye (xp we) (s[a]::s.drop (a+1))))with e|e|e|e <;> rw[e]at h <;> omega
theorem zyc:∀(f:Nat) (s:Bs) (a:Nat) (o:List Tk),(∀t∈o,TkW s t)->∀t∈(Q8 f s a o).1,TkW s t
 |0,s,a,o,h=>h
 |f+1,s,a,o,h=>by rw[Q8];split;rename_i c;split;rename_i h0;refine zyc f s _ _ λt b=>?_;rcases Aw.1 b with b|b;exact h t b;rw[AY.1 b];have i:=Jt c h0;refine⟨by dsimp only;omega,by dsimp only;omega,by dsimp only;omega,λe=>?_⟩;have:=z6r c e;dsimp only;omega;intro t b;cases b;exact h
theorem qbp(s:Bs):∀t∈(yr s).1,TkW s t:=by unfold yr;split;intro t b;cases b;exact zyc _ _ _ _ λt b=>by cases b
theorem z06{l:List Tk}(h:∀t∈l,TkW s t):∀t∈zw l,TkW s t:=λt b=>h t (Cf.1 b).1
end
section
variable {k:Int} {s:Bs}
def ndW(x:Nd):Nat:=x.2.2.2.1.length+x.2.2.2.2.length
def PSt.T(st:PSt):Nat:=2*st.rest.length+(st.nodes.map ndW).sum
theorem zwb{f:Nd->Nd}{k:Nat}(h:∀x,ndW (f x)<=ndW x+k):∀(l:List Nd) (n:Nat),((l.modify n f).map ndW).sum<=(l.map ndW).sum+k
 |[],n=>by simp
 |x::l,0=>by have:=h x;simp only[List.modify_zero_cons,As,List.sum_cons];omega
 |x::l,n+1=>by have:=zwb h l n;simp only[List.modify_succ_cons,As,List.sum_cons];omega
theorem qf8{st:PSt}{x:Nd}(h:x∈st.nodes):ndW x<=st.T:=by
 have:∀(l:List Nd),x∈l->ndW x<=(l.map ndW).sum:=by
  intro l;induction l with
  |nil=>intro h;cases h
  |cons y l b=>intro h;rw[As,List.sum_cons];rcases Ai.1 h with rfl|h;omega;have:=b h;omega
 have:=this _ h;unfold PSt.T;omega
theorem qbq(st:PSt)(n:Nat)(k:Int)(p:Sp):(st.addKid n k p).T<=st.T+2:=by have:=zwb (f:=z6q k p) (k:=2) (λx=>by unfold ndW z6q;simp;omega) st.nodes n;unfold PSt.T PSt.addKid;dsimp only;omega
theorem qf9(st:PSt)(n:Nat):(st.setTo n).T<=st.T:=by have:=zwb (f:=qf7 st.last) (k:=0) (λx=>by unfold ndW qf7;simp) st.nodes n;unfold PSt.T PSt.setTo;dsimp only;omega
theorem qi5{st:PSt}(h:st.rest≠[]):st.skip.T+2=st.T:=by
 unfold PSt.skip PSt.T;cases hr:st.rest with
 |nil=>exact absurd hr h
 |cons t r=>simp only[Aq];omega
theorem qi6{st:PSt}{key:Sp}(h:st.rest≠[]):(st.open key).T+2=st.T:=by
 unfold PSt.open PSt.T;cases hr:st.rest with
 |nil=>exact absurd hr h
 |cons t r=>simp only[Aq,Bh,List.sum_append,As,Cb,List.sum_cons,List.sum_nil,ndW,A4];omega
theorem qu(st:PSt):st.skip.nodes=st.nodes:=by unfold PSt.skip;split <;> rfl
theorem PSt.ne_kind{st:PSt}(h:st.kind=k)(b:k≠0):st.rest≠[]:=λe=>by unfold PSt.kind at h;rw[e]at h;exact b h.symm
theorem zif{st:PSt}(h:¬zu st.kind=0):st.rest≠[]:=λe=>by refine h ?_;unfold PSt.kind;rw[e];rfl
theorem Jv(st:PSt)(n:Nat)(k:Int)(p:Sp):(st.addKid n k p).nodes.length=st.nodes.length:=by unfold PSt.addKid;simp
theorem zeq(st:PSt)(n:Nat):(st.setTo n).nodes.length=st.nodes.length:=by unfold PSt.setTo;simp
theorem zpo{st:PSt}{key:Sp}(h:st.rest≠[]):(st.open key).nodes.length=st.nodes.length+1:=by
 unfold PSt.open;cases hr:st.rest with
 |nil=>exact absurd hr h
 |cons t r=>simp
structure Okk (st st':PSt) (k:Nat):Prop where
 t:st'.T+k<=st.T
 r:2*st'.rest.length+k<=2*st.rest.length
 w:∀t∈st'.rest,t∈st.rest
 n:st.nodes.length<=st'.nodes.length
 m:st.nodes.length<=4096->st'.nodes.length<=4096
theorem Okk.trans{a b c:PSt}{j k:Nat}(x:Okk a b j)(y:Okk b c k):Okk a c (j+k):=⟨by have:=x.t;have:=y.t;omega,by have:=x.r;have:=y.r;omega,λt h=>x.w t (y.w t h),by have:=x.n;have:=y.n;omega,λh=>y.m (x.m h)⟩
theorem Okk.le{a b:PSt}{j k:Nat}(x:Okk a b j)(h:k<=j):Okk a b k:=⟨by have:=x.t;omega,by have:=x.r;omega,x.w,x.n,x.m⟩
theorem Okk.refl(a:PSt):Okk a a 0:=⟨Ab _,Ab _,λt h=>h,Ab _,id⟩
theorem qi7{st:PSt}(h:st.rest≠[]):st.skip.rest.length+1=st.rest.length:=by
 unfold PSt.skip;cases hr:st.rest with
 |nil=>exact absurd hr h
 |cons t r=>simp
theorem qi8{st:PSt}{key:Sp}(h:st.rest≠[]):(st.open key).rest.length+1=st.rest.length:=by
 unfold PSt.open;cases hr:st.rest with
 |nil=>exact absurd hr h
 |cons t r=>simp
theorem qi9(st:PSt):∀t∈st.skip.rest,t∈st.rest:=by
 unfold PSt.skip;cases hr:st.rest with
 |nil=>simp[hr]
 |cons t r=>intro x b;exact Ae _ b
theorem qja(st:PSt)(key:Sp):∀t∈(st.open key).rest,t∈st.rest:=by
 unfold PSt.open;cases hr:st.rest with
 |nil=>simp[hr]
 |cons t r=>intro x b;exact Ae _ b
theorem zar{st:PSt}(h:st.rest≠[]):Okk st st.skip 2:=⟨by have:=qi5 h;omega,by have:=qi7 h;omega,qi9 st,by rw[qu];omega,by rw[qu];exact id⟩
def z07(kid:znf):Prop:=∀had st had' st',kid had st=.inl (had',st')->Okk st st' 2
theorem zf0{kid:znf}(i:z07 kid){had had':List Bs}{st st':PSt}{n:Nat}{p:Sp}(e:kid had st=.inl (had',st'))(h:st'.rest≠[]):Okk st (st'.addKid n k p).skip 2:=by have a:=i _ _ _ _ e;have l:(st'.addKid n k p).rest≠[]:=h;have b:=zar l;have c:=qbq st' n k p;have d:=Jv st' n k p;have f:(st'.addKid n k p).rest=st'.rest:=rfl;exact⟨by have:=a.t;have:=b.t;omega,by have:=a.r;have:=b.r;rw[f]at this;omega,λt h=>a.w t (b.w t h),by have:=a.n;have:=b.n;omega,λh=>b.m (by have:=a.m h;omega)⟩
theorem zyd{s:Bs}{n:Nat}{closing:Int}(m:closing≠0){kid:znf}(l:z07 kid):∀(f:Nat) (had:List Bs) (st st':PSt),Ju s n closing kid f had st=.inl st'->Okk st st' 2
 |0,had,st,st',h=>by unfold Ju PSt.err at h;cases h
 |f+1,had,st,st',h=>by rw[Ju]at h;split at h;cases h;rename_i b c e;split at h;rename_i i;cases h;exact zf0 l e (PSt.ne_kind i m);split at h;rename_i o;have a:=zf0 l e (n:=n) (k:=(st.nodes.length:Int)) (p:=(st.last,c.here s.length)) (PSt.ne_kind o (by omega));exact(a.trans (zyd m l f b _ st' h)).le (by omega);unfold PSt.err at h;cases h
theorem zye{n:Nat}{closing:Int}(b:closing≠0){kid:znf}(c:z07 kid){st st':PSt}(h:Xv s n closing kid st=.inl st'):Okk st st' 0:=by unfold Xv at h;split at h;rename_i e;cases h;exact(zar (PSt.ne_kind e b)).le (by omega);exact(zyd b c _ _ _ _ h).le (by omega)
def qga(val:zs2):Prop:=∀key st st',val key st=.inl st'->Okk st st' 2
theorem z6s{val:zs2}(h:qga val):z07 (zep val):=by intro had st had' st' e;unfold zep at e;split at e;rename_i c b;cases e;exact h _ _ _ b;cases e
theorem qdp{val:zs2}(h:qga val):z07 (zs3 s val):=by intro had st had' st' e;unfold zs3 at e;split at e;unfold PSt.err at e;cases e;rename_i t r k;split at e;split at e;unfold PSt.err at e;cases e;split at e;rename_i i;split at e;rename_i f c;cases e;have a:=zar (st:=st) (by rw[k];simp);have b:=zar (PSt.ne_kind i (by omega));exact((a.trans b).trans (h _ _ _ c)).le (by omega);cases e;unfold PSt.err at e;cases e;unfold PSt.err at e;cases e
theorem z6t{st:PSt}{key:Sp}(h:st.rest≠[])(b:¬st.nodes.length=4096):Okk st (st.open key) 2:=⟨by have:=qi6 (key:=key) h;omega,by have:=qi8 (key:=key) h;omega,qja st key,by rw[zpo h];omega,λc=>by rw[zpo h];omega⟩
theorem zs4(s:Bs):∀d:Nat,qga (J5 s d)
 |0=>by intro key st st' e;unfold J5 at e;split at e <;> (unfold PSt.err at e;cases e)
 |d+1=>by
  intro key st st' e;unfold J5 at e;split at e;unfold PSt.err at e;cases e;rename_i l;split at e;unfold PSt.err at e;cases e;rename_i k;split at e;rename_i f i;cases e;have a:=z6t (key:=key) (zif l) k;have b:Okk (st.open key) f 0:=by unfold zup at i;split at i;exact zye (by omega) (z6s (zs4 s d)) i;split at i;exact zye (by omega) (qdp (zs4 s d)) i;cases i;exact Okk.refl _
  have c:Okk f (f.setTo st.nodes.length) 0:=⟨qf9 _ _,Ab _,λt h=>h,by rw[zeq];omega,by rw[zeq];exact id⟩;exact(a.trans b).trans c;cases e
def qku(s:Bs)(had:List Bs)(st:PSt):PR (Bs×Sp×PSt):=match st.rest with
 |[]=>st.err s 2
 |t::_=>
  if t.1=8 then
   if(Xn (J4 s t.2)).1∈had then st.err s 7
   else if st.skip.kind=7 then .inl ((Xn (J4 s t.2)).1,t.2,st.skip.skip)
   else st.skip.err s 2
  else st.err s 2
theorem qbr(s:Bs)(val:zs2)(had:List Bs)(st:PSt):zs3 s val had st=match qku s had st with
  |.inl x=>(match val x.2.1 x.2.2 with
   |.inl st'=>.inl (had++[x.1],st')
   |.inr e=>.inr e)
  |.inr e=>.inr e:=by
 unfold zs3 qku PSt.err;cases st.rest with
 |nil=>rfl
 |cons t r=>dsimp only;by_cases h1:t.1=8;rw[if_pos h1,if_pos h1];by_cases c:(Xn (J4 s t.2)).1∈had;rw[if_pos c,if_pos c];rw[if_neg c,if_neg c];by_cases b:st.skip.kind=7;rw[if_pos b,if_pos b] <;> rfl;rw[if_neg b,if_neg b];rw[if_neg h1,if_neg h1]
theorem qjb{had:List Bs}{st:PSt}{x:Bs×Sp×PSt}(h:qku s had st=.inl x):Okk st x.2.2 4/\x.2.2.nodes=st.nodes:=by unfold qku PSt.err at h;split at h;cases h;rename_i t r e;split at h;split at h;cases h;split at h;rename_i c;cases h;have a:=zar (st:=st) (by rw[e];simp);have b:=zar (PSt.ne_kind c (by omega));exact⟨a.trans b,by dsimp only;rw[qu,qu]⟩;cases h;cases h
end
section
variable {lvs:List Nat} {l n lk:Nat} {s:Bs} {closing:Int}
structure GoodN (lvs:List Nat) (nodes:List Nd):Prop where
 len:lvs.length=nodes.length
 lv:∀(k l:Nat),lvs[k]?=Td l->1<=l/\l<=32
 kid:∀(k l:Nat) (x:Nd),nodes[k]?=Td x->lvs[k]?=Td l->∀c∈x.2.2.2.1,∃j:Nat,c=(j:Int)/\k<j/\lvs[j]?=Td (l+1)
theorem GoodN.nil:GoodN [] []:=⟨rfl,λk l h=>(by cases h),λk l x h=>(by cases h)⟩
theorem GoodN.push{nodes:List Nd}(G:GoodN lvs nodes)(h1:1<=l)(s:l<=32){x:Nd}(q:x.2.2.2.1=[]):GoodN (lvs++[l]) (nodes++[x]):=by refine⟨by simp[G.len],λk m h=>?_,λk m y b f c e=>?_⟩;rw[List.getElem?_append]at h;split at h;exact G.lv k m h;have:=Bz h;rw[AY]at this;omega;rw[List.getElem?_append]at b f;have r:=G.len;by_cases n:k<nodes.length;rw[if_pos n]at b;rw[if_pos (by omega)]at f;obtain⟨j,o,p,i⟩:=G.kid k m y b f c e;refine⟨j,o,p,?_⟩;rw[BG (A1.1 i).1];exact i;rw[if_neg n]at b;have:=Bz b;rw[AY]at this;subst this;rw[q]at e;cases e
theorem GoodN.mod{nodes:List Nd}(G:GoodN lvs nodes){f:Nd->Nd}(h:∀x l c,lvs[n]?=Td l->c∈(f x).2.2.2.1->c∈x.2.2.2.1\/∃j:Nat,c=(j:Int)/\n<j/\lvs[j]?=Td (l+1)):GoodN lvs (nodes.modify n f):=by
 refine⟨by rw[List.length_modify];exact G.len,G.lv,λk l x b i c m=>?_⟩;rw[BF]at b;cases hy:nodes[k]? with
 |none=>rw[hy]at b;cases b
 |some y=>
  rw[hy]at b;by_cases e:n=k;subst e;have b:f y=x:=by simpa using b
  subst b;rcases h y l c i m with h|h;exact G.kid n l y hy i c h;exact h;have b:y=x:=by simpa[e]using b
  subst b;exact G.kid k l y hy i c m
def qkv(kid:znf)(lk:Nat):Prop:=∀had st had' st' lvs,kid had st=.inl (had',st')->GoodN lvs st.nodes->∃new,GoodN (lvs++lk::new) st'.nodes
theorem zng{s:Bs}{n l:Nat}{closing:Int}{kid:znf}(t:qkv kid (l+1)):∀(f:Nat) (had:List Bs) (st st':PSt) (lvs:List Nat),Ju s n closing kid f had st=.inl st'->GoodN lvs st.nodes->lvs[n]?=Td l->∃new,GoodN (lvs++new) st'.nodes
 |0,had,st,st',lvs,h,G,hn=>by unfold Ju PSt.err at h;cases h
 |f+1,had,st,st',lvs,h,G,hn=>by
  rw[Ju]at h;split at h;cases h;rename_i p q e;obtain⟨new,z⟩:=t _ _ _ _ lvs e G;have r:=(A1.1 hn).1;have b:=G.len;have o:(lvs++(l+1)::new)[n]?=Td l:=by rw[BG r];exact hn
  have i:(lvs++(l+1)::new)[st.nodes.length]?=Td (l+1):=by rw[BD (by omega),<-b,Dr];rfl
  have y:GoodN (lvs++(l+1)::new) (q.addKid n st.nodes.length (st.last,q.here s.length)).skip.nodes:=by rw[qu];refine z.mod λx m c w u=>?_;unfold z6q at u;rw[o]at w;cases w;rcases Aw.1 u with h|h;exact .inl h;rw[AY]at h;exact .inr ⟨_,h,by omega,i⟩
  split at h;cases h;exact⟨_,y⟩;split at h;obtain⟨k,A⟩:=zng t f p _ st' _ h y o;exact⟨(l+1)::new++k,by rw[<-AH];exact A⟩;unfold PSt.err at h;cases h
theorem znh{kid:znf}(b:qkv kid (l+1)){st st':PSt}(h:Xv s n closing kid st=.inl st')(G:GoodN lvs st.nodes)(c:lvs[n]?=Td l):∃new,GoodN (lvs++new) st'.nodes:=by unfold Xv at h;split at h;cases h;exact⟨[],by rw[AR,qu];exact G⟩;exact zng b _ _ _ _ _ h G c
def ql5(val:zs2)(lk:Nat):Prop:=∀key st st' lvs,val key st=.inl st'->GoodN lvs st.nodes->∃new,GoodN (lvs++lk::new) st'.nodes
theorem z6u{val:zs2}(h:ql5 val lk):qkv (zep val) lk:=by intro had st had' st' lvs e G;unfold zep at e;split at e;rename_i c b;cases e;exact h _ _ _ _ b G;cases e
theorem qbs{val:zs2}(h:ql5 val lk):qkv (zs3 s val) lk:=by intro had st had' st' lvs e G;rw[qbr]at e;split at e;rename_i x i;have b:=(qjb i).2;split at e;rename_i f c;cases e;exact h _ _ _ _ c (by rw[b];exact G);cases e;cases e
theorem z08{st:PSt}{key:Sp}(h:st.rest≠[]):∃x:Nd,x.2.2.2.1=[]/\(st.open key).nodes=st.nodes++[x]:=by
 unfold PSt.open;cases hr:st.rest with
 |nil=>exact absurd hr h
 |cons t r=>exact⟨_,rfl,rfl⟩
theorem zyf(s:Bs):∀d:Nat,d<=32->ql5 (J5 s d) (33-d)
 |0,_=>by intro key st st' lvs e G;unfold J5 at e;split at e <;> (unfold PSt.err at e;cases e)
 |d+1,hd=>by
  intro key st st' lvs e G;have i:=zyf s d (by omega);rw[show 33-d=33-(d+1)+1 by omega]at i;unfold J5 at e;split at e;unfold PSt.err at e;cases e;rename_i p;split at e;unfold PSt.err at e;cases e;split at e;rename_i h b;cases e;obtain⟨x,m,k⟩:=z08 (key:=key) (zif p);have f:GoodN (lvs++[33-(d+1)]) (st.open key).nodes:=by rw[k];exact G.push (by omega) (by omega) m
  have o:(lvs++[33-(d+1)])[st.nodes.length]?=Td (33-(d+1)):=by rw[<-G.len,BD (Ab _),Dr];rfl
  obtain⟨new,n⟩:∃new,GoodN (lvs++[33-(d+1)]++new) h.nodes:=by unfold zup at b;split at b;exact znh (z6u i) b f o;split at b;exact znh (qbs i) b f o;cases b;exact⟨[],by rw[AR];exact f⟩
  refine⟨new,?_⟩;rw[AH]at n;exact n.mod λx l c r q=>.inl q;cases e
def qkw(kid:znf):Prop:=∀had st x,kid had st=.inr x->x.2≠0
def ql6(val:zs2):Prop:=∀key st x,val key st=.inr x->x.2≠0
theorem zer{α:Type}{st:PSt}{e:Int}(b:e≠0){x:Int×Int}(h:(st.err s e:PR α)=.inr x):x.2≠0:=by unfold PSt.err at h;cases h;exact b
theorem z6v{s:Bs}{n:Nat}{closing:Int}{kid:znf}(b:qkw kid):∀(f:Nat) (had:List Bs) (st:PSt) (x:Int×Int),Ju s n closing kid f had st=.inr x->x.2≠0
 |0,had,st,x,h=>by unfold Ju at h;exact zer (by omega) h
 |f+1,had,st,x,h=>by rw[Ju]at h;split at h;rename_i y e;cases h;exact b _ _ _ e;split at h;cases h;split at h;exact z6v b f _ _ x h;exact zer (by omega) h
theorem z6w{kid:znf}(b:qkw kid){st:PSt}{x:Int×Int}(h:Xv s n closing kid st=.inr x):x.2≠0:=by unfold Xv at h;split at h;cases h;exact z6v b _ _ _ _ h
theorem qjc{val:zs2}(h:ql6 val):qkw (zep val):=by intro had st x e;unfold zep at e;split at e;cases e;rename_i y b;cases e;exact h _ _ _ b
theorem ql7{val:zs2}(h:ql6 val):qkw (zs3 s val):=by intro had st x e;unfold zs3 at e;split at e;exact zer (by omega) e;split at e;split at e;exact zer (by omega) e;split at e;split at e;cases e;rename_i y b;cases e;exact h _ _ _ b;exact zer (by omega) e;exact zer (by omega) e
theorem qbt(s:Bs):∀d:Nat,ql6 (J5 s d)
 |0=>by intro key st x e;unfold J5 at e;split at e <;> exact zer (by omega) e
 |d+1=>by intro key st x e;unfold J5 at e;split at e;exact zer (by omega) e;split at e;exact zer (by omega) e;split at e;cases e;rename_i y b;cases e;unfold zup at b;split at b;exact z6w (qjc (qbt s d)) b;split at b;exact z6w (ql7 (qbt s d)) b;cases b
theorem z6x(h:(Yf s).2.2=0):∃lvs,GoodN (1::lvs) (Yf s).1.2/\(Yf s).1.1=s/\(Yf s).2.1=(s.length:Int)/\(Yf s).1.2.length<=4096/\∀x∈(Yf s).1.2,ndW x<=2*(yr s).1.length:=by
 have b:∀{x:Int×Int},J5 s 32 (0,0) ⟨zw (yr s).1,0,[]⟩=.inr x->x.2≠0:=λh=>qbt s 32 _ _ _ h;unfold Yf at h ⊢;split at h;rename_i h0;rw[if_pos h0];split at h;rename_i st e;split at h;rename_i f;rw[if_pos f];have a:=zs4 s 32 _ _ _ e;obtain⟨new,G⟩:=zyf s 32 (by omega) _ _ _ [] e GoodN.nil;refine⟨new,G,rfl,rfl,a.m (by simp),λx i=>?_⟩;have h1:=qf8 i;have n:=a.t;have l:(⟨zw (yr s).1,0,[]⟩:PSt).T=2*(zw (yr s).1).length:=by unfold PSt.T;simp
 have k:(zw (yr s).1).length<=(yr s).1.length:=List.length_filter_le _ _;omega;simp at h;rename_i e c;exact absurd h (b c);rename_i h0;exact absurd h h0
end
section
def qp(t:Bs)(p:Sp):Bs:=if p.1<0\/p.2<p.1\/(t.length:Int)<p.2 then []else J4 t p
theorem zf1(t:Bs)(p:Sp):(qp t p).length<=t.length:=by unfold qp J4;split;exact AW _;rw[AN,AI];omega
def Yk(kind:Int)(t:Bs):Bs:=if kind=2 then t else if kind=3 then qm (zj t).1 else if kind=4 then(Xn t).1 else []
def qdq(t:Bs)(x:Nd):Bs:=(Xn (qp t x.2.2.1)).1
def zs5(t:Bs)(nodes:List Nd)(c:Int):Bs:=match nodes[c.toNat]? with
 |some x=>qdq t x
 |none=>[]
def Q9(t:Bs)(nodes:List Nd):Nat->Nat->Tr
 |0,_=>.mk 0 (bl []) [] []
 |f+1,k=>match nodes[k]? with
  |none=>.mk 0 (bl []) [] []
  |some x=>.mk x.1 (bl (Yk x.1 (qp t x.2.1))) (if x.1=6 then x.2.2.2.1.map λc=>bl (zs5 t nodes c)else []) (x.2.2.2.1.map λc=>Q9 t nodes f c.toNat)
def yu(s:Bs):Tr×Int×Int:=if(Yf s).2.2=0 then(Q9 s (Yf s).1.2 33 0,(s.length:Int),0)else(.mk 0 (bl []) [] [],(Yf s).2.1,(Yf s).2.2)
end
section
variable {v:Tr}
theorem Jw{q:Tr->Bool}{v x:Tr}(h:Qt q v=Ta)(b:x∈v.items):Qt q x=Ta:=by rw[y5,Ao,jo,Av]at h;exact h.2 x b
theorem Ya{q:Tr->Bool}(h:Qt q v=Ta):q v=Ta:=by rw[y5,Ao]at h;exact h.1
end
section
theorem zf2{t:Bs}{nodes:List Nd}{k f:Nat}{x:Nd}(h:nodes[k]?=Td x):Q9 t nodes (f+1) k=.mk x.1 (bl (Yk x.1 (qp t x.2.1))) (if x.1=6 then x.2.2.2.1.map λc=>bl (zs5 t nodes c)else []) (x.2.2.2.1.map λc=>Q9 t nodes f c.toNat):=by rw[Q9,h]
end
section
variable {lo d m:Nat} {s:Bs} {α:Type} {obj:Bool}
inductive KidsG (K:List Bs->List Bs->Bs×Tr->List Tk->Nat->Prop) (close:Int):List Bs->List (Bs×Tr)->List Tk->Nat->Prop
 |last {had had':List Bs} {kv:Bs×Tr} {C:List Tk} {c:Tk} {m:Nat}:K had had' kv C m->c.1=close->KidsG K close had [kv] (C++[c]) m
 |more {had had':List Bs} {kv:Bs×Tr} {kvs:List (Bs×Tr)} {C D:List Tk} {q:Tk} {m m':Nat}:K had had' kv C m->q.1=6->KidsG K close had' kvs D m'->KidsG K close had (kv::kvs) (C++q::D) (m+m')
def KA(P:Tr->List Tk->Nat->Prop)(had had':List Bs)(b:Bs×Tr)(C:List Tk)(m:Nat):Prop:=had'=had/\P b.2 C m
def KO(s:Bs)(P:Tr->List Tk->Nat->Prop)(had had':List Bs)(b:Bs×Tr)(C:List Tk)(m:Nat):Prop:=
 ∃t q c,C=t::q::c/\t.1=8/\q.1=7/\b.1=(Xn (J4 s t.2)).1/\qp s t.2=J4 s t.2/\b.1∉had/\had'=had++[b.1]/\P b.2 c m
def PV(s:Bs):Nat->Tr->List Tk->Nat->Prop
 |0,_,_,_=>False
 |d+1,v,C,m=>∃t,(C=[t]/\zu t.1≠0/\zu t.1≠5/\zu t.1≠6/\v=.mk (zu t.1) (bl (Yk (zu t.1) (qp s t.2))) [] []/\m=1)
  \/ (∃c,C=[t,c]/\((t.1=4/\c.1=5/\v=.mk 5 (bl []) [] [])\/(t.1=2/\c.1=3/\v=.mk 6 (bl []) [] []))/\m=1)
  \/ (∃D kvs m',C=t::D/\t.1=4/\KidsG (KA (PV s d)) 5 [] kvs D m'/\v=.mk 5 (bl []) [] (kvs.map (·.2))/\m=m'+1)
  \/ (∃D kvs m',C=t::D/\t.1=2/\KidsG (KO s (PV s d)) 3 [] kvs D m'/\v=.mk 6 (bl []) (kvs.map λb=>bl b.1) (kvs.map (·.2))/\m=m'+1)
def qjd(C:List Tk):Sp:=((C.head?.map (·.2.1)).getD 0,(C.getLast?.map (·.2.2)).getD 0)
def zc5(C:List Tk)(l:Int):Int:=(C.getLast?.map (·.2.2)).getD l
theorem wh{C D:List Tk}(h:D≠[])(l:Int):zc5 (C++D) l=zc5 D l:=by
 unfold zc5;rw[List.getLast?_append];cases hd:D.getLast? with
 |none=>exact absurd (List.getLast?_eq_none_iff.1 hd) h
 |some x=>rfl
theorem zf3{C:List Tk}(h:C≠[])(l b:Int):zc5 C l=zc5 C b:=by
 unfold zc5;cases hd:C.getLast? with
 |none=>exact absurd (List.getLast?_eq_none_iff.1 hd) h
 |some x=>rfl
def Agr(lo:Nat)(new nodes:List Nd):Prop:=∀i x,new[i]?=Td x->nodes[lo+i]?=Td x
theorem Agr.left{a b nodes:List Nd}(h:Agr lo (a++b) nodes):Agr lo a nodes:=λi x c=>h i x (by rw[BG (A1.1 c).1];exact c)
theorem Agr.right{a b nodes:List Nd}(h:Agr lo (a++b) nodes):Agr (lo+a.length) b nodes:=λi x c=>by have:=h (a.length+i) x (by rw[BD (by omega),CI];exact c);rw[CP];exact this
def SubV(s:Bs)(d lo:Nat)(new:List Nd)(C:List Tk)(m:Nat):Prop:=∀i,i<new.length->∃e h c pre b m',e<=d/\PV s e h c m'/\C=pre++c++b/\m'<=m/\∀nodes,Agr lo new nodes->∀f,e<=f->Q9 s nodes f (lo+i)=h/\∃x,nodes[lo+i]?=Td x/\x.2.1=qjd c
structure Made (s:Bs) (d lo:Nat) (key:Sp) (new:List Nd) (v:Tr) (C:List Tk) (m:Nat):Prop where
 len:new.length=m
 pos:1<=m
 key:∃x,new[0]?=Td x/\x.2.2.1=key
 val:∀nodes,Agr lo new nodes->∀f,d<=f->Q9 s nodes f lo=v
 sub:SubV s d lo new C m
structure MadeK (s:Bs) (obj:Bool) (d lo:Nat) (ks:List Int) (new:List Nd) (kvs:List (Bs×Tr)) (D:List Tk) (m:Nat):Prop where
 len:new.length=m
 val:∀nodes,Agr lo new nodes->∀f,d<=f->(ks.map λc=>Q9 s nodes f c.toNat)=kvs.map (·.2)
 key:obj=Ta->∀nodes,Agr lo new nodes->(ks.map λc=>bl (zs5 s nodes c))=kvs.map λkv=>bl kv.1
 sub:SubV s d lo new D m
theorem SubV.mono{d d2 lo:Nat}{new:List Nd}{C:List Tk}{m c:Nat}(h:SubV s d lo new C m)(r:d<=d2)(u:m<=c)(pre b:List Tk):SubV s d2 lo new (pre++C++b) c:=by intro i hi;obtain⟨k,e,f,p,q,m',h1,o,n,t,l⟩:=h i hi;exact⟨k,e,f,pre++p,q++b,m',by omega,o,by rw[n];simp,by omega,l⟩
theorem SubV.append{a b:List Nd}{C:List Tk}(h:SubV s d lo a C m)(t:SubV s d (lo+a.length) b C m):SubV s d lo (a++b) C m:=by intro i hi;rcases AX i a.length with h'|h';obtain⟨n,c,e,p,q,m',h1,t,r,k,o⟩:=h i h';exact⟨n,c,e,p,q,m',h1,t,r,k,λnodes l=>o nodes l.left⟩;obtain⟨n,c,e,p,q,m',h1,r,k,o,u⟩:=t (i-a.length) (by rw[Ah]at hi;omega);refine⟨n,c,e,p,q,m',h1,r,k,o,λnodes l f w=>?_⟩;have:=u nodes l.right f w;rw[show lo+a.length+(i-a.length)=lo+i from by omega]at this;exact this
def ql8(s:Bs)(obj:Bool)(d:Nat)(close:Int)(K:List Bs->List Bs->Bs×Tr->List Tk->Nat->Prop)(kid:znf):Prop:=
 ∀had had' b C m,K had had' b C m->1<=m/\(∃t c,C=t::c/\t.1≠close)/\∀(st:PSt) (rest:List Tk),st.rest=C++rest->st.nodes.length+m<=4096->∃new,
  kid had st=.inl (had',⟨rest,zc5 C st.last,st.nodes++new⟩)/\MadeK s obj d st.nodes.length [((st.nodes.length:Nat):Int)] new [b] C m
def z09(x:Nd)(ks:List Int)(ps:List Sp):Nd:=(x.1,x.2.1,x.2.2.1,x.2.2.2.1++ks,x.2.2.2.2++ps)
theorem Jx{a:List α}{x:α}{b:List α}{f:α->α}:(a++x::b).modify a.length f=a++f x::b:=by
 induction a with
 |nil=>rfl
 |cons y a c=>simp only[AD,Aq,List.modify_succ_cons,c]
theorem zni{close:Int}{K:List Bs->List Bs->Bs×Tr->List Tk->Nat->Prop}{kid:znf}(G:ql8 s obj d close K kid)(u:close≠6){had:List Bs}{kvs:List (Bs×Tr)}{D:List Tk}(H:KidsG K close had kvs D m):
  (∃t N,D=t::N/\t.1≠close)/\1<=m/\kvs.length<=D.length/\∀(base:List Nd) (x:Nd) (news:List Nd) (rest:List Tk) (last:Int) (f:Nat),kvs.length<=f->base.length+1+news.length+m<=4096->∃ks ps new,Ju s base.length close kid f had ⟨D++rest,last,base++x::news⟩=.inl ⟨rest,zc5 D last,base++z09 x ks ps::(news++new)⟩/\MadeK s obj d (base.length+1+news.length) ks new kvs D m:=by
 induction H with
 | @last had had' kv C c m hk hc=>
  obtain⟨h1,⟨z,B,k,y⟩,E⟩:=G _ _ _ _ _ hk;refine⟨⟨z,B++[c],by rw[k];rfl,y⟩,h1,by simp,λbase x news rest last f o l=>?_⟩;obtain⟨g,rfl⟩:∃g,f=g+1:=⟨f-1,by simp at o;omega⟩;have n:(base++x::news).length=base.length+1+news.length:=by simp;omega
  obtain⟨new,e,M⟩:=E ⟨C++[c]++rest,last,base++x::news⟩ (c::rest) (by simp) (by dsimp only;rw[n];omega);dsimp only at e M;rw[n]at M;refine⟨[((base++x::news).length:Int)],[(last,c.2.1)],new,?_,?_⟩;rw[Ju,e];dsimp only;have r:PSt.kind ⟨c::rest,zc5 C last,base++x::news++new⟩=close:=hc;rw[if_pos r];unfold PSt.addKid PSt.skip PSt.here;dsimp only;rw[AH,AD,Jx];congr 2;unfold zc5;simp;rw[n];refine⟨M.len,M.val,M.key,?_⟩;have:=M.sub.mono (Ab _) (Ab _) [] [c];simpa using this
 | @more had had' kv kvs C D q m m' hk hq hr ih=>
  obtain⟨h1,⟨z,B,k,y⟩,E⟩:=G _ _ _ _ _ hk;obtain⟨⟨S,Q,w,_⟩,U,gl,L⟩:=ih;have F:D≠[]:=by rw[w];simp
  refine⟨⟨z,B++q::D,by rw[k];rfl,y⟩,by omega,by simp;omega,λbase x news rest last f o l=>?_⟩;obtain⟨g,rfl⟩:∃g,f=g+1:=⟨f-1,by simp at o;omega⟩;have n:(base++x::news).length=base.length+1+news.length:=by simp;omega
  obtain⟨new,e,M⟩:=E ⟨C++q::D++rest,last,base++x::news⟩ (q::(D++rest)) (by simp) (by dsimp only;rw[n];omega);dsimp only at e M;rw[n]at M;have P:=M.len;obtain⟨ks,ps,i,J,p⟩:=L base (z09 x [((base++x::news).length:Int)] [(last,q.2.1)]) (news++new) rest q.2.2 g (by simp at o;omega) (by rw[Ah];omega);refine⟨((base++x::news).length:Int)::ks,(last,q.2.1)::ps,new++i,?_,?_⟩;rw[Ju,e];dsimp only;have r:PSt.kind ⟨q::(D++rest),zc5 C last,base++x::news++new⟩=6:=hq;rw[if_neg (by rw[r];exact λh=>u h.symm),if_pos r];have O:(PSt.addKid ⟨q::(D++rest),zc5 C last,base++x::news++new⟩ base.length ((base++x::news).length:Int) (last,PSt.here ⟨q::(D++rest),zc5 C last,base++x::news++new⟩ s.length)).skip=⟨D++rest,q.2.2,base++z09 x [((base++x::news).length:Int)] [(last,q.2.1)]::(news++new)⟩:=by unfold PSt.addKid PSt.skip PSt.here;dsimp only;rw[AH,AD,Jx];rfl
  rw[O,J];congr 2;rw[wh (C:=C) (D:=q::D) (by simp),show q::D=[q]++D from rfl,wh F];exact zf3 F _ _;unfold z09;simp;rw[n];have A:base.length+1+(news++new).length=base.length+1+news.length+new.length:=by rw[Ah];omega
  rw[A]at p;refine⟨by rw[Ah,M.len,p.len],λnodes l f o=>?_,λI nodes l=>?_,?_⟩;have a:=M.val nodes l.left f o;have b:=p.val nodes l.right f o;simp only[As,Cb,BN,and_true]at a ⊢;exact⟨a,b⟩;have a:=M.key I nodes l.left;have b:=p.key I nodes l.right;simp only[As,Cb,BN,and_true]at a ⊢;exact⟨a,b⟩;have a:=M.sub.mono (d2:=d) (Ab _) (show m<=m+m' by omega) [] (q::D);have b:=p.sub.mono (d2:=d) (Ab _) (show m'<=m+m' by omega) (C++[q]) [];rw[A8]at a;have b:SubV s d (base.length+1+news.length+new.length) i (C++q::D) (m+m'):=by simpa using b
  exact a.append b
theorem modify_last{a:List α}{x:α}{f:α->α}:(a++[x]).modify a.length f=a++[f x]:=Jx
theorem qdr(t:Bs):Yk 5 t=[]:=by unfold Yk;simp
theorem qds(t:Bs):Yk 6 t=[]:=by unfold Yk;simp
theorem Agr.head{x:Nd}{l nodes:List Nd}(h:Agr lo (x::l) nodes):nodes[lo]?=Td x:=h 0 x rfl
theorem Agr.tail{x:Nd}{l nodes:List Nd}(h:Agr lo (x::l) nodes):Agr (lo+1) l nodes:=λi y b=>by have:=h (i+1) y b;rw[show lo+1+i=lo+(i+1)from by omega];exact this
theorem zs6{key:Sp}{k:Int}{t:Tk}{D:List Tk}{ks:List Int}{ps:List Sp}{new:List Nd}{kvs:List (Bs×Tr)}{v:Tr}(o:k=5/\obj=Tc\/k=6/\obj=Ta)(u:v=.mk k (bl []) (if obj=Ta then kvs.map λq=>bl q.1 else []) (kvs.map (·.2)))(w:D≠[])
  (n:PV s (d+1) v (t::D) (m+1)) (M:MadeK s obj d (lo+1) ks new kvs D m):Made s (d+1) lo key ((k,(t.2.1,zc5 D 0),key,ks,ps)::new) v (t::D) (m+1):=by
 have c:∀nodes,Agr lo ((k,(t.2.1,zc5 D 0),key,ks,ps)::new) nodes->∀f,d+1<=f->Q9 s nodes f lo=v:=λnodes b f l=>by obtain⟨g,rfl⟩:∃g,f=g+1:=⟨f-1,by omega⟩;rw[zf2 b.head,M.val nodes b.tail g (by omega),u];dsimp only;rcases o with⟨rfl,rfl⟩|⟨rfl,rfl⟩;rw[qdr];simp;rw[qds,if_pos rfl,if_pos rfl,M.key rfl nodes b.tail]
 refine⟨by rw[Aq,M.len],by omega,⟨_,rfl,rfl⟩,c,λi hi=>?_⟩;cases i with
 |zero=>refine⟨d+1,v,t::D,[],[],m+1,Ab _,n,by simp,Ab _,λnodes b f l=>⟨c nodes b f l,_,b.head,?_⟩⟩;have e:zc5 (t::D) 0=zc5 D 0:=wh (C:=[t]) w 0;show(t.2.1,zc5 D 0)=qjd (t::D);rw[<-e];rfl
 |succ i=>obtain⟨p,y,z,pre,h,m',h1,x,A,B,r⟩:=M.sub i (by simpa using hi);refine⟨p,y,z,t::pre,h,m',by omega,x,by rw[A];rfl,by omega,λnodes b f l=>?_⟩;have:=r nodes b.tail f l;rw[show lo+1+i=lo+(i+1)from by omega]at this;exact this
theorem zki{s:Bs}:∀(d:Nat) (v:Tr) (C:List Tk) (m:Nat),PV s d v C m->1<=m/\(∃t A,C=t::A/\zu t.1≠0)/\∀(key:Sp) (st:PSt) (rest:List Tk),st.rest=C++rest->st.nodes.length+m<=4096->∃new,
  J5 s d key st=.inl ⟨rest,zc5 C st.last,st.nodes++new⟩/\Made s d st.nodes.length key new v C m
 |0,v,C,m,h=>h.elim
 |d+1,v,C,m,h=>by
  have ih:=zki (s:=s) d;have ab:ql8 s Tc d 5 (KA (PV s d)) (zep (J5 s d)):=by rintro had had' kv C m ⟨rfl,H⟩;obtain⟨h1,⟨t,A,p,U⟩,w⟩:=ih _ _ _ H;refine⟨h1,⟨t,A,p,λe=>U (by rw[e];rfl)⟩,λst rest k b=>?_⟩;obtain⟨new,e,M⟩:=w (0,0) st rest k b;refine⟨new,by unfold zep;rw[e],M.len,λnodes b f y=>?_,λh=>(by cases h),M.sub⟩;simp only[As,Cb,Ag];rw[M.val nodes b f y]
  have Z:ql8 s Ta d 3 (KO s (PV s d)) (zs3 s (J5 s d)):=by
   rintro had had' kv C m ⟨t,q,A,p,O,hq,o,N,J,P,H⟩;subst p;obtain⟨h1,⟨t1,C1,S,U⟩,w⟩:=ih _ _ _ H;refine⟨h1,⟨t,_,rfl,by omega⟩,λst rest k b=>?_⟩;obtain⟨new,e,M⟩:=w t.2 st.skip.skip rest (by unfold PSt.skip;rw[k];rfl) (by rw[qu,qu];exact b);have e2:st.skip.skip.last=q.2.2:=by unfold PSt.skip;rw[k];rfl
   rw[qu,qu]at e M;rw[e2]at e;refine⟨new,?_,M.len,λnodes b f y=>?_,λ_ nodes b=>?_,?_⟩;unfold zs3;rw[k];dsimp only[AD];rw[if_pos O,if_neg (by rw[<-o];exact J)];have ek:st.skip.kind=7:=by unfold PSt.skip PSt.kind;rw[k];exact hq
   rw[if_pos ek,e];dsimp only;rw[P,o];have L:zc5 A q.2.2=zc5 (t::q::A) st.last:=by rw[show t::q::A=[t,q]++A from rfl,wh (by rw[S];simp)];exact zf3 (by rw[S];simp) _ _
   rw[L];simp only[As,Cb,Ag];rw[M.val nodes b f y];obtain⟨x,hx,Y⟩:=M.key;have:=b 0 x hx;simp only[As,Cb,BN,and_true];unfold zs5;rw[Ag];rw[show nodes[st.nodes.length]?=Td x from this];show bl (qdq s x)=bl kv.1;unfold qdq;rw[Y,o,N];have:=M.sub.mono (d2:=d) (Ab _) (Ab m) [t,q] [];simpa using this
  have ae:∀(st:PSt) (t:Tk) (r:List Tk) (key:Sp),st.rest=t::r->st.open key=⟨r,t.2.2,st.nodes++[(zu t.1,t.2,key,[],[])]⟩:=λst t r key k=>by unfold PSt.open;rw[k]
  have aa:∀(st:PSt) (t:Tk) (r:List Tk),st.rest=t::r->st.kind=t.1:=λst t r k=>by unfold PSt.kind;rw[k]
  have go:∀(key:Sp) (st st':PSt) (t:Tk) (r:List Tk),st.rest=t::r->zu t.1≠0->st.nodes.length<4096->zup s (J5 s d) st.nodes.length (zu t.1) ⟨r,t.2.2,st.nodes++[(zu t.1,t.2,key,[],[])]⟩=.inl st'->J5 s (d+1) key st=.inl (st'.setTo st.nodes.length):=λkey st st' t r k U b e=>by rw[J5,aa st t r k,if_neg U,if_neg (by omega),ae st t r key k,e]
  obtain⟨t,V|⟨c,p,V,F⟩|⟨D,kvs,m',p,O,hD,z,F⟩|⟨D,kvs,m',p,O,hD,z,F⟩⟩:=id h;obtain⟨p,Q,G,E,z,F⟩:=V;subst p F;refine⟨Ab _,⟨t,[],rfl,Q⟩,λkey st rest k b=>⟨[(zu t.1,(t.2.1,t.2.2),key,[],[])],?_,?_⟩⟩;rw[go key st _ t rest k Q (by omega) (by unfold zup;rw[if_neg G,if_neg E])];unfold PSt.setTo;dsimp only;rw[modify_last];rfl;have n:∀nodes,Agr st.nodes.length [(zu t.1,(t.2.1,t.2.2),key,[],[])] nodes->∀f,d+1<=f->Q9 s nodes f st.nodes.length=v:=λnodes b f y=>by obtain⟨g,rfl⟩:∃g,f=g+1:=⟨f-1,by omega⟩;rw[zf2 b.head,z];dsimp only;rw[if_neg E];rfl
  refine⟨rfl,Ab _,⟨_,rfl,rfl⟩,n,λi hi=>?_⟩;have:i=0:=by simp at hi;exact hi
  subst this;exact⟨d+1,v,[t],[],[],1,Ab _,h,by simp,Ab _,λnodes b f y=>⟨n nodes b f y,_,b.head,rfl⟩⟩;subst p F;have e4:zu 4=5:=rfl;have e2:zu 2=6:=rfl;have o:zu t.1=5/\c.1=5/\v=.mk 5 (bl []) [] []\/zu t.1=6/\c.1=3/\v=.mk 6 (bl []) [] []:=by rcases V with⟨h1,h2,w⟩|⟨h1,h2,w⟩;exact .inl ⟨by rw[h1];rfl,h2,w⟩;exact .inr ⟨by rw[h1];rfl,h2,w⟩
  have Q:zu t.1≠0:=by rcases o with⟨h,_⟩|⟨h,_⟩ <;> rw[h] <;> decide
  have H:PV s (d+1) v [t,c] 1:=⟨t,.inr (.inl ⟨c,rfl,V,rfl⟩)⟩;refine⟨Ab _,⟨t,[c],rfl,Q⟩,λkey st rest k b=>⟨[(zu t.1,(t.2.1,c.2.2),key,[],[])],?_,?_⟩⟩;rw[go key st ⟨rest,c.2.2,st.nodes++[(zu t.1,t.2,key,[],[])]⟩ t (c::rest) k Q (by omega) (by unfold zup;rcases o with⟨h,hc,_⟩|⟨h,hc,_⟩;rw[h,if_pos rfl];unfold Xv;rw[if_pos (show PSt.kind ⟨c::rest,t.2.2,_⟩=5 from hc)];rfl;rw[h,if_neg (by decide),if_pos rfl];unfold Xv;rw[if_pos (show PSt.kind ⟨c::rest,t.2.2,_⟩=3 from hc)];rfl)];unfold PSt.setTo;dsimp only;rw[modify_last];rfl;have n:∀nodes,Agr st.nodes.length [(zu t.1,(t.2.1,c.2.2),key,[],[])] nodes->∀f,d+1<=f->Q9 s nodes f st.nodes.length=v:=λnodes b f y=>by obtain⟨g,rfl⟩:∃g,f=g+1:=⟨f-1,by omega⟩;rw[zf2 b.head];dsimp only;rcases o with⟨h,_,z⟩|⟨h,_,z⟩;rw[h,z,qdr];rfl;rw[h,z,qds];rfl
  refine⟨rfl,Ab _,⟨_,rfl,rfl⟩,n,λi hi=>?_⟩;have:i=0:=by simp at hi;exact hi
  subst this;exact⟨d+1,v,[t,c],[],[],1,Ab _,H,by simp,Ab _,λnodes b f y=>⟨n nodes b f y,_,b.head,rfl⟩⟩;subst p F;obtain⟨⟨t1,D',u,B⟩,h1,I,w⟩:=zni ab (by decide) hD;have l:D≠[]:=by rw[u];simp
  have G:zu t.1=5:=by rw[O];rfl
  refine⟨by omega,⟨t,D,rfl,by rw[G];decide⟩,λkey st rest k b=>?_⟩;obtain⟨ks,ps,new,e,M⟩:=w st.nodes (zu t.1,t.2,key,[],[]) [] rest t.2.2 ((D++rest).length+1) (by rw[Ah];omega) (by simp only[A4];omega);rw[A4,CO]at M;refine⟨(5,(t.2.1,zc5 D 0),key,ks,ps)::new,?_,zs6 (.inl ⟨rfl,rfl⟩) (by rw[z];rfl) l h M⟩;rw[go key st _ t (D++rest) k (by rw[G];decide) (by omega) (by unfold zup;rw[G,if_pos rfl];unfold Xv;rw[if_neg (show¬PSt.kind ⟨D++rest,t.2.2,_⟩=5 from by rw[u];exact B)];rw[G]at e;exact e)];unfold PSt.setTo;dsimp only;rw[Jx];have L:zc5 D t.2.2=zc5 (t::D) st.last:=by rw[show t::D=[t]++D from rfl,wh l];exact zf3 l _ _
  rw[L,zf3 (C:=t::D) (by simp) st.last 0,show zc5 (t::D) 0=zc5 D 0 from wh (C:=[t]) l 0];simp[z09,qf7];subst p F;obtain⟨⟨t1,D',u,B⟩,h1,I,w⟩:=zni Z (by decide) hD;have l:D≠[]:=by rw[u];simp
  have E:zu t.1=6:=by rw[O];rfl
  refine⟨by omega,⟨t,D,rfl,by rw[E];decide⟩,λkey st rest k b=>?_⟩;obtain⟨ks,ps,new,e,M⟩:=w st.nodes (zu t.1,t.2,key,[],[]) [] rest t.2.2 ((D++rest).length+1) (by rw[Ah];omega) (by simp only[A4];omega);rw[A4,CO]at M;refine⟨(6,(t.2.1,zc5 D 0),key,ks,ps)::new,?_,zs6 (.inr ⟨rfl,rfl⟩) (by rw[z];rfl) l h M⟩;rw[go key st _ t (D++rest) k (by rw[E];decide) (by omega) (by unfold zup;rw[E,if_neg (by decide),if_pos rfl];unfold Xv;rw[if_neg (show¬PSt.kind ⟨D++rest,t.2.2,_⟩=3 from by rw[u];exact B)];rw[E]at e;exact e)];unfold PSt.setTo;dsimp only;rw[Jx];have L:zc5 D t.2.2=zc5 (t::D) st.last:=by rw[show t::D=[t]++D from rfl,wh l];exact zf3 l _ _
  rw[L,zf3 (C:=t::D) (by simp) st.last 0,show zc5 (t::D) 0=zc5 D 0 from wh (C:=[t]) l 0];simp[z09,qf7]
end
section
variable {k:Int}
theorem qdt(h:zu k=5):k=4:=by unfold zu at h;by_cases h1:k=12 <;> by_cases i:k=10\/k=11 <;> by_cases f:k=9 <;> by_cases e:k=8 <;> by_cases c:k=4 <;> by_cases b:k=2 <;> simp[*]at h ⊢
theorem qdu(h:zu k=6):k=2:=by unfold zu at h;by_cases h1:k=12 <;> by_cases i:k=10\/k=11 <;> by_cases f:k=9 <;> by_cases e:k=8 <;> by_cases c:k=4 <;> by_cases b:k=2 <;> simp[*]at h ⊢
def WfT(s:Bs)(l:List Tk):Prop:=∀t∈l,qp s t.2=J4 s t.2
theorem WfT.drop{s:Bs}{a b:List Tk}(h:WfT s (a++b)):WfT s b:=λt c=>h t (AC _ c)
def ql9(s:Bs)(K:List Bs->List Bs->Bs×Tr->List Tk->Nat->Prop)(kid:znf):Prop:=
 ∀had st had' st',kid had st=.inl (had',st')->WfT s st.rest->st.nodes.length<=4096->∃b C m,K had had' b C m/\st.rest=C++st'.rest/\st'.nodes.length=st.nodes.length+m/\st'.nodes.length<=4096
theorem zas{st:PSt}(h:st.kind=k)(b:k≠0):∃t r,st.rest=t::r/\t.1=k:=by
 unfold PSt.kind at h;cases hr:st.rest with
 |nil=>rw[hr]at h;exact absurd h.symm b
 |cons t r=>rw[hr]at h;exact⟨t,r,rfl,h⟩
theorem Yb{st:PSt}{t:Tk}{r:List Tk}(h:st.rest=t::r):st.skip=⟨r,t.2.2,st.nodes⟩:=by unfold PSt.skip;rw[h]
theorem zc6{s:Bs}{n:Nat}{close:Int}(k:close≠0){K:List Bs->List Bs->Bs×Tr->List Tk->Nat->Prop}{kid:znf}(z:ql9 s K kid):∀(f:Nat) (had:List Bs) (st st':PSt),Ju s n close kid f had st=.inl st'->WfT s st.rest->st.nodes.length<=4096 ->
  ∃kvs D m,KidsG K close had kvs D m/\st.rest=D++st'.rest/\st'.nodes.length=st.nodes.length+m/\st'.nodes.length<=4096
 |0,had,st,st',h,hw,hn=>by unfold Ju PSt.err at h;cases h
 |f+1,had,st,st',h,hw,hn=>by
  rw[Ju]at h;split at h;cases h;rename_i p b e;obtain⟨x,C,m,h1,u,I,G⟩:=z _ _ _ _ e hw hn;have o:WfT s b.rest:=by rw[u]at hw;exact hw.drop
  split at h;rename_i l;obtain⟨c,r,i,l⟩:=zas l k;have w:=Yb (st:=b.addKid n st.nodes.length (st.last,b.here s.length)) (t:=c) (r:=r) i;rw[w]at h;cases h;refine⟨[x],C++[c],m,.last h1 l,by rw[u,i];simp,?_,?_⟩ <;> dsimp only <;> rw[Jv] <;> assumption;split at h;rename_i l;obtain⟨q,r,i,H⟩:=zas l (by decide);have w:=Yb (st:=b.addKid n st.nodes.length (st.last,b.here s.length)) (t:=q) (r:=r) i;rw[w]at h;obtain⟨kvs,D,m',B,y,A,E⟩:=zc6 k z f p _ st' h (by rw[i]at o;exact λt F=>o t (Ae _ F)) (by dsimp only;rw[Jv];exact G);dsimp only at y A;rw[Jv]at A;exact⟨x::kvs,C++q::D,m+m',.more h1 H B,by rw[u,i,y];simp,by omega,E⟩;unfold PSt.err at h;cases h
theorem znj{s:Bs}:∀(d:Nat) (key:Sp) (st st':PSt),J5 s d key st=.inl st'->WfT s st.rest->st.nodes.length<=4096 ->
  ∃v C m,PV s d v C m/\st.rest=C++st'.rest/\st'.nodes.length=st.nodes.length+m/\st'.nodes.length<=4096
 |0,key,st,st',h,k,y=>by unfold J5 at h;split at h <;> (unfold PSt.err at h;cases h)
 |d+1,key,st,st',h,k,y=>by
  have V:=znj (s:=s) d;have J:ql9 s (KA (PV s d)) (zep (J5 s d)):=by intro had st had' st' e k y;unfold zep at e;split at e;rename_i l Q;cases e;obtain⟨v,C,m,h1,A,F,O⟩:=V _ _ _ Q k y;exact⟨([],v),C,m,⟨rfl,h1⟩,A,F,O⟩;cases e
  have G:ql9 s (KO s (PV s d)) (zs3 s (J5 s d)):=by intro had st had' st' e k y;unfold zs3 at e;split at e;unfold PSt.err at e;cases e;rename_i t r f;split at e;rename_i ht;split at e;unfold PSt.err at e;cases e;rename_i w;split at e;rename_i Z;obtain⟨q,Y,b,hq⟩:=zas Z (by decide);rw[Yb f]at b;dsimp only at b;rw[Yb f,Yb (st:=⟨r,t.2.2,st.nodes⟩) b]at e;split at e;rename_i l Q;cases e;rw[f,b]at k;obtain⟨v,C,m,h1,A,F,O⟩:=V _ _ _ Q (λx U=>k x (Ae _ (Ae _ U))) y;dsimp only at A F;exact⟨((Xn (J4 s t.2)).1,v),t::q::C,m,⟨t,q,C,rfl,ht,hq,rfl,k t Am,w,rfl,h1⟩,by rw[f,b,A];rfl,F,O⟩;cases e;unfold PSt.err at e;cases e;unfold PSt.err at e;cases e
  rw[J5]at h;split at h;unfold PSt.err at h;cases h;rename_i P;split at h;unfold PSt.err at h;cases h;rename_i M;split at h;rename_i l e;cases h;have N:=zif P;obtain⟨t,r,f⟩:∃t r,st.rest=t::r:=by
   cases f:st.rest with
   |nil=>exact absurd f N
   |cons t r=>exact⟨t,r,rfl⟩
  have H:st.kind=t.1:=by unfold PSt.kind;rw[f]
  have S:st.open key=⟨r,t.2.2,st.nodes++[(zu t.1,t.2,key,[],[])]⟩:=by unfold PSt.open;rw[f]
  rw[H]at e P;rw[S]at e;have z:WfT s r:=by rw[f]at k;exact λx U=>k x (Ae _ U)
  have i:(st.nodes++[(zu t.1,t.2,key,[],[])]).length=st.nodes.length+1:=by simp
  have o:(l.setTo st.nodes.length).rest=l.rest:=rfl;rw[o,zeq,f];unfold zup at e;split at e;rename_i E;unfold Xv at e;split at e;rename_i n;obtain⟨c,Y,b,n⟩:=zas n (by decide);rw[Yb b]at e;cases e;dsimp only at b ⊢;rw[i,b];exact⟨_,[t,c],1,⟨t,.inr (.inl ⟨c,rfl,.inl ⟨qdt E,n,rfl⟩,rfl⟩)⟩,rfl,rfl,by omega⟩;obtain⟨kvs,D,m,I,p,u,L⟩:=zc6 (by decide) J _ _ _ _ e z (by dsimp only;omega);dsimp only at p u;rw[i]at u;exact⟨_,t::D,m+1,⟨t,.inr (.inr (.inl ⟨D,kvs,m,rfl,qdt E,I,rfl,rfl⟩))⟩,by rw[p];rfl,by omega,L⟩;rename_i E;split at e;rename_i B;unfold Xv at e;split at e;rename_i n;obtain⟨c,Y,b,n⟩:=zas n (by decide);rw[Yb b]at e;cases e;dsimp only at b ⊢;rw[i,b];exact⟨_,[t,c],1,⟨t,.inr (.inl ⟨c,rfl,.inr ⟨qdu B,n,rfl⟩,rfl⟩)⟩,rfl,rfl,by omega⟩;obtain⟨kvs,D,m,I,p,u,L⟩:=zc6 (by decide) G _ _ _ _ e z (by dsimp only;omega);dsimp only at p u;rw[i]at u;exact⟨_,t::D,m+1,⟨t,.inr (.inr (.inr ⟨D,kvs,m,rfl,qdu B,I,rfl,rfl⟩))⟩,by rw[p];rfl,by omega,L⟩;rename_i B;cases e;dsimp only;rw[i];exact⟨_,[t],1,⟨t,.inl ⟨rfl,P,E,B,rfl,rfl⟩⟩,rfl,rfl,by omega⟩;cases h
end
section
variable {s:Bs} {a b:Nat}
inductive Lex (s:Bs):Nat->Nat->List Tk->Prop
 |nil {i:Nat}:Lex s i i []
 |cons {i j:Nat} {T:List Tk}:i<s.length->(Z5 s i).2.2=0->Lex s (Z5 s i).2.1 j T->Lex s i j (((Z5 s i).1,((i:Int),((Z5 s i).2.1:Int)))::T)
theorem zs7:∀(f:Nat) (s:Bs) (a:Nat) (o:List Tk),(Q8 f s a o).2.2=0->s.length-a<=f->a<=s.length->∃T,(Q8 f s a o).1=o++T/\Lex s a s.length T
 |0,s,a,o,h,hf,ha=>by
  have:a=s.length:=by omega
  subst this;exact⟨[],by simp[Q8],.nil⟩
 |f+1,s,a,o,h,hf,ha=>by
  rw[Q8]at h ⊢;split at h;rename_i h1;rw[if_pos h1];split at h;rename_i b;rw[if_pos b];have c:=Jt h1 b;obtain⟨T,e,L⟩:=zs7 f s _ _ h (by omega) c.2;exact⟨_::T,by rw[e];simp,.cons h1 b L⟩;rename_i b;exact absurd h b;rename_i h1;rw[if_neg h1];have:a=s.length:=by omega
  subst this;exact⟨[],by simp,.nil⟩
theorem Lex.le{T:List Tk}(H:Lex s a b T):a+T.length<=b/\(T≠[]->b<=s.length):=by
 induction H with
 |nil=>exact⟨by simp,λh=>absurd rfl h⟩
 | @cons a b T h1 h2 h3 ih=>
  have c:=Jt h1 h2;refine⟨by simp only[Aq];omega,λ_=>?_⟩;cases h3 with
  |nil=>exact c.2
  |cons=>exact ih.2 (by simp)
theorem z6y{T:List Tk}(H:Lex s a b T):∀(f:Nat) (o:List Tk),b=s.length->T.length<=f->Q8 f s a o=(o++T,s.length,0):=by
 induction H with
 | @nil a=>
  intro f o c e;subst c;cases f with
  |zero=>simp[Q8]
  |succ f=>rw[Q8,if_neg (by omega)];simp
 | @cons a b T h1 h2 h3 ih=>intro f o c e;obtain⟨g,rfl⟩:∃g,f=g+1:=⟨f-1,by simp at e;omega⟩;rw[Q8,if_pos h1,if_pos h2,ih g _ c (by simpa using e)];simp
theorem z6z{T:List Tk}(H:Lex s 0 s.length T)(b:s.length<=65536):yr s=(T,s.length,0):=by unfold yr;rw[if_neg (by omega),z6y H _ _ rfl (by have:=H.le.1;omega),A8]
theorem zs8(h:(yr s).2.2=0):s.length<=65536/\Lex s 0 s.length (yr s).1:=by unfold yr at h ⊢;split at h;cases h;rename_i h1;rw[if_neg h1];obtain⟨T,e,L⟩:=zs7 _ _ _ _ h (by omega) (by omega);rw[e];exact⟨by omega,L⟩
theorem Lex.append{f c:List Tk}{a m b:Nat}(H:Lex s a m f)(e:Lex s m b c):Lex s a b (f++c):=by
 induction H with
 |nil=>exact e
 |cons h1 i _ h=>exact .cons h1 i (h e)
theorem Lex.tok{T:List Tk}(H:Lex s a b T):∀t∈T,(a:Int)<=t.2.1/\t.2.1<t.2.2/\t.2.2<=(b:Int)/\b<=s.length:=by
 induction H with
 |nil=>intro t c;cases c
 | @cons a b T h1 h2 h3 ih=>
  have f:=Jt h1 h2;have e:=h3.le;intro t c;rcases Ai.1 c with rfl|c;refine⟨by dsimp only;omega,by dsimp only;omega,by dsimp only;omega,?_⟩;cases h3 with
  |nil=>exact f.2
  |cons=>exact e.2 (by simp)
  have:=ih t c;exact⟨by omega,this.2.1,this.2.2.1,this.2.2.2⟩
theorem zbk{p:Sp}(h0:0<=p.1)(h1:p.1<p.2)(b:p.2<=(s.length:Int)):qp s p=J4 s p:=by unfold qp;rw[if_neg (by omega)]
theorem qgb(b:(Yf s).2.2=0):(yr s).2.2=0/\∃v C m,PV s 32 v C m/\m<=4096/\zw (yr s).1=C/\Made s 32 0 (0,0) (Yf s).1.2 v C m:=by
 have f:(yr s).2.2=0:=by unfold Yf at b;split at b;assumption;exact b
 refine⟨f,?_⟩;obtain⟨q,L⟩:=zs8 f;have n:WfT s (zw (yr s).1):=λt h=>by have:=L.tok t (Cf.1 h).1;exact zbk (by omega) this.2.1 (by omega)
 unfold Yf at b ⊢;rw[if_pos f]at b ⊢;cases e:J5 s 32 (0,0) ⟨zw (yr s).1,0,[]⟩with
 |inr x=>rw[e]at b;dsimp only at b;exfalso;exact qbt s 32 _ _ _ e b
 |inl st=>
  rw[e]at b;dsimp only at b ⊢;split at b;rename_i k;rw[if_pos k];obtain⟨v,C,m,h1,c,i,p⟩:=znj 32 _ _ _ e n (by simp);rw[k,AR]at c;have c:zw (yr s).1=C:=c;have o:m<=4096:=by simp only[A4]at i;omega
  obtain⟨_,_,g⟩:=zki 32 v C m h1;obtain⟨new,l,M⟩:=g (0,0) ⟨zw (yr s).1,0,[]⟩ [] (by rw[c];simp) (by simp at i ⊢;omega);rw[l]at e;simp only[Sum.inl.injEq]at e;subst e;simp only[A8,A4]at i M ⊢;exact⟨v,C,m,h1,o,c,M⟩;cases b
end
section
variable {l:Bs} {u:Nat}
theorem qje{k:Nat}(h:k<10):(Bb (48+k)).toNat=48+k:=by rw[UInt8.toNat_ofNat'];omega
theorem zat:∀(n u:Nat),u<=n->(decDigits u).all jb=Ta/\decDigits u≠[]/\zm (decDigits u)=u/\(1<=u->(decDigits u).head?≠Td 48)
 |0,u,h=>by
  have:u=0:=by omega
  subst this;rw[decDigits,dif_pos (by omega)];exact⟨by decide,by simp,by decide,λh=>by omega⟩
 |n+1,u,h=>by by_cases b:u<10;rw[decDigits,dif_pos b];refine⟨?_,by simp,?_,λh1=>?_⟩;simp only[De,List.all_nil,C6,jb,qje b];simp;omega;simp only[zm,List.foldl_cons,List.foldl_nil,qje b];omega;intro e;simp only[List.head?_cons,Ac]at e;have:=congrArg UInt8.toNat e;rw[qje b]at this;have l:(48:UInt8).toNat=48:=rfl;omega;rw[decDigits,dif_neg b];obtain⟨h1,m,k,i⟩:=zat n (u / 10) (by omega);have f:u % 10<10:=Nat.mod_lt _ (by omega);refine⟨?_,by simp,?_,λ_=>?_⟩;rw[Dd,h1];simp only[De,List.all_nil,C6,Cc,jb,qje f];simp;omega;rw[zj2,k,qje f];omega;obtain⟨c,t,e⟩:=Bq m;have:=i (by omega);rw[e]at this ⊢;exact this
theorem zig{c:UInt8}(h:l.all jb=Ta)(e:jb c=Tc):l.head?≠Td c:=by
 cases l with
 |nil=>simp
 |cons b t=>simp only[De,Ao]at h;simp only[List.head?_cons,ne_eq,Ac];rintro rfl;rw[h.1]at e;cases e
theorem zyg(h:l.head?≠Td 48):l.dropWhile (· == 48)=l:=by
 cases l with
 |nil=>rfl
 |cons b t=>simp only[List.head?_cons,ne_eq,Ac]at h;rw[List.dropWhile_cons,if_neg (by simpa using h)]
theorem qgc(h:l.head?≠Td 48)(b:l.getLast?≠Td 48):yp l=l:=by unfold yp;rw[zyg h,zyg (by rw[List.head?_reverse];exact b),List.reverse_reverse]
theorem zau:∀(k u:Nat),u<10 ^ (k+1)->(decDigits u).length<=k+1
 |0,u,h=>by rw[decDigits,dif_pos (by omega)];exact Ab _
 |k+1,u,h=>by by_cases b:u<10;rw[decDigits,dif_pos b];simp;have:=zau k (u / 10) (by rw[DI]at h;omega);rw[decDigits,dif_neg b,Ah];simpa using this
theorem Qk(h:u<=1000000):(decDigits u).length<=9:=zau 8 u (by omega)
theorem qgd(u:Nat):itoa (u:Int)=decDigits u:=by unfold itoa;rw[if_neg (by omega)];simp
theorem qge(h:1<=u):itoa (-(u:Int))=45::decDigits u:=by unfold itoa;rw[if_pos (by omega)];simp
theorem zpp{n:Nm}(h:yo n=Ta):zj (qm n)=(n,0):=by
 obtain⟨neg,d,e⟩:=n;by_cases f:d=[];have hn:=zj0 h f;subst f;unfold zak at hn;simp at hn;obtain⟨rfl,rfl⟩:=hn;rfl;have hr:zak (neg,d,e)=Tc:=by
  unfold zak;cases d with
  |nil=>exact absurd rfl f
  |cons c t=>simp
 have M:=h;unfold yo at M;rw[hr,Dw]at M;simp only[Ao,decide_eq_true_eq,bne_iff_ne,ne_eq]at M;obtain⟨⟨⟨⟨⟨H,hl⟩,L⟩,A⟩,ae⟩,ab⟩:=M;have m:=Yw H;obtain⟨u,hu,J⟩:∃u:Nat,u<=1000000/\(e=(u:Int)\/e=-(u:Int)/\1<=u):=by by_cases h0:e<0;exact⟨e.natAbs,by omega,.inr ⟨by omega,by omega⟩⟩;exact⟨e.toNat,by omega,.inl (by omega)⟩
 obtain⟨N,f2,f3,f4⟩:=zat u u (Ab _);have F:∀c∈d,isE c=Tc:=λc Q=>by have:=Av.1 m c Q;unfold jb at this;simp at this;unfold isE;simp only[Do,beq_eq_false_iff_ne,ne_eq];constructor <;> (rintro rfl;revert this;decide)
 have Y:∀c∈d,zj1 c=Tc:=λc Q=>by have:=Av.1 m c Q;unfold jb at this;simp at this;unfold zj1;simp only[beq_eq_false_iff_ne,ne_eq];rintro rfl;revert this;decide
 generalize V:(if e=0 then []else 101::itoa e:Bs)=X;have w:qm (neg,d,e)=(if neg then [45]else [])++d++X:=by unfold qm;rw[if_pos h,if_neg f,V]
 have z:jb 45=Tc:=by decide
 have hS:zqz (qm (neg,d,e))=d++X:=by
  rw[w];unfold zqz;cases neg with
  |true=>simp
  |false=>
   have:(d++X).head?≠Td 45:=by obtain⟨c,t,rfl⟩:=Bq f;exact zig (l:=c::t) m z
   simp only[Bc,if_false,A8];rw[if_neg (by simpa using this)]
 have E:((qm (neg,d,e)).head?==Td 45)=neg:=by
  rw[w];cases neg with
  |true=>simp
  |false=>
   have:(d++X).head?≠Td 45:=by obtain⟨c,t,rfl⟩:=Bq f;exact zig (l:=c::t) m z
   simpa using this
 have P:cutAt zj1 d=(d,[],Tc):=zbh Y;have I:=zyg L;have S:=qgc L A;have fin:∀(low:Bool) (ex:Bs) (r:Bool),Zr (qm (neg,d,e))=(d,(Zr (qm (neg,d,e))).2.1,r)->Q5 (qm (neg,d,e))=low->(r=Ta->J3 (zlh (qm (neg,d,e)))=Ta)->(if r then zlh (qm (neg,d,e))else [])=ex->(ex.dropWhile (· == 48)).length<=9->(if low then-(zm (ex.dropWhile (· == 48)):Int)else zm (ex.dropWhile (· == 48)))=e->zj (qm (neg,d,e))=((neg,d,e),0):=by
  intro low ex r q b G O h9 U;have hW:Ze (qm (neg,d,e))=(d,[],Tc):=by unfold Ze;rw[q];exact P
  have Z:zec (qm (neg,d,e))=Ta:=by
   unfold zec;rw[hW,q,H];cases r with
   |true=>rw[G rfl];simp;exact .inr L
   |false=>simp;exact .inr L
  have aa:zhm (qm (neg,d,e))=⟨neg,d,[],low,ex⟩:=by unfold zhm;rw[hW,E,b,show(Zr (qm (neg,d,e))).2.2=r from by rw[q],O]
  unfold zj Xm;rw[if_pos Z,aa];dsimp only;rw[if_neg (by simp;omega),if_neg (by omega),U,AR,I,S,if_neg f,if_pos (by simp;omega)];simp
 by_cases h0:e=0;subst h0;have y:X=[]:=by rw[<-V];rfl
 subst y;have q:Zr (qm (neg,d,0))=(d,[],Tc):=by unfold Zr;rw[hS,AR];exact zbh F
 exact fin Tc [] Tc (by rw[q]) (by unfold Q5;rw[q];rfl) (λh=>by cases h) rfl (by simp) (by simp[zm]);have y:X=101::itoa e:=by rw[<-V,if_neg h0]
 subst y;have q:Zr (qm (neg,d,e))=(d,itoa e,Ta):=by unfold Zr;rw[hS];have:=zo4 (p:=isE) (l:=d++101::itoa e) (k:=d.length) (by simp) (λi hi=>by rw[BL hi];exact F _ (AE hi)) (by simp;decide);rw[this];simp
 have C:1<=u:=by rcases J with h|h <;> omega
 have o:=zyg (f4 C);have B:J3 (decDigits u)=Ta:=by
  unfold J3;rw[N,Cc];cases hq:decDigits u with
  |nil=>exact absurd hq f2
  |cons=>rfl
 rcases J with x|⟨s,_⟩;have hi:itoa e=decDigits u:=by rw[x,qgd]
 have b:Q5 (qm (neg,d,e))=Tc:=by unfold Q5;rw[q,hi];have:=zig N z;simpa using this
 have D:zlh (qm (neg,d,e))=decDigits u:=by unfold zlh;rw[b,q,hi];have:=zig N (show jb 43=Tc by decide);simp only[Bc,if_false];rw[if_neg (by simpa using this)]
 exact fin Tc (decDigits u) Ta (by rw[q]) b (λ_=>by rw[D];exact B) (by rw[D];rfl) (by rw[o];exact Qk hu) (by rw[o,f3];exact x.symm);have hi:itoa e=45::decDigits u:=by rw[s,qge C]
 have b:Q5 (qm (neg,d,e))=Ta:=by unfold Q5;rw[q,hi];rfl
 have D:zlh (qm (neg,d,e))=decDigits u:=by unfold zlh;rw[b,q,hi];rfl
 exact fin Ta (decDigits u) Ta (by rw[q]) b (λ_=>by rw[D];exact B) (by rw[D];rfl) (by rw[o];exact Qk hu) (by rw[o,f3];exact s.symm)
end
section
variable {r a m:Nat} {s:Bs} {close:Int}
def z1z(r:Nat):Prop:=r<55296\/(57344<=r/\r<=1114111)
theorem z1a{x:Int}(h0:0<=x)(h1:x<256):(x.toNat.toUInt8).toNat=x.toNat:=by rw[Nat.toUInt8,UInt8.toNat_ofNat'];omega
theorem zwc(h:z1z r)(m:Bs):dec (encodeRune (r:Int)++m)=(r,(encodeRune (r:Int)).length)/\1<=(encodeRune (r:Int)).length/\(128<=r->2<=(encodeRune (r:Int)).length):=by
 unfold z1z at h;by_cases h1:r<=127;have e:encodeRune (r:Int)=[(r:Int).toNat.toUInt8]:=by unfold encodeRune;rw[encodeRuneZ_one (by omega) (by omega)];rfl
 rw[e];have b0:=z1a (x:=(r:Int)) (by omega) (by omega);refine⟨?_,by simp,λh=>by omega⟩;rw[List.singleton_append,zah (by rw[b0];omega),b0];simp;by_cases c:r<=2047;have e:encodeRune (r:Int)=[(192+(r:Int) / 64).toNat.toUInt8,(128+(r:Int) % 64).toNat.toUInt8]:=by unfold encodeRune;rw[encodeRuneZ_two (by omega) (by omega)];rfl
 rw[e];have b0:=z1a (x:=192+(r:Int) / 64) (by omega) (by omega);have b1:=z1a (x:=128+(r:Int) % 64) (by omega) (by omega);refine⟨?_,by simp,λh=>by simp⟩;simp only[dec,AD,A8,List.getD_cons_zero,List.getD_cons_succ,Aq,b0,b1];unfold decodeN;rw[if_neg (by omega),if_pos ⟨by omega,by omega,by omega⟩,if_pos (by omega)];simp only[A4,Bi,and_true];omega;by_cases b:r<=65535;have e:encodeRune (r:Int)=[(224+(r:Int) / 4096).toNat.toUInt8,(128+(r:Int) / 64 % 64).toNat.toUInt8,(128+(r:Int) % 64).toNat.toUInt8]:=by unfold encodeRune;rw[encodeRuneZ_three (by omega)];rfl
 rw[e];have b0:=z1a (x:=224+(r:Int) / 4096) (by omega) (by omega);have b1:=z1a (x:=128+(r:Int) / 64 % 64) (by omega) (by omega);have b2:=z1a (x:=128+(r:Int) % 64) (by omega) (by omega);refine⟨?_,by simp,λh=>by simp⟩;simp only[dec,AD,A8,List.getD_cons_zero,List.getD_cons_succ,Aq,b0,b1,b2];unfold decodeN;rw[if_neg (by omega),if_neg (by omega),if_pos ⟨by omega,⟨by omega,by omega⟩,by omega,by omega⟩,if_pos (by omega)];simp only[A4,Bi,and_true];omega;have e:encodeRune (r:Int)=[(240+(r:Int) / 262144).toNat.toUInt8,(128+(r:Int) / 4096 % 64).toNat.toUInt8,(128+(r:Int) / 64 % 64).toNat.toUInt8,(128+(r:Int) % 64).toNat.toUInt8]:=by unfold encodeRune;rw[encodeRuneZ_four (by omega) (by omega)];rfl
 rw[e];have b0:=z1a (x:=240+(r:Int) / 262144) (by omega) (by omega);have b1:=z1a (x:=128+(r:Int) / 4096 % 64) (by omega) (by omega);have b2:=z1a (x:=128+(r:Int) / 64 % 64) (by omega) (by omega);have b3:=z1a (x:=128+(r:Int) % 64) (by omega) (by omega);refine⟨?_,by simp,λh=>by simp⟩;simp only[dec,AD,A8,List.getD_cons_zero,List.getD_cons_succ,Aq,b0,b1,b2,b3];unfold decodeN;rw[if_neg (by omega),if_neg (by omega),if_neg (by omega),if_pos ⟨by omega,⟨by omega,by omega⟩,⟨by omega,by omega⟩,by omega,by omega⟩,if_pos (by omega)];simp only[A4,Bi,and_true];omega
theorem qbu(h:z1z r)(m:Bs):Z8 (encodeRune (r:Int)++m)=Z8 m:=by
 obtain⟨h1,c,i⟩:=zwc h m;have b:encodeRune (r:Int)++m≠[]:=by intro e;have:=(List.append_eq_nil_iff.1 e).1;rw[this]at c;simp at c
 have f:zlg (dec (encodeRune (r:Int)++m))=Tc:=by rw[h1];unfold zlg;simp only[Cp,beq_eq_false_iff_ne,ne_eq];by_cases k:r=65533;exact .inr (by have:=i (by omega);omega);exact .inl k
 rw[Z0 b,f,h1];simp
theorem zpq(l:Bs):z1z (dec l).1:=by
 have h0:=(l.getD 0 0).toNat_lt;have h1:=(l.getD 1 0).toNat_lt;have c:=(l.getD 2 0).toNat_lt;have b:=(l.getD 3 0).toNat_lt;unfold z1z dec decodeN;repeat' split
 all_goals omega
theorem z1b{l:Bs}{r n:Nat}(h:zan l=Td (r,n)):z1z r:=by
 unfold zan at h;split at h
 match l,h with
 |a::c::t,h=>
  unfold qfy at h;dsimp only at h;cases e:qbn c with
  |some q=>rw[e]at h;cases h;have:=z6c e;exact .inl (by omega)
  |none=>
   rw[e]at h;dsimp only at h;split at h;unfold qfx at h;cases e4:zkd t with
   |none=>rw[e4]at h;cases h
   |some m=>
    have b:=zfz e4;rw[e4]at h;dsimp only at h;split at h;cases h;split at h;cases h;unfold z1z;omega;split at h;cases e5:zkd (t.drop 6)with
    |none=>rw[e5]at h;cases h
    |some k=>rw[e5]at h;dsimp only at h;split at h;simp only[Ac,Bi]at h;obtain⟨rfl,_⟩:=h;have:=zfz e5;unfold z1z;omega;cases h
    cases h
   cases h
 split at h;cases h;have h:=Az h;have:r=(dec l).1:=by rw[h]
 rw[this];exact zpq l
theorem qbv:∀(k:Nat) (l:Bs),l.length=k->Z8 (zeo l).1=Ta:=by
 intro k;induction k using Dc with
 |_ k b=>
  intro l f;by_cases h:l=[];subst h;exact Yv;have c:=Bv.2 h;rw[Js h];split;exact Yv;cases e:zan l with
  |none=>exact Yv
  |some x=>obtain⟨r,n⟩:=x;obtain⟨i,_,m,_⟩:=Q7 h e;dsimp only;rw[qbu (z1b e)];exact b (l.drop n).length (by rw[AI];omega) _ rfl
theorem z7a(t:Bs):Z8 (Xn t).1=Ta:=by unfold Xn;dsimp only;split;exact Yv;unfold yq;split;dsimp only;split;exact qbv _ _ rfl;exact Yv;exact Yv
theorem zyh(t:Bs):(Xn t).1.length<=4*t.length:=by unfold Xn;dsimp only;split;simp;unfold yq;split;dsimp only;split;have:=(zsx _ (t.drop (0+1)) rfl).2;rw[AI]at this;dsimp only;omega;simp;simp
def TkG(s:Bs)(t:Tk):Prop:=(t.1=10->qp s t.2=[116,114,117,101])/\(t.1=11->qp s t.2=[102,97,108,115,101])/\(t.1=9->(zj (qp s t.2)).2=0)
theorem zwd(w:Bs):(Qj w=10->w=[116,114,117,101])/\(Qj w=11->w=[102,97,108,115,101])/\Qj w≠9:=by unfold Qj;split;rename_i h;exact⟨λ_=>h,λh=>by omega,by omega⟩;split;rename_i h;exact⟨λh=>by omega,λ_=>h,by omega⟩;split;exact⟨λh=>by omega,λh=>by omega,by omega⟩;exact⟨λh=>by omega,λh=>by omega,by omega⟩
theorem z7b(l:a<s.length)(ok:(Z5 s a).2.2=0):TkG s ((Z5 s a).1,((a:Int),((Z5 s a).2.1:Int))):=by
 have b:=Jt l ok;have k:qp s ((a:Int),((Z5 s a).2.1:Int))=(s.drop a).take ((Z5 s a).2.1-a):=by rw[zbk (by dsimp only;omega) (by dsimp only;omega) (by dsimp only;omega)];unfold J4;simp only[Ag]
 unfold TkG;dsimp only;rw[k];clear k;have i:s.drop a=s[a]::s.drop (a+1):=Bw l;rw[i];unfold Z5 at ok b ⊢;rw[i]at ok b ⊢;dsimp only at ok b ⊢;have p:=λh:s[a]∈ya=>xw s[a] ya;split;rename_i h1;have o:indexByte ya s[a]<6:=by
  have:∀c∈ya,indexByte ya c<6:=by decide
  exact this _ h1
 dsimp only;exact⟨λh=>by omega,λh=>by omega,λh=>by omega⟩;rename_i h1;rw[if_neg h1]at ok b;split;exact⟨λh=>(by cases h),λh=>(by cases h),λh=>(by cases h)⟩;rename_i r;rw[if_neg r]at ok b;split;rename_i f;rw[if_pos f]at ok;split;exact⟨λh=>(by cases h),λh=>(by cases h),λh=>(by cases h)⟩;exact⟨λh=>(by cases h),λh=>(by cases h),λh=>(by cases h)⟩;rename_i f;rw[if_neg f]at ok b;split;rename_i e;rw[if_pos e]at ok b;split;rename_i m;refine⟨λh=>(by cases h),λh=>(by cases h),λ_=>?_⟩;dsimp only;rw[CI];exact m;exact⟨λh=>(by cases h),λh=>(by cases h),λh=>(by cases h)⟩;rename_i e;rw[if_neg e]at ok b;split;exact⟨λh=>(by cases h),λh=>(by cases h),λh=>(by cases h)⟩;rename_i m;obtain⟨w1,q,n⟩:=zwd ((s[a]::s.drop (a+1)).take (Ye (xp we) (s[a]::s.drop (a+1))));dsimp only;rw[CI];exact⟨w1,q,λh=>absurd h n⟩
theorem Lex.good{a b:Nat}{T:List Tk}(H:Lex s a b T):∀t∈T,TkG s t:=by
 induction H with
 |nil=>intro t c;cases c
 |cons h1 f _ e=>intro t c;rcases Ai.1 c with rfl|c;exact z7b h1 f;exact e t c
theorem zl8(h:(zj s).2=0):yo (zj s).1=Ta:=by
 unfold zj at h ⊢;cases e:Xm s with
 |none=>rfl
 |some x=>obtain⟨b,d2,f⟩:=zj5 e;rw[e]at h;dsimp only at h ⊢;generalize (if x.low=Ta then -((zm (List.dropWhile (· == 48) x.exp):Nat):Int)else((zm (List.dropWhile (· == 48) x.exp):Nat):Int))=ee at h ⊢;split;rfl;rename_i c1;rw[if_neg c1]at h;split;rfl;rename_i c2;rw[if_neg c2]at h;split;rfl;rename_i c3;rw[if_neg c3]at h;split;rename_i c;rw[zm6 (by rw[Dd,Yw b,d2];rfl) c3 (by rw[Ah];omega)];simp;omega;rfl
theorem z1c(n:Nm):(qm n).length<=1100:=by
 unfold qm;split;rename_i h;obtain⟨h1,e,b⟩:=zcq h;split;simp;have:(itoa n.2.2).length<=10:=by unfold itoa;split;have:=Qk (u:=n.2.2.natAbs) (by omega);simp only[Aq];omega;have:=Qk (u:=n.2.2.toNat) (by omega);omega
 have c:(if n.1 then [45]else []:Bs).length<=1:=by split <;> simp
 have a2:(if n.2.2=0 then []else 101::itoa n.2.2:Bs).length<=11:=by split;simp;simp only[Aq];omega
 simp only[Ah];omega;simp
def okV(x:Tr):Bool:=decide (x.kind≠7)&&zn x
mutual
theorem zav{p q:Tr->Bool}(h:∀x,p x=Ta->q x=Ta):∀v:Tr,Qt p v=Ta->Qt q v=Ta
 |.mk k s ks xs,hv=>by rw[Qt,Ao]at hv ⊢;exact⟨h _ hv.1,znk h xs hv.2⟩
theorem znk{p q:Tr->Bool}(h:∀x,p x=Ta->q x=Ta):∀l:List Tr,Xq p l=Ta->Xq q l=Ta
 |[],_=>rfl
 |x::l,hl=>by rw[Xq,Ao]at hl ⊢;exact⟨zav h x hl.1,znk h l hl.2⟩
end
theorem qbw{l:List Bs}(h:l.Nodup):(l.map bl).Nodup:=by
 induction l with
 |nil=>simp
 |cons x l f=>rw[Ba]at h;rw[As,Ba];refine⟨λc=>?_,f h.2⟩;obtain⟨y,b,e⟩:=AJ.1 c;have:=zsg.1 e;subst this;exact h.1 b
structure GoodV (d:Nat) (v:Tr) (m:Nat):Prop where
 sz:tsz v=m
 dp:tdp v<=d
 ok:Qt okV v=Ta
 tx:txB 1048576 v
structure GoodK (d:Nat) (xs:List Tr) (m:Nat):Prop where
 sz:Zs xs=m
 dp:Xp xs<=d
 ok:Xq okV xs=Ta
 tx:zo7 1048576 xs
theorem zs9{d:Nat}{P:List Bs->List Bs->Bs×Tr->List Tk->Nat->Prop}{G:Tk->Prop}{N:Nat}(f:∀had had' h C m,P had had' h C m->(∀t∈C,G t)->m<=N->GoodV d h.2 m){had:List Bs}{kvs:List (Bs×Tr)}{D:List Tk}(H:KidsG P close had kvs D m):(∀t∈D,G t)->m<=N->GoodK d (kvs.map (·.2)) m:=by
 induction H with
 |last e o=>intro c i;have g:=f _ _ _ _ _ e (λt b=>c t (Ar _ b)) i;refine⟨?_,?_,?_,?_⟩;simp only[As,Cb,Zs];rw[g.sz];omega;simp only[As,Cb,Xp];have:=g.dp;omega;simp only[As,Cb,Xq];rw[g.ok];rfl;simp only[As,Cb,zo7];exact⟨g.tx,trivial⟩
 |more e n _ l=>intro c i;have g:=f _ _ _ _ _ e (λt b=>c t (Ar _ b)) (by omega);have k:=l (λt b=>c t (AC _ (Ae _ b))) (by omega);refine⟨?_,?_,?_,?_⟩;simp only[As,Zs];rw[g.sz,k.sz];simp only[As,Xp];have:=g.dp;have:=k.dp;omega;simp only[As,Xq];rw[g.ok,k.ok];rfl;simp only[As,zo7];exact⟨g.tx,k.tx⟩
theorem z7c{P:Tr->List Tk->Nat->Prop}{had:List Bs}{kvs:List (Bs×Tr)}{D:List Tk}(A:s.length<=65536)(H:KidsG (KO s P) close had kvs D m):(kvs.map (·.1)).Nodup/\(∀k∈kvs.map (·.1),k∉had/\Z8 k=Ta/\k.length<=262144):=by
 have one:∀{t:Tk},Z8 (Xn (J4 s t.2)).1=Ta/\(Xn (J4 s t.2)).1.length<=262144:=λ {t}=>⟨z7a _,by
  have:=zyh (J4 s t.2);have:(J4 s t.2).length<=s.length:=by unfold J4;rw[AN,AI];omega
  omega⟩
 induction H with
 |last e B=>obtain⟨t,q,u,rfl,y,n,f,h,b,c,r⟩:=e;refine⟨by simp,λk e=>?_⟩;simp only[As,Cb,AY]at e;subst e;exact⟨b,by rw[f];exact one.1,by rw[f];exact one.2⟩
 |more e n _ x=>obtain⟨t,q,u,rfl,y,n,f,h,b,c,r⟩:=e;obtain⟨p,l⟩:=x;refine⟨?_,λk e=>?_⟩;rw[As,Ba];refine⟨λi=>?_,p⟩;have:=(l _ i).1;rw[c]at this;exact this (by simp);rw[As]at e;rcases Ai.1 e with rfl|e;exact⟨b,by rw[f];exact one.1,by rw[f];exact one.2⟩;obtain⟨w,o,z⟩:=l k e;refine⟨λi=>w ?_,o,z⟩;rw[c];exact Ar _ i
theorem qbx{k:Int}(h0:zu k≠0)(c:zu k≠5)(b:zu k≠6):(k=12/\zu k=1)\/(k=10/\zu k=2)\/(k=11/\zu k=2)\/(k=9/\zu k=3)\/(k=8/\zu k=4):=by unfold zu at *;by_cases h1:k=12 <;> by_cases m:k=10 <;> by_cases e:k=11 <;> by_cases i:k=9 <;> by_cases h:k=8 <;> by_cases f:k=4 <;> by_cases l:k=2 <;> simp[*]at h0 c b ⊢
theorem z7d{s:Bs}(H:s.length<=65536):∀(d:Nat) (v:Tr) (C:List Tk) (m:Nat),PV s d v C m->(∀t∈C,TkG s t)->m<=4096->GoodV d v m
 |0,v,C,m,h,_,_=>h.elim
 |d+1,v,C,m,h,hg,E=>by
  have F:=z7d H d;obtain⟨t,w|⟨c,E,w,b⟩|⟨D,kvs,m',f,i,p,z,b⟩|⟨D,kvs,m',f,i,p,z,b⟩⟩:=h
  ·obtain⟨rfl,Y,U,S,rfl,rfl⟩:=w;obtain⟨J,L,O⟩:=hg t Am;have Q:=zf1 s t.2;refine⟨by simp[tsz,Zs],by simp[tdp,Xp],?_,?_⟩;rw[y5];simp only[Xq,C6];unfold okV zn;rcases qbx Y U S with⟨e,o⟩|⟨e,o⟩|⟨e,o⟩|⟨e,o⟩|⟨e,o⟩ <;> simp only[Tr.kind,Tr.text,Tr.keys,Tr.items,o,yh] <;> unfold Yk;simp;rw[J e];simp;rw[L e];simp;have V:=zpp (zl8 (O e));simp[z0z,V];simp[z7a]
   ·rw[zm9];simp only[Tr.text,Tr.keys,zo7,and_true,zf];refine⟨?_,by simp,by simp⟩;unfold Yk;have:=z1c (zj (qp s t.2)).1;have:=zyh (qp s t.2);repeat' split
    all_goals first|omega|simp
  subst E b;have:v=.mk 5 (bl []) [] []\/v=.mk 6 (bl []) [] []:=by rcases w with⟨_,_,h⟩|⟨_,_,h⟩;exact .inl h;exact .inr h
  rcases this with rfl|rfl;exact⟨by simp[tsz,Zs],by simp[tdp,Xp],rfl,by rw[txB,zo7];exact⟨by decide,trivial⟩⟩;exact⟨by simp[tsz,Zs],by simp[tdp,Xp],rfl,by rw[txB,zo7];exact⟨by decide,trivial⟩⟩;subst f b z;have k:=zs9 (d:=d) (N:=4096) (G:=TkG s) (P:=KA (PV s d)) (λhad had' u C m ⟨_,r⟩ B b=>F _ _ _ r B b) p (λt i=>hg t (Ae _ i)) (by omega);refine⟨?_,?_,?_,?_⟩;rw[tsz,k.sz];omega;rw[tdp];have:=k.dp;omega;rw[y5];simp only[Tr.items,k.ok,C6];rfl;rw[txB];exact⟨⟨by decide,by simp,by simp⟩,k.tx⟩;subst f b z;have k:=zs9 (d:=d) (N:=4096) (G:=TkG s) (P:=KO s (PV s d)) (λhad had' u C m ⟨_,_,_,e,_,_,_,_,_,_,r⟩ B b=>F _ _ _ r (λt i=>B t (by rw[e];exact Ae _ (Ae _ i))) b) p (λt i=>hg t (Ae _ i)) (by omega);obtain⟨n1,I⟩:=z7c H p;have l:=Yx (kvs.map (·.2));rw[k.sz,Ap]at l;have n:(kvs.map λu=>bl u.1)=(kvs.map (·.1)).map bl:=by rw[A7];rfl
  refine⟨?_,?_,?_,?_⟩;rw[tsz,k.sz];omega;rw[tdp];have:=k.dp;omega;rw[y5];simp only[Tr.items,k.ok,C6];unfold okV zn wo;simp only[Tr.kind,Tr.keys,Tr.items,Tr.text,n];have Z:((kvs.map (·.1)).map bl).all (λk=>Z8 (lb k))=Ta:=by rw[Av];intro x q;obtain⟨y,A,rfl⟩:=AJ.1 q;rw[yh];exact(I y A).2.1
  have M:((kvs.map (·.1)).map bl).Nodup:=qbw n1;rw[Z,decide_eq_true M];simp;rw[txB];refine⟨⟨by decide,by rw[Ap];omega,λx q=>?_⟩,k.tx⟩;rw[n]at q;obtain⟨y,A,rfl⟩:=AJ.1 q;rw[zf];have:=(I y A).2.2;omega
theorem z7e(o:(Yf s).2.2=0):zy (Q9 s (Yf s).1.2 33 0)=Ta/\Zf (Q9 s (Yf s).1.2 33 0)=Ta/\Sm (Q9 s (Yf s).1.2 33 0):=by
 obtain⟨k,v,C,m,h,r,f,M⟩:=qgb o;obtain⟨q,L⟩:=zs8 k;have l:Q9 s (Yf s).1.2 33 0=v:=M.val _ (λi y n=>by rw[AL];exact n) 33 (by omega);have g:=z7d q 32 v C m h (λt b=>by rw[<-f]at b;exact L.good t (Cf.1 b).1) r;rw[l];have c:Zi v=Ta:=by unfold Zi;have:=g.sz;have:=g.dp;simp;omega
 have p:Qt zn v=Ta:=zav (λx e=>by unfold okV at e;simp at e;exact e.2) v g.ok;refine⟨?_,?_,⟨by have:=g.sz;omega,g.tx⟩⟩;unfold zy;rw[c];exact g.ok;unfold Zf;rw[c,p];rfl
end
section
theorem zkj(a b:Bs):zbi (a++b)=zbi a++zbi b:=by unfold zbi;rw[List.flatMap_append]
theorem qby(c:UInt8):(qdn c).length<=6:=by
 unfold qdn;repeat' split
 all_goals simp
theorem zpr:∀l:Bs,(zbi l).length<=6*l.length
 |[]=>by simp[zbi]
 |c::l=>by have:=zpr l;have h1:=qby c;have e:zbi (c::l)=qdn c++zbi l:=rfl;rw[e,Ah,Aq];omega
theorem z7f{c:UInt8}(h:128<=c.toNat):qdn c=[c]:=by
 have ne:∀n:Nat,n<128->c≠Bb n:=λn b e=>by rw[e,UInt8.toNat_ofNat']at h;omega
 unfold qdn;rw[if_neg (by rintro(e|e);exact ne 34 (by omega) e;exact ne 92 (by omega) e),if_neg (show¬c=8 from ne 8 (by omega)),if_neg (show¬c=12 from ne 12 (by omega)),if_neg (show¬c=10 from ne 10 (by omega)),if_neg (show¬c=13 from ne 13 (by omega)),if_neg (show¬c=9 from ne 9 (by omega)),if_neg (by omega)]
theorem zta:∀{l:Bs},(∀c∈l,128<=c.toNat)->zbi l=l
 |[],_=>rfl
 |c::l,h=>by have e:zbi (c::l)=qdn c++zbi l:=rfl;rw[e,z7f (h c Am),zta λx b=>h x (Ae _ b)];rfl
theorem zyi{r:Nat}(h:z1z r)(l:128<=r):∀c∈encodeRune (r:Int),128<=c.toNat:=by
 unfold z1z at h;intro c f;unfold encodeRune at f;obtain⟨x,b,rfl⟩:=AJ.1 f;have key:∀y:Int,x=y->128<=y->y<256->128<=x.toNat.toUInt8.toNat:=λy e h1 i=>by subst e;rw[z1a (by omega) i];omega
 by_cases i:r<=2047;rw[encodeRuneZ_two (by omega) (by omega)]at b;simp only[Ai,CU,or_false]at b;rcases b with e|e <;> exact key _ e (by omega) (by omega);by_cases k:r<=65535;rw[encodeRuneZ_three (by omega)]at b;simp only[Ai,CU,or_false]at b;rcases b with e|e|e <;> exact key _ e (by omega) (by omega);rw[encodeRuneZ_four (by omega) (by omega)]at b;simp only[Ai,CU,or_false]at b;rcases b with e|e|e|e <;> exact key _ e (by omega) (by omega)
def ztb(r:Nat):Nat:=if r=34\/r=92 then r else if r=8 then 98 else if r=12 then 102 else if r=10 then 110 else if r=13 then 114 else if r=9 then 116 else 0
def qgf(k:Nat):UInt8:=Bb (if k<10 then 48+k else 87+k)
def z15(r:Nat):Bs:=if ztb r≠0 then [92,Bb (ztb r)]else if 32<=r then encodeRune (r:Int)else [92,117,48,48,Bb (48+r / 16),qgf (r % 16)]
theorem qbz:(Bj 128).all (λk=>decide (qdn (Bb k)=z15 k))=Ta:=by kernel_rfl
theorem zyj{l:Bs}(h:l≠[])(m:zlg (dec l)=Tc):zbi (l.take (dec l).2)=z15 (dec l).1:=by
 by_cases f:(dec l).1<128;obtain⟨c,t,rfl⟩:=Bq h;have k:c.toNat<128:=by
  rcases AX c.toNat 128 with h1|h1;exact h1;exfalso;have b:=zv1 h m;have q:=(wy (c::t)).1;have p:encodeRune ((dec (c::t)).1:Int)=[((dec (c::t)).1:Int).toNat.toUInt8]:=by unfold encodeRune;rw[encodeRuneZ_one (by omega) (by omega)];rfl
  obtain⟨n,i⟩:∃n,(dec (c::t)).2=n+1:=⟨(dec (c::t)).2-1,by omega⟩;rw[p,i,CL]at b;injection b with b _;rw[<-b,z1a (by omega) (by omega)]at h1;omega
 rw[zah k]at f ⊢;have:=Av.1 qbz c.toNat (AU.2 k);have:=of_decide_eq_true this;rw[UInt8.ofNat_toNat]at this;rw[<-this];simp[zbi];have f:128<=(dec l).1:=by omega
 have e:=zv1 h m;have o:ztb (dec l).1=0:=by unfold ztb;rw[if_neg (by omega),if_neg (by omega),if_neg (by omega),if_neg (by omega),if_neg (by omega),if_neg (by omega)]
 unfold z15;rw[if_neg (by rw[o];exact λh=>h rfl),if_pos (by omega),<-e];exact zta (zyi (zpq l) f)
end
end Go.X
end
section
namespace Go.X
open Go Go.X Go.Proofs Go.RowKit
section
variable {h:zb} {it:Nat} {s:Bt} {K:Value -> zb -> Prop}
theorem qjf{P:Program}{p:Nat}(e:h[it]?=Td (.stringIter s p)){T:TypeId}(h1:p<s.size->K (.tuple #[.bool Ta,.int .i64 (p:Int),.int .i32 (nxR s p)]) (h.setIfInBounds it (.stringIter s (nxP s p))))
  (h0:s.size<=p->K (.tuple #[.bool Tc]) h):XRun P (CW (.pointer (Td ⟨it,0,Te⟩)) Ta T) h K:=by
 have f:∀(w:World),w.heap[it]?=Td (.stringIter s p)->(getObj it).run P w=.ok (.stringIter s p) w:=λw e=>by simp[getObj,Sem.run,e]
 have i:∀(w:World) (c:Obj),w.heap[it]?=Td (.stringIter s p)->(setObj it c).run P w=.ok () { w with heap:=w.heap.setIfInBounds it c }:=λw c e=>by simp[setObj,Sem.run,e]
 intro B d;by_cases b:p<s.size;have l:nxB s p=Ta:=by simpa[nxB,Cm]using b
 have k:nxP s p=p+(DW s p).2:=by unfold nxP;rw[show Nat.blt p s.size=Ta from l];rfl
 refine⟨_,d,_,?_,h1 b⟩;unfold CW;simp only;rw[Sem.run_bind,f (mk B d h) e];simp only[Result.andThen_ok,b,if_true];rw[Sem.run_bind,i (mk B d h) _ e,k];rfl;refine⟨_,d,h,?_,h0 (by omega)⟩;unfold CW;simp only;rw[Sem.run_bind,f (mk B d h) e];simp only[Result.andThen_ok,b,if_false];rfl
theorem Bld.other{h h':zb}{b:Nat}{l:Bs}(H:Bld h b l){p:Nat}(e:h[it]?=Td (.stringIter s p))(f:∀i,i≠it->h'[i]?=h[i]?):Bld h' b l:=by obtain⟨q,r,o,w,t⟩:=H;refine⟨q,r,?_,w,t.keep λa u=>?_⟩;rw[f b (λc=>by rw[c,e]at o;cases o)];exact o;refine f _ λc=>?_;rcases t.2 with⟨k,_⟩|⟨g,cap,n,k,_,m,_⟩;rw[u]at k;cases k;have m:h[g]?=Td (.cells n 5 (0,0)):=m;rw[u]at k;injection k with e1 _ _;injection e1 with e1;rw[e1]at c;have c:g=it:=c;rw[c,e]at m;cases m
theorem Bld.zero(h:zb):Bld (h.push (.cells #[.pointer Te,.slice Te 0 0] 112)) h.size []:= ⟨Te,⟨Te,0,0⟩,yd _ _,.inl rfl,Owns.nil _ _ _ _⟩
theorem qb0{r:Nat}(x:r<=1114111)(c:K (.int .u8 (ztb r:Int)) h):XC Tp 82 #[.int .i32 (r:Int)] h K:=by
 apply zka;intro u q;have i:∀n:Nat,((r:Int)==(n:Int))=decide (r=n):=λn=>by rw[AM];simp only[beq_iff_eq,decide_eq_true_eq];omega
 have k:((r:Int)==34)=decide (r=34):=i 34;have m:((r:Int)==92)=decide (r=92):=i 92;have t:((r:Int)==8)=decide (r=8):=i 8;have s:((r:Int)==12)=decide (r=12):=i 12;have o:((r:Int)==10)=decide (r=10):=i 10;have l:((r:Int)==13)=decide (r=13):=i 13;have w:((r:Int)==9)=decide (r=9):=i 9;unfold ztb at c;have fin:∀b:Bool,(b=Ta↔r=34\/r=92)->u b h:=λb p=>by
  refine q _ _ ⟨λf=>?_,λf=>?_⟩;rw[if_pos (p.1 f)]at c;have e:Aa .u8 (r:Int)=(r:Int):=by rcases p.1 f with rfl|rfl <;> rfl
  rw[e];exact c;rw[if_neg (λh=>by rw[p.2 h]at f;cases f)]at c;rw[t,s,o,l,w];refine⟨λh=>?_,λh=>?_⟩;rw[if_pos (of_decide_eq_true h)]at c;exact c;rw[if_neg (of_decide_eq_false h)]at c;refine⟨λh=>?_,λh=>?_⟩;rw[if_pos (of_decide_eq_true h)]at c;exact c;rw[if_neg (of_decide_eq_false h)]at c;refine⟨λh=>?_,λh=>?_⟩;rw[if_pos (of_decide_eq_true h)]at c;exact c;rw[if_neg (of_decide_eq_false h)]at c;refine⟨λh=>?_,λh=>?_⟩;rw[if_pos (of_decide_eq_true h)]at c;exact c;rw[if_neg (of_decide_eq_false h)]at c;refine⟨λh=>?_,λh=>?_⟩;rw[if_pos (of_decide_eq_true h)]at c;exact c;rw[if_neg (of_decide_eq_false h)]at c;exact c
 rw[k,m];refine⟨λf=>fin _ ?_,λf=>fin _ ?_⟩;rw[f];exact⟨λ_=>.inl (of_decide_eq_true f),λ_=>rfl⟩;rw[decide_eq_true_eq];exact⟨.inr,λh=>h.resolve_left (of_decide_eq_false f)⟩
theorem qb1{c:Nat}(b:c<32):[92,117]++Lib.repeatL [48] (4-(zbj c).length)++zbj c=[92,117,48,48,Bb (48+c / 16),qgf (c % 16)]/\((zbj c).length=1\/(zbj c).length=2):=by
 have:(Bj 32).all (λc=>decide ([92,117]++Lib.repeatL [48] (4-(zbj c).length)++zbj c=[92,117,48,48,Bb (48+c / 16),qgf (c % 16)]/\((zbj c).length=1\/(zbj c).length=2)))=Ta:=by kernel_rfl
 exact of_decide_eq_true (Av.1 this c (AU.2 b))
set_option maxRecDepth 100000 in
set_option maxHeartbeats 4000000 in
theorem qgg{gl:Fr}(hg:GL gl){t:Bs}(ht:t.length<=1048576){M:Fr}(hM:Fr.le gl M)(hb:Brn M)(ag:AgM M h)(N:∀h',Keep h.size h h'->K (.tuple #[.string (bl (znd t).1),.int .i64 (znd t).2]) h'):
  XC Tp 27 #[.string (bl t)] h K:=by
 apply zl0
 refine(zx2 hg.tabs (l:=t) (by omega) (R:=λr=>r.2=Z8 t) λk=>rfl).go hM ag (qb (a:=Arg.mk .str _) (rdStr _) qq) λv f M2 r L2 Z hr=>?_
 obtain⟨n,is⟩:=r
 have hr:is=Z8 t:=hr
 subst hr
 obtain⟨_,⟨u1,_,rfl,aC,u2,rfl,C⟩,rfl⟩:=Z
 obtain rfl:=j8 aC
 have C:u2=.bool (Z8 t):=by rw[zfs rfl]at C;simpa[Rd]using C
 subst C
 refine⟨_,_,rfl,?_⟩
 unfold znd at N
 refine⟨λu=>?_,λu=>?_⟩
 ·have:Z8 t=Tc:=by simpa using u
  rw[this]at N
  exact N f L2.keep
 have hu:Z8 t=Ta:=by simpa using u
 rw[if_pos hu]at N
 intro h5
 have k5:Keep f.size f h5:=Keep.push _ _ (Ab _)
 have z5:h5.size=f.size+1:=Aj _
 have B5:Bld h5 f.size []:=Bld.zero f
 clear_value h5
 have z2:=L2.keep.size
 refine W5 B5 (by simp) 34 λq B7 k7 i7=>⟨_,rfl,?_⟩
 have z7:f.size<q.size:=B7.lt
 intro B
 have k9:Keep q.size q B:=Keep.push _ _ (Ab _)
 have z9:B.size=q.size+1:=Aj _
 have B9:Bld B f.size [34]:=B7.keep k9
 have e9:B[q.size]?=Td (.stringIter (bl t) 0):=yd _ _
 clear_value B
 have J:Keep h.size h B:=⟨by omega,λj L=>by rw[k9.get j (by omega),k7.get j (by omega),k5.get j (by omega),L2.keep.get j L]⟩
 refine⟨λg=>∃p,p<=t.length/\Bld g f.size (34::zbi (t.take p))/\g[q.size]?=Td (.stringIter (bl t) p)/\Z8 (t.drop p)=Ta/\Keep f.size B g,λg=>match g[q.size]? with
  |some (.stringIter _ p)=>t.length-p
  |_=>0,⟨0,by omega,B9,e9,hu,Keep.refl _ _⟩,?_⟩
 rintro g ⟨p,hp,Bg,eg,z,kg⟩
 have aI:(zbi (t.take p)).length<=6*t.length:=by
  have:=zpr (t.take p)
  rw[AN]at this;omega
 refine qjf eg (λY=>.inr ⟨_,_,rfl,λ_=>?_,λu=>(by cases u)⟩) (λy=>.inl ⟨rfl,λu=>(by cases u),λ_=>?_⟩)
 ·-- a rune more
  rw[zf]at Y
  have hd:t.drop p≠[]:=by intro e;rw[List.drop_eq_nil_iff]at e;omega
  have E:zlg (dec (t.drop p))=Tc:=by
   rw[Z0 hd]at z
   cases hbd:zlg (dec (t.drop p))with
   |true=>rw[hbd]at z;cases z
   |false=>rfl
  have aa:Z8 (t.drop (p+(dec (t.drop p)).2))=Ta:=by
   rw[Z0 hd,E]at z
   rw[<-BM];simpa using z
  have hq:=zyj hd E
  have hw:=wy (t.drop p)
  have O:=zxx hd
  rw[AI]at O
  have G:=z6d (t.drop p)
  have o:zbi (t.take (p+(dec (t.drop p)).2))=zbi (t.take p)++z15 (dec (t.drop p)).1:=by
   rw[<-hq,<-zkj,List.take_add]
  rw[zsi,zjz t p Y]
  generalize hr:(dec (t.drop p)).1=r at G o ⊢
  generalize hn:(dec (t.drop p)).2=n at hw O aa o ⊢
  have aE:q.size<g.size:=(An.1 eg).1
  generalize w:g.setIfInBounds q.size (.stringIter (bl t) (p+n))=h14
  have P:∀i,i≠q.size->h14[i]?=g[i]?:=λi hi=>by rw[<-w,AB (Ne.symm hi)]
  have az:h14[q.size]?=Td (.stringIter (bl t) (p+n)):=by rw[<-w,Ci aE]
  have aZ:h14.size=g.size:=by rw[<-w];simp
  have D:=Bg.other eg P
  have I:Keep f.size B h14:=⟨by have:=kg.size;omega,λj L=>by rw[P j (by omega)];exact kg.get j L⟩
  have fin:∀g':zb,Bld g' f.size (34::zbi (t.take p)++z15 r)->Keep f.size h14 g'->Itk h14 g'->(∃p,p<=t.length/\Bld g' f.size (34::zbi (t.take p))/\g'[q.size]?=Td (.stringIter (bl t) p)/\Z8 (t.drop p)=Ta/\Keep f.size B g') /\
    (match g'[q.size]? with|some (.stringIter _ p)=>t.length-p|_=>0)<(match g[q.size]? with|some (.stringIter _ p)=>t.length-p|_=>0):=λg' B' k' i'=>by
   have e':=i' _ _ _ az
   refine⟨⟨p+n,by omega,by rw[o];exact B',e',aa,I.trans k' (Ab _)⟩,?_⟩
   rw[e',eg]
   show t.length-(p+n)<t.length-p
   omega
  have aV:(34::zbi (t.take p)).length=(zbi (t.take p)).length+1:=rfl
  unfold z15 at fin
  refine qb0 G ⟨_,rfl,λu=>?_,λu=>?_⟩
  ·have h0:ztb r≠0:=by intro e;rw[e]at u;simp at u
   rw[if_pos h0]at fin
   have ab:ztb r<256:=by
    unfold ztb
    repeat' split
    all_goals omega
   have e8:((Bb (ztb r)).toNat:Int)=(ztb r:Int):=by rw[UInt8.toNat_ofNat'];omega
   refine W5 D (by omega) 92 λa6 aN ah aM=>⟨_,rfl,?_⟩
   rw[<-e8]
   refine W5 aN (by simp;omega) (Bb (ztb r)) λau S ax aJ=>⟨_,rfl,?_⟩
   refine fin au ?_ (ah.trans ax (Ab _)) (aM.trans aJ)
   rw[AH]at S;exact S
  ·have h0:ztb r=0:=by
    have:((ztb r:Int) != 0)=Tc:=u
    simpa using this
   rw[if_neg (by rw[h0];exact λh=>h rfl)]at fin
   refine⟨λy=>?_,λb=>?_⟩
   ·have y:32<=r:=by have:=of_decide_eq_true y;omega
    rw[if_pos y]at fin
    refine zke D (by omega) (by omega) (by omega) λaH m ae ai ap=>⟨_,_,rfl,?_⟩
    exact fin aH ae ai ap
   ·have b:r<32:=by have:=of_decide_eq_false b;omega
    rw[if_neg (by omega)]at fin
    obtain⟨am,aQ⟩:=qb1 b
    rw[w64 (by omega)]
    have V:Keep h.size h h14:=⟨by have:=I.size;have:=J.size;omega,λj L=>by rw[I.get j (by omega),J.get j L]⟩
    have F:AgM M h14:=ag.keep V
    refine zv8 b hb F λaT A=>⟨_,rfl,?_⟩
    have aO:(zbj r).length<=4:=by omega
    rw[zf,w64 (by omega),show(4:Int)-((zbj r).length:Int)=((4-(zbj r).length:Nat):Int)from by omega]
    refine(zjx (gl:=gl) (s:=bl [48]) (c:=4-(zbj r).length) (by omega) (by rw[zf];simp;omega) (R:=λx=>x=bl (Lib.repeatL [48] (4-(zbj r).length))) (by rw[yh])).go hM (F.keep A) (qb (a:=Arg.mk .str _) (rdStr _) (qb (a:=Arg.mk (.int .i64) _) (Jn _ _) qq)) λv aA a1 x H Z u=>?_
    subst u
    have Z:=Wv (Xl.1 Z)
    have an:=Lib.repeatL_length [48] (4-(zbj r).length)
    have hz:(Lib.repeatL [48] (4-(zbj r).length)).length<=4:=by rw[an];simp
    refine⟨_,Z,?_,?_,?_⟩
    ·show wu ((bl [92,117]).size+(bl (Lib.repeatL [48] (4-(zbj r).length))).size)
     unfold wu
     rw[zf,zf];simp only[Aq,A4];omega
    ·show wu ((bl [92,117]++bl (Lib.repeatL [48] (4-(zbj r).length))).size+(bl (zbj r)).size)
     unfold wu
     rw[wz,zf,zf,Ah];simp only[Aq,A4];omega
    ·have e:((⟨#[92,117]⟩:Bt)++bl (Lib.repeatL [48] (4-(zbj r).length)))++bl (zbj r)=bl ([92,117]++Lib.repeatL [48] (4-(zbj r).length)++zbj r):=by
      show(bl [92,117]++bl (Lib.repeatL [48] (4-(zbj r).length)))++bl (zbj r)=_
      rw[wz,wz]
     rw[e,am]
     have aY:=A.size
     have ak:=(D.keep A).keep H.keep
     have aL:Itk h14 aA:=(Itk.keep A).trans (Itk.keep H.keep)
     have aP:=D.lt
     refine zpi ak _ (by simp only[Aq,A4];omega) λaB ay aG af=>⟨_,_,rfl,?_⟩
     exact fin aB ay (((A.mono (m:=f.size) (by omega)).trans (H.keep.mono (m:=f.size) (by omega)) (Ab _)).trans aG (Ab _)) (aL.trans af)
 ·rw[zf]at y
  have ar:p=t.length:=by omega
  subst ar
  rw[A5]at Bg
  refine W5 Bg (by rw[A5]at aI;simp;omega) 34 λaS aF Q aU=>⟨_,rfl,?_⟩
  refine zx9 aF λaj U=>⟨_,rfl,?_⟩
  refine N aj ⟨?_,λj L=>?_⟩
  ·have:=kg.size;have:=Q.size;have:=U.size;omega
  ·rw[U.get j (by omega),Q.get j (by omega),kg.get j (by omega),J.get j L]
end
end Go.X
end
section
namespace Go.X
open Go Go.Lib
section
def yl(ln:Bool)(nd lv:Nat):Bs:=if ln then 10::BC (nd*lv) 32 else []
def Zh(ln:Bool)(nd lv:Nat):List Bs->Bs
 |[]=>[]
 |p::ps=>yl ln nd lv++p++ps.flatMap λq=>44::(yl ln nd lv++q)
def Xw(ln:Bool)(nd lv:Nat)(ps:List Bs):Bs:=Zh ln nd (lv+1) ps++(if ps=[]then []else yl ln nd lv)
def zf4(ln:Bool)(k:Bt)(p:Bs):Bs:=(znd (lb k)).1++58::((if ln then [32]else [])++p)
mutual
def jz(ln:Bool)(nd:Nat):Tr->Nat->Bs
 |.mk k s ks xs,lv=>if k=1 then [110,117,108,108]else if k=4 then(znd (lb s)).1 else if k=5 then 91::Xw ln nd lv (qjg ln nd xs (lv+1))++[93]
  else if k=6 then 123::Xw ln nd lv (List.zipWith (zf4 ln) ks (qjg ln nd xs (lv+1)))++[125]else lb s
def qjg(ln:Bool)(nd:Nat):List Tr->Nat->List Bs
 |[],_=>[]
 |x::l,lv=>jz ln nd x lv::qjg ln nd l lv
end
theorem zyk(ln:Bool)(nd:Nat)(lv:Nat):∀l:List Tr,qjg ln nd l lv=l.map λx=>jz ln nd x lv
 |[]=>rfl
 |x::l=>by rw[qjg,zyk ln nd lv l];rfl
theorem Yc(ln:Bool)(nd:Nat)(v:Tr)(lv:Nat):jz ln nd v lv=if v.kind=1 then [110,117,108,108]else if v.kind=4 then(znd (lb v.text)).1 else if v.kind=5 then 91::Xw ln nd lv (v.items.map λx=>jz ln nd x (lv+1))++[93]
  else if v.kind=6 then 123::Xw ln nd lv (List.zipWith (zf4 ln) v.keys (v.items.map λx=>jz ln nd x (lv+1)))++[125]else lb v.text:=by
 cases v with
 |mk k s ks xs=>rw[jz,zyk]
theorem z1d(ln:Bool)(nd lv:Nat)(ps:List Bs)(p:Bs):Zh ln nd lv (ps++[p])=Zh ln nd lv ps++((if ps=[]then []else [44])++(yl ln nd lv++p)):=by
 cases ps with
 |nil=>simp[Zh]
 |cons q b=>rw[AD,Zh,Zh,List.flatMap_append,if_neg (by simp)];simp[AH]
theorem znl(ln:Bool)(nd lv:Nat){ps:List Bs}{n:Nat}(h:n<ps.length):Zh ln nd lv (ps.take (n+1))=Zh ln nd lv (ps.take n)++((if n=0 then []else [44])++(yl ln nd lv++ps[n])):=by rw[Ay h,z1d];congr 2;by_cases h0:n=0;subst h0;rfl;rw[if_neg h0,if_neg (by intro e;rw[List.take_eq_nil_iff]at e;rcases e with e|e;exact h0 e;rw[e]at h;simp at h)]
theorem zyl(ln:Bool)(nd lv:Nat){ps:List Bs}:∀{n:Nat},n<=ps.length->(Zh ln nd lv (ps.take n)).length<=(Zh ln nd lv ps).length:=by
 have step:∀k n,n+k=ps.length->(Zh ln nd lv (ps.take n)).length<=(Zh ln nd lv ps).length:=by
  intro k;induction k with
  |zero=>intro n h;rw[CO]at h;subst h;rw[A5];exact Ab _
  |succ k b=>intro n h;have h1:=b (n+1) (by omega);rw[znl ln nd lv (by omega),Ah]at h1;omega
 intro n h;exact step (ps.length-n) n (by omega)
theorem qjh:∀n:Nat,repeatL [32] n=BC n 32
 |0=>rfl
 |n+1=>by rw[show repeatL [32] (n+1)=[32]++repeatL [32] n from rfl,qjh n];rfl
theorem z7g:∀{l:List Tr} {y:Tr},y∈l->tdp y<=Xp l
 |x::l,y,h=>by rw[Xp];rcases Ai.1 h with rfl|h;omega;have:=z7g h;omega
theorem zps{v x:Tr}(h:x∈v.items):tdp x<tdp v:=by have:=z7g h;rw[zj7 v];omega
end
end Go.X
end
section
namespace Go.X
open Go Go.X Go.Proofs Go.RowKit
section
variable {b:Nat} {g g':zb} {K:Value -> zb -> Prop}
structure FrP (b:Nat) (g g':zb):Prop where
 keep:Keep b g g'
 oth:Otk g g'
theorem FrP.refl(b:Nat)(g:zb):FrP b g g:=⟨Keep.refl _ _,λi o e _=>e⟩
theorem FrP.trans{g g' c:zb}(h:FrP b g g')(k:FrP b g' c):FrP b g c:=⟨h.keep.trans k.keep (Ab _),h.oth.trans k.oth⟩
theorem FrP.ofKeep(k:Keep g.size g g')(c:b<=g.size):FrP b g g':=⟨k.mono c,Otk.keep k⟩
theorem FrP.blk(h:FrP b g g'){c:Nat}{cs:Array Value}(e:g[c]?=Td (.cells cs 26 (0,0))):g'[c]?=Td (.cells cs 26 (0,0)):=h.oth c _ e rfl
structure Low (gl M:Fr) (b:Nat) (g:zb):Prop where
 hM:Fr.le gl M
 ag:AgM M g
 low:∀c cs,M c=Td cs->c<b
theorem Low.frp{gl M:Fr}(L:Low gl M b g)(f:FrP b g g'):Low gl M b g':=⟨L.hM,λc cs e=>by rw[f.keep.get c (L.low c cs e)];exact L.ag c cs e,L.low⟩
theorem add0(b:Nat):Ad ⟨b,0,Te⟩ 0=⟨b,0,Te⟩:=rfl
section
variable {gl M : Fr} {b N : Nat} {ln : Bool} {l : Bs} {g : zb}
theorem qb2(e:GL gl)(n:Brn gl)(H:Prn g b ln (N:Int) l)(L:Low gl M b g){t:Bs}(o:t.length<=1048576)(c:l.length+(znd t).1.length<=140737488355328)(i:∀g',Prn g' b ln (N:Int) (l++(znd t).1)->FrP b g g'->K (.tuple #[]) g'):
  XC Tp 168 #[.pointer (Td ⟨b,0,Te⟩),.string (bl t)] g K:=by
 apply W6;refine qgg e o L.hM (n.mono L.hM) L.ag λh' k=>⟨_,_,rfl,_,rfl,?_⟩;rw[add0];have f:=FrP.ofKeep k (Da H.lt);refine Yz (H.keep k) _ c λp h q m=>⟨_,_,rfl,i p h (f.trans ⟨q,m⟩)⟩
theorem zym(e:GL gl)(h:Brn gl)(H:Prn g b ln (N:Int) l)(L:Low gl M b g){s:Bt}(i:(lb s).length<=1048576)(c:l.length+(znd (lb s)).1.length<=140737488355328)(f:∀g',Prn g' b ln (N:Int) (l++(znd (lb s)).1)->FrP b g g'->K (.tuple #[]) g'):
  XC Tp 168 #[.pointer (Td ⟨b,0,Te⟩),.string s] g K:=by
 have:=qb2 e h H L (t:=lb s) i c f;rw[Y4]at this;exact this
theorem qdv(H:Prn g b ln (N:Int) l)(L:Low gl M b g){lv:Nat}(P:N<=8)(t:lv<=100)(D:l.length+(yl ln N lv).length<=140737488355328)(m:∀g',Prn g' b ln (N:Int) (l++yl ln N lv)->FrP b g g'->K (.tuple #[]) g'):
  XC Tp 235 #[.pointer (Td ⟨b,0,Te⟩),.int .i64 (lv:Int)] g K:=by
 apply zaq;obtain⟨p,s,e,z,C⟩:=H;refine⟨_,rfl,ln,Blk.cellAdd (o:=0) (k:=2) (cs:=#[.pointer p,slV s,.bool ln,.int .i64 (N:Int)]) ⟨_,e⟩ rfl,λf=>?_,λf=>?_⟩;subst f;unfold yl at D m;simp only[if_true,Aq,Co]at D m;refine⟨_,rfl,?_⟩;rw[add0];refine Qu (b:=b) (nd:=(N:Int)) ⟨p,s,e,z,C⟩ (by omega) 10 λI u U F=>⟨_,rfl,_,rfl,_,rfl,?_⟩;have r:=u;obtain⟨Q,G,J,O,E⟩:=r;have A:FrP b g I:=⟨U,F⟩;have y:=L.frp A;have B:N*lv<=800:=BX (Nat.mul_le_mul P t) (by omega);refine⟨(N:Int),Blk.cellAdd (o:=0) (k:=3) (cs:=#[.pointer Q,slV G,.bool Ta,.int .i64 (N:Int)]) ⟨_,J⟩ rfl,?_⟩;rw[show((N:Int)*(lv:Int))=((N*lv:Nat):Int)from by rw[Int.natCast_mul],w64 (by omega)];refine(zjx (gl:=gl) (s:=bl [32]) (c:=N*lv) (by omega) (by rw[zf];simp;omega) (R:=λx=>x=bl (BC (N*lv) 32)) (by rw[yh,qjh])).go y.hM y.ag (qb (a:=Arg.mk .str _) (rdStr _) (qb (a:=Arg.mk (.int .i64) _) (Jn _ _) qq)) λv S V x h t Y=>?_;subst Y;refine⟨_,Wv (Xl.1 t),?_⟩;have f11:=FrP.ofKeep h.keep (Da u.lt);rw[add0];refine Yz (u.keep h.keep) _ (by simp only[Ah,Aq,A4,Co];omega) λw i q n=>⟨_,_,rfl,?_⟩;refine m w ?_ ((A.trans f11).trans ⟨q,n⟩);rw[AH]at i;exact i;subst f;refine m g ?_ (FrP.refl _ _);have:l++yl Tc N lv=l:=by unfold yl;simp
 rw[this];exact⟨p,s,e,z,C⟩
end
end
section
variable {gl:Fr} {l:Bs} {n:Nat}
theorem ztc{s p:Bs}{R:Bool->Prop}(h:R (p.isPrefixOf s)):PC Tp gl 156 [Arg.mk .str (bl s),Arg.mk .str (bl p)] [.bool] R:= PC.of_scal rfl (λ_=>zoo _) (r:=p.isPrefixOf s) h λw i=>by have:=zco (bl s) (bl p) w;have b:(bl s).data.toList=s:=yh s;have c:(bl p).data.toList=p:=yh p;rw[b,c]at this;exact this.mono λe w' ⟨h1,f⟩=>⟨h1,f ▸ Below.refl _ _⟩
theorem qgh{a b:UInt8}(l:Bs):[a,b].isPrefixOf l=decide (l.take 2=[a,b]):=by
 match l with
 |[]=>rfl
 |[x]=>simp[List.isPrefixOf]
 |x::y::l=>simp only[List.isPrefixOf,CL,CZ,C6,BN,and_true];rw[AM,Ao,beq_iff_eq,beq_iff_eq,decide_eq_true_eq];constructor <;> (rintro⟨rfl,rfl⟩;exact⟨rfl,rfl⟩)
theorem qb3(h:zkd l=Td n):4<=l.length:=by unfold zkd at h;split at h;assumption;cases h
theorem z1e(q:GL gl)(y:2<=l.length)(w:l.length<=1152921504606846976){R:Int×Int->Prop}(h:R (match qfx (l.drop 2)with|some (r,n)=>((r:Int),(n:Int))|none=>(0,0))):
  PC Tp gl 324 [Arg.mk .str (bl l)] [.int .i32,.int .i64] R:=by
 apply zhp;simp only[zf,qhj (show(2:Int)=((2:Nat):Int)from rfl),qhj (show(6:Int)=((6:Nat):Int)from rfl),qhj (show(8:Int)=((8:Nat):Int)from rfl)];refine⟨⟨by omega,by omega,by omega⟩,?_⟩;unfold qfx at h;refine z6k q (by rw[AI];omega) (λn e=>?_) (λe v=>?_);rw[e]at h;have u:=zfz e;have s:=qb3 e;rw[AI]at s;dsimp only at h;intro K o;refine⟨λb=>(by cases b),λ_=>o _ ?_⟩;refine⟨λb=>?_,λb=>⟨λp=>?_,λp=>⟨⟨by omega,by omega,by omega⟩,?_⟩⟩⟩;simp only[Bool.cond_eq_ite,Bool.if_false_right,Ao,decide_eq_true_eq]at b;rw[if_pos (by omega)]at h;exact h;simp only[Bool.cond_eq_ite,Bool.if_false_right,Cp,decide_eq_false_iff_not,Bool.if_true_left,BK,decide_eq_true_eq]at b p;rw[if_neg (by omega),if_pos (by omega)]at h;exact h;simp only[Bool.cond_eq_ite,Bool.if_false_right,Cp,decide_eq_false_iff_not,Bool.if_true_left,Do,decide_eq_true_eq]at b p;rw[if_neg (by omega),if_neg (by omega)]at h;rw[BM,BM]at h;refine ztc ?_;rw[qgh];refine⟨λk=>?_,λk=>⟨⟨by omega,?_,by omega⟩,?_⟩⟩;rw[if_neg (by simpa using k)]at h;exact h;have c:(l.drop 6).take 2=[92,117]:=by simpa using k
 have:=congrArg Cd c;simp only[AN,AI,Aq,A4]at this;omega;have c:(l.drop 6).take 2=[92,117]:=by simpa using k
 rw[if_pos c]at h;refine z6k q (by rw[AI];omega) (λm i=>?_) (λi v=>?_);rw[show 2+6=8 from rfl,i]at h;have x:=zfz i;dsimp only at h;refine⟨λf=>?_,λf=>?_⟩;simp only[Bool.cond_eq_ite,Bool.if_true_left,BK,decide_eq_true_eq,Bool.not_true,Bc,false_or]at f;rw[if_neg (show¬(56320<=m/\m<57344)by omega)]at h;exact h;simp only[Bool.cond_eq_ite,Bool.if_true_left,Do,decide_eq_false_iff_not,Bool.not_true,Bc,decide_false,decide_eq_true_eq,Dw]at f;rw[if_pos (show 56320<=m/\m<57344 by omega)]at h;dsimp only at h;rw[zai (n:=(n:Int)-55296) (by omega) (by omega),zai (n:=((n:Int)-55296)*1024) (by omega) (by omega),zai (n:=65536+((n:Int)-55296)*1024) (by omega) (by omega),zai (n:=65536+((n:Int)-55296)*1024+(m:Int)) (by omega) (by omega),zai (by omega) (by omega)];have t:(((65536+(n-55296)*1024+(m-56320):Nat):Int))=65536+((n:Int)-55296)*1024+(m:Int)-56320:=by omega
 rw[t]at h;exact h;rw[show 2+6=8 from rfl,i]at h;exact⟨λ_=>h,λf=>by simp at f⟩;rw[e]at h;intro K o;exact⟨λ_=>o _ ⟨λ_=>h,λb=>by cases b⟩,λb=>by cases b⟩
theorem u8i{c:UInt8}(b:n<256):((c.toNat:Int)==(n:Int))=decide (c=Bb n):=by rw[AM,beq_iff_eq,decide_eq_true_eq,u8n b];omega
theorem qb4{c:UInt8}{R:Int×Bool->Prop}(h:R (match qbn c with|some r=>((r:Int),Ta)|none=>(0,Tc))):PC Tp gl 323 [Arg.mk (.int .u8) (c.toNat:Int)] [.int .i32,.bool] R:=by
 apply zl5;have B:=c.toNat_lt;have q:∀n:Nat,n<256->((c.toNat:Int)==(n:Int))=decide (c=Bb n):=λn z=>u8i z;have o:=q 34 (by omega);have l:=q 92 (by omega);have s:=q 47 (by omega);have m:=q 98 (by omega);have e:=q 102 (by omega);have k:=q 110 (by omega);have f:=q 114 (by omega);have i:=q 116 (by omega);simp only[Int.cast_ofNat_Int,show Bb 34=34 from rfl,show Bb 92=92 from rfl,show Bb 47=47 from rfl,show Bb 98=98 from rfl,show Bb 102=102 from rfl,show Bb 110=110 from rfl,show Bb 114=114 from rfl,show Bb 116=116 from rfl]at o l s m e k f i;rw[o,l,s,m,e,k,f,i];unfold qbn at h;intro K A;have yes:(c=34\/c=92\/c=47)->K Ta:=by intro h1;apply A;rw[if_pos h1]at h;rw[zai (by omega) (by omega)];exact⟨λ_=>h,λb=>by cases b⟩
 refine⟨λh1=>by rw[h1];exact yes (.inl (by simpa using h1)),λh1=>⟨λp=>by rw[p];exact yes (.inr (.inl (by simpa using p))),λp=>?_⟩⟩;by_cases y:c=47;rw[decide_eq_true y];exact yes (.inr (.inr y));have z:¬(c=34\/c=92\/c=47):=by rw[decide_eq_false_iff_not]at h1 p;rintro(h|h|h);exact h1 h;exact p h;exact y h
 rw[if_neg z]at h;rw[decide_eq_false y];apply A;refine⟨λb=>(by cases b),λ_=>?_⟩;by_cases u:c=98;rw[if_pos u]at h;rw[decide_eq_true u];exact⟨λ_=>h,λb=>by cases b⟩;rw[if_neg u]at h;rw[decide_eq_false u];refine⟨λb=>(by cases b),λ_=>?_⟩;by_cases a2:c=102;rw[if_pos a2]at h;rw[decide_eq_true a2];exact⟨λ_=>h,λb=>by cases b⟩;rw[if_neg a2]at h;rw[decide_eq_false a2];refine⟨λb=>(by cases b),λ_=>?_⟩;by_cases w:c=110;rw[if_pos w]at h;rw[decide_eq_true w];exact⟨λ_=>h,λb=>by cases b⟩;rw[if_neg w]at h;rw[decide_eq_false w];refine⟨λb=>(by cases b),λ_=>?_⟩;by_cases t:c=114;rw[if_pos t]at h;rw[decide_eq_true t];exact⟨λ_=>h,λb=>by cases b⟩;rw[if_neg t]at h;rw[decide_eq_false t];refine⟨λb=>(by cases b),λ_=>?_⟩;by_cases x:c=116;rw[if_pos x]at h;rw[decide_eq_true x];exact⟨λ_=>h,λb=>by cases b⟩;rw[if_neg x]at h;rw[decide_eq_false x];exact⟨λb=>(by cases b),λ_=>h⟩
end
section
variable {gl M:Fr} {l:Bs}
theorem z7h(k:GL gl)(f:l.length<=1152921504606846976){R:Int×Int->Prop}(h:R (match qfy l with|some (r,n)=>((r:Int),(n:Int))|none=>(0,0))):
  PC Tp gl 315 [Arg.mk .str (bl l)] [.int .i32,.int .i64] R:=by
 apply zkc;rw[zf]
 match l,f,h with
 |[],_,h=>exact⟨λ_=>h,λb=>by simp at b⟩
 |[a],_,h=>exact⟨λ_=>h,λb=>by simp at b⟩
 |a::c::t,f,h=>
  have i:((a::c::t).length:Int)=t.length+2:=by simp;omega
  refine⟨λb=>(by rw[decide_eq_true_eq]at b;omega),λ_=>⟨⟨by omega,by omega⟩,?_⟩⟩;have m:zr (bl (a::c::t)) (1:Int).toNat=(c.toNat:Int):=by rw[jm];rfl
  rw[m];refine qb4 ?_;unfold qfy at h;dsimp only at h;cases e:qbn c with
  |some r=>rw[e]at h;exact⟨λ_=>h,λb=>(by cases b)⟩
  |none=>rw[e]at h;dsimp only at h;refine⟨λb=>(by cases b),λ_=>⟨⟨by omega,by omega⟩,?_⟩⟩;have o:((c.toNat:Int)==117)=decide (c=117):=u8i (n:=117) (by omega);rw[o];refine⟨λb=>?_,λb=>?_⟩;rw[if_pos (by simpa using b)]at h;refine z1e k (by simp) f ?_;exact h;rw[if_neg (by simpa using b)]at h;exact h
theorem qma(h:l≠[]):Lib.decodeGo (bl l)=dec l:=by unfold Lib.decodeGo;have b:=Bv.2 h;rw[if_neg (by rw[zf];omega),zxw,yh,BQ]
theorem qgi(e:GL gl)(b:l≠[])(f:l.length<=1152921504606846976){R:Int×Int->Prop}(h:R (match zan l with|some (r,n)=>((r:Int),(n:Int))|none=>(0,0))):
  PC Tp gl 291 [Arg.mk .str (bl l)] [.int .i32,.int .i64] R:=by
 apply zpl;have i:=Bv.2 b;rw[zf,jm,show(0:Int).toNat=0 from rfl,z5f i];refine⟨⟨by omega,by omega⟩,?_⟩;have m:((l[0].toNat:Int)==92)=decide (l[0]=92):=u8i (n:=92) (by omega);have o:l.head?=Td l[0]:=by cases l with
  |nil=>exact absurd rfl b
  |cons a t=>rfl
 rw[m];unfold zan at h;rw[o]at h;refine⟨λc=>?_,λc=>?_⟩;rw[if_pos (by rw[of_decide_eq_true c])]at h;exact z7h e f h;rw[if_neg (by rw[Ac];exact of_decide_eq_false c)]at h;refine zse e.tabs ?_;rw[qma b];have k:(bif (decide (((dec l).1:Int)<32))then Ta else(bif (((dec l).1:Int)==65533)then(((dec l).2:Int)==1)else Tc))=decide ((dec l).1<32\/zlg (dec l)=Ta):=by rw[AM];unfold zlg;simp only[Bool.cond_eq_ite,Bool.if_true_left,Bool.if_false_right,BK,Ao,decide_eq_true_eq,beq_iff_eq];constructor;rintro(h1|⟨h1,p⟩);left;omega;right;exact⟨by omega,by omega⟩;rintro(h1|⟨h1,p⟩);left;omega;right;exact⟨by omega,by omega⟩
 rw[k];refine⟨λc=>?_,λc=>?_⟩;rw[if_pos (of_decide_eq_true c)]at h;exact h;rw[if_neg (of_decide_eq_false c)]at h;exact h
theorem zyn(s:Bt)(i j:Int):Y3 M [.str,.int .i64,.int .i64] (s,i,j) (.tuple #[.string s,.int .i64 i,.int .i64 j]):= ⟨[_,_,_],⟨_,_,rfl,rdStr s,_,_,rfl,Jn _ i,_,rfl,Jn _ j⟩,rfl⟩
theorem ztd{k:IntKind}{r:Int×Int}{v:Value}(h:Y3 M [.int k,.int .i64] r v):v=.tuple #[.int k r.1,.int .i64 r.2]:=by obtain⟨vs,⟨e,rest,rfl,c,f,rfl,b⟩,rfl⟩:=h;rw[j8 c,j8 b];rfl
set_option maxHeartbeats 1000000 in
theorem zyo(S:GL gl){t:Bs}{a:Nat}(O:a<=1152921504606846976)(hl:t.length<=1099511627776){R:Bt×Int×Int->Prop}(u:R (bl (yq t a).1,((yq t a).2.1:Int),(yq t a).2.2)):
  PC Tp gl 253 [Arg.mk .str (bl t),Arg.mk (.int .i64) (a:Int)] [.str,.int .i64,.int .i64] R:=by
 intro h M vs U ag P
 match vs,P with
 |[u1,u2],⟨a1,a2,_⟩=>
  obtain rfl:=Wv (s:=bl t) a1;obtain rfl:=j8 (i:=(a:Int)) a2;apply PX.of;apply zpa;rw[zf,jm,Ag];have f:∀{k:Nat},k<t.length->(t.drop k).head?=Td (t[k]?.getD 0):=λ {k} J=>by rw[List.head?_drop,Ak J];rfl
  have D:∀k:Nat,(((t[k]?.getD 0).toNat:Int)==34)=decide (t[k]?.getD 0=34):=λk=>u8i (n:=34) (by omega);have H:(((t[a]?.getD 0).toNat:Int) != 34)=!decide (t[a]?.getD 0=34):=by rw[bne,D]
  rw[H];refine⟨λl=>?_,λl=>?_,λl=>?_⟩;have:¬((a:Int)>=(t.length:Int)):=by simpa using l
  exact⟨by omega,by omega⟩;have hn:¬(t.drop a).head?=Td 34:=by
   intro e;have o:a<t.length:=by rcases AX a t.length with h1|h1;exact h1;rw[Br h1]at e;cases e
   rw[f o]at e;have e:=Az e;have E:decide ((a:Int)>=(t.length:Int))=Tc:=by rw[decide_eq_false_iff_not];omega
   rw[E,e]at l;simp at l
  have e:yq t a=([],a,2):=by unfold yq;rw[if_neg hn]
  rw[e]at u;exact⟨M,(bl [],(a:Int),2),Later.refl ag,zyn _ _ _,u⟩;have o:a<t.length:=by
   rcases AX a t.length with h1|h1;exact h1;have E:decide ((a:Int)>=(t.length:Int))=Ta:=by rw[decide_eq_true_eq];omega
   rw[E]at l;cases l
  have E:decide ((a:Int)>=(t.length:Int))=Tc:=by rw[decide_eq_false_iff_not];omega
  have Z:(t.drop a).head?=Td 34:=by rw[f o];rw[E]at l;congr 1;simpa using l
  have Y:yq t a=(let q:=zeo (t.drop (a+1));if q.2.2 then(q.1,a+1+q.2.1,0)else([],a+1+q.2.1,2)):=by unfold yq;rw[if_pos Z]
  rw[jc o (by omega)];intro h1;have B1:Bld h1 h.size []:=Bld.new h;have Q:Keep h.size h h1:=Keep.push _ _ (Ab _);clear_value h1;refine⟨λi g=>∃(k:Nat) (out:Bs),i=(k:Int)/\k<=t.length/\out.length<=4*k/\Bld g h.size out/\Keep h.size h g/\yq t a=(let q:=zeo (t.drop k);if q.2.2 then(out++q.1,k+q.2.1,0)else([],k+q.2.1,2)),λi _=>t.length-i.toNat,⟨a+1,[],rfl,by omega,by simp,B1,Q,by rw[Y];rfl⟩,?_⟩;rintro i g ⟨k,out,rfl,J,ho,B,A,w⟩;simp only[Ag];refine⟨λl=>?_,λl=>?_⟩;have p:k<t.length:=by rw[decide_eq_true_eq]at l;omega
  have y:t.drop k≠[]:=by rw[<-Bv,AI];omega
  refine⟨⟨by omega,by omega⟩,?_⟩;rw[jm,D];have b:=Js y;rw[f p]at b;refine⟨λz=>?_,λz=>⟨⟨by omega,by omega,by omega⟩,?_⟩⟩;rw[if_pos (by rw[of_decide_eq_true z])]at b;rw[b]at w;refine zx9 B λh7 k7=>⟨_,rfl,M,(bl out,((k+1:Nat):Int),0),Later.same ag (A.trans k7 (Ab _)),?_,?_⟩;rw[jc p (by omega)];exact zyn _ _ _;rw[w]at u;simpa using u;rw[if_neg (by rw[Ac];exact of_decide_eq_false z)]at b;have ex:(bl t).extract k t.length=bl (t.drop k):=qhj (n:=(k:Int)) rfl;rw[ex];refine(qgi S y (by rw[AI];omega) (R:=λr=>r=(match zan (t.drop k)with|some (r,n)=>((r:Int),(n:Int))|none=>(0,0))) rfl).go U (ag.keep A) (qb (a:=Arg.mk .str _) (rdStr _) qq) λv h9 M9 r L V C=>?_;obtain rfl:=ztd V;cases ep:zan (t.drop k)with
  |none=>rw[ep]at C b;dsimp only at C;subst C;refine⟨_,_,rfl,λ_=>?_,λG=>by cases G⟩;dsimp only at b;rw[b]at w;refine⟨M,(bl [],(k:Int),2),Later.same ag (A.trans L.keep A.size),zyn _ _ _,?_⟩;rw[w]at u;simpa using u
  |some x=>
   obtain⟨c,n⟩:=x;rw[ep]at C b;dsimp only at C;subst C;obtain⟨n1,n2,N,n4⟩:=Q7 y ep;rw[AI]at N;dsimp only at b;refine⟨(c:Int),(n:Int),rfl,λG=>?_,λ_=>?_⟩;simp only[beq_iff_eq]at G;omega;refine zv3 (B.keep L.keep) (by omega) (by omega) (by omega) λaa m I F=>⟨_,_,rfl,?_,?_⟩;refine⟨k+n,out++Lib.encodeRune (c:Int),?_,by omega,?_,I,?_,?_⟩;rw[w64 (by omega)];omega;have h4:(Lib.encodeRune (c:Int)).length<=4:=by have:=(Lib.encodeRuneZ_length (c:Int)).2;rw[Lib.encodeRune,Ap];exact this
   rw[Ah];omega;exact(A.trans L.keep A.size).trans F (Ab _);rw[w,b,BM];dsimp only;rw[AH,CP];show t.length-(Aa .i64 ((k:Int)+(n:Int))).toNat<t.length-((k:Nat):Int).toNat;rw[w64 (by omega)];omega
  have p:k=t.length:=by rw[decide_eq_false_iff_not]at l;omega
  rw[p,List.drop_length,z6e]at w;refine⟨M,(bl [],(t.length:Int),2),Later.same ag A,zyn _ _ _,?_⟩;rw[w]at u;simpa using u
end
section
variable {t:Bs} {gl:Fr}
def qji(t:Bs)(a:Int):Int×Int:=if a<0\/(t.length:Int)<a then(0,2)else((yq t a.toNat).2.1,(yq t a.toNat).2.2)
theorem qgj{R:Bt×Int×Int->Prop}(h:R (bl (Xn t).1,((Xn t).2.1:Int),(Xn t).2.2)):
  ((bif ((yq t 0).2.2==0)then(decide (((yq t 0).2.1:Int)<(t.length:Int)))else Tc)=Ta->R (bl [],((yq t 0).2.1:Int),2))/\((bif ((yq t 0).2.2==0)then(decide (((yq t 0).2.1:Int)<(t.length:Int)))else Tc)=Tc->R (bl (yq t 0).1,((yq t 0).2.1:Int),(yq t 0).2.2)):=by
 have e:(bif ((yq t 0).2.2==0)then(decide (((yq t 0).2.1:Int)<(t.length:Int)))else Tc)=decide ((yq t 0).2.2=0/\(yq t 0).2.1<t.length):=by rw[AM];simp only[Bool.cond_eq_ite,Bool.if_false_right,Ao,decide_eq_true_eq,beq_iff_eq];omega
 rw[e];unfold Xn at h;refine⟨λb=>?_,λb=>?_⟩;rw[if_pos (of_decide_eq_true b)]at h;exact h;rw[if_neg (of_decide_eq_false b)]at h;exact h
theorem zf5(c:GL gl)(b:t.length<=1099511627776){R:Bt×Int×Int->Prop}(h:R (bl (Xn t).1,((Xn t).2.1:Int),(Xn t).2.2)):
  PC Tp gl 196 [Arg.mk .str (bl t)] [.str,.int .i64,.int .i64] R:=by
 apply zho;rw[zf];exact zyo c (a:=0) (by omega) b (qgj h)
theorem qjj(i:GL gl){a:Int}(f:t.length<=1099511627776){R:Int×Int->Prop}(h:R (qji t a)):PC Tp gl 258 [Arg.mk .str (bl t),Arg.mk (.int .i64) a] [.int .i64,.int .i64] R:=by
 apply zsu;rw[zf];have e:(bif (decide (a<0))then Ta else(decide (a>(t.length:Int))))=decide (a<0\/(t.length:Int)<a):=by rw[AM];simp only[Bool.cond_eq_ite,Bool.if_true_left,BK,decide_eq_true_eq]
 rw[e];unfold qji at h;refine⟨λc=>?_,λc=>?_⟩;rw[if_pos (of_decide_eq_true c)]at h;exact h;have k:=of_decide_eq_false c;rw[if_neg k]at h;have l:a=((a.toNat:Nat):Int):=by omega
 have:=zyo i (t:=t) (a:=a.toNat) (by omega) f (R:=λb=>R (b.2.1,b.2.2)) h;rw[<-l]at this;exact this
end
end Go.X
end
section
namespace Go.X
open Go Go.RowKit
section
theorem qgk{n:Nat}{bf:Nat->List Nat}:((Bj n).flatMap bf).Nodup↔(∀i,i<n->(bf i).Nodup)/\∀i j,i<j->j<n->∀x∈bf i,∀y∈bf j,x≠y:=by unfold List.Nodup;rw[List.pairwise_flatMap,List.pairwise_iff_getElem];constructor;rintro⟨h1,e⟩;refine⟨λi hi=>h1 i (by simpa using hi),λi j b c=>?_⟩;have:=e i j (by simp;omega) (by simpa using c) b;simpa using this;rintro⟨h1,e⟩;refine⟨λi hi=>h1 i (by simpa using hi),λi j hi c b=>?_⟩;simp at hi c;simpa using e i j b c
end
section
variable {h:zb} {v:Tr} {sk si:Sl} {bk bb:List Nat} {b n i k:Nat} {cs:Array Value} {cw:List Value}
structure OTp (h:zb) (v:Tr) (sk si:Sl) (bk bb:List Nat) (b:Nat) (cs:Array Value) (bf:Nat->List Nat):Prop where
 keys:OKeys h v.keys bk sk
 hn:si.len=v.items.length/\v.items.length<=140737488355328/\v.items.length<=si.cap
 hz:(v.items=[]/\bb=[]/\si.cap=0)\/(bb=[b]/\si.a=Td ⟨b,0,Te⟩/\Blk h b cs/\si.cap*4<=cs.size)
 hi:∀i (hx:i<v.items.length),OT h v.items[i] (bf i) (cut cs (i*4) 4)
 nk:bk.Nodup
 d1:∀c∈bk,c∉bb
 d2:∀c∈bk,∀i,i<v.items.length->c∉bf i
 d3:∀c∈bb,∀i,i<v.items.length->c∉bf i
 d4:∀i j,i<v.items.length->j<v.items.length->i≠j->∀c∈bf i,c∉bf j
def Z2(v:Tr)(sk si:Sl):List Value:=[.int .i64 v.kind,.string v.text,slV sk,slV si]
theorem OTp.ot{bf:Nat->List Nat}(H:OTp h v sk si bk bb b cs bf):OT h v (bk++(bb++(Bj v.items.length).flatMap bf)) (Z2 v sk si):=by obtain⟨k,s,ks,xs⟩:=v;refine OT.mk (b:=b) (cs:=cs) H.keys H.hn H.hz H.hi ?_;rw[Cw];refine⟨H.nk,?_,λx f y c e=>?_⟩;rw[Cw];refine⟨?_,qgk.2 ⟨λi hi=>(H.hi i hi).nodup,λi j l m x f y c e=>?_⟩,λx f y c e=>?_⟩;rcases H.hz with⟨_,e,_⟩|⟨e,_⟩;rw[e];exact C0;rw[e];simp;subst e;exact H.d4 i j (Nat.lt_trans l m) m (by omega) x f c;subst e;obtain⟨i,hi,c⟩:=Cg.1 c;exact H.d3 x f i (by simpa using hi) c;subst e;rcases Aw.1 c with c|c;exact H.d1 x f c;obtain⟨i,hi,c⟩:=Cg.1 c;exact H.d2 x f i (by simpa using hi) c
theorem z7i{bf:Nat->List Nat}{n c:Nat}:c∈bk++(bb++(Bj n).flatMap bf)↔c∈bk\/c∈bb\/∃i,i<n/\c∈bf i:=by simp only[Aw,Cg,AU]
theorem zpt(h:i+4<=n):cut cs i 4=((cut cs 0 n).drop i).take 4:=by unfold cut;rw[BQ,List.drop_take,DF,Cj (by omega)]
theorem qgl{α:Type}{xs:List α}{w:α}(c:k<=xs.length)(h:i<(xs.take k++w::xs.drop k).length):
  (i<k/\∃h':i<xs.length,(xs.take k++w::xs.drop k)[i]=xs[i])\/(i=k/\(xs.take k++w::xs.drop k)[i]=w)\/(k<i/\∃h':i-1<xs.length,(xs.take k++w::xs.drop k)[i]=xs[i-1]):=by
 have b:(xs.take k).length=k:=by rw[AN];omega
 simp only[Ah,Aq,b,AI]at h;rcases Di i k with h1|h1|h1;refine .inl ⟨h1,by omega,?_⟩;rw[BL (by rw[b];exact h1),List.getElem_take];refine .inr (.inl ⟨h1,?_⟩);subst h1;rw[BW (by rw[b];exact Ab _)];simp[b];refine .inr (.inr ⟨h1,by omega,?_⟩);rw[BW (by rw[b];omega)];simp only[b];have e:i-k=(i-1-k)+1:=by omega
 simp only[e,List.getElem_cons_succ,List.getElem_drop];congr 1;omega
theorem qgm{c cw:List Value}(f:c.length=n*4)(e:cw.length=4)(h:k<=n):
  (∀i,i<k->((c.take (k*4)++cw++c.drop (k*4)).drop (i*4)).take 4=(c.drop (i*4)).take 4)/\((c.take (k*4)++cw++c.drop (k*4)).drop (k*4)).take 4=cw/\∀i,k<i->((c.take (k*4)++cw++c.drop (k*4)).drop (i*4)).take 4=(c.drop ((i-1)*4)).take 4:=by
 have b:(c.take (k*4)).length=k*4:=by rw[AN];omega
 refine⟨λi hi=>?_,?_,λi hi=>?_⟩;apply Bu;intro j;rw[AK,AK];split;rw[A9,A9,AH,BG (by rw[b];omega),AK,if_pos (by omega)];rfl;rw[AH,List.drop_append,Br (by rw[b];exact Ab _),A8,b,Dr,BQ,List.take_append,e,Dr,CZ,AR,BE (by omega)];rw[List.drop_append,Br (by rw[Ah,b,e];omega),A8,Ah,b,e,BM];congr 2;omega
theorem OTp.ins{h h':zb}{bf:Nat->List Nat}(H:OTp h v sk si bk bb b cs bf)(N:k<=v.items.length){w:Tr}{bw:List Nat}(O:OT h' w bw cw) (P:∀i,i<v.items.length->∀c∈bf i,h'[c]?=h[c]?) {p:Sl} {r:Nat} {cs':Array Value} (e1:p.a=Td ⟨r,0,Te⟩) (V:Blk h' r cs') (S:p.len=v.items.length+1) (e4:v.items.length+1<=p.cap) (U:p.cap*4<=cs'.size) (e6:v.items.length+1<=140737488355328) (Z:cut cs' 0 ((v.items.length+1)*4)=(cut cs 0 (v.items.length*4)).take (k*4)++cw++(cut cs 0 (v.items.length*4)).drop (k*4)) (L:∀i,i<v.items.length->r∉bf i) (F:r∉bw) (C:∀c∈bw,∀i,i<v.items.length->c∉bf i) {x:List Bt} {z:Sl} {o:List Nat} (ok:OKeys h' x o z) (nk:o.Nodup) (M:r∉o) (J:∀c∈o,∀i,i<v.items.length->c∉bf i) (G:∀c∈o,c∉bw):
  OTp h' (.mk v.kind v.text x (v.items.take k++w::v.items.drop k)) z p o [r] r cs' (λi=>if i<k then bf i else if i=k then bw else bf (i-1)):=by
 have l:(v.items.take k++w::v.items.drop k).length=v.items.length+1:=by simp;omega
 have D:∀i (B:i<v.items.length),(cut cs 0 (v.items.length*4)).length=v.items.length*4:=by intro i B;rcases H.hz with⟨h0,_⟩|⟨_,_,_,Y⟩;rw[h0]at B;simp at B;unfold cut;simp;have:=H.hn.2.2;omega
 have s:(cut cs 0 (v.items.length*4)).length=v.items.length*4:=by
  by_cases h0:0<v.items.length;exact D 0 h0;have:v.items.length=0:=by omega
  rw[this];unfold cut;simp
 have E:cw.length=4:=O.len;obtain⟨c1,c2,c3⟩:=qgm s E N;have t:∀i,i<v.items.length+1->∀c,c∈(if i<k then bf i else if i=k then bw else bf (i-1))->(∃j,j<v.items.length/\c∈bf j)\/c∈bw:=by intro i hi c m;split at m;exact .inl ⟨i,by omega,m⟩;split at m;exact .inr m;exact .inl ⟨i-1,by omega,m⟩
 refine⟨ok,⟨by show p.len=(v.items.take k++w::v.items.drop k).length;rw[l];exact S,by show(v.items.take k++w::v.items.drop k).length<=_;rw[l];exact e6,by show(v.items.take k++w::v.items.drop k).length<=_;rw[l];exact e4⟩,.inr ⟨rfl,e1,V,U⟩,λi B=>?_,nk,λc m f=>?_,λc m i hi f=>?_,λc m i hi f=>?_,λi j hi A I c m f=>?_⟩;have u:i<(v.items.take k++w::v.items.drop k).length:=B;have aa:i<v.items.length+1:=by rw[<-l];exact u
 rw[zpt (n:=(v.items.length+1)*4) (by omega),Z];show OT h' (v.items.take k++w::v.items.drop k)[i] _ _;rcases qgl N u with⟨hi,y,e⟩|⟨hi,e⟩|⟨hi,y,e⟩;rw[e,if_pos hi,c1 i hi,<-zpt (by omega)];exact(H.hi i y).frame (P i y);subst hi;rw[e,if_neg (by omega),if_pos rfl,c2];exact O;rw[e,if_neg (by omega),if_neg (by omega),c3 i hi,<-zpt (by omega)];exact(H.hi (i-1) y).frame (P (i-1) y);simp at f;subst f;exact M m;have q:i<v.items.length+1:=by rw[<-l];exact hi
 rcases t i q c f with⟨j,A,f⟩|f;exact J c m j A f;exact G c m f;have q:i<v.items.length+1:=by rw[<-l];exact hi
 simp at m;subst m;rcases t i q c f with⟨j,A,f⟩|f;exact L j A f;exact F f
 ·have q:i<v.items.length+1:=by rw[<-l];exact hi
  have Q:j<v.items.length+1:=by rw[<-l];exact A
  try simp only at m f
  split at m;split at f;exact H.d4 i j (by omega) (by omega) I c m f;split at f;exact C c f i (by omega) m;exact H.d4 i (j-1) (by omega) (by omega) (by omega) c m f;split at m;split at f;exact C c m j (by omega) f;split at f;omega;exact C c m (j-1) (by omega) f;split at f;exact H.d4 (i-1) j (by omega) (by omega) (by omega) c m f;split at f;exact C c f (i-1) (by omega) m;exact H.d4 (i-1) (j-1) (by omega) (by omega) (by omega) c m f
end
section
variable {cs:Array Value} {o n b:Nat} {h:zb}
theorem zc7(h:o+n<=cs.size):(cut cs o n).length=n:=by unfold cut;simp;omega
theorem z7j(H:Blk h b cs):Arr h.size h (Td ⟨b,o,Te⟩) (cut cs o n):=by refine .inr ⟨b,o,rfl,H.lt,λi v c=>H.cell ?_⟩;rw[q9]at c;split at c;rw[<-Ca];exact c;cases c
theorem z7k{P:Program}(H:Blk h b cs){vs:List Value}(c:o+vs.length<=cs.size)(h1:∀u∈vs,u.oneCell'=Ta)(B:World)(d:Nat):
  ∃h',(storeCells ⟨b,o,Te⟩ vs 0).run P (mk B d h)=.ok () (mk B d h')/\Blk h' b (upd cs o vs)/\h'.size=h.size/\∀j,j≠b->h'[j]?=h[j]?:=by
 obtain⟨T,e⟩:=H;obtain⟨h',l,i,k,f⟩:=zrv (P:=P) e c h1 B d;exact⟨h',l,⟨T,i⟩,k,f⟩
end
section
variable {cs:Array Value} {vs:List Value}
structure RowO (h:zb) (s:Sl) (b:Nat) (cs:Array Value) (sz:Nat):Prop where
 le:s.len<=s.cap
 at_:(s.len=0/\s.cap=0)\/(s.a=Td ⟨b,0,Te⟩/\Blk h b cs/\s.cap*sz<=cs.size)
structure RowN (h h':zb) (s':Sl) (b b':Nat) (cs':Array Value) (sz n:Nat) (cells:List Value):Prop where
 a:s'.a=Td ⟨b',0,Te⟩
 len:s'.len=n
 cap:n<=s'.cap
 blk:Blk h' b' cs'
 size:s'.cap*sz<=cs'.size
 cut:cut cs' 0 (n*sz)=cells
 new:b'=b\/h.size<=b'
 grow:h.size<=h'.size
 old:∀j,j<h.size->j≠b'->h'[j]?=h[j]?
theorem qgn{n m:Nat}(e:n+vs.length<=cs.size)(f:m=n+vs.length):cut (upd cs n vs) 0 m=cut cs 0 n++vs:=by subst f;have b:(cut cs 0 n).length=n:=zc7 (by omega);apply Bu;intro q;rw[q9];split;rename_i c;rw[AL,qft e];split;rename_i h1;rw[BG (by rw[b];exact h1),q9,if_pos h1,AL];rename_i h1;rw[BD (by rw[b];omega),b];rename_i c;rw[BH];rw[Ah,b];omega
theorem zpu{P:Program}{t e:TypeId}{z:Value}{sz bytes:Nat}(T:ElemT P t e z sz bytes){ty:TypeId}{h:zb}{s:Sl}{b:Nat}(H:RowO h s b cs sz){bv cv:Nat}(M:Blk h bv vs.toArray)(i:vs.length=sz)(h1:∀u∈vs,u.oneCell'=Ta)(Q:(s.len+1)*bytes<=140737488355328)(L:s.len+1<=140737488355328){K:Value->zb->Prop} (D:∀(w:Sl) (h':zb) (U:Nat) (cs':Array Value),RowN h h' w b U cs' sz (s.len+1) (cut cs 0 (s.len*sz)++vs)->K (.slice w.a w.len w.cap) h'):
  XRun P (Au #[t,t] ty #[.slice s.a s.len s.cap,.slice (Td ⟨bv,0,Te⟩) 1 cv]) h K:=by
 intro B d;have r:Arr h.size h (Td ⟨bv,0,Te⟩) vs:=by have:=z7j M (o:=0) (n:=vs.length);rw[show cut vs.toArray 0 vs.length=vs by unfold cut;simp]at this;exact this
 have A:∀B d,Src P sz t (.slice (Td ⟨bv,0,Te⟩) 1 cv) 1 vs (mk B d h):=λB d=>zru (P:=P) (s:=⟨Td ⟨bv,0,Te⟩,1,cv⟩) r (by simp[i]) T.pos h1 T.slice B d;have I:(s.len+1)*sz=s.len*sz+sz:=CN _ _;by_cases x:s.len+1<=s.cap;rcases H.at_ with⟨_,h0⟩|⟨l,k,C⟩;omega;have Z:(s.len+1)*sz<=s.cap*sz:=AQ _ x;obtain⟨h',Y,J,r3,G⟩:=z7k (P:=P) k (o:=s.len*sz) (vs:=vs) (by rw[i];omega) h1 B d;have m:=Q3 (P:=P) (ty:=ty) T (s:=s) (h':=h') (A B d) x (λp y=>by rw[l]at y;cases y;rw[zi,AL];exact Y) (λE=>by rw[l]at E;cases E);refine⟨_,d,h',m,D ⟨s.a,s.len+1,s.cap⟩ h' b _ ⟨l,rfl,x,J,by rw[zx7 (by rw[i];omega)];exact C,qgn (by rw[i];omega) (by rw[i];exact I),.inl rfl,by omega,λj O q=>G j q⟩⟩;have f:Arr h.size h s.a (cut cs 0 (s.len*sz))/\(cut cs 0 (s.len*sz)).length=s.len*sz:=by rcases H.at_ with⟨h0,_⟩|⟨l,k,C⟩;rw[h0,DD];exact⟨.inl (by unfold cut;simp),by unfold cut;simp⟩;have Z:s.len*sz<=s.cap*sz:=AQ _ H.le;rw[l];exact⟨z7j k,zc7 (by omega)⟩
 obtain⟨c,blk,S,F,q3,V,N⟩:=Wm (P:=P) (ty:=ty) (base:=0) T f.2 (λB d=>Q2 f.1 f.2 T.pos B d) A Q L (AW _) (by omega) B d;refine⟨_,d+1,_,S,D ⟨Td ⟨h.size,0,Te⟩,s.len+1,c⟩ _ h.size blk ⟨rfl,rfl,F,Blk.new _ _ _,by rw[V];exact Ab _,by unfold cut;rw[BQ];exact N,.inr (Ab _),by simp,λj O q=>by rw[BV,if_neg (by omega)]⟩⟩
end
end Go.X
end
section
namespace Go.X
section
variable {lo:Nat} {h h':zb} {M M':Fr} {s:Sl} {bs:List Nat}
def ORow(lo:Nat)(h:zb)(M:Fr)(T:Ty)(xs:List (El T))(s:Sl)(bs:List Nat):Prop:=
 (xs=[]/\s.len=0/\s.cap=0/\bs=[])\/∃(b:Nat) (cs:Array Value),bs=[b]/\s.a=Td ⟨b,0,Te⟩/\s.len=xs.length/\s.len<=s.cap/\Blk h b cs/\s.cap*sz T<=cs.size/\lo<=b/\M b=Te/\∀i (hi:i<xs.length),Rd M T xs[i] (cut cs (i*sz T) (sz T))
theorem ORow.nil{T:Ty}:ORow lo h M T [] ⟨Te,0,0⟩ []:=.inl ⟨rfl,rfl,rfl,rfl⟩
theorem ORow.len{T:Ty}{xs:List (El T)}(H:ORow lo h M T xs s bs):s.len=xs.length:=by rcases H with⟨rfl,h1,_⟩|⟨b,cs,_,_,h1,_⟩;exact h1;exact h1
theorem ORow.own{T:Ty}{xs:List (El T)}(H:ORow lo h M T xs s bs):∀c∈bs,lo<=c/\c<h.size/\M c=Te:=by rcases H with⟨_,_,_,rfl⟩|⟨b,cs,rfl,_,_,_,e,_,h1,i,_⟩;intro c f;cases f;intro c f;rw[AY.1 f];exact⟨h1,e.lt,i⟩
theorem ORow.frame{T:Ty}{xs:List (El T)}(H:ORow lo h M T xs s bs)(f:∀c∈bs,h'[c]?=h[c]?)(le:Fr.le M M')(l:∀c∈bs,M' c=Te):ORow lo h' M' T xs s bs:=by rcases H with H|⟨b,cs,rfl,h1,p,o,e,n,k,q,m⟩;exact .inl H;refine .inr ⟨b,cs,rfl,h1,p,o,?_,n,k,l b (by simp),λi hi=>Rd.mono le (m i hi)⟩;unfold Blk at e ⊢;rw[f b (by simp)];exact e
theorem ORow.call{T:Ty}{xs:List (El T)}(H:ORow lo h M T xs s bs)(L:Later h M h' M'):ORow lo h' M' T xs s bs:=by refine H.frame (λc b=>L.keep.get c (H.own c b).2.1) L.le λc b=>?_;rw[L.old c (H.own c b).2.1];exact(H.own c b).2.2
theorem ORow.rd{T:Ty}{xs:List (El T)}{bs all:List Nat}(H:ORow lo h M T xs s bs)(ag:AgM M h)(l:∀c∈bs,c∈all)(p:xs.length<=1000000):Rd (MxL M h all) (.row T) xs [slV s]:=by rcases H with⟨rfl,h1,e,rfl⟩|⟨b,cs,rfl,h1,e,r,k,q,n,o,m⟩;refine⟨_,rfl,s.a,s.cap,?_,⟨by simp,by simp⟩,.inl rfl⟩;show slV s=_;unfold slV;rw[h1];rfl;refine⟨_,rfl,s.a,s.cap,?_,⟨by omega,by omega⟩,?_⟩;unfold slV;rw[e];by_cases f:xs=[];exact .inl f;refine .inr ⟨b,0,cs,h1,MxL.at (l b (by simp)) k,λi hi=>?_⟩;rw[AL];exact Rd.mono (zel ag all) (m i hi)
theorem ORow.app{t e:TypeId}{z:Value}{bytes:Nat}{T:Ty}(E:ElemT Tp t e z (sz T) bytes)(I:bytes<=1000){ty:TypeId}{xs:List (El T)}(ag:AgM M h)(H:ORow lo h M T xs s bs)(ae:lo<=h.size){bv cv:Nat}{vs:List Value}{x:El T}(hv:Blk h bv vs.toArray)(P:Rd M T x vs)(U:xs.length<=1000000){K:Value->zb->Prop} (hK:∀(o:Sl) (h':zb) (bs':List Nat),ORow lo h' M T (xs++[x]) o bs'->h.size<=h'.size->(∀c∈bs',c∈bs\/h.size<=c)->(∀j,j<h.size->j∉bs->h'[j]?=h[j]?)->K (.slice o.a o.len o.cap) h'):
  XRun Tp (Au #[t,t] ty #[.slice s.a s.len s.cap,.slice (Td ⟨bv,0,Te⟩) 1 cv]) h K:=by
 have J:vs.length=sz T:=Rd.len P;have h1:∀u∈vs,u.oneCell'=Ta:=Rd.one P;have m:=H.len;have L:∀c,h.size<=c->M c=Te:=by
  intro c Q;cases e:M c with
  |none=>rfl
  |some cs=>have:=ag.lt e;omega
 obtain⟨b,cs,f,hb,B⟩:∃b cs,RowO h s b cs (sz T)/\((bs=[b]/\lo<=b/\M b=Te)\/(b=h.size/\bs=[]))/\∀i (hi:i<xs.length),i*sz T+sz T<=cs.size/\Rd M T xs[i] (cut cs (i*sz T) (sz T)):=by rcases H with⟨rfl,O,S,rfl⟩|⟨b,cs,rfl,O,S,e3,e4,e5,e6,e7,Z⟩;exact⟨h.size,#[],⟨by omega,.inl ⟨O,S⟩⟩,.inr ⟨rfl,rfl⟩,λi hi=>by simp at hi⟩;refine⟨b,cs,⟨e3,.inr ⟨O,e4,e5⟩⟩,.inl ⟨rfl,e6,e7⟩,λi hi=>⟨?_,Z i hi⟩⟩;have:(i+1)*sz T<=s.cap*sz T:=AQ _ (by omega);rw[CN]at this;omega
 have y:(s.len+1)*bytes<=140737488355328:=by have:(s.len+1)*bytes<=1000001*1000:=Nat.mul_le_mul (by omega) I;omega
 refine zpu E f hv J h1 y (by omega) λo h' n cs' N=>?_;have k:(n∈bs/\lo<=n/\M n=Te)\/h.size<=n:=by rcases N.new with e|e;rcases hb with⟨w,A,G⟩|⟨w,_⟩;subst e;exact .inl ⟨by rw[w];simp,A,G⟩;exact .inr (by omega);exact .inr e
 refine hK o h' [n] (.inr ⟨n,cs',rfl,N.a,by rw[N.len,Ah,m];rfl,by rw[N.len];exact N.cap,N.blk,N.size,?_,?_,λi hi=>?_⟩) N.grow (λc Q=>?_) λj hj U=>N.old j hj λe=>?_;rcases k with q|q;exact q.2.1;omega;rcases k with q|q;exact q.2.2;exact L n q;have r:=N.cut;have ab:i<xs.length+1:=by simpa using hi
 have hm:(i+1)*sz T<=(s.len+1)*sz T:=AQ _ (by omega);have Y:(i+1)*sz T=i*sz T+sz T:=CN _ _;have aa:(s.len+1)*sz T=s.len*sz T+sz T:=CN _ _;have key:∀q,q<sz T->(cut cs' (i*sz T) (sz T))[q]?=(cut cs 0 (s.len*sz T)++vs)[i*sz T+q]?:=by intro q l;rw[q9,if_pos l,<-r,q9,if_pos (by omega),AL]
 by_cases p:i<xs.length;rw[BL p];obtain⟨g1,g2⟩:=B i p;have V:(i+1)*sz T<=s.len*sz T:=AQ _ (by omega);have e:cut cs' (i*sz T) (sz T)=cut cs (i*sz T) (sz T):=by
  apply Bu;intro q;by_cases l:q<sz T;rw[key q l,BG ?_,q9,q9,if_pos l,if_pos (by omega),AL];have C:s.len*sz T<=cs.size:=by rcases f.at_ with⟨w,A⟩|⟨_,_,G⟩;omega;have:s.len*sz T<=s.cap*sz T:=AQ _ f.le;omega
  rw[zc7 (by omega)];omega;rw[q9,q9,if_neg l,if_neg l]
 rw[e];exact g2;have F:i=xs.length:=by omega
 subst F;rw[BW (Ab _)];have D:(cut cs 0 (s.len*sz T)).length=xs.length*sz T:=by
  rcases f.at_ with⟨w,A⟩|⟨_,_,G⟩;have:xs.length=0:=by omega
  rw[w,this];unfold cut;simp;have:s.len*sz T<=s.cap*sz T:=AQ _ f.le;rw[zc7 (by omega),m]
 have e:cut cs' (xs.length*sz T) (sz T)=vs:=by apply Bu;intro q;by_cases l:q<sz T;rw[key q l,BD (by omega),D];congr 1;omega;rw[q9,if_neg l,BH (by omega)]
 rw[e];simpa using P;rw[AY.1 Q];rcases k with q|q;exact .inl q.1;exact .inr q;rcases k with q|q;exact U (by rw[e];exact q.1);omega
end
end Go.X
end
section
namespace Go.X
open Go Go.X Go.Proofs Go.RowKit
section
variable {cs:Array Value} {o n q z b bv cv lo c:Nat} {l:List Value} {g g':zb} {t e ty:TypeId} {zv v:Value} {K:Value -> zb -> Prop} {M:Fr}
abbrev tSp:Ty:=.pair (.int .i64) (.int .i64)
abbrev tNd:Ty:=.pair (.int .i64) (.pair tSp (.pair tSp (.pair (.row (.int .i64)) (.row tSp))))
structure Ax where
 ks:Sl
 kb:List Nat
 ps:Sl
 pb:List Nat
def ax0:Ax:=⟨⟨Te,0,0⟩,[],⟨Te,0,0⟩,[]⟩
def ndC(p:Nd×Ax):List Value:=[.int .i64 p.1.1,.int .i64 p.1.2.1.1,.int .i64 p.1.2.1.2,.int .i64 p.1.2.2.1.1,.int .i64 p.1.2.2.1.2,slV p.2.ks,slV p.2.ps]
structure CR (g:zb) (z:Nat) (els:List (List Value)) (sl:Sl) (b:Nat) (cs:Array Value):Prop where
 ro:RowO g sl b cs z
 ln:sl.len=els.length
 el:∀(i:Nat) (e:List Value),els[i]?=Td e->(i+1)*z<=cs.size/\cut cs (i*z) z=e
theorem zaw(c:l.length=n)(h:∀q,q<n->cs.toList[o+q]?=l[q]?):cut cs o n=l:=by apply Bu;intro q;rw[q9];split;rename_i b;exact h q b;rename_i b;rw[BH (by omega)]
theorem zte(h:cut cs o n=l)(b:q<n):cs.toList[o+q]?=l[q]?:=by rw[<-h,q9,if_pos b]
theorem CR.blk{els:List (List Value)}{sl:Sl}(H:CR g z els sl b cs)(c:els≠[]):sl.a=Td ⟨b,0,Te⟩/\Blk g b cs:=by rcases H.ro.at_ with⟨h1,_⟩|⟨h1,e,_⟩;have:=H.ln;rw[h1]at this;exact absurd (Bl.1 this.symm) c;exact⟨h1,e⟩
theorem CR.frame{els:List (List Value)}{sl:Sl}(H:CR g z els sl b cs)(f:els≠[]\/sl.cap≠0->g'[b]?=g[b]?):CR g' z els sl b cs:=by refine⟨⟨H.ro.le,?_⟩,H.ln,H.el⟩;rcases H.ro.at_ with h1|⟨h1,h,e⟩;exact .inl h1;by_cases c:sl.cap=0;exact .inl ⟨by have:=H.ro.le;omega,c⟩;exact .inr ⟨h1,h.keep (f (.inr c)),e⟩
theorem CR.app{bytes z:Nat}(E:ElemT Tp t e zv z bytes)(w:bytes<=1000){els:List (List Value)}{sl:Sl}(H:CR g z els sl b cs){vs:List Value}(J:Blk g bv vs.toArray)(o:vs.length=z)(h1:∀u∈vs,u.oneCell'=Ta)(Q:els.length<=1000000) (G:∀(k:Sl) (g':zb) (l:Nat) (cs':Array Value),CR g' z (els++[vs]) k l cs'->g.size<=g'.size->((l=b/\¬(sl.len=0/\sl.cap=0))\/g.size<=l)->l<g'.size->(∀j,j<g.size->j≠l->g'[j]?=g[j]?)->K (.slice k.a k.len k.cap) g'):
  XRun Tp (Au #[t,t] ty #[.slice sl.a sl.len sl.cap,.slice (Td ⟨bv,0,Te⟩) 1 cv]) g K:=by
 have c:=H.ln;have p:(sl.len+1)*bytes<=140737488355328:=by have:(sl.len+1)*bytes<=1000001*1000:=Nat.mul_le_mul (by omega) w;omega
 obtain⟨b0,f,x,s,m⟩:∃b0 f,RowO g sl b0 f z/\((b0=b/\¬(sl.len=0/\sl.cap=0))\/g.size<=b0)/\(∀(i:Nat) (e:List Value),els[i]?=Td e->(i+1)*z<=f.size/\cut f (i*z) z=e):=by by_cases h0:sl.len=0/\sl.cap=0;have L:els=[]:=Bl.1 (by omega);exact⟨g.size,#[],⟨H.ro.le,.inl h0⟩,.inr (Ab _),λi e hi=>by rw[L]at hi;cases hi⟩;exact⟨b,cs,H.ro,.inl ⟨rfl,h0⟩,H.el⟩
 refine zpu E x J o h1 p (by omega) λk g' l cs' N=>G k g' l cs' ⟨⟨by rw[N.len];exact N.cap,.inr ⟨N.a,N.blk,N.size⟩⟩,by rw[N.len,Ah,c];rfl,λi e hi=>?_⟩ N.grow ?_ N.blk.lt N.old;have F:i<els.length+1:=by have:=(A1.1 hi).1;rw[Ah]at this;exact this
 have U:(i+1)*z<=(sl.len+1)*z:=AQ _ (by omega);have C:(sl.len+1)*z<=k.cap*z:=AQ _ N.cap;have D:(i+1)*z=i*z+z:=CN _ _;have I:(sl.len+1)*z=sl.len*z+z:=CN _ _;have:=N.size;refine⟨by omega,?_⟩;have n:=N.cut;have key:∀q,i*z+q<(sl.len+1)*z->cs'.toList[i*z+q]?=(cut f 0 (sl.len*z)++vs)[i*z+q]?:=λq r=>by rw[<-n,q9,if_pos r,AL]
 have h:(cut f 0 (sl.len*z)).length=sl.len*z:=by
  by_cases h0:els=[];have:sl.len=0:=by rw[c,h0];rfl
  rw[this,DD];unfold cut;simp;have O:els.length-1<els.length:=by have:=Bv.2 h0;omega
  have:=(m (els.length-1) _ (Ak O)).1;rw[show els.length-1+1=els.length by omega,<-c]at this;exact zc7 (by omega)
 by_cases A:i<els.length;rw[BG A]at hi;obtain⟨P,B⟩:=m i e hi;have M:(i+1)*z<=sl.len*z:=AQ _ (by omega);refine zaw (by rw[<-B];exact zc7 (by omega)) λq r=>?_;rw[key q (by omega),BG (by rw[h];omega),q9,if_pos (by omega),AL];exact zte B r;have y:i=els.length:=by omega
 subst y;rw[BD (Ab _),Dr]at hi;cases hi;refine zaw o λq r=>?_;have S:els.length*z=sl.len*z:=by rw[c]
 rw[key q (by omega),BD (by rw[h];omega),h];congr 1;omega;rcases N.new with e|e;rcases s with q|q;exact .inl ⟨e.trans q.1,q.2⟩;exact .inr (by omega);exact .inr e
theorem CR.set{els:List (List Value)}{sl:Sl}(H:CR g z els sl b cs)(s:n<els.length)(A:q<z)(B:Blk g' b (cs.setIfInBounds (n*z+q) v)):CR g' z (els.modify n (·.set q v)) sl b (cs.setIfInBounds (n*z+q) v):=by
 have m:els≠[]:=λh=>by rw[h]at s;simp at s
 have h1:=(H.blk m).1;refine⟨⟨H.ro.le,?_⟩,by rw[List.length_modify];exact H.ln,λi e hi=>?_⟩;rcases H.ro.at_ with⟨p,_⟩|⟨p,_,w⟩;have:=H.ln;omega;exact .inr ⟨p,B,by rw[A0];exact w⟩;rw[BF]at hi;cases hx:els[i]? with
 |none=>rw[hx]at hi;cases hi
 |some x=>
  rw[hx]at hi;obtain⟨u,k⟩:=H.el i x hx;have t:(i+1)*z=i*z+z:=CN _ _;have l:x.length=z:=by rw[<-k];exact zc7 (by omega)
  rw[A0];refine⟨u,?_⟩;have hi:(if n=i then x.set q v else x)=e:=by simpa using hi
  rw[<-hi];refine zaw (by split <;> simp[l]) λr o=>?_;rw[Array.toList_setIfInBounds,List.getElem?_set];by_cases c:n=i;subst c;rw[if_pos rfl,List.getElem?_set];by_cases f:q=r;subst f;rw[if_pos rfl,if_pos rfl,if_pos (by rw[Cx];omega),if_pos (by omega)];rw[if_neg (by omega),if_neg f];exact zte k o;rw[if_neg c,if_neg ?_];exact zte k o;intro y;rcases Nat.lt_or_gt_of_ne c with h|h;have:(n+1)*z<=i*z:=AQ _ h;rw[CN]at this;omega;have:(i+1)*z<=n*z:=AQ _ h;omega
abbrev NA:=List (Nd×Ax)
def axO(p:Nd×Ax)(c:Nat):Prop:=c∈p.2.kb\/c∈p.2.pb
def nsO(na:NA)(sl:Sl)(b c:Nat):Prop:=(sl.cap≠0/\c=b)\/∃p∈na,axO p c
structure NdI (lo:Nat) (g:zb) (M:Fr) (p:Nd×Ax):Prop where
 kk:ORow lo g M (.int .i64) p.1.2.2.2.1 p.2.ks p.2.kb
 pp:ORow lo g M tSp p.1.2.2.2.2 p.2.ps p.2.pb
 dd:∀c∈p.2.kb,c∉p.2.pb
structure NS (lo:Nat) (g:zb) (M:Fr) (na:NA) (sl:Sl) (b:Nat) (cs:Array Value):Prop where
 cr:CR g 7 (na.map ndC) sl b cs
 lb:sl.cap≠0->lo<=b/\b<g.size/\M b=Te
 nd:∀p∈na,NdI lo g M p
 dj:∀(i j:Nat) (p p':Nd×Ax) (c:Nat),na[i]?=Td p->na[j]?=Td p'->axO p c->axO p' c->i=j
 nb:∀p∈na,¬axO p b
theorem NS.len{na:NA}{sl:Sl}(H:NS lo g M na sl b cs):sl.len=na.length:=by rw[H.cr.ln,Ap]
theorem NdI.own{p:Nd×Ax}(H:NdI lo g M p)(h:axO p c):lo<=c/\c<g.size/\M c=Te:=by rcases h with h|h;exact H.kk.own c h;exact H.pp.own c h
theorem NS.own{na:NA}{sl:Sl}(H:NS lo g M na sl b cs)(h:nsO na sl b c):lo<=c/\c<g.size/\M c=Te:=by rcases h with⟨h1,rfl⟩|⟨p,e,h⟩;exact H.lb h1;exact(H.nd p e).own h
theorem NdI.frame{p:Nd×Ax}(H:NdI lo g M p)(f:∀c,axO p c->g'[c]?=g[c]?):NdI lo g' M p:= ⟨H.kk.frame (λc b=>f c (.inl b)) (Fr.le.refl _) λc b=>(H.kk.own c b).2.2,H.pp.frame (λc b=>f c (.inr b)) (Fr.le.refl _) λc b=>(H.pp.own c b).2.2,H.dd⟩
theorem NS.frame{na:NA}{sl:Sl}(H:NS lo g M na sl b cs)(k:g.size<=g'.size)(f:∀c,nsO na sl b c->g'[c]?=g[c]?):NS lo g' M na sl b cs:=by refine⟨H.cr.frame λh=>f b (.inl ⟨?_,rfl⟩),λh=>by have:=H.lb h;exact⟨this.1,by omega,this.2.2⟩,λp e=>(H.nd p e).frame λc i=>f c (.inr ⟨p,e,i⟩),H.dj,H.nb⟩;rcases h with h|h;have:=H.cr.ln;have l:=H.cr.ro.le;have:=Bv.2 h;omega;exact h
theorem NS.nil:NS lo g M [] ⟨Te,0,0⟩ b cs:= ⟨⟨⟨Ab _,.inl ⟨rfl,rfl⟩⟩,rfl,λi e h=>(by cases h)⟩,λh=>absurd rfl h,λp f=>(by cases f),λi j p k c h=>(by cases h),λp f=>(by cases f)⟩
theorem z7l(p:Nd×Ax):∀u∈ndC p,u.oneCell'=Ta:=by intro u b;unfold ndC slV at b;simp at b;rcases b with rfl|rfl|rfl|rfl|rfl|rfl|rfl <;> rfl
theorem NS.push{bytes:Nat}(E:ElemT Tp t e zv 7 bytes)(z:bytes<=1000)(ag:AgM M g)(P:lo<=g.size){na:NA}{sl:Sl}(H:NS lo g M na sl b cs){x:Nd}(B:x.2.2.2.1=[])(A:x.2.2.2.2=[])(O:Blk g bv (ndC (x,ax0)).toArray)(G:na.length<=1000000) (N:∀(n:Sl) (g':zb) (m:Nat) (cs':Array Value),NS lo g' M (na++[(x,ax0)]) n m cs'->g.size<=g'.size->(∀c,nsO (na++[(x,ax0)]) n m c->nsO na sl b c\/g.size<=c)->(∀j,j<g.size->¬nsO na sl b j->g'[j]?=g[j]?)->K (.slice n.a n.len n.cap) g'):
  XRun Tp (Au #[t,t] ty #[.slice sl.a sl.len sl.cap,.slice (Td ⟨bv,0,Te⟩) 1 cv]) g K:=by
 have F:∀c,g.size<=c->M c=Te:=by
  intro c f;cases e:M c with
  |none=>rfl
  |some cs=>have:=ag.lt e;omega
 refine CR.app E z H.cr O rfl (z7l _) (by rw[Ap];exact G) λn g' m cs' C L s y I=>?_;have o:nsO na sl b m\/g.size<=m:=by rcases s with⟨r,Q⟩|r;exact .inl (.inl ⟨by have:=H.cr.ro.le;omega,r⟩);exact .inr r
 have w:∀p∈na,¬axO p m:=λp k f=>by rcases s with⟨r,_⟩|r;rw[r]at f;exact H.nb p k f;have:=((H.nd p k).own f).2.1;omega
 have l:∀c,¬axO (x,ax0) c:=λc f=>by rcases f with f|f <;> exact absurd f (by simp[ax0])
 have mem:∀p∈na++[(x,ax0)],p∈na\/p=(x,ax0):=λp k=>by simpa using k
 refine N n g' m cs' ⟨by rw[Bh];exact C,λ_=>?_,λp k=>?_,?_,λp k=>?_⟩ L (λc f=>?_) (λj D G=>I j D λe=>?_);rcases o with h|h;have:=H.own h;exact⟨this.1,y,this.2.2⟩;exact⟨by omega,y,F m h⟩;rcases mem p k with k|rfl;exact(H.nd p k).frame λc f=>I c ((H.nd p k).own f).2.1 λe=>w p k (e ▸ f)
 refine⟨?_,?_,λc f=>by simp[ax0]at f⟩;show ORow lo g' M (.int .i64) x.2.2.2.1 _ _;rw[B];exact .nil;show ORow lo g' M tSp x.2.2.2.2 _ _;rw[A];exact .nil;intro i j p J c hi D f u;have q:∀(i:Nat) (p:Nd×Ax),(na++[(x,ax0)])[i]?=Td p->axO p c->na[i]?=Td p:=λi p hi f=>by rw[List.getElem?_append]at hi;split at hi;exact hi;have:=Bz hi;rw[AY]at this;subst this;exact absurd f (l c)
 exact H.dj i j p J c (q i p hi f) (q j J D u) f u;rcases mem p k with k|rfl;exact w p k;exact l _;rcases f with⟨_,rfl⟩|⟨p,k,f⟩;exact o;rcases mem p k with k|rfl;exact .inl (.inr ⟨p,k,f⟩);exact absurd f (l c);subst e;rcases o with h|h;exact G h;omega
theorem NS.upd{na:NA}{sl:Sl}(H:NS lo g M na sl b cs)(C:n<na.length){f:Nd×Ax->Nd×Ax}(G:q<7)(B:Blk g' b (cs.setIfInBounds (n*7+q) v))(J:g.size<=g'.size)(m:ndC (f na[n])=(ndC na[n]).set q v)(E:NdI lo g' M (f na[n]))(y:∀c,axO (f na[n]) c->axO na[n] c\/g.size<=c)(D:∀j,j<g.size->j≠b->¬axO na[n] j->g'[j]?=g[j]?):
  NS lo g' M (na.modify n f) sl b (cs.setIfInBounds (n*7+q) v)/\∀c,nsO (na.modify n f) sl b c->nsO na sl b c\/g.size<=c:=by
 have k:na[n]?=Td na[n]:=Ak C;have mem:∀p∈na.modify n f,p=f na[n]\/∃j,j≠n/\na[j]?=Td p:=λp r=>by obtain⟨j,o⟩:=List.mem_iff_getElem?.1 r;rw[BF]at o;by_cases e:n=j;subst e;rw[k]at o;left;simpa using o.symm;right;refine⟨j,λh=>e h.symm,?_⟩;simpa[e]using o
 have u:sl.cap≠0:=by have:=H.len;have:=H.cr.ro.le;omega
 have w:=H.lb u;refine⟨⟨?_,λh=>⟨w.1,by omega,w.2.2⟩,λp r=>?_,?_,λp r=>?_⟩,λc h=>?_⟩;have:=H.cr.set (n:=n) (q:=q) (v:=v) (by rw[Ap];exact C) G B;have e:(na.modify n f).map ndC=(na.map ndC).modify n (·.set q v):=by apply Bu;intro i;rw[Bf,BF,BF,Bf];by_cases e:n=i;subst e;rw[k];simp[m];simp[e]
 rw[e];exact this;rcases mem p r with rfl|⟨j,o,l⟩;exact E;have s:=Bz l;exact(H.nd p s).frame λc m=>D c ((H.nd p s).own m).2.1 (λe=>H.nb p s (e ▸ m)) λh=>o (H.dj j n p _ c l k m h)
 intro i j p I c hi o m x;have q:∀(i:Nat) (p:Nd×Ax),(na.modify n f)[i]?=Td p->axO p c->∃t,na[i]?=Td t/\((axO t c)\/(i=n/\g.size<=c)):=λi p hi m=>by
  rw[BF]at hi;by_cases e:n=i;subst e;rw[k]at hi;have:f na[n]=p:=by simpa using hi
  subst this;rcases y c m with h|h;exact⟨_,k,.inl h⟩;exact⟨_,k,.inr ⟨rfl,h⟩⟩;exact⟨p,by simpa[e]using hi,.inl m⟩
 obtain⟨t,z,a2⟩:=q i p hi m;obtain⟨A,b1,b2⟩:=q j I o x;rcases a2 with a2|⟨a2,L⟩;rcases b2 with b2|⟨b2,b3⟩;exact H.dj i j t A c z b1 a2 b2;have:=((H.nd t (Bz z)).own a2).2.1;omega;rcases b2 with b2|⟨b2,b3⟩;have:=((H.nd A (Bz b1)).own b2).2.1;omega;omega;rcases mem p r with rfl|⟨j,o,l⟩;intro m;rcases y b m with h|h;exact H.nb _ (Bz k) h;omega;exact H.nb p (Bz l);rcases h with⟨h1,F⟩|⟨p,r,h⟩;exact .inl (.inl ⟨h1,F⟩);rcases mem p r with rfl|⟨j,o,l⟩;rcases y c h with h|h;exact .inl (.inr ⟨_,Bz k,h⟩);exact .inr h;exact .inl (.inr ⟨p,Bz l,h⟩)
end
section
variable {t:Bs} {gl:Fr}
abbrev qkx:Ty:=.pair .str (.row tNd)
theorem slice_form{p:Sp}{R:Bt->Prop}(h:R (bl (qp t p))): ((bif (bif (decide ((p.1:Int)<0))then Ta else(decide ((p.1:Int)>p.2)))then Ta else(decide ((p.2:Int)>((bl t).size:Int))))=Ta->R (⟨#[]⟩:Bt)) /\
  ((bif (bif (decide ((p.1:Int)<0))then Ta else(decide ((p.1:Int)>p.2)))then Ta else(decide ((p.2:Int)>((bl t).size:Int))))=Tc->(0<=(p.1:Int)/\(p.1:Int)<=p.2/\(p.2:Int)<=((bl t).size:Int))/\R ((bl t).extract (p.1:Int).toNat (p.2:Int).toNat)):=by
 rw[zf];have e:(bif (bif (decide ((p.1:Int)<0))then Ta else(decide ((p.1:Int)>p.2)))then Ta else(decide ((p.2:Int)>(t.length:Int))))=decide (p.1<0\/p.2<p.1\/(t.length:Int)<p.2):=by rw[AM];simp only[Bool.cond_eq_ite,Bool.if_true_left,BK,decide_eq_true_eq];omega
 rw[e];unfold qp at h;refine⟨λb=>?_,λb=>?_⟩;rw[if_pos (of_decide_eq_true b)]at h;exact h;have b:=of_decide_eq_false b;rw[if_neg b]at h;refine⟨by omega,?_⟩;rw[wm];exact h
theorem zyp{nodes:List Nd}{p:Sp}{R:Bt->Prop}(h:R (bl (qp t p))):PC Tp gl 31 [Arg.mk qkx (bl t,nodes),Arg.mk tSp p] [.str] R:=by apply zpj;exact slice_form h
theorem qgo(b:GL gl)(e:t.length<=65536){nodes:List Nd}{k:Nat}{x:Nd}(c:nodes[k]?=Td x){R:Bt->Prop}(h:R (bl (qdq t x))):PC Tp gl 112 [Arg.mk qkx (bl t,nodes),Arg.mk (.int .i64) (k:Int)] [.str] R:=by apply zvz;refine⟨x,⟨by omega,by rw[Ag];exact c⟩,?_⟩;refine zyp (p:=x.2.2.1) ?_;have:=zf1 t x.2.2.1;exact zf5 b (by omega) h
theorem qb5(e:GL gl){k:Int}(f:t.length<=65536){R:Bt->Prop}(h:R (bl (Yk k t))):PC Tp gl 111 [Arg.mk (.int .i64) k,Arg.mk .str (bl t)] [.str] R:=by apply zst;unfold Yk at h;refine⟨λh1=>?_,λh1=>⟨λb=>?_,λb=>⟨λc=>?_,λc=>?_⟩⟩⟩;rw[if_pos (by simpa using h1)]at h;exact h;rw[if_neg (by simpa using h1),if_pos (by simpa using b)]at h;exact zic (by omega) (zvs e.pow (Yy t (by omega)) h);rw[if_neg (by simpa using h1),if_neg (by simpa using b),if_pos (by simpa using c)]at h;exact zf5 e (by omega) h;rw[if_neg (by simpa using h1),if_neg (by simpa using b),if_neg (by simpa using c)]at h;exact h
end
end Go.X
end
section
namespace Go.X
section
variable {h:zb} {sk si:Sl} {bk bb:List Nat} {b bv cv:Nat} {cs:Array Value} {K:Value -> zb -> Prop}
theorem OTp.row{v:Tr}{bf:Nat->List Nat}(H:OTp h v sk si bk bb b cs bf){h':zb}(k:∀c∈bb,h'[c]?=h[c]?):RowO h' si b cs 4:=by refine⟨by have:=H.hn;omega,?_⟩;rcases H.hz with⟨h0,_,m⟩|⟨e,l,i,f⟩;exact .inl ⟨by rw[H.hn.1,h0];rfl,m⟩;exact .inr ⟨l,i.keep (k b (by rw[e];simp)),f⟩
theorem z1f(x:Tr)(sk si:Sl):∀u∈Z2 x sk si,u.oneCell'=Ta:=by intro u b;simp[Z2]at b;rcases b with rfl|rfl|rfl|rfl <;> simp[Value.oneCell',slV]
theorem qgp{ks:List Bt}(H:OKeys h ks bk sk){s:Bt}(C:Blk h bv #[.string s])(t:ks.length<=1048576) (B:∀(f:Sl) (h':zb) (kb:Nat),OKeys h' (ks++[s]) [kb] f->(kb∈bk\/h.size<=kb)->h.size<=h'.size->(∀c,c<h.size->c∉bk->h'[c]?=h[c]?)->K (.slice f.a f.len f.cap) h'):
  XRun Tp (Au #[23,23] 23 #[.slice sk.a sk.len sk.cap,.slice (Td ⟨bv,0,Te⟩) 1 cv]) h K:=by
 obtain⟨m,E,F,x⟩:=H;obtain⟨b,cs,p,q,k⟩:∃b cs,RowO h sk b cs 1/\(b∈bk\/h.size<=b)/\cut cs 0 (sk.len*1)=ks.map A3:=by rcases x with⟨rfl,rfl,h0⟩|⟨b,cs,rfl,A,i,o,z⟩;refine⟨h.size,#[],⟨by omega,.inl ⟨m,h0⟩⟩,.inr (Ab _),?_⟩;rw[m];rfl;exact⟨b,cs,⟨by omega,.inr ⟨A,i,by omega⟩⟩,.inl (by simp),by rw[m,B0];exact z⟩
 have y:∀c∈bk,c<h.size:=by intro c l;rcases x with⟨_,rfl,_⟩|⟨b,cs,rfl,_,i,_⟩;cases l;simp at l;subst l;exact i.lt
 refine zpu (vs:=[.string s]) z5s p C rfl (λu r=>by simp at r;subst r;simp[Value.oneCell']) (by omega) (by omega) λD h' w cs' N=>?_;rw[k]at N;have n:(ks++[s]).length=sk.len+1:=by simp[m]
 refine B D h' w ⟨by rw[n];exact N.len,by rw[n];omega,by rw[n];exact N.cap,.inr ⟨w,cs',rfl,N.a,N.blk,by have:=N.size;omega,?_⟩⟩ ?_ N.grow λc l t=>N.old c l λe=>?_;rw[n];have:=N.cut;rw[B0]at this;rw[this];simp;rcases N.new with e|e;rw[e];exact q;exact .inr e;rcases N.new with i|i;rcases q with o|o;exact t (by rw[e,i];exact o);omega;omega
theorem qb6{g h:zb}{x:Tr}{bf:Nat->List Nat}(H:OTp g x sk si bk bb b cs bf)(kb:∀c∈bb,h[c]?=g[c]?){w:Tr}{q p:Sl}(A:Blk h bv (Z2 w q p).toArray)(u:x.items.length<=1000000000) (z:∀(f:Sl) (h':zb) (k:Nat) (cs':Array Value),f.a=Td ⟨k,0,Te⟩->f.len=x.items.length+1->x.items.length+1<=f.cap->Blk h' k cs'->f.cap*4<=cs'.size->cut cs' 0 ((x.items.length+1)*4)=cut cs 0 (x.items.length*4)++Z2 w q p -> ((k=b/\b∈bb)\/h.size<=k)->h.size<=h'.size->(∀c,c<h.size->c∉bb->h'[c]?=h[c]?)->K (.slice f.a f.len f.cap) h'):
  XRun Tp (Au #[24,24] 24 #[.slice si.a si.len si.cap,.slice (Td ⟨bv,0,Te⟩) 1 cv]) h K:=by
 have i:=H.hn.1;obtain⟨b0,m,r⟩:∃b0,RowO h si b0 cs 4/\((b0=b/\b∈bb)\/b0=h.size):=by have o:=OTp.row H (h':=h) kb;rcases H.hz with⟨h0,_,C⟩|⟨s,_⟩;exact⟨h.size,⟨o.le,.inl ⟨by rw[i,h0];rfl,C⟩⟩,.inr rfl⟩;exact⟨b,o,.inl ⟨rfl,by rw[s];simp⟩⟩
 refine zpu (vs:=Z2 w q p) zpe m A rfl (z1f w q p) (by omega) (by omega) λB h' k cs' N=>?_;rw[i]at N;have l:(k=b/\b∈bb)\/h.size<=k:=by rcases N.new with e|e;rcases r with⟨n,t⟩|n;exact .inl ⟨by rw[e,n],t⟩;exact .inr (by omega);exact .inr e
 refine z B h' k cs' N.a N.len N.cap N.blk N.size N.cut l N.grow λc y u=>N.old c y λe=>?_;rcases l with⟨n,t⟩|n;exact u (by rw[e,n];exact t);omega
end
section
variable {g':zb} {s:Bt} {bv cv:Nat} {K:zb -> Prop}
structure BT (lo hi:Nat) (g:zb) (b0:Nat) (v:Tr) (sk si:Sl) (bk bb:List Nat) (b:Nat) (cs:Array Value) (bf:Nat->List Nat):Prop where
 box:Blk g b0 (Z2 v sk si).toArray
 p:OTp g v sk si bk bb b cs bf
 ok:∀c∈bk,lo<=c/\c<hi/\c≠b0
 ob:∀c∈bb,lo<=c/\c<hi/\c≠b0
 oi:∀i,i<v.items.length->∀c∈bf i,lo<=c/\c<hi/\c≠b0
 lb:lo<=b0
 hg:hi<=g.size
def Own(lo hi:Nat)(g:zb)(b0:Nat)(v:Tr)(sk si:Sl):Prop:=∃(bk bb:List Nat) (b:Nat) (cs:Array Value) (bf:Nat->List Nat),BT lo hi g b0 v sk si bk bb b cs bf
section
variable {lo hi : Nat} {g : zb} {b0 : Nat} {v : Tr} {sk si : Sl}
theorem Own.box(H:Own lo hi g b0 v sk si):Blk g b0 (Z2 v sk si).toArray:=by obtain⟨bk,bb,b,cs,bf,B⟩:=H;exact B.box
theorem BT.move{bk bb:List Nat}{b:Nat}{cs:Array Value}{bf:Nat->List Nat}(B:BT lo hi g b0 v sk si bk bb b cs bf)(f:∀c,c∈bk\/c∈bb\/(∃i,i<v.items.length/\c∈bf i)->g'[c]?=g[c]?):OTp g' v sk si bk bb b cs bf:= ⟨B.p.keys.frame λc e=>f c (.inl e),B.p.hn,by rcases B.p.hz with h|⟨h1,m,l,k⟩;exact .inl h;exact .inr ⟨h1,m,l.keep (f b (.inr (.inl (by rw[h1];simp)))),k⟩,λi hi=>(B.p.hi i hi).frame λc e=>f c (.inr (.inr ⟨i,hi,e⟩)),B.p.nk,B.p.d1,B.p.d2,B.p.d3,B.p.d4⟩
theorem Own.keep(H:Own lo hi g b0 v sk si)(k:Keep g.size g g'):Own lo hi g' b0 v sk si:=by obtain⟨bk,bb,b,cs,bf,B⟩:=H;have h:=k.size;have f:=B.hg;refine⟨bk,bb,b,cs,bf,B.box.ofKeep k,B.move λc e=>k.get c ?_,B.ok,B.ob,B.oi,B.lb,by omega⟩;rcases e with e|e|⟨i,hi,e⟩;have:=(B.ok c e).2.1;omega;have:=(B.ob c e).2.1;omega;have:=(B.oi i hi c e).2.1;omega
theorem Own.ot(H:Own lo hi g b0 v sk si):∃bs:List Nat,OT g v bs (Z2 v sk si)/\∀c∈bs,lo<=c/\c≠b0:=by obtain⟨bk,bb,b,cs,bf,B⟩:=H;refine⟨_,B.p.ot,λc e=>?_⟩;rcases z7i.1 e with h|h|⟨i,hi,h⟩;exact⟨(B.ok c h).1,(B.ok c h).2.2⟩;exact⟨(B.ob c h).1,(B.ob c h).2.2⟩;exact⟨(B.oi i hi c h).1,(B.oi i hi c h).2.2⟩
theorem Own.new{k:Int}(B:Blk g b0 (Z2 (.mk k s [] []) ⟨Te,0,0⟩ ⟨Te,0,0⟩).toArray)(h:lo<=b0)(e:hi<=g.size):Own lo hi g b0 (.mk k s [] []) ⟨Te,0,0⟩ ⟨Te,0,0⟩:= ⟨[],[],0,#[],λ_=>[],B,⟨⟨rfl,AW _,AW _,.inl ⟨rfl,rfl,rfl⟩⟩,⟨rfl,AW _,AW _⟩,.inl ⟨rfl,rfl,rfl⟩,λi hi=>absurd hi (CJ i),C0,λc b=>(by cases b),λc b=>(by cases b),λc b=>(by cases b),λi j hi=>absurd hi (CJ i)⟩,λc b=>(by cases b),λc b=>(by cases b),λi hi=>absurd hi (CJ i),h,e⟩
theorem qky:qc Tp 23=Ta:=by kernel_rfl
theorem qkz:qi Tp 23=1:=by kernel_rfl
theorem qmb:qc Tp 24=Ta:=by kernel_rfl
theorem qmc:qi Tp 24=1:=by kernel_rfl
theorem Own.key(H:Own lo hi g b0 v sk si)(N:lo<=g.size)(u:v.keys.length<=1048576)(L:Blk g bv #[.string s]) (J:∀(g':zb) (y:Sl),Own lo g'.size g' b0 (.mk v.kind v.text (v.keys++[s]) v.items) y si->Keep lo g g'->g.size<=g'.size->K g'):
  XRun Tp (Au #[23,23] 23 #[.slice sk.a sk.len sk.cap,.slice (Td ⟨bv,0,Te⟩) 1 cv]) g (λw A=>∃x:Sl,w=.slice x.a x.len x.cap/\XRunU Tp (Af 23 (.pointer (Td ⟨b0,2,Te⟩)) (.slice x.a x.len x.cap)) A K):=by
 obtain⟨bk,bb,b,cs,bf,B⟩:=H;refine qgp B.p.keys L u λy A kb E I U D=>⟨y,rfl,?_⟩;have z:=B.box.lt;have V:=B.hg;have m:∀c∈bk,lo<=c/\c<g.size/\c≠b0:=λc f=>by have:=B.ok c f;exact⟨this.1,by omega,this.2.2⟩
 have n:∀c∈bb,lo<=c/\c<g.size/\c≠b0:=λc f=>by have:=B.ob c f;exact⟨this.1,by omega,this.2.2⟩
 have l:∀i,i<v.items.length->∀c∈bf i,lo<=c/\c<g.size/\c≠b0:=λi hi c f=>by have:=B.oi i hi c f;exact⟨this.1,by omega,this.2.2⟩
 have r:b0∉bk:=λh=>(m b0 h).2.2 rfl;refine yg qky qkz (B.box.keep (D b0 z r)) (by show 2<4;omega) rfl λF Q u2 G=>?_;have P:kb<A.size:=by obtain⟨_,_,_,h|⟨Z,cs',e,_,h,_⟩⟩:=E;exact absurd h.1 (by simp);rw[BN]at e;rw[e.1];exact h.lt
 have q:lo<=kb/\kb≠b0:=by rcases I with h|h;exact⟨(m kb h).1,(m kb h).2.2⟩;exact⟨by omega,by omega⟩
 have o:∀c,c<g.size->c∉bk->c≠kb:=λc f u e=>by subst e;rcases I with h|h;exact u h;omega
 have C:∀c,c<g.size->c∉bk->c≠b0->F[c]?=g[c]?:=λc f u h0=>(G c h0).trans (D c f u);have t:∀i,i<v.items.length->∀c∈bf i,c∉bk:=λi hi c f h=>B.p.d2 c h i hi f;refine J F y ⟨[kb],bb,b,cs,bf,Q,⟨E.frame λc f=>G c ?_,B.p.hn,?_,λi hi=>(B.p.hi i hi).frame λc f=>C c (l i hi c f).2.1 (t i hi c f) (l i hi c f).2.2,by simp,λc f=>?_,λc f i hi k=>?_,B.p.d3,B.p.d4⟩,λc f=>?_,λc f=>?_,λi hi c f=>?_,B.lb,Ab _⟩ ⟨by omega,λj Y=>C j (by omega) (λh=>?_) ?_⟩ (by omega);rw[AY.1 f];exact q.2;rcases B.p.hz with h|⟨h1,M,S,O⟩;exact .inl h;have k:b∈bb:=by rw[h1];simp
 exact .inr ⟨h1,M,S.keep (C b (n b k).2.1 (λh=>B.p.d1 b h k) (n b k).2.2),O⟩;rw[AY.1 f];intro k;exact o kb (n kb k).2.1 (λh=>B.p.d1 kb h k) rfl;rw[AY.1 f]at k;exact o kb (l i hi kb k).2.1 (t i hi kb k) rfl;rw[AY.1 f];exact⟨q.1,by omega,q.2⟩;have:=n c f;exact⟨this.1,by omega,this.2.2⟩;have:=l i hi c f;exact⟨this.1,by omega,this.2.2⟩;have:=(m j h).1;omega;have:=B.lb;omega
theorem Own.item(H:Own lo hi g b0 v sk si)(ab:lo<=g.size)(z:v.items.length<=1000000){w:Tr}{M L:Sl}(hv:Blk g bv (Z2 w M L).toArray){bw:List Nat}(E:OT g w bw (Z2 w M L))(aa:bv∉bw)(G:∀c∈bw,lo<=c/\c≠b0/\hi<=c) (Z:∀(g':zb) (F:Sl),Own lo g'.size g' b0 (.mk v.kind v.text v.keys (v.items++[w])) sk F->Keep lo g g'->g.size<=g'.size->K g'):
  XRun Tp (Au #[24,24] 24 #[.slice si.a si.len si.cap,.slice (Td ⟨bv,0,Te⟩) 1 cv]) g (λu P=>∃x:Sl,u=.slice x.a x.len x.cap/\XRunU Tp (Af 24 (.pointer (Td ⟨b0,3,Te⟩)) (.slice x.a x.len x.cap)) P K):=by
 obtain⟨bk,bb,b,cs,bf,B⟩:=H;refine qb6 B.p (λc f=>rfl) hv (by omega) λF P l cs' e1 e2 V Q Y e6 y z1 O=>⟨F,rfl,?_⟩;have I:=B.box.lt;have hg:=B.hg;have r:∀c∈bk,lo<=c/\c<g.size/\c≠b0:=λc f=>by have:=B.ok c f;exact⟨this.1,by omega,this.2.2⟩
 have s:∀c∈bb,lo<=c/\c<g.size/\c≠b0:=λc f=>by have:=B.ob c f;exact⟨this.1,by omega,this.2.2⟩
 have o:∀i,i<v.items.length->∀c∈bf i,lo<=c/\c<g.size/\c≠b0:=λi hi c f=>by have:=B.oi i hi c f;exact⟨this.1,by omega,this.2.2⟩
 have q:∀c∈bw,c∉bk/\c∉bb/\∀i,i<v.items.length->c∉bf i:=λc f=>by have h1:=(G c f).2.2;exact⟨λh=>by have:=(B.ok c h).2.1;omega,λh=>by have:=(B.ob c h).2.1;omega,λi hi h=>by have:=(B.oi i hi c h).2.1;omega⟩
 have A:b0∉bb:=λh=>(B.ob b0 h).2.2 rfl;refine yg qmb qmc (B.box.keep (O b0 I A)) (by show 3<4;omega) rfl λJ u1 u2 S=>?_;have n:lo<=l/\l≠b0:=by rcases y with⟨h,m⟩|h;rw[h];exact⟨(s b m).1,(s b m).2.2⟩;exact⟨by omega,by omega⟩
 have t:∀c,c<g.size->c∉bb->c≠l:=λc f z e=>by subst e;rcases y with⟨h,m⟩|h;rw[h]at z;exact z m;omega
 have D:∀c,c<g.size->c∉bb->c≠b0->J[c]?=g[c]?:=λc f z h0=>(S c h0).trans (O c f z);have C:∀i,i<v.items.length->∀c∈bf i,c∉bb:=λi hi c f h=>B.p.d3 c h i hi f;have N:=OTp.ins (h':=J) B.p (k:=v.items.length) (Ab _) (w:=w) (bw:=bw) (cw:=Z2 w M L) (E.frame λc f=>D c (E.lt c f) (q c f).2.1 (G c f).2.1) (λi hi c f=>D c (o i hi c f).2.1 (C i hi c f) (o i hi c f).2.2) e1 (Q.keep (S l n.2)) e2 V Y (by omega)
  (by
   have U:(cut cs 0 (v.items.length*4)).length<=v.items.length*4:=by unfold cut;rw[AN];omega
   rw[e6,BE U,Br U,AR])
  (λi hi m=>t l (o i hi l m).2.1 (C i hi l m) rfl) (λm=>t l (E.lt l m) (q l m).2.1 rfl) (λc f i hi=>(q c f).2.2 i hi)
  (B.p.keys.frame λc f=>D c (r c f).2.1 (B.p.d1 c f) (r c f).2.2) B.p.nk (λm=>t l (r l m).2.1 (B.p.d1 l m) rfl) (λc f i hi=>B.p.d2 c f i hi) (λc f m=>(q c m).1 f)
 rw[A5,List.drop_length]at N;refine Z J F ⟨bk,[l],l,cs',_,u1,N,λc f=>?_,λc f=>?_,λi hi c f=>?_,B.lb,Ab _⟩ ⟨by omega,λj hj=>D j (by omega) (λh=>?_) ?_⟩ (by omega);have:=r c f;exact⟨this.1,by omega,this.2.2⟩;rw[AY.1 f];exact⟨n.1,by have:=Q.lt;omega,n.2⟩;have f:c∈(if i<v.items.length then bf i else if i=v.items.length then bw else bf (i-1)):=f;have hi:i<v.items.length+1:=by
  have:(v.items++[w]).length=v.items.length+1:=by simp
  rw[<-this];exact hi
 split at f;rename_i h;have:=o i h c f;exact⟨this.1,by omega,this.2.2⟩;rw[if_pos (by omega)]at f;have:=E.lt c f;exact⟨(G c f).1,by omega,(G c f).2.1⟩;have:=(s j h).1;omega;have:=B.lb;omega
end
end
end Go.X
end
section
namespace Go.X
open Go Go.X Go.Proofs Go.RowKit
section
variable {h:zb} {l:Bs} {K:Value -> zb -> Prop} {lo:Nat}
theorem zc8{c:UInt8}(f:K (.int .i64 (Lib.indexByte l c)) h):XC Tp 212 #[.string (bl l),.int .u8 (c.toNat:Int)] h K:=by refine XC.of_calls λB d=>(jh (bl l) (c.toNat:Int) (mk B d h)).mono ?_;rintro e w' ⟨rfl,rfl⟩;refine⟨_,rfl,rfl,rfl,rfl,?_⟩;have b:(bl l).data.toList=l:=yh l;rw[b,qim];exact f
def z7m(F:FuncId)(A C:Array Value)(lo:Nat)(p:UInt8->Bool)(h0:zb):Prop:=
 zh Tp F=Ta/\∀(c:UInt8) (h:zb) (K:Value->zb->Prop),Keep lo h0 h->(∀h',Keep lo h h'->K (.bool (p c)) h')->XC Tp F (A++#[.int .u8 (c.toNat:Int)]++C) h K
theorem qgq{F:FuncId}{A C:Array Value}{p:UInt8->Bool}(H:z7m F A C lo p h)(y:l.length<=1152921504606846976)(t:∀h',Keep lo h h'->K (.int .i64 (Ye p l:Int)) h'):
  XC Tp 256 #[.string (bl l),.func (.func F) A C] h K:=by
 obtain⟨u,H⟩:=H;apply z01;rw[zf];refine⟨λi g=>∃k:Nat,i=(k:Int)/\k<=l.length/\Keep lo h g/\∀j (c:j<k) (f:j<l.length),p l[j]=Ta,λi _=>l.length-i.toNat,⟨0,rfl,by omega,Keep.refl _ _,λj c=>by omega⟩,?_⟩;rintro i g ⟨k,rfl,w,m,n⟩;refine⟨λq=>?_,λq=>?_⟩;have b:k<l.length:=by have:=of_decide_eq_true q;omega
 refine⟨⟨by omega,by omega⟩,u,?_⟩;rw[jm,Ag,z5f b];refine H _ _ _ m λh' s=>⟨_,rfl,λo=>?_,λo=>?_⟩;have e:Ye p l=k:=zwa w (λj c=>n j c (by omega)) (λ_=>by simpa using o);rw[<-e];exact t h' (m.trans s (Ab _));rw[jc b (by omega)];refine⟨⟨k+1,rfl,by omega,m.trans s (Ab _),λj c f=>?_⟩,by show l.length-((k+1:Nat):Int).toNat<l.length-((k:Nat):Int).toNat;omega⟩;rcases AX j k with r|r;exact n j r f;have:j=k:=by omega
 subst this;simpa using o;have b:k=l.length:=by have:=of_decide_eq_false q;omega
 have e:Ye p l=l.length:=zwa (Ab _) (λj c=>n j (by omega) c) (λx=>absurd x (by omega));rw[<-e];exact t g m
theorem zkk{b:Nat}(n:Blk h b #[.string (bl l)])(i:b<lo):z7m 292 #[] #[.pointer (Td ⟨b,0,Te⟩)] lo (xp l) h:=by
 refine⟨by kernel_rfl,λc g K k m=>?_⟩;show XC Tp 292 #[.int .u8 (c.toNat:Int),.pointer (Td ⟨b,0,Te⟩)] g K;apply zl1;have f:Blk g b #[.string (bl l)]:=by obtain⟨T,e⟩:=n;exact⟨T,by rw[k.get b i];exact e⟩
 refine⟨bl l,f.cell rfl,zc8 ⟨_,rfl,?_⟩⟩;have e:decide (Lib.indexByte l c>=0)=xp l c:=by unfold xp;rw[AM,decide_eq_true_eq,decide_eq_true_eq];exact(xw c l).2
 rw[e];exact m g (Keep.refl _ _)
theorem zwe{gl M:Fr}(m:Fr.le gl M)(ag:AgM M h):z7m 259 #[] #[] h.size (xp we) h:=by
 refine⟨by kernel_rfl,λc g K i l=>?_⟩;have e:(bif decide ((c.toNat:Int)>=97)then decide ((c.toNat:Int)<=122)else Tc)=xp we c:=by
  have f:(Bj 256).all (λn=>(bif decide ((n:Int)>=97)then decide ((n:Int)<=122)else Tc)==xp we (Bb n))=Ta:=by kernel_rfl
  have:=Av.1 f c.toNat (AU.2 c.toNat_lt);rw[beq_iff_eq,UInt8.ofNat_toNat]at this;exact this
 refine(PC.px (gl:=gl) (args:=[Arg.mk (.int .u8) (c.toNat:Int)]) (rt:=[.bool]) (R:=λb=>b=xp we c) ?_ m (ag.keep i) (qb (a:=Arg.mk (.int .u8) _) (Jn _ _) qq)).go λv h' M' r L o k=>?_;apply zsv;exact e;obtain rfl:=zib o;rw[k];exact l h' (L.keep.mono i.size)
end
section
variable {K:Value -> zb -> Prop} {h:zb} {a e:Int} {M:Fr} {v:Value}
theorem qmd:qc Tp 90=Ta:=by kernel_rfl
theorem qme:qi Tp 90=3:=by kernel_rfl
abbrev ztf(k f t:Int):List Value:=[.int .i64 k,.int .i64 f,.int .i64 t]
theorem qgr{g:zb}{b:Nat}{x y z p q r:Int}(B:Blk g b (ztf x y z).toArray){K:zb->Prop}(i:∀g',(∀j,j≠b->g'[j]?=g[j]?)->g'.size=g.size->Blk g' b (ztf p q r).toArray->K g'):
  XRunU Tp (Af 90 (.pointer (Td ⟨b,0,Te⟩)) (.agg #[.int .i64 p,.int .i64 q,.int .i64 r])) g K:=by
 refine zek (vs:=ztf p q r) qmd B rfl qme (Ab 3) (λu c=>?_) λg' f e h=>i g' h e f;simp at c;rcases c with rfl|rfl|rfl <;> rfl
theorem z7n{c:Nat}{a k t:Int}(l:Blk h c #[.int .i64 a])(o:∀h',Keep h.size h h'->K (.tuple #[.agg #[.int .i64 k,.int .i64 a,.int .i64 t],.int .i64 0]) h'):
  XC Tp 254 #[.int .i64 k,.int .i64 t,.pointer (Td ⟨c,0,Te⟩)] h K:=by
 apply zpb;intro h1;have e:Keep h.size h h1:=Keep.push _ _ (Ab _);have n:Blk h1 h.size (ztf 0 0 0).toArray:=Blk.new _ _ _;have b:Blk h1 c #[.int .i64 a]:=l.ofKeep e;refine⟨a,b.cell rfl,qgr n λg' f p m=>⟨k,a,t,m.ld,o g' (e.trans ⟨by omega,λi hi=>f i (by omega)⟩ (Ab _))⟩⟩
theorem qmf{x:Int×Int×Int}(h:Y3 M [.pair (.int .i64) (.pair (.int .i64) (.int .i64)),.int .i64] (x,e) v):v=.tuple #[.agg #[.int .i64 x.1,.int .i64 x.2.1,.int .i64 x.2.2],.int .i64 e]:=by obtain⟨vs,⟨m,rest,rfl,i,n,rfl,l⟩,rfl⟩:=h;rw[j8 l];unfold RdV at i;simp only[zhf,if_true]at i;obtain⟨cs,rfl,c1,c2,rfl,f,c3,k,rfl,b,c⟩:=i;have f:c1=[.int .i64 x.1]:=f;have b:c3=[.int .i64 x.2.1]:=b;have c:k=[.int .i64 x.2.2]:=c;subst f b c;rfl
theorem z7o{gl M:Fr}(c:Fr.le gl M)(ag:AgM M h)(b:∀h',Keep h.size h h'->K (.tuple #[.agg #[.int .i64 0,.int .i64 a,.int .i64 a],.int .i64 e]) h'):
  XC Tp 255 #[.int .i64 a,.int .i64 e] h K:=by
 refine(PC.px (gl:=gl) (args:=[Arg.mk (.int .i64) a,Arg.mk (.int .i64) e]) (rt:=[.pair (.int .i64) (.pair (.int .i64) (.int .i64)),.int .i64]) (R:=λr=>r=((0,(a,a)),e)) ?_ c ag (qb (a:=Arg.mk (.int .i64) _) (Jn _ _) (qb (a:=Arg.mk (.int .i64) _) (Jn _ _) qq))).go λv h' M' r L i f=>?_;apply zpk;rfl;subst f;rw[qmf i];exact b h' L.keep
theorem z7p{l:Bs}(b:∀h',Keep h.size h h'->h'.size=h.size+1->Blk h' h.size #[.string (bl l)]->K (.func (.func 292) #[] #[.pointer (Td ⟨h.size,0,Te⟩)]) h'):
  XC Tp 257 #[.string (bl l)] h K:=by
 apply zsp;intro h1;exact b h1 (Keep.push _ _ (Ab _)) (Aj _) (Blk.new _ _ _)
def ztg(s:Bs)(a:Nat):Value:=if(Z5 s a).2.2=0 then .tuple #[.agg #[.int .i64 (Z5 s a).1,.int .i64 (a:Int),.int .i64 ((Z5 s a).2.1:Int)],.int .i64 0]else .tuple #[.agg #[.int .i64 0,.int .i64 ((Z5 s a).2.1:Int),.int .i64 ((Z5 s a).2.1:Int)],.int .i64 (Z5 s a).2.2]
theorem qnj{x:Bool×Bt×Int}(h:Y3 M [.pair .bool (.pair .str (.int .i64)),.int .i64] (x,e) v):v=.tuple #[.agg #[.bool x.1,.string x.2.1,.int .i64 x.2.2],.int .i64 e]:=by obtain⟨vs,⟨m,rest,rfl,i,n,rfl,l⟩,rfl⟩:=h;rw[j8 l];unfold RdV at i;simp only[zhf,if_true]at i;obtain⟨cs,rfl,c1,c2,rfl,f,c3,k,rfl,b,c⟩:=i;have f:c1=[.bool x.1]:=f;have b:c3=[.string x.2.1]:=b;have c:k=[.int .i64 x.2.2]:=c;subst f b c;rfl
end
section
variable {gl:Fr} {s:Bs} {a t:Nat} {k:Int}
theorem qjk(l:Bs)(c:UInt8):decide (Lib.indexByte l c>=0)=xp l c:=by unfold xp;rw[AM,decide_eq_true_eq,decide_eq_true_eq];exact(xw c l).2
theorem qb7:(Bj 256).all (λn=>(bif ((n:Int)==45)then Ta else(bif decide ((n:Int)>=48)then decide ((n:Int)<=57)else Tc))==xp zc4 (Bb n))=Ta:=by kernel_rfl
theorem qgs(c:UInt8):(bif ((c.toNat:Int)==45)then Ta else(bif decide ((c.toNat:Int)>=48)then decide ((c.toNat:Int)<=57)else Tc))=xp zc4 c:=by have:=Av.1 qb7 c.toNat (AU.2 c.toNat_lt);rw[beq_iff_eq,UInt8.ofNat_toNat]at this;exact this
theorem qb8{R:Int->Prop}(h:R (Qj s)):PC Tp gl 260 [Arg.mk .str (bl s)] [.int .i64] R:=by apply zv0;have e:∀l:Bs,((bl s:Bt).toList==((⟨l.toArray⟩:Bt):Bt).toList)=decide (s=l):=λl=>zhl s l;have i:=e [116,114,117,101];have k:=e [102,97,108,115,101];have m:=e [110,117,108,108];rw[i,k,m];unfold Qj at h;refine⟨λb=>?_,λb=>⟨λc=>?_,λc=>⟨λf=>?_,λf=>?_⟩⟩⟩;rw[if_pos (of_decide_eq_true b)]at h;exact h;rw[if_neg (of_decide_eq_false b),if_pos (of_decide_eq_true c)]at h;exact h;rw[if_neg (of_decide_eq_false b),if_neg (of_decide_eq_false c),if_pos (of_decide_eq_true f)]at h;exact h;rw[if_neg (of_decide_eq_false b),if_neg (of_decide_eq_false c),if_neg (of_decide_eq_false f)]at h;exact h
theorem z7q{c:UInt8}{t:Bs}(h:s.drop a=c::t):Z5 s a=
  if c∈ya then(2+Lib.indexByte ya c,a+1,0)
  else if c∈xo then(1,a+Ye (xp xo) (s.drop a),0)
  else if c=34 then(if(yq s a).2.2=0 then(8,(yq s a).2.1,0)else(0,(yq s a).2.1,(yq s a).2.2))
  else if c∈zc4 then(if(zj ((s.drop a).take (Ye (xp zc3) (s.drop a)))).2=0 then(9,a+Ye (xp zc3) (s.drop a),0)else(0,a,(zj ((s.drop a).take (Ye (xp zc3) (s.drop a)))).2))
  else if Qj ((s.drop a).take (Ye (xp we) (s.drop a)))=0 then(0,a,2)else(Qj ((s.drop a).take (Ye (xp we) (s.drop a))),a+Ye (xp we) (s.drop a),0):=by
 unfold Z5;rw[h]
theorem zes(h:Z5 s a=(k,t,0)):ztg s a=.tuple #[.agg #[.int .i64 k,.int .i64 (a:Int),.int .i64 (t:Int)],.int .i64 0]:=by unfold ztg;rw[h];rfl
theorem zih{k e:Int}(h:Z5 s a=(k,t,e))(b:¬e=0):ztg s a=.tuple #[.agg #[.int .i64 0,.int .i64 (t:Int),.int .i64 (t:Int)],.int .i64 e]:=by unfold ztg;rw[h,if_neg b]
set_option maxHeartbeats 2000000 in
theorem qjl{gl M:Fr}(hg:GL gl)(O:Fr.le gl M){h:zb}(ag:AgM M h)(hs:s.length<=65536)(ha:a<s.length){K:Value->zb->Prop}(hK:∀h',Keep h.size h h'->K (ztg s a) h'):
  XC Tp 198 #[.string (bl s),.int .i64 (a:Int)] h K:=by
 have hd:s.drop a=s[a]::s.drop (a+1):=Bw ha;have ai:s.drop a≠[]:=by rw[hd];exact List.cons_ne_nil _ _
 have aj:(s.drop a).length=s.length-a:=AI;have l:=z7q hd;generalize hc:s[a]=c at l hd;apply zvv;intro h1 q;have z1:h1.size=h.size+1:=Aj _;have z2:q.size=h1.size+1:=Aj _;have k1:Keep h.size h h1:=Keep.push _ _ (Ab _);have k2:Keep h1.size h1 q:=Keep.push _ _ (Ab _);have Y:Keep h.size h q:=k1.trans k2 (by omega);have A:Blk q h.size #[.int .i64 (a:Int)]:=(Blk.new h #[.int .i64 (a:Int)] 3).ofKeep k2;have B1:Blk q h1.size (ztf 0 0 0).toArray:=Blk.new _ _ _;clear_value h1 q;have z:AgM M q:=ag.keep Y;have done:∀(k f t e:Int) (g:zb),Keep q.size q g->.tuple #[.agg #[.int .i64 k,.int .i64 f,.int .i64 t],.int .i64 e]=ztg s a ->
   XRunU Tp (Af 90 (.pointer (Td ⟨h1.size,0,Te⟩)) (.agg #[.int .i64 k,.int .i64 f,.int .i64 t])) g (λg'=>∃r1 r2 r3:Int,zd g' ⟨h1.size,0,Te⟩ 0 [.int .i64 r1,.int .i64 r2,.int .i64 r3]/\K (.tuple #[.agg #[.int .i64 r1,.int .i64 r2,.int .i64 r3],.int .i64 e]) g'):=by
  intro k f t e g C he;refine qgr (B1.ofKeep C) λg' q1 q2 q3=>⟨k,f,t,q3.ld,?_⟩;rw[he];have D:=C.size;exact hK g' ((Y.trans C (by omega)).trans (c:=g') (m:=h.size) ⟨by omega,λi hi=>q1 i (by omega)⟩ (Ab _))
 have ex:(bl s).extract (a:Int).toNat (s.length:Int).toNat=bl (s.drop a):=qhj (n:=(a:Int)) rfl;have b0:zr (bl (s.drop a)) (0:Int).toNat=(c.toNat:Int):=by rw[jm,hd];rfl
 rw[zf];refine⟨(a:Int),A.cell rfl,?_⟩;rw[ex,zf,b0];refine⟨⟨by omega,by omega,by omega⟩,⟨by omega,by omega⟩,?_⟩;have bs:(⟨#[123,125,91,93,44,58]⟩:Bt)=bl ya:=rfl;have bb:(⟨#[32,9,10,13]⟩:Bt)=bl xo:=rfl;have bn:(⟨#[45,43,46,48,49,50,51,52,53,54,55,56,57,101,69]⟩:Bt)=bl zc3:=rfl;rw[bs,bb,bn];have F:∀n:Nat,n<=s.length->Aa .i64 ((a:Int)+(n:Int))=((a+n:Nat):Int):=λn B=>by rw[w64 (by omega)];omega
 refine zc8 ⟨_,rfl,?_⟩;rw[qjk];refine⟨λI=>?_,λI=>?_⟩
 ·have I:=of_decide_eq_true I;rw[if_pos I]at l;have Q:0<=Lib.indexByte ya c/\Lib.indexByte ya c<6:=by
   have:∀c∈ya,0<=Lib.indexByte ya c/\Lib.indexByte ya c<6:=by decide
   exact this c I
  refine⟨(a:Int),A.cell rfl,by kernel_rfl,?_⟩;refine z7n A λg C=>⟨_,_,_,_,rfl,done _ _ _ _ g C ?_⟩;rw[zes l,w64 (n:=2+Lib.indexByte ya c) (by omega),show Aa .i64 ((a:Int)+1)=((a+1:Nat):Int)from F 1 (by omega)]
 have I:=of_decide_eq_false I;rw[if_neg I]at l;refine zc8 ⟨_,rfl,?_⟩;rw[qjk];have P:=λp=>z6p p (s.drop a);refine⟨λV=>?_,λV=>?_⟩
 ·have V:=of_decide_eq_true V;rw[if_pos V]at l;refine⟨(a:Int),A.cell rfl,z7p λg C zg Bg=>⟨_,rfl,C.get h.size (by omega),?_⟩⟩;refine qgq (lo:=g.size) (zkk Bg (by omega)) (by omega) λH b=>⟨_,rfl,?_,by kernel_rfl,?_⟩;rw[b.get h.size (by omega)];exact C.get h.size (by omega);have E:Keep q.size q H:=C.trans b (by omega);refine z7n (A.ofKeep E) λJ aa=>⟨_,_,_,_,rfl,done _ _ _ _ J (E.trans aa E.size) ?_⟩;have:=P (xp xo);rw[zes l,F _ (by omega)]
 have V:=of_decide_eq_false V;rw[if_neg V]at l;rw[show((c.toNat:Int)==34)=decide (c=34)from u8i (n:=34) (by omega),qgs];refine⟨λD=>?_,λD=>⟨λS=>?_,λS=>?_⟩⟩
 ·have D:=of_decide_eq_true D;rw[if_pos D]at l;refine⟨(a:Int),A.cell rfl,?_⟩;refine((qjj hg (t:=s) (a:=(a:Int)) (by omega) (R:=λr=>r=qji s (a:Int)) rfl).px O z (qb (a:=Arg.mk .str _) (rdStr _) (qb (a:=Arg.mk (.int .i64) _) (Jn _ _) qq))).go λv g M' r L Z Q=>?_;have he:qji s (a:Int)=(((yq s a).2.1:Int),(yq s a).2.2):=by unfold qji;rw[if_neg (by omega),Ag]
  rw[he]at Q;subst Q;rw[ztd Z];refine⟨_,_,rfl,λo=>⟨by kernel_rfl,?_⟩,λo=>⟨by kernel_rfl,?_⟩⟩
  ·refine z7o O (z.keep L.keep) λH b=>⟨_,_,_,_,rfl,done _ _ _ _ H (L.keep.trans b L.keep.size) ?_⟩;have B:¬(yq s a).2.2=0:=by simpa using o
   rw[if_neg B]at l;rw[zih l B]
  ·refine z7n (A.ofKeep L.keep) λH b=>⟨_,_,_,_,rfl,done _ _ _ _ H (L.keep.trans b L.keep.size) ?_⟩;have B:(yq s a).2.2=0:=by simpa using o
   rw[if_pos B]at l;rw[zes l]
 ·have D:=of_decide_eq_false D;have S:=of_decide_eq_true S;rw[if_neg D,if_pos S]at l;refine⟨(a:Int),A.cell rfl,z7p λg C zg Bg=>⟨_,rfl,C.get h.size (by omega),?_⟩⟩;have af:=P (xp zc3);refine qgq (lo:=g.size) (zkk Bg (by omega)) (by omega) λH b=>⟨_,rfl,?_,?_⟩;rw[b.get h.size (by omega)];exact C.get h.size (by omega);have E:Keep q.size q H:=C.trans b (by omega);rw[F _ (by omega)];have U:(bl s).extract (a:Int).toNat ((a+Ye (xp zc3) (s.drop a):Nat):Int).toNat=bl ((s.drop a).take (Ye (xp zc3) (s.drop a))):=by rw[Ag,Ag,wm,show a+Ye (xp zc3) (s.drop a)-a=Ye (xp zc3) (s.drop a)by omega]
  refine⟨(a:Int),(A.ofKeep E).cell rfl,⟨by omega,by omega,by omega⟩,?_⟩;rw[U];refine((zic (gl:=gl) (s:=(s.drop a).take (Ye (xp zc3) (s.drop a))) (by rw[AN];omega) (R:=λr=>r=(nmB (zj ((s.drop a).take (Ye (xp zc3) (s.drop a)))).1,(zj ((s.drop a).take (Ye (xp zc3) (s.drop a)))).2)) rfl).px O (z.keep E) (qb (a:=Arg.mk .str _) (rdStr _) qq)).go λv J M' r L Z Q=>?_;subst Q;rw[qnj Z];generalize hq:(s.drop a).take (Ye (xp zc3) (s.drop a))=w at l;refine⟨_,_,_,_,rfl,?_⟩;intro G;have ae:Keep J.size J G:=Keep.push _ _ (Ab _);have ah:Blk G J.size #[.bool Tc,.string ⟨#[]⟩,.int .i64 0]:=Blk.new _ _ _;have k4:Keep q.size q G:=(E.trans L.keep E.size).trans ae (by have:=L.keep.size;have:=E.size;omega);clear_value G;refine zek (vs:=[.bool (nmB (zj w).1).1,.string (nmB (zj w).1).2.1,.int .i64 (nmB (zj w).1).2.2]) (by kernel_rfl) ah rfl (by kernel_rfl) (Ab 3) (λu hu=>?_) λab q1 q2 q3=>?_;simp at hu;rcases hu with rfl|rfl|rfl <;> rfl;have x:Keep q.size q ab:=k4.trans ⟨by omega,λi hi=>q3 i (by have:=L.keep.size;have:=E.size;omega)⟩ (Ab _);refine⟨λo=>⟨(a:Int),(A.ofKeep x).cell rfl,by kernel_rfl,?_⟩,λo=>⟨by kernel_rfl,?_⟩⟩
  ·refine z7o O (z.keep x) λN y=>⟨_,_,_,_,rfl,done _ _ _ _ N (x.trans y x.size) ?_⟩;have B:¬(zj w).2=0:=by simpa using o
   rw[if_neg B]at l;rw[zih l B]
  ·refine z7n (A.ofKeep x) λN y=>⟨_,_,_,_,rfl,done _ _ _ _ N (x.trans y x.size) ?_⟩;have B:(zj w).2=0:=by simpa using o
   rw[if_pos B]at l;rw[zes l]
 ·have D:=of_decide_eq_false D;have S:=of_decide_eq_false S;rw[if_neg D,if_neg S]at l;have af:=P (xp we);refine qgq (lo:=q.size) (zwe O z) (by omega) λH b=>⟨_,rfl,⟨by omega,by omega,by omega⟩,?_⟩;have U:(bl (s.drop a)).extract (0:Int).toNat ((Ye (xp we) (s.drop a):Nat):Int).toNat=bl ((s.drop a).take (Ye (xp we) (s.drop a))):=by rw[Ag,wm];rfl
  rw[U];refine((qb8 (gl:=gl) (s:=(s.drop a).take (Ye (xp we) (s.drop a))) (R:=λr=>r=Qj ((s.drop a).take (Ye (xp we) (s.drop a)))) rfl).px O (z.keep b) (qb (a:=Arg.mk .str _) (rdStr _) qq)).go λv J M' r L Z Q=>?_;subst Q;rw[qlt Z];generalize hq:(s.drop a).take (Ye (xp we) (s.drop a))=w at l;have x:Keep q.size q J:=b.trans L.keep b.size;refine⟨_,rfl,λo=>⟨(a:Int),(A.ofKeep x).cell rfl,by kernel_rfl,?_⟩,λo=>⟨(a:Int),(A.ofKeep x).cell rfl,by kernel_rfl,?_⟩⟩
  ·refine z7n (A.ofKeep x) λN y=>⟨_,_,_,_,rfl,done _ _ _ _ N (x.trans y x.size) ?_⟩;have B:¬Qj w=0:=by simpa using o
   rw[if_neg B]at l;rw[zes l,F _ (by omega)]
  ·refine z7o O (z.keep x) λN y=>⟨_,_,_,_,rfl,done _ _ _ _ N (x.trans y x.size) ?_⟩;have B:Qj w=0:=by simpa using o
   rw[if_pos B]at l;rw[zih l (by decide)]
end
end Go.X
end
section
namespace Go.X
open Go Go.Code
section
variable {ro:Option Nat} {n:Nat} {P:Program} {f:FuncId} {args:Array Value} {w:World} {o:Oper} {a:Act} {e:Env} {h:zb}
abbrev rf(ro:Option Nat):Fence:={ Fence.wide with round:=ro }
def zhs(K:Act->World->Prop):Exit->Act->World->Prop
 |.normal,a,w=>K a w
 |_,_,_=>False
theorem Yd{K:Act->World->Prop}:¬LetsOut (zhs K):=λ⟨_,_,h⟩=>h
theorem qb9{R:Ending->World->Prop}(h:Calls P f args w R):CallsIn (rf ro) n P f args w R:=by have h1:CallsIn Fence.wide n P f args w R:=callsIn_wide.2 h;exact h1
theorem qgt{row:String}{R:Value->World->Prop}(h:Rows P row args w R):RowsIn (rf ro) n P row args w R:=by have h1:RowsIn Fence.wide n P row args w R:=λc cs _=>let ⟨v,w',r,s⟩:=h c cs;⟨v,w',r,stepsIn_wide.2 s⟩;exact h1
def xy(o:Oper):Bool:=match o.op with
 |.defer _=>Tc
 |_=>Ta
theorem zwf(h:xy o=Ta):∀c,o.op≠.defer c:=by intro c e;unfold xy at h;rw[e]at h;cases h
theorem qjm(c:xy o=Ta){K:Act->World->Prop}{Q:Exit->Act->World->Prop}(h:o.wp P a w K Q):o.wpIn (rf ro) n P a w K Q:=by
 refine⟨λ_ _=>trivial,?_⟩;rw[Oper.semAt_eq _ _ _ (zwf c)];unfold Oper.wp at h;generalize (execOp a.eval o).run P w=r at *;cases r with
 |ok x w'=>
  cases x with
  |enter f args=>exact⟨λb=>(by cases b),qb9 h⟩
  |row row args=>exact⟨λb=>(by cases b),qgt h⟩
  |value v=>exact h
  |skip=>exact h
  |defer d=>exact h
  |_=>exact h.elim
 |halt x w'=>cases x <;> first|exact h|exact h.elim
theorem zkl{ro:Option Nat}{n:Nat}{P:Program}{ops:Array Oper}{K:Act->World->Prop}{Q:Exit->Act->World->Prop}: ∀(l i:List Oper) (a:Act) (w:World),l.all xy=Ta->wpList P ops (zhs K) l a w->(∀a w,K a w->wpListIn (rf ro) n P ops Q i a w)->wpListIn (rf ro) n P ops Q (l++i) a w
 |[],i,a,w,_,h,hK=>hK a w h
 |o::l,i,a,w,hd,h,hK=>by
  rw[De,Ao]at hd;rw[AD];unfold wpListIn;unfold wpList at h;by_cases m:BU o (yielded ops a.tmps)=Ta;rw[if_pos m]at h ⊢;rcases h with h|⟨_,h⟩;have h1:=qjm (ro:=ro) (n:=n) hd.1 h;have p:=Oper.wpIn_mono (λa w q=>zkl l i a w hd.2 q hK) h1;refine⟨p.1,?_⟩;have b:=p.2;revert b;generalize (o.semAt (rf ro).round a.eval).run P w=r;cases r with
  |ok x w'=>
   cases x with
   |enter f args=>exact λb=>⟨b.1,CallsIn.mono b.2 λe k c=>by cases e <;> first|exact c|exact c.elim|exact(Yd c).elim⟩
   |round l f tmps assign body=>exact λb=>⟨b.1,RoundIn.mono b.2 λe k c=>by cases e <;> first|exact c|exact c.elim|exact(Yd c).elim⟩
   |_=>exact λb=>b
  |halt x w'=>cases x <;> first|exact λb=>b|exact λb=>b.elim
  exact(Yd h).elim;rw[if_neg m]at h ⊢;exact⟨λ_ _=>trivial,zkl l i _ _ hd.2 h hK⟩
theorem zyq{ro:Option Nat}{n:Nat}{P:Program}{md:Region.Mode}{ops:Array Oper}{K:Act->World->Prop}(c:∀(i:Nat) (o:Oper),ops[i]?=Td o->xy o=Ta):∀(fuel:Nat) (listed:Array Bool) (a:Act) (w:World),wpAny P md ops (zhs K) fuel listed a w->wpAnyIn (rf ro) n P md ops (zhs K) fuel listed a w
 |0,_,_,_,h=>h
 |fuel+1,listed,a,w,h=>by refine⟨h.1,λi hi=>?_⟩;have b:=h.2 i hi;unfold wpOp at b;unfold wpOpIn;split at b;rename_i e;rw[e];exact zyq c fuel _ _ _ b;rename_i o e;rw[e];simp only;by_cases f:BU o (yielded ops a.tmps)=Ta;rw[if_pos f]at b ⊢;rcases b with b|⟨_,b⟩;exact Oper.wpIn_mono (λa w k=>zyq c fuel _ a w k) (qjm (c i o e) b);exact(Yd b).elim;rw[if_neg f]at b ⊢;exact⟨λ_ _=>trivial,zyq c fuel _ _ _ b⟩
def Xx(D:List Deferred)(a:Act):Act:={ a with defers:=a.defers++D }
theorem qdw{D:List Deferred}{K:Act->World->Prop}{R:Act->World->Prop}(h:o.wp P a w K (zhs R)):o.wp P (Xx D a) w (λk w1=>∃a0,k=Xx D a0/\K a0 w1) (zhs λk w1=>∃a0,k=Xx D a0/\R a0 w1):=by
 unfold Oper.wp at h ⊢;have b:(Xx D a).eval=a.eval:=rfl;rw[b];have c:∀d v,(Xx D a).put d v=Xx D (a.put d v):=λd v=>by cases d <;> rfl
 generalize (execOp a.eval o).run P w=r at *;cases r with
 |ok x w'=>
  cases x with
  |enter f args=>exact Calls.mono h λe i b=>by cases e with
    |returned v=>exact⟨_,c _ _,b⟩
    |panicked ch=>exact b
    |outgrown=>exact(Yd b).elim
  |row row args=>exact Rows.mono h λv i b=>⟨_,c _ _,b⟩
  |value v=>exact⟨_,c _ _,h⟩
  |skip=>exact⟨_,c _ _,h⟩
  |defer d=>exact⟨(Act.put { a with defers:=d::a.defers } o.dst undef),(by cases o.dst <;> rfl),(show K (Act.put { a with defers:=d::a.defers } o.dst undef) w' from h)⟩
  |_=>exact h.elim
 |halt x w'=>cases x <;> first|exact h|exact h.elim
theorem zpv{P:Program}{md:Region.Mode}{ops:Array Oper}{D:List Deferred}{K:Act->World->Prop}:∀(fuel:Nat) (listed:Array Bool) (a:Act) (w:World),wpAny P md ops (zhs K) fuel listed a w->wpAny P md ops (zhs λc w1=>∃a0,c=Xx D a0/\K a0 w1) fuel listed (Xx D a) w
 |0,_,a,_,h=>⟨h.1,a,rfl,h.2⟩
 |fuel+1,listed,a,w,h=>by
  refine⟨λm=>⟨a,rfl,h.1 m⟩,λi hi=>?_⟩;have b:=h.2 i hi;unfold wpOp at b ⊢;have n:yielded ops (Xx D a).tmps=yielded ops a.tmps:=rfl;split at b;exact zpv fuel _ _ _ b;rename_i o p;rw[n];by_cases f:BU o (yielded ops a.tmps)=Ta;rw[if_pos f]at b ⊢;rcases b with b|⟨_,b⟩;exact .inl (Oper.wp_mono (λc w1 ⟨a0,e,l⟩=>by rw[e];exact zpv fuel _ a0 w1 l) (qdw b));exact(Yd b).elim;rw[if_neg f]at b ⊢;have k:(Xx D a).put o.dst undef=Xx D (a.put o.dst undef):=by cases o.dst <;> rfl
  rw[k];exact zpv fuel _ _ _ b
def YX(P:Program)(l:Nat)(args:Array Value)(h:zb)(K:Value->zb->Prop):Prop:=
 ∀(m:Nat) (B:World) (d:Nat),∃fn tmps assign body,(Instr.yield l args).run P (mk B d h)=.ok (.round l fn tmps assign body) (mk B d h) /\
  RoundIn (rf Te) m P l fn tmps assign body (mk B d h) λe w'=>∃v b h',e=.returned v/\w'=mk B b h'/\K v h'
def qm7(o:Oper):Bool:=match o.op with
 |.call c=>match c.callee with
  |.value x=>!(zdj x)
  |_=>Tc
 |_=>Tc
def zth:List Oper->Option (List Oper×Oper×List Oper)
 |[]=>Te
 |o::l=>bif qm7 o then Td ([],o,l)else match zth l with
  |some (pre,o',post)=>Td (o::pre,o',post)
  |none=>Te
theorem z7r{l:List Oper}:∀{pre b:List Oper} {o:Oper},zth l=Td (pre,o,b)->l=pre++o::b:=by
 induction l with
 |nil=>intro pre b o h;cases h
 |cons x l k=>
  intro pre b o h;rw[zth]at h;cases hd:qm7 x with
  |true=>rw[hd,cond_true]at h;have h:=Az h;have h1:=congrArg D3 h;have e:=congrArg (λq=>q.2.1) h;have c:=congrArg (λq=>q.2.2) h;simp only at h1 e c;rw[<-h1,<-e,<-c];rfl
  |false=>
   rw[hd,cond_false]at h;cases hs:zth l with
   |none=>rw[hs]at h;cases h
   |some q=>obtain⟨i,m,f⟩:=q;rw[hs]at h;have h:=Az h;have h1:=congrArg D3 h;have e:=congrArg (λq=>q.2.1) h;have c:=congrArg (λq=>q.2.2) h;simp only at h1 e c;rw[k hs,<-h1,<-e,<-c];rfl
def zyr(P:Program)(o:Oper)(e:Env)(h:zb)(K:Value->zb->Prop):Prop:=match o.op with
 |.call c=>match c.callee with
  |.value x=>match X1 e [] x with
   |some (.func (.yield l) A C)=>bif (bif (Nat.beq A.size 0)then(Nat.beq C.size 0)else Tc)then(bif known e [] c.args.toList then YX P l (c.args.map (rho e [])) h λv h'=>typed P o.type v λb=>K b h' else False)else False
   |_=>False
  |_=>False
 |_=>False
theorem zti{n m:Nat}{K:Value->zb->Prop}(H:zyr P o e h K)(p:Sat n e a)(B:World)(d:Nat){next:Act->World->Prop}{Q:Exit->Act->World->Prop}
  (z:∀v k h',K v h'->next (a.put o.dst v) (mk B k h')):o.wpIn (rf Te) m P a (mk B d h) next Q:=by
 unfold zyr at H;split at H;rename_i c w;split at H;rename_i x i;split at H;rename_i l A C D;obtain⟨hA,q,H⟩:A=#[]/\C=#[]/\(bif known e [] c.args.toList then YX P l (c.args.map (rho e [])) h λv h'=>typed P o.type v λu=>K u h' else False):=by
  cases h1:Nat.beq A.size 0 with
  |false=>rw[h1]at H;exact Db H
  |true=>
   cases f:Nat.beq C.size 0 with
   |false=>rw[h1,f]at H;exact Db H
   |true=>rw[h1,f]at H;exact⟨Array.eq_empty_of_size_eq_zero (Al h1),Array.eq_empty_of_size_eq_zero (Al f),H⟩
 subst hA;subst q;cases hk:known e [] c.args.toList with
 |false=>rw[hk]at H;exact Db H
 |true=>
  rw[hk]at H;simp only[cond_true]at H;obtain⟨fn,tmps,assign,body,h1,f⟩:=H (m-1) B d;have s:a.eval x=.func (.yield l) #[] #[]:=qn p (c:=[]) trivial D;have b:c.args.map a.eval=c.args.map (rho e []):=by apply Array.map_congr_left;intro y t;exact J6 p (c:=[]) trivial hk y (by simpa using t)
  have r:(o.semAt (rf Te).round a.eval).run P (mk B d h)=.ok (.round l fn tmps assign body) (mk B d h):=by show(execOp a.eval o).run P (mk B d h)=_;simp only[execOp,w,resolve,i,s,Dq,Sem.run_bind,Sem.run_pure,Result.andThen_ok,invoke];rw[b];simpa using h1
  refine⟨λ_ _=>trivial,?_⟩;rw[r];refine⟨λi=>(by cases i),f.mono ?_⟩;rintro e' w' ⟨v,k,h',rfl,rfl,E⟩;exact z _ _ _ (xr E)
 exact Db H;exact Db H;exact Db H
def zwg(P:Program)(n:Nat)(f:List (Nat×Nat))(id:Nat)(ops:Array Oper)(b:Bool)(K:Env->zb->Prop)(e:Env)(h:zb):Prop:=
 match zth ops.toList with
 |none=>regionF P n f id ops b K e h
 |some (pre,o,post)=>bif b then False else bif (pre.all xy&&post.all xy)then(match o.guard with
  |none=>bif jk n [] o.dst then wR P n ops (λc h1=>zyr P o c h1 λv i=>wR P n ops K post (putO c o.dst [] v) i) pre e h else False
  |some _=>False)else False
theorem zpw(N:P.follows .mixedOrders=Ta){S:List (Nat×Nat)}{id:Nat}{ops:Array Oper}{c:Bool}{K:Env->zb->Prop} (H:zwg P n S id ops c K e h) (m:Nat) (B:World) (d:Nat) (F:Sat n e a) {Q:Exit->Act->World->Prop}
  (D:∀e' a' k h',Sat n e' a'->Same (xd ops.toList) a a'->K e' h'->Q .normal a' (mk B k h')):(DO id ops c).wpIn (rf Te) m P Q a (mk B d h):=by
 unfold zwg at H;split at H;exact wpIn_wide.2 (zdq N H B d F D);rename_i pre o b s;have q:=z7r s;cases c with
 |true=>exact Db H
 |false=>
  simp only[cond_false]at H;cases hnd:(pre.all xy&&b.all xy)with
  |false=>rw[hnd]at H;exact Db H
  |true=>
   rw[hnd]at H;simp only[cond_true]at H;rw[Ao]at hnd;split at H;rename_i J;cases hd:jk n [] o.dst with
   |false=>rw[hd]at H;exact Db H
   |true=>
    rw[hd]at H;simp only[cond_true]at H;refine wpIn_region_list ?_;have y:∀x∈xd pre,x∈xd ops.toList:=λx p=>by rw[q,Qw];exact Ar _ p
    have A:∀i,o.dst=Td i->i∈xd ops.toList:=λi hi=>by rw[q,Qw];exact AC _ (by simp[xd,hi])
    have C:∀x∈xd b,x∈xd ops.toList:=λx p=>by rw[q,Qw];refine AC _ ?_;unfold xd;split;exact Ae _ p;exact p
    rw[q];refine zkl (K:=λf w1=>∃l u h1,w1=mk B u h1/\Sat n l f/\Same (xd ops.toList) a f/\zyr P o l h1 λv E=>wR P n ops K b (putO l o.dst [] v) E) pre (o::b) a _ hnd.1 (zdk B pre e h a d H F λe' a' k h' z r L=>⟨e',k,h',rfl,z,r.mono y,L⟩) ?_;rintro f w1 ⟨l,u,h1,rfl,s1,I,z⟩;unfold wpListIn;have t:BU o (yielded ops f.tmps)=Ta:=by simp[BU,J]
    rw[if_pos t];refine zti z s1 B u λv d2 E r=>?_;have s2:Sat n (putO l o.dst [] v) (f.put o.dst v):=s1.putO hd (λ_=>rfl) (λO=>absurd trivial O);rw[<-AR b];refine zkl (K:=λa' w'=>Q .normal a' w') b [] _ _ hnd.2 (zdk B b _ _ _ _ r s2 λe' a' k h' U M G=>?_) λa w h=>h;exact D e' a' k h' U ((I.trans (Same.put f o.dst v A)).trans (M.mono C)) G
   exact Db H
def WI(P:Program)(n:Nat)(pl:Plan):Code->zb8->Env->zb->Prop
 |.skip,Q,e,h=>Q .normal e h
 |.ret,Q,e,h=>Q .ret e h
 |.exit id,Q,e,h=>Q (.exit id) e h
 |.label _,Q,e,h=>Q .normal e h
 |.goto l,Q,e,h=>Q (.goto l) e h
 |.region id ops draw,Q,e,h=>zwg P n pl.tails id ops draw (λe h=>Q .normal e h) e h
 |.seq x y,Q,e,h=>match qar pl.joins (j6 y)with
  |none=>WI P n pl x (zu2 (λe h=>WI P n pl y Q e h) Q) e h
  |some J=>qhy J (λe h=>WI P n pl y Q e h) (λK=>WI P n pl x (zu2 K Q) e h) (X8 (Qd x) e)
 |.cond c x y,Q,e,h=>match X1 e [] c with
  |some (.bool b)=>(b=Ta->WI P n pl x Q e h)/\(b=Tc->WI P n pl y Q e h)
  |_=>False
 |.block id x,Q,e,h=>WI P n pl x (zi6 id Q) e h
 |.loop x,Q,e,h=>match qar pl.loops (j6 x)with
  |some J=>qhz J (λf e h=>WI P n pl x (zu2 f Q) e h) (X8 (Qd x) e) e h
  |none=>False
 |_,_,_,_=>False
theorem qca(hm:P.follows .mixedOrders=Ta){pl:Plan}:∀(c:Code) (Q:zb8) (e:Env) (h:zb),WI P n pl c Q e h ->
  ∀(m:Nat) (B:World) (d:Nat) (a:Act),Sat n e a->c.wpIn (rf Te) m P (qh0 n B (Qd c) a Q) a (mk B d h):=by
 intro c;induction c with
 |skip=>exact λQ e h H m B d a f=>wpIn_skip ⟨e,d,h,rfl,f,Same.refl _ _,H⟩
 |ret=>exact λQ e h H m B d a f=>wpIn_ret ⟨e,d,h,rfl,f,Same.refl _ _,H⟩
 |exit id=>exact λQ e h H m B d a f=>wpIn_exit ⟨e,d,h,rfl,f,Same.refl _ _,H⟩
 |label l=>exact λQ e h H m B d a f=>wpIn_label ⟨e,d,h,rfl,f,Same.refl _ _,H⟩
 |goto l=>exact λQ e h H m B d a f=>wpIn_goto ⟨e,d,h,rfl,f,Same.refl _ _,H⟩
 |region id ops ap=>exact λQ e h H m B d a f=>zpw hm H m B d f λe' a' d' h' r t q3=>⟨e',d',h',rfl,r,t,q3⟩
 |seq x y C D=>
  intro Q e h H m B d a f;simp only[WI]at H;have N:∀i∈Qd x,i∈Qd (x.seq y):=λi hi=>Ar _ hi;have S:∀i∈Qd y,i∈Qd (x.seq y):=λi hi=>AC _ hi;split at H;refine wpIn_seq (wpIn_mono (C _ _ _ H m B d a f) ?_);rintro ex k w1 ⟨E,s,h1,rfl,s1,A,r⟩;cases ex with
  |normal=>refine wpIn_mono (D _ _ _ r m B s k s1) ?_;rintro ex a2 w2 ⟨u,d2,w,rfl,s2,z,t⟩;exact⟨u,d2,w,rfl,s2,(A.mono N).trans (z.mono S),t⟩
  |_=>exact⟨E,s,h1,rfl,s1,A.mono N,r⟩
  rename_i J hJ;have H':=H (mkC (wn J) λvs=>λh=>WI P n pl y Q (Yr J vs++X8 (Qd x) e) h) (zoa λvs h M=>M);refine wpIn_seq (wpIn_mono (C _ _ _ H' m B d a f) ?_);rintro ex k w1 ⟨E,s,h1,rfl,s1,A,r⟩;cases ex with
  |normal=>obtain⟨vs,q,U,M,hk⟩:=zfe r;have Z:=zn9 M;subst Z;have ah:Sat n (Yr J vs++X8 (Qd x) e) k:=zdr f s1.defers s1.size A (ju s1 U);refine wpIn_mono (D _ _ _ hk m B s k ah) ?_;rintro ex a2 w2 ⟨u,d2,w,rfl,s2,z,t⟩;exact⟨u,d2,w,rfl,s2,(A.mono N).trans (z.mono S),t⟩
  |_=>exact⟨E,s,h1,rfl,s1,A.mono N,r⟩
 |cond c x y C D=>intro Q e h H m B d a f;simp only[WI]at H;have N:∀i∈Qd x,i∈Qd (DL c x y):=λi hi=>Ar _ hi;have S:∀i∈Qd y,i∈Qd (DL c x y):=λi hi=>AC _ hi;split at H;rename_i b G;refine wpIn_cond_split (qn f (c:=[]) trivial G) (λaa=>?_) (λak=>?_);refine wpIn_mono (C _ _ _ (H.1 aa) m B d a f) ?_;rintro ex a2 w2 ⟨u,d2,w,rfl,s2,z,t⟩;exact⟨u,d2,w,rfl,s2,z.mono N,t⟩;refine wpIn_mono (D _ _ _ (H.2 ak) m B d a f) ?_;rintro ex a2 w2 ⟨u,d2,w,rfl,s2,z,t⟩;exact⟨u,d2,w,rfl,s2,z.mono S,t⟩;exact H.elim
 |block id x ih=>
  intro Q e h H m B d a f;refine wpIn_block (wpIn_mono (ih _ _ _ H m B d a f) ?_);rintro ex k w1 ⟨E,s,h1,rfl,s1,A,r⟩;cases ex with
  |exit i=>simp only[zi6]at r;simp only[Exit.inBlock];by_cases G:Nat.beq i id=Ta;rw[if_pos (Al G)];simp only[G,cond_true]at r;exact⟨E,s,h1,rfl,s1,A,r⟩;rw[if_neg (λhe=>G (by rw[he];simp))];simp only[G,cond_false]at r;exact⟨E,s,h1,rfl,s1,A,r⟩
  |_=>exact⟨E,s,h1,rfl,s1,A,r⟩
 |loop x ih=>
  intro Q e h H m B d a f;simp only[WI]at H;split at H;rename_i J hJ;obtain⟨I,μ,h0,L⟩:=H;obtain⟨af,p0,V,Y,an⟩:=zfe h0;let F:=zzx (wn J) I μ;let at_:Act->Option ((zb->Prop)×(zb->Nat)):=λk=>(zbl (λi=>Td (zz k i)) J).bind λvs=>zrb (wn J) vs F;refine wpIn_loop (λk w1=>∃s h1 vs p,w1=mk B s h1/\k.defers=[]/\k.tmps.size=n/\Same (Qd x) a k/\zbl (λi=>Td (zz k i)) J=Td vs/\zrb (wn J) vs F=Td p/\p.1 h1) (λk w1=>match at_ k with|some p=>p.2 w1.heap|none=>0) ⟨d,h,af,p0,rfl,f.defers,f.size,Same.refl _ _,ju f V,Y,an⟩ ?_;rintro k w1 ⟨s,h1,vs,p,rfl,ai,ab,o,U,hp,hI⟩;have s1:Sat n (Yr J vs++X8 (Qd x) e) k:=zdr f ai ab o U;have G:=zi5 hp L h1 hI;refine wpIn_mono (ih _ _ _ G m B s k s1) ?_;rintro ex a2 w2 ⟨u,d2,w,rfl,s2,z,t⟩;cases ex with
  |normal=>
   obtain⟨am,q,O,M,ae,aj⟩:=zfe t;refine⟨⟨d2,w,am,q,rfl,s2.defers,s2.size,o.trans z,ju s2 O,M,ae⟩,?_⟩;have E:at_ k=Td p:=by simp only[at_,U,CC];exact hp
   have u:at_ a2=Td q:=by simp only[at_,ju s2 O,CC];exact M
   rw[E,u];exact aj
  |_=>exact⟨u,d2,w,rfl,s2,o.trans z,t⟩
  exact H.elim
 |_=>exact λQ e h H=>H.elim
def XCI(P:Program)(f:FuncId)(args:Array Value)(h:zb)(R:Value->zb->Prop):Prop:=
 ∀(m:Nat) (B:World) (d:Nat),CallsIn (rf Te) m P f args (mk B d h) λe w'=>∃v b h',e=.returned v/\w'=mk B b h'/\R v h'
theorem zkm(z:P.follows .mixedOrders=Ta)(pl:Plan)(vs:List Value){fn:Func}{rs:List ResultVar}(A:P.funcs[f]?=Td fn)(i:Qy fn=Ta)(r:fn.results.toList=rs)(t:fn.ntmps=n)
  (u:Nat.ble vs.length n=Ta) {R:Value->zb->Prop} (H:WI P n pl (codeOf fn) (qkk P rs R) (z2s 0 vs) h):XCI P f vs.toArray h R:=by
 have p:fn.body=Td (codeOf fn):=by unfold Qy at i;unfold codeOf;split at i;rename_i c x;rw[x];cases i
 intro m B d;subst t;refine callsIn_of_wp A p trivial ?_ rfl;have y:vs.length<=fn.ntmps:=BS u;have s:Sat fn.ntmps (z2s 0 vs) { tmps:=vs.toArray++BJ (fn.ntmps-vs.toArray.size) undef,defers:=[] }:=by
  refine⟨rfl,by simp;omega,?_⟩;refine zba vs.toArray _ vs 0 λj v e=>?_;have k:j<vs.length:=by rcases AX j vs.length with h|h;exact h;rw[BH h]at e;cases e
  simp only[AL,BI];rw[Cv (by simpa using k)];simp[e]
 refine wpIn_mono (qca z (codeOf fn) _ _ _ H m B d _ s) ?_;rintro ex a w ⟨C,b,h1,rfl,s1,D,l⟩;cases ex with
 |normal=>obtain⟨v,q,o⟩:=Qx s1 r l;exact⟨s1.defers,v,o B b,v,b,h1,rfl,rfl,q⟩
 |ret=>obtain⟨v,q,o⟩:=Qx s1 r l;exact⟨s1.defers,v,o B b,v,b,h1,rfl,rfl,q⟩
 |_=>exact l.elim
end
end Go.X
end
section
namespace Go.X
section
variable {P:Program} {n m id:Nat} {ro:Option Nat} {e:Env} {h:zb} {a:Act}
theorem zpx{P:Program}{ops:Array Oper}{D:List Deferred}{K:Act->World->Prop}:∀(l:List Oper) (a:Act) (w:World),wpList P ops (zhs K) l a w->wpList P ops (zhs λb w1=>∃a0,b=Xx D a0/\K a0 w1) l (Xx D a) w
 |[],a,w,h=>⟨a,rfl,h⟩
 |o::l,a,w,h=>by
  unfold wpList at h ⊢;have k:yielded ops (Xx D a).tmps=yielded ops a.tmps:=rfl;rw[k];by_cases c:BU o (yielded ops a.tmps)=Ta;rw[if_pos c]at h ⊢;rcases h with h|⟨_,h⟩;exact .inl (Oper.wp_mono (λb w1 ⟨a0,e,i⟩=>by rw[e];exact zpx l a0 w1 i) (qdw h));exact(Yd h).elim;rw[if_neg c]at h ⊢;have f:(Xx D a).put o.dst undef=Xx D (a.put o.dst undef):=by cases o.dst <;> rfl
  rw[f];exact zpx l _ w h
def qk0(P:Program)(n:Nat)(ops:Array Oper)(b:Bool)(K:Env->zb->Prop)(e:Env)(h:zb):Prop:=
 bif ops.toList.all xy then(bif b then(bif zra ops then wI P n h Ta ops (λe'=>wB7 P n ops h K Ta (hvL ops).length [] (hvL ops) e' h) (Jf [] (Je ops [] ops.size) ops.size) e else False)else wR P n ops K ops.toList e h)else False
theorem znm(w:P.follows .mixedOrders=Ta){D:List Deferred}{ops:Array Oper}{c:Bool}{K:Env->zb->Prop}(H:qk0 P n ops c K e h)(B:World)(d:Nat)(q:Sat n e a){Q:Exit->Act->World->Prop}
  (s:∀e' a' b h',Sat n e' a'->K e' h'->Q .normal (Xx D a') (mk B b h')):(DO id ops c).wpIn (rf ro) m P Q (Xx D a) (mk B d h):=by
 unfold qk0 at H;cases hd:ops.toList.all xy with
 |false=>rw[hd]at H;exact H.elim
 |true=>
  rw[hd,cond_true]at H;have fin:∀k w1,(∃a0,k=Xx D a0/\∃e' b h',w1=mk B b h'/\Sat n e' a0/\K e' h')->Q .normal k w1:=by rintro k w1 ⟨a0,rfl,e',b,h',rfl,f,l⟩;exact s e' a0 b h' f l
  cases c with
  |false=>refine wpIn_region_list ?_;rw[<-AR ops.toList];exact zkl _ [] _ _ hd (zpx (K:=λa0 w1=>∃e' b h',w1=mk B b h'/\Sat n e' a0/\K e' h') _ _ _ (zdk B _ _ _ _ _ H q λe' a' b h' f l p=>⟨e',b,h',rfl,f,p⟩)) fin
  |true=>
   rw[cond_true]at H;cases hB:zra ops with
   |false=>rw[hB]at H;exact H.elim
   |true=>
    rw[hB]at H;have h0:wpAny P .any ops (zhs λa0 w1=>∃e' b h',w1=mk B b h'/\Sat n e' a0/\K e' h') ops.size (BJ ops.size Tc) a (mk B (d+1) h):= zmk B hB H q (λe' a' b h' f l p=>⟨e',b,h',rfl,f,p⟩) (d+1);refine wpIn_mono (wpIn_region_any (Q:=zhs λk w1=>∃a0,k=Xx D a0/\∃e' b h',w1=mk B b h'/\Sat n e' a0/\K e' h') w (zyq (λi o u=>?_) _ _ _ _ (zpv _ _ _ _ h0))) λx a' w' r=>?_;rw[Av]at hd;obtain⟨t,e⟩:=An.1 u;exact hd o (by rw[<-e];simp);cases x with
    |normal=>exact fin _ _ r
    |_=>exact r.elim
def WG(P:Program)(n:Nat):Code->zb8->Env->zb->Prop
 |.skip,Q,e,h=>Q .normal e h
 |.ret,Q,e,h=>Q .ret e h
 |.exit id,Q,e,h=>Q (.exit id) e h
 |.region _ ops draw,Q,e,h=>qk0 P n ops draw (λe h=>Q .normal e h) e h
 |.seq x y,Q,e,h=>WG P n x (zu2 (λe h=>WG P n y Q e h) Q) e h
 |.cond c x y,Q,e,h=>match X1 e [] c with
  |some (.bool b)=>(b=Ta->WG P n x Q e h)/\(b=Tc->WG P n y Q e h)
  |_=>False
 |.block id x,Q,e,h=>WG P n x (zi6 id Q) e h
 |_,_,_,_=>False
def qgu(n:Nat)(B:World)(D:List Deferred)(Q:zb8):Exit->Act->World->Prop:=
 λx a w=>∃e d h a0,a=Xx D a0/\w=mk B d h/\Sat n e a0/\Q x e h
theorem qjn{B:World}{D:List Deferred}{Q:zb8}:∀ex a w,qgu n B D (zi6 id Q) ex a w->Exit.inBlock id (qgu n B D Q) ex a w:=by
 rintro ex a1 w1 ⟨e,f,h1,a0,rfl,rfl,s1,b⟩;cases ex with
 |exit i=>simp only[zi6]at b;simp only[Exit.inBlock];by_cases c:Nat.beq i id=Ta;rw[if_pos (Al c)];simp only[c,cond_true]at b;exact⟨e,f,h1,a0,rfl,rfl,s1,b⟩;rw[if_neg (λh=>c (by rw[h];simp))];simp only[c,cond_false]at b;exact⟨e,f,h1,a0,rfl,rfl,s1,b⟩
 |_=>exact⟨e,f,h1,a0,rfl,rfl,s1,b⟩
theorem zys(C:P.follows .mixedOrders=Ta){D:List Deferred}:∀(c:Code) (Q:zb8) (e:Env) (h:zb),WG P n c Q e h ->
  ∀(B:World) (d:Nat) (a:Act),Sat n e a->c.wpIn (rf ro) m P (qgu n B D Q) (Xx D a) (mk B d h):=by
 intro c;induction c with
 |skip=>exact λQ e h H B d a f=>wpIn_skip ⟨e,d,h,a,rfl,rfl,f,H⟩
 |ret=>exact λQ e h H B d a f=>wpIn_ret ⟨e,d,h,a,rfl,rfl,f,H⟩
 |exit id=>exact λQ e h H B d a f=>wpIn_exit ⟨e,d,h,a,rfl,rfl,f,H⟩
 |region id ops r=>exact λQ e h H B d a f=>znm C H B d f λe' a' t h' l s=>⟨e',t,h',a',rfl,rfl,l,s⟩
 |seq x y k i=>
  intro Q e h H B d a f;refine wpIn_seq (wpIn_mono (k _ _ _ H B d a f) ?_);rintro ex a1 w1 ⟨A,q,h1,a0,rfl,rfl,s1,l⟩;cases ex with
  |normal=>exact i _ _ _ l B q a0 s1
  |_=>exact⟨A,q,h1,a0,rfl,rfl,s1,l⟩
 |cond c x y k i=>intro Q e h H B d a f;simp only[WG]at H;split at H;rename_i b z;have u:(Xx D a).eval c=.bool b:=qn f (c:=[]) trivial z;exact wpIn_cond_split u (λo=>k _ _ _ (H.1 o) B d a f) (λp=>i _ _ _ (H.2 p) B d a f);exact H.elim
 |block id x w=>intro Q e h H B d a f;exact wpIn_block (wpIn_mono (w _ _ _ H B d a f) qjn)
 |_=>exact λQ e h H=>H.elim
abbrev zq0:=LoopState->Option Code->Loop
def qnk(rec:zq0)(l:Nat)(K:Value->zb->Prop):zb8
 |.normal,_,h=>h[l]?=Td (.loop (rec .busy Te))/\K (.bool Ta) (h.setIfInBounds l (.loop (rec .ready Te)))
 |.ret,_,h=>h[l]?=Td (.loop (rec .busy Te))/\K (.bool Tc) (h.setIfInBounds l (.loop (rec .done (Td .ret))))
 |_,_,_=>False
def zax(P:Program)(n:Nat)(b bd:Code)(rec:zq0)(l:Nat)(K:Value->zb->Prop)(e:Env)(h:zb):Prop:=
 WG P n b (λx c h1=>match x with
  |.normal=>h1[l]?=Td (.loop (rec .ready Te))/\WG P n bd (qnk rec l K) c (h1.setIfInBounds l (.loop (rec .busy Te)))
  |_=>False) e h
theorem zyt(a:Act):Xx [] a=a:=by unfold Xx;rw[AR]
def qgv:Env->List Nat->List Value->Env
 |e,p::ps,v::vs=>qgv (putO e (Td p) [] v) ps vs
 |e,_,_=>e
def z1g:Array Value->List Nat->List Value->Array Value
 |t,p::ps,v::vs=>z1g (t.setIfInBounds p v) ps vs
 |t,_,_=>t
theorem znn:∀(ps:List Nat) (vs:List Value) (t:Array Value),(ps.zip vs).foldl (λ(t:Array Value) (x:Tmp×Value)=>t.setIfInBounds x.1 x.2) t=z1g t ps vs
 |[],_,_=>rfl
 |_::_,[],_=>rfl
 |p::ps,v::vs,t=>znn ps vs (t.setIfInBounds p v)
theorem ztj{n:Nat}:∀(ps:List Nat) (vs:List Value) (e:Env) (a:Act),(∀p∈ps,jk n [] (Td p)=Ta)->Sat n e a->Sat n (qgv e ps vs) { tmps:=z1g a.tmps ps vs,defers:=[] }
 |[],vs,e,a,_,hs=>by have:=hs.defers;cases a;simp only at this;subst this;exact hs
 |p::ps,[],e,a,_,hs=>by have:=hs.defers;cases a;simp only at this;subst this;exact hs
 |p::ps,v::vs,e,a,h,hs=>ztj ps vs _ (a.put (Td p) v) (λq c=>h q (Ae _ c)) (hs.putO (h p Am) (λ_=>rfl) (λb=>absurd trivial b))
theorem qdx(I:P.follows .mixedOrders=Ta){n l:Nat}{ps:List Nat}{f bd:Code}{fn:FuncId}{D:Nat}(z:∀p∈ps,jk n [] (Td p)=Ta) {rec:zq0} (b:rec=λst V=>{ state:=st,pending:=V,fn:=fn,tmps:=a.tmps,params:=ps.toArray,assign:=f,body:=bd,defers:=D }) {vs:List Value} (S:ps.length=vs.length) (Q:Sat n e a) (Y:h[l]?=Td (.loop (rec .ready Te))) {K:Value->zb->Prop}
  (H:zax P n f bd rec l K (qgv e ps vs) h):YX P l vs.toArray h K:=by
 intro m B d;have y:(mk B d h).heap[l]?=Td (.loop (rec .ready Te)):=Y;have G:=run_yield (P:=P) (w:=mk B d h) (args:=vs.toArray) y (by rw[b];show vs.toArray.size=ps.toArray.size;simp[S]);refine⟨_,_,_,_,G,?_⟩;rw[b]at G ⊢;have s2:=ztj ps vs e a z Q;have key:RoundIn (rf Te) m P l fn (z1g a.tmps ps vs) f bd (mk B d h) (λe w'=>∃v J h',e=.returned v/\w'=mk B J h'/\K v h'):=by
  refine roundIn_of_wpIn (F:=rf Te) trivial ?_;have O:(rf Te).inRound l=rf (Td l):=rfl;rw[O,<-zyt { tmps:=z1g a.tmps ps vs,defers:=[] }];refine wpIn_mono (zys I f _ _ _ H B d _ s2) ?_;rintro ex a1 w1 ⟨e1,E,h1,a0,rfl,rfl,s1,C⟩;cases ex with
  |normal=>
   obtain⟨L,U⟩:=C;have A:(mk B E h1).heap[l]?=Td (.loop (rec .ready Te)):=L;have N:=run_beginRound (P:=P) A (by rw[b]);refine⟨_,N,?_⟩;have i:({ rec .ready Te with state:=.busy }:Loop)=rec .busy Te:=by rw[b]
   rw[i];refine wpIn_mono (zys I bd _ _ _ U B E a0 s1) ?_;rintro ex a2 w2 ⟨e2,d2,q,Z,rfl,rfl,s3,r⟩;cases ex with
   |normal=>
    obtain⟨s,u⟩:=r;have k:(mk B d2 q).heap[l]?=Td (.loop (rec .busy Te)):=s;have c:=run_endRound (P:=P) Te k;refine⟨_,_,c,.bool Ta,d2,q.setIfInBounds l (.loop (rec .ready Te)),rfl,?_,u⟩;have o:({ rec .busy Te with state:=if(Te:Option Code).isNone then .ready else .done,pending:=Te }:Loop)=rec .ready Te:=by rw[b];rfl
    rw[o];rfl
   |ret=>
    obtain⟨s,u⟩:=r;have k:(mk B d2 q).heap[l]?=Td (.loop (rec .busy Te)):=s;have c:=run_endRound (P:=P) (Td .ret) k;refine⟨_,_,c,.bool Tc,d2,q.setIfInBounds l (.loop (rec .done (Td .ret))),rfl,?_,u⟩;have o:({ rec .busy Te with state:=if(Td Code.ret:Option Code).isNone then .ready else .done,pending:=Td .ret }:Loop)=rec .done (Td .ret):=by rw[b];rfl
    rw[o];rfl
   |_=>exact r.elim
  |_=>exact C.elim
 show RoundIn (rf Te) m P l fn (Array.foldl (λ(t:Array Value) (x:Tmp×Value)=>t.setIfInBounds x.1 x.2) a.tmps (ps.toArray.zip vs.toArray)) _ _ _ _;have M:Array.foldl (λ(t:Array Value) (x:Tmp×Value)=>t.setIfInBounds x.1 x.2) a.tmps (ps.toArray.zip vs.toArray)=z1g a.tmps ps vs:=by rw[<-znn];simp
 rw[M];exact key
def rfA:Code->Code
 |.rangeFunc _ _ x _=>x
 |.seq x y=>match rfA x with
  |.skip=>rfA y
  |c=>c
 |.block _ x=>rfA x
 |_=>.skip
def rfB:Code->Code
 |.rangeFunc _ _ _ y=>y
 |.seq x y=>match rfB x with
  |.skip=>rfB y
  |c=>c
 |.block _ x=>rfB x
 |_=>.skip
def marks(c:List Nat):List Deferred:=c.map λb=>{ target:=.collected b,args:=#[] }
abbrev zkn:=Exit->List Nat->Env->zb->Prop
def qmg(K:List Nat->Env->zb->Prop)(Q:zkn):zkn
 |.normal,ds,e,h=>K ds e h
 |x,ds,e,h=>Q x ds e h
def qdy(id:Nat)(Q:zkn):zkn
 |.exit i,ds,e,h=>bif Nat.beq i id then Q .normal ds e h else Q (.exit i) ds e h
 |x,ds,e,h=>Q x ds e h
def zko(rec:zq0)(l:Nat)(N R:zb->Prop)(h:zb):Prop:=
 (h[l]?=Td (.loop (rec .ready Te))/\N (h.setIfInBounds l (.loop (rec .exhausted Te))))\/(h[l]?=Td (.loop (rec .done (Td .ret)))/\R (h.setIfInBounds l (.loop (rec .exhausted (Td .ret)))))
def qdz(P:Program)(n:Nat)(o i:Nat)(c bd:Code)(v:Value)(Q:zkn)(k:List Nat)(e:Env)(h:zb):Prop:=
 bif jk n [] (Td o)&&jk n [] (Td i)then(∃g lb,v=.func (.func g) #[] lb/\zh P g=Ta/\∀rec:zq0,
  (∀{l m:Value} {f:zb} {K:Value->zb->Prop},f[h.size+1]?=Td (.loop (rec .ready Te))->zax P n c bd rec (h.size+1) K (putO (putO e (Td o) [] l) (Td i) [] m) f->YX P (h.size+1) #[l,m] f K) ->
  XCI P g (#[.func (.yield (h.size+1)) #[] #[]]++lb) ((h.push (.deferred (Td []))).push (.loop (rec .ready Te))) λ_ p=>zko rec (h.size+1) (λb=>Q .normal (h.size::k) e b) (λb=>Q .ret (h.size::k) e b) p)else False
def z7s(P:Program)(n:Nat)(l:Nat)(c bd:Code)(v:Value)(Q:zkn)(i:List Nat)(e:Env)(h:zb):Prop:=
 bif jk n [] (Td l)then(∃g lb,v=.func (.func g) #[] lb/\zh P g=Ta/\∀rec:zq0,
  (∀{k:Value} {f:zb} {K:Value->zb->Prop},f[h.size+1]?=Td (.loop (rec .ready Te))->zax P n c bd rec (h.size+1) K (putO e (Td l) [] k) f->YX P (h.size+1) #[k] f K) ->
  XCI P g (#[.func (.yield (h.size+1)) #[] #[]]++lb) ((h.push (.deferred (Td []))).push (.loop (rec .ready Te))) λ_ m=>zko rec (h.size+1) (λb=>Q .normal (h.size::i) e b) (λb=>Q .ret (h.size::i) e b) m)else False
def WD(P:Program)(n:Nat):Code->zkn->List Nat->Env->zb->Prop
 |.skip,Q,f,e,h=>Q .normal f e h
 |.ret,Q,f,e,h=>Q .ret f e h
 |.exit id,Q,f,e,h=>Q (.exit id) f e h
 |.region _ ops draw,Q,f,e,h=>qk0 P n ops draw (λe h=>Q .normal f e h) e h
 |.seq x y,Q,f,e,h=>WD P n x (qmg (λf e h=>WD P n y Q f e h) Q) f e h
 |.cond c x y,Q,f,e,h=>match X1 e [] c with
  |some (.bool b)=>(b=Ta->WD P n x Q f e h)/\(b=Tc->WD P n y Q f e h)
  |_=>False
 |.block id x,Q,f,e,h=>WD P n x (qdy id Q) f e h
 |.rangeFunc g ps asg bd,Q,f,e,h=>match X1 e [] g,ps.toList with
  |some v,[p1,p2]=>qdz P n p1 p2 asg bd v Q f e h
  |some v,[p1]=>z7s P n p1 asg bd v Q f e h
  |_,_=>False
 |_,_,_,_,_=>False
def qjo(n:Nat)(B:World)(Q:zkn):Exit->Act->World->Prop:=
 λx a w=>∃b e d h a0,a=Xx (marks b) a0/\w=mk B d h/\Sat n e a0/\Q x b e h
theorem zg7(w:1<=m){ps:Array Nat}{f bd:Code}{o:FuncId}{lb:Array Value}(F:zh P o=Ta){g:Operand}{Q:zkn}{k:List Nat}(x:Sat n e a)(G:(Xx (marks k) a).eval g=.func (.func o) #[] lb) (D:∀fn (rec:zq0),rec=(λst y=>{ state:=st,pending:=y,fn:=fn,tmps:=a.tmps,params:=ps,assign:=f,body:=bd,defers:=h.size }) -> XCI P o (#[.func (.yield (h.size+1)) #[] #[]]++lb) ((h.push (.deferred (Td []))).push (.loop (rec .ready Te))) λ_ r=>zko rec (h.size+1) (λt=>Q .normal (h.size::k) e t) (λt=>Q .ret (h.size::k) e t) r)
  (B:World) (d:Nat):(Code.rangeFunc g ps f bd).wpIn (rf Te) m P (qjo n B Q) (Xx (marks k) a) (mk B d h):=by
 refine wpIn_rangeFunc λp _=>?_;obtain⟨rec,b⟩:∃rec:zq0,rec=λst y=>{ state:=st,pending:=y,fn:=p,tmps:=a.tmps,params:=ps,assign:=f,body:=bd,defers:=h.size }:=⟨_,rfl⟩;have z:=D p rec b;refine⟨h.size+1,[{ target:=.collected h.size,args:=#[] }],mk B d ((h.push (.deferred (Td []))).push (.loop (rec .ready Te))),{ target:=.fn (.func o) lb,args:=#[.func (.yield (h.size+1)) #[] #[]] },mk B d ((h.push (.deferred (Td []))).push (.loop (rec .ready Te))),o,#[.func (.yield (h.size+1)) #[] #[]]++lb,mk B d ((h.push (.deferred (Td []))).push (.loop (rec .ready Te))),?_,?_,λ_ _=>trivial,?_,λ_=>w,?_⟩;rw[b];exact run_enterLoop_outer _ _ _ _ _;simp only[resolve,G];simp[go_sem,Dq];simp only[invoke];exact X6 F _ _;have E:({ Xx (marks k) a with defers:=[{ target:=.collected h.size,args:=#[] }]++(Xx (marks k) a).defers }:Act)=Xx (marks (h.size::k)) a:=by unfold Xx marks;simp only[x.defers];rfl
 rw[E];refine CallsIn.mono (z (m-1) B d) ?_;rintro e' w' ⟨v,s,r,rfl,rfl,l⟩;rcases l with⟨i,H⟩|⟨i,I⟩;have c:(mk B s r).heap[h.size+1]?=Td (.loop (rec .ready Te)):=i;have q:=run_endLoop (P:=P) c (by rw[b];intro C;cases C);have A:({ rec .ready Te with state:=.exhausted }:Loop)=rec .exhausted Te:=by rw[b]
 have u:(rec .ready Te).pending=Te:=by rw[b]
 rw[A,u]at q;exact⟨Te,_,q,_,e,s,_,a,rfl,rfl,x,H⟩;have c:(mk B s r).heap[h.size+1]?=Td (.loop (rec .done (Td .ret))):=i;have q:=run_endLoop (P:=P) c (by rw[b];intro C;cases C);have A:({ rec .done (Td .ret)with state:=.exhausted }:Loop)=rec .exhausted (Td .ret):=by rw[b]
 have u:(rec .done (Td .ret)).pending=Td .ret:=by rw[b]
 rw[A,u]at q;exact⟨Td .ret,_,q,wpIn_ret ⟨_,e,s,_,a,rfl,rfl,x,I⟩⟩
theorem qcb(V:P.follows .mixedOrders=Ta)(F:1<=m):∀(c:Code) (Q:zkn) (l:List Nat) (e:Env) (h:zb),WD P n c Q l e h ->
  ∀(B:World) (d:Nat) (a:Act),Sat n e a->c.wpIn (rf Te) m P (qjo n B Q) (Xx (marks l) a) (mk B d h):=by
 intro c;induction c with
 |skip=>exact λQ l e h H B d a f=>wpIn_skip ⟨l,e,d,h,a,rfl,rfl,f,H⟩
 |ret=>exact λQ l e h H B d a f=>wpIn_ret ⟨l,e,d,h,a,rfl,rfl,f,H⟩
 |exit id=>exact λQ l e h H B d a f=>wpIn_exit ⟨l,e,d,h,a,rfl,rfl,f,H⟩
 |region id ops Y=>exact λQ l e h H B d a f=>znm V H B d f λe' a' d' h' s Z=>⟨l,e',d',h',a',rfl,rfl,s,Z⟩
 |seq x y u t=>
  intro Q l e h H B d a f;refine wpIn_seq (wpIn_mono (u _ _ _ _ H B d a f) ?_);rintro ex a1 w1 ⟨q,G,C,h1,a0,rfl,rfl,s1,s⟩;cases ex with
  |normal=>exact t _ _ _ _ s B C a0 s1
  |_=>exact⟨q,G,C,h1,a0,rfl,rfl,s1,s⟩
 |cond c x y u t=>intro Q l e h H B d a f;simp only[WD]at H;split at H;rename_i b D;have hc:(Xx (marks l) a).eval c=.bool b:=qn f (c:=[]) trivial D;exact wpIn_cond_split hc (λN=>u _ _ _ _ (H.1 N) B d a f) (λU=>t _ _ _ _ (H.2 U) B d a f);exact H.elim
 |block id x ih=>
  intro Q l e h H B d a f;refine wpIn_block (wpIn_mono (ih _ _ _ _ H B d a f) ?_);rintro ex a1 w1 ⟨q,G,C,h1,a0,rfl,rfl,s1,s⟩;cases ex with
  |exit i=>simp only[qdy]at s;simp only[Exit.inBlock];by_cases D:Nat.beq i id=Ta;rw[if_pos (Al D)];simp only[D,cond_true]at s;exact⟨q,G,C,h1,a0,rfl,rfl,s1,s⟩;rw[if_neg (λhe=>D (by rw[he];simp))];simp only[D,cond_false]at s;exact⟨q,G,C,h1,a0,rfl,rfl,s1,s⟩
  |_=>exact⟨q,G,C,h1,a0,rfl,rfl,s1,s⟩
 |rangeFunc g ps ab bd ae aa=>
  intro Q l e h H B d a f;simp only[WD]at H;split at H;rename_i v z J M A;have o:ps=#[z,J]:=by rw[<-Array.toList_inj];exact A
  subst o;unfold qdz at H;cases k:(jk n [] (Td z)&&jk n [] (Td J))with
  |false=>rw[k]at H;exact H.elim
  |true=>rw[k]at H;rw[Ao]at k;obtain⟨gf,lb,rfl,L,I⟩:=H;exact zg7 F L f (qn f (c:=[]) trivial M) (λfn rec r=>I rec (λ {O v2 h2 K} S w=>qdx V (ps:=[z,J]) (vs:=[O,v2]) (by intro p E;simp only[Ai,CU,or_false]at E;rcases E with rfl|rfl;exact k.1;exact k.2) r rfl f S w)) B d
  rename_i v z M A;have o:ps=#[z]:=by rw[<-Array.toList_inj];exact A
  subst o;unfold z7s at H;cases k:jk n [] (Td z)with
  |false=>rw[k]at H;exact H.elim
  |true=>rw[k]at H;obtain⟨gf,lb,rfl,L,I⟩:=H;exact zg7 F L f (qn f (c:=[]) trivial M) (λfn rec r=>I rec (λ {O h2 K} S w=>qdx V (ps:=[z]) (vs:=[O]) (by intro p E;simp only[Ai,CU,or_false]at E;subst E;exact k) r rfl f S w)) B d
  exact H.elim
 |_=>exact λQ l e h H=>H.elim
def takeD:List Nat->(zb->Prop)->zb->Prop
 |[],K,h=>K h
 |b::ds,K,h=>h[b]?=Td (.deferred (Td []))/\takeD ds K (h.setIfInBounds b (.deferred Te))
def qnl(P:Program)(rs:List ResultVar)(R:Value->zb->Prop):zkn
 |.normal,ds,e,h=>takeD ds (λh'=>z2t P h' e rs λvs=>R (zi7 vs) h') h
 |.ret,ds,e,h=>takeD ds (λh'=>z2t P h' e rs λvs=>R (zi7 vs) h') h
 |_,_,_,_=>False
theorem zc9{P:Program}{fn:Func}{n:Nat}{rs:List ResultVar}(i:fn.results.toList=rs){e:Env}{a:Act}(k:Sat n e a){B:World}{R:Value->zb->Prop}{D:Nat}:∀(c:List Nat) (d:Nat) (h:zb),takeD c (λh'=>z2t P h' e rs λvs=>R (zi7 vs) h') h ->
  LeavesInM Fence.wide D P fn a.tmps (λe w'=>∃v m h',e=.returned v/\w'=mk B m h'/\R v h') (marks c) .returning (mk B d h)
 |[],d,h,H=>by obtain⟨v,o,l⟩:=Qx k i H;exact⟨v,l B d,v,d,h,rfl,rfl,o⟩
 |b::c,d,h,⟨h1,H⟩=>by have f:(mk B d h).heap[b]?=Td (.deferred (Td [])):=h1;exact⟨by simp,.inl ⟨_,_,rfl,run_takeDeferred (P:=P) f,zc9 i k c d _ H⟩⟩
theorem zkp(A:P.follows .mixedOrders=Ta)(vs:List Value){f:FuncId}{fn:Func}{rs:List ResultVar}(C:P.funcs[f]?=Td fn)(l:Qy fn=Ta)(q:fn.results.toList=rs)(y:fn.ntmps=n)(t:Nat.ble vs.length n=Ta){R:Value->zb->Prop}{F:Prop}(H:F)(D:F=WD P n (codeOf fn) (qnl P rs R) [] (z2s 0 vs) h):XC P f vs.toArray h R:=by
 have i:fn.body=Td (codeOf fn):=by unfold Qy at l;unfold codeOf;split at l;rename_i c u;rw[u];cases l
 intro B d;refine callsIn_wide.1 (callsIn_of_wp_marks (F:=Fence.wide) (n:=1) C i trivial ?_ rfl);subst y;have z:vs.length<=fn.ntmps:=BS t;have x:Sat fn.ntmps (z2s 0 vs) { tmps:=vs.toArray++BJ (fn.ntmps-vs.toArray.size) undef,defers:=[] }:=by
  refine⟨rfl,by simp;omega,?_⟩;refine zba vs.toArray _ vs 0 λj v k=>?_;have e:j<vs.length:=by rcases AX j vs.length with h|h;exact h;rw[BH h]at k;cases k
  simp only[AL,BI];rw[Cv (by simpa using e)];simp[k]
 have:=qcb A (m:=1) (by omega) (codeOf fn) _ [] _ _ (D ▸ H) B d _ x;rw[show marks []=[]from rfl,zyt]at this;refine wpIn_mono this ?_;rintro ex a w ⟨b,E,r,h1,a0,rfl,rfl,s1,o⟩;have p:(Xx (marks b) a0).defers=marks b:=by unfold Xx;rw[s1.defers];rfl
 have s:(Xx (marks b) a0).tmps=a0.tmps:=rfl;cases ex with
 |normal=>show LeavesInM _ _ _ _ _ _ _ _ _;rw[p,s];exact zc9 q s1 b r h1 o
 |ret=>show LeavesInM _ _ _ _ _ _ _ _ _;rw[p,s];exact zc9 q s1 b r h1 o
 |_=>exact o.elim
end
section
theorem ztk(c:Nat)(c1:Addr)(h:zb)(R:Value->zb->Prop) (H:∃x:Bt,zc h c1=Td (.string x)/\((decide ((((x).size:Int):Int)>65536))=Ta->YX Tp c #[.agg #[.int .i64 0,.int .i64 0,.int .i64 0],.int .i64 3] h (λF G=>∃A:Bool,F=.bool A/\R (.tuple #[]) G))/\((decide ((((x).size:Int):Int)>65536))=Tc->∃(z:Int->zb->Prop) (C:Int->zb->Nat),z 0 h/\∀e:Int,∀w:zb,z e w->(∃k:Bt,zc w c1=Td (.string k)/\((decide ((e:Int)<((k).size:Int)))=Ta->∃p:Bt,zc w c1=Td (.string p)/\XC Tp 198 #[.string p,.int .i64 e] w (λE q=>∃o:Int,∃u:Int,∃s:Int,∃b:Int,E=.tuple #[.agg #[.int .i64 o,.int .i64 u,.int .i64 s],.int .i64 b]/\let B:zb:=Cn q (.cells #[.int .i64 0,.int .i64 0,.int .i64 0] 90);XRunU Tp (Af 90 (.pointer (Td ⟨AZ q,0,Te⟩)) (.agg #[.int .i64 o,.int .i64 u,.int .i64 s])) B (λy=>∃r:Int,∃t:Int,∃m:Int,zd y ⟨AZ q,0,Te⟩ 0 [.int .i64 r,.int .i64 t,.int .i64 m]/\YX Tp c #[.agg #[.int .i64 r,.int .i64 t,.int .i64 m],.int .i64 b] y (λD l=>∃i:Bool,D=.bool i/\((bif (!i)then Ta else((b:Int) != 0))=Ta->R (.tuple #[]) l)/\((bif (!i)then Ta else((b:Int) != 0))=Tc->∃f:Int,zc l (Ad (Ad ⟨AZ q,0,Te⟩ 1) 1)=Td (.int .i64 f)/\(z f l/\C f l<C e w))))))/\((decide ((e:Int)<((k).size:Int)))=Tc->R (.tuple #[]) w)))):
  XCI Tp 197 #[.func (.yield c) #[] #[],.pointer (Td c1)] h R:=
 zkm Tryz.mixed ⟨[],[(3,[(3,.one (.int .i64))])],[]⟩ [.func (.yield c) #[] #[],.pointer (Td c1)] (rs:=[]) (n:=34) Tryz.func197 (by kernel_rfl) (by kernel_rfl) (by kernel_rfl) (by kernel_rfl) (Eq.mp (by kernel_rfl) H)
theorem zpy(C:Bt)(h:zb)(R:Value->zb->Prop) (H:let r:zb:=Cn h (.cells #[.slice Te 0 0] 83);let o:zb:=Cn r (.cells #[.int .i64 0] 3);let B:zb:=Cn o (.cells #[.int .i64 0] 27);let I:zb:=Cn B (.cells #[.slice Te 0 0] 83);XC Tp 113 #[.string C] I (λG c=>∃m:Value,G=m/\∃(q:FuncId) (p:Array Value),m=.func (.func q) #[] p/\zh Tp q=Ta/\∀k:zq0,(∀{x s:Value} {A:zb} {z:Value->zb->Prop},A[(AZ c+1)]?=Td (.loop (k .ready Te))->zax Tp 25 (rfA (codeOf Tryz.f60)) (rfB (codeOf Tryz.f60)) k (AZ c+1) z (putO (putO [(9,[],m),(8,[],.string C),(5,[],.pointer (Td ⟨AZ B,0,Te⟩)),(4,[],.pointer (Td ⟨AZ o,0,Te⟩)),(3,[],.pointer (Td ⟨AZ r,0,Te⟩)),(2,[],.pointer (Td ⟨AZ h,0,Te⟩)),(0,[],.string C)] (Td 10) [] x) (Td 11) [] s) A->YX Tp (AZ c+1) #[x,s] A z)->XCI Tp q (#[.func (.yield (AZ c+1)) #[] #[]]++p) (Cn (Cn c (.deferred (Td []))) (.loop (k .ready Te))) λ_ E=>zko k (AZ c+1) (λe=>∃b:Sl,zc e ⟨AZ B,0,Te⟩=Td (.slice b.a b.len b.cap)/\XRunU Tp (Af 83 (.pointer (Td ⟨AZ h,0,Te⟩)) (.slice b.a b.len b.cap)) e (λD=>XRunU Tp (Af 3 (.pointer (Td ⟨AZ r,0,Te⟩)) (.int .i64 ((C).size:Int))) D (λF=>XRunU Tp (Af 27 (.pointer (Td ⟨AZ o,0,Te⟩)) (.int .i64 0)) F (λl=>(l)[AZ c]?=Td (.deferred (Td []))/\∃i:Sl,zc (Array.setIfInBounds l (AZ c) (.deferred Te)) ⟨AZ h,0,Te⟩=Td (.slice i.a i.len i.cap)/\∃u:Int,zc (Array.setIfInBounds l (AZ c) (.deferred Te)) ⟨AZ r,0,Te⟩=Td (.int .i64 u)/\∃t:Int,zc (Array.setIfInBounds l (AZ c) (.deferred Te)) ⟨AZ o,0,Te⟩=Td (.int .i64 t)/\R (.tuple #[.slice i.a i.len i.cap,.int .i64 u,.int .i64 t]) (Array.setIfInBounds l (AZ c) (.deferred Te)))))) (λe=>(e)[AZ c]?=Td (.deferred (Td []))/\∃f:Sl,zc (Array.setIfInBounds e (AZ c) (.deferred Te)) ⟨AZ h,0,Te⟩=Td (.slice f.a f.len f.cap)/\∃w:Int,zc (Array.setIfInBounds e (AZ c) (.deferred Te)) ⟨AZ r,0,Te⟩=Td (.int .i64 w)/\∃y:Int,zc (Array.setIfInBounds e (AZ c) (.deferred Te)) ⟨AZ o,0,Te⟩=Td (.int .i64 y)/\R (.tuple #[.slice f.a f.len f.cap,.int .i64 w,.int .i64 y]) (Array.setIfInBounds e (AZ c) (.deferred Te))) E)):
  XC Tp 60 #[.string C] h R:=
 zkp Tryz.mixed [.string C] (rs:=[.cell 2 83,.cell 3 3,.cell 4 27]) (n:=25) Tryz.func60 (by kernel_rfl) (by kernel_rfl) (by kernel_rfl) (by kernel_rfl) H (by kernel_rfl)
theorem zet(x9:Value)(x8:Value)(B:Addr)(E:Addr)(C:Addr)(D:Addr)(x0:Value)(p:Int)(o:Int)(n:Int)(q:Int)(rec:zq0)(l:Nat)(K:Value->zb->Prop)(h:zb) (H:let x:zb:=Cn h (.cells #[.int .i64 0,.int .i64 0,.int .i64 0] 90);XRunU Tp (Af 90 (.pointer (Td ⟨AZ h,0,Te⟩)) (.agg #[.int .i64 p,.int .i64 o,.int .i64 n])) x (λt=>(t)[l]?=Td (.loop (rec .ready Te))/\let e:zb:=Array.setIfInBounds t l (.loop (rec .busy Te));(((q:Int) != 0)=Ta->∃i:Int,zc e (Ad (Ad ⟨AZ h,0,Te⟩ 1) 0)=Td (.int .i64 i)/\XRunU Tp (Af 83 (.pointer (Td D)) (.slice Te 0 0)) e (λr=>(r)[((Ad (Ad ⟨AZ h,0,Te⟩ 1) 0):Addr).block]?=(e)[((Ad (Ad ⟨AZ h,0,Te⟩ 1) 0):Addr).block]?/\XRunU Tp (Af 3 (.pointer (Td C)) (.int .i64 i)) r (λz=>XRunU Tp (Af 27 (.pointer (Td E)) (.int .i64 q)) z (λu=>(u)[l]?=Td (.loop (rec .busy Te))/\K (.bool Tc) (Array.setIfInBounds u l (.loop (rec .done (Td .ret))))))))/\(((q:Int) != 0)=Tc->∃c:Sl,zc e B=Td (.slice c.a c.len c.cap)/\∃m:Int,∃f:Int,∃k:Int,zd e ⟨AZ h,0,Te⟩ 0 [.int .i64 m,.int .i64 f,.int .i64 k]/\let A:zb:=Cn e (.cells #[.int .i64 m,.int .i64 f,.int .i64 k] 90);XRun Tp (Au #[83,83] 83 #[.slice c.a c.len c.cap,.slice (Td ⟨AZ e,0,Te⟩) 1 1]) A (λw y=>∃b:Sl,w=.slice b.a b.len b.cap/\XRunU Tp (Af 83 (.pointer (Td B)) (.slice b.a b.len b.cap)) y (λs=>(s)[l]?=Td (.loop (rec .busy Te))/\K (.bool Ta) (Array.setIfInBounds s l (.loop (rec .ready Te)))))))):
  zax Tp 25 (rfA (codeOf Tryz.f60)) (rfB (codeOf Tryz.f60)) rec l K [(11,[],.int .i64 q),(10,[],.agg #[.int .i64 p,.int .i64 o,.int .i64 n]),(9,[],x9),(8,[],x8),(5,[],.pointer (Td B)),(4,[],.pointer (Td E)),(3,[],.pointer (Td C)),(2,[],.pointer (Td D)),(0,[],x0)] h:=
 Eq.mp (by kernel_rfl) H
end
end Go.X
end
section
namespace Go.X
open Go Go.X Go.Proofs Go.RowKit
section
variable {g:zb} {i:Nat} {k f t:Int} {x9 x8 x0:Value} {K:Value -> zb -> Prop}
abbrev tTk:Ty:=.pair (.int .i64) (.pair (.int .i64) (.int .i64))
theorem qd0:ElemT Tp 83 90 (.agg #[.int .i64 0,.int .i64 0,.int .i64 0]) (sz tTk) 24:=⟨by kernel_rfl,⟨Tryz.t90,by kernel_rfl,by kernel_rfl,by kernel_rfl,by kernel_rfl⟩,rfl,by decide⟩
theorem qgw:qc Tp 83=Ta:=by kernel_rfl
theorem qgx:qi Tp 83=1:=by kernel_rfl
theorem qjp:qc Tp 3=Ta:=by kernel_rfl
theorem qjq:qi Tp 3=1:=by kernel_rfl
theorem qjr:qc Tp 27=Ta:=by kernel_rfl
theorem qjs:qi Tp 27=1:=by kernel_rfl
theorem qd1{M:Fr}(k f t:Int):Rd M tTk (k,(f,t)) (ztf k f t):=⟨[.int .i64 k],[.int .i64 f,.int .i64 t],rfl,rfl,[.int .i64 f],[.int .i64 t],rfl,rfl,rfl⟩
structure TkS (h:zb) (M:Fr) (b2 b3 b4 b5 bc D l:Nat) (rec:zq0) (s:Bs) (out:List Tk) (sl:Sl) (bs:List Nat) (g:zb):Prop where
 keep:Keep h.size h g
 c:Blk g bc #[.string (bl s)]
 d:g[D]?=Td (.deferred (Td []))
 rc:g[l]?=Td (.loop (rec .ready Te))
 r2:Blk g b2 #[.slice Te 0 0]
 r3:Blk g b3 #[.int .i64 0]
 r4:Blk g b4 #[.int .i64 0]
 r5:Blk g b5 #[slV sl]
 o:ORow (l+1) g M tTk out sl bs
structure Apart (h:zb) (b2 b3 b4 b5 bc D l:Nat):Prop where
 lo:h.size<=b2
 a3:b2<b3
 a4:b3<b4
 a5:b4<b5
 ac:b5<bc
 aD:bc<D
 al:l=D+1
theorem zk{i j:Nat}{o:Obj}(h:j≠i):(g.setIfInBounds i o)[j]?=g[j]?:=AB (Ne.symm h)
theorem set_self{o:Obj}(h:i<g.size):(g.setIfInBounds i o)[i]?=Td o:=Ci h
theorem lt_of_some{o:Obj}(h:g[i]?=Td o):i<g.size:=(An.1 h).1
section
variable {h : zb} {M : Fr} {b2 b3 b4 b5 bc D l : Nat} {rec : zq0} {s : Bs} {out : List Tk} {sl : Sl} {bs : List Nat} {g : zb}
set_option maxRecDepth 100000 in
set_option maxHeartbeats 1000000 in
theorem TkS.round(A:Apart h b2 b3 b4 b5 bc D l)(ag:AgM M h)(S:TkS h M b2 b3 b4 b5 bc D l rec s out sl bs g)(hn:out.length<=100000) (hK:∀g' aa bs',TkS h M b2 b3 b4 b5 bc D l rec s (out++[(k,(f,t))]) aa bs' g'->g.size<=g'.size->(∀j,j<g.size->j≠b5->j≠l->j∉bs->g'[j]?=g[j]?)->K (.bool Ta) g'):
  zax Tp 25 (rfA (codeOf Tryz.f60)) (rfB (codeOf Tryz.f60)) rec l K [(11,[],.int .i64 0),(10,[],.agg #[.int .i64 k,.int .i64 f,.int .i64 t]),(9,[],x9),(8,[],x8),(5,[],.pointer (Td ⟨b5,0,Te⟩)),(4,[],.pointer (Td ⟨b4,0,Te⟩)),(3,[],.pointer (Td ⟨b3,0,Te⟩)),(2,[],.pointer (Td ⟨b2,0,Te⟩)),(0,[],x0)] g:=by
 apply zet;intro r;have Q:Keep g.size g r:=Keep.push _ _ (Ab _);have ak:r.size=g.size+1:=Aj _;have af:Blk r g.size (ztf 0 0 0).toArray:=Blk.new _ _ _;clear_value r;have ll:=lt_of_some S.rc;have:=A.lo;have:=A.a3;have:=A.a4;have:=A.a5;have:=A.ac;have:=A.aD;have:=A.al;refine qgr af λE q1 q2 q3=>?_;have w:∀j,j<g.size->E[j]?=g[j]?:=λj p=>by rw[q1 j (by omega)];exact Q.get j p
 refine⟨by rw[w l ll];exact S.rc,?_⟩;intro i;have y:∀j,j≠l->i[j]?=E[j]?:=λj p=>zk p;have ae:i[l]?=Td (.loop (rec .busy Te)):=set_self (by omega);have aj:i.size=E.size:=A0;clear_value i;refine⟨λhx=>by simp at hx,λ_=>?_⟩;have B5:Blk i b5 #[slV sl]:=S.r5.keep (by rw[y b5 (by omega),w b5 (by omega)]);have Bt:Blk i g.size (ztf k f t).toArray:=q3.keep (y g.size (by omega));refine⟨sl,B5.cell rfl,k,f,t,Bt.ld,?_⟩;intro n;have x:Keep i.size i n:=Keep.push _ _ (Ab _);have ah:n.size=i.size+1:=Aj _;have Z:Blk n i.size (ztf k f t).toArray:=Blk.new _ _ _;clear_value n;have B:∀j,j<g.size->j≠l->n[j]?=g[j]?:=λj p I=>by rw[x.get j (by omega),y j I,w j p]
 have O:AgM M n:=λb c e=>by obtain⟨T,m,e'⟩:=(ag.keep S.keep) b c e;have hb:=ag.lt e;exact⟨T,m,by rw[B b (by have:=S.keep.size;omega) (by omega)];exact e'⟩
 have ab:ORow (l+1) n M tTk out sl bs:=S.o.frame (λc q=>by have:=S.o.own c q;exact B c this.2.1 (by omega)) (Fr.le.refl _) (λc q=>(S.o.own c q).2.2);refine ORow.app qd0 (by omega) O ab (by omega) Z (qd1 k f t) (by omega) λs' U bs' F ai am z=>⟨s',rfl,?_⟩;have C:∀c∈bs,l+1<=c:=λc q=>(S.o.own c q).1;have V:Blk U b5 #[slV sl]:=B5.keep (by rw[z b5 (by omega) (λu=>by have:=C _ u;omega)];exact x.get b5 (by omega));refine yg qgw qgx V (by show 0<1;omega) rfl λG u1 u3 Y=>?_;have N:∀j,j<g.size->j≠l->j≠b5->j∉bs->G[j]?=g[j]?:=λj p I J u=>by rw[Y j J,z j (by omega) u,B j p I]
 have L:G[l]?=Td (.loop (rec .busy Te)):=by rw[Y l (by omega),z l (by omega) (λu=>by have:=C _ u;omega),x.get l (by omega)];exact ae
 refine⟨L,hK _ s' bs' ?_ ?_ ?_⟩;have P:=lt_of_some L;have H:∀j,j<l->j≠b5->(G.setIfInBounds l (.loop (rec .ready Te)))[j]?=g[j]?:=λj p J=>by rw[zk (by omega)];exact N j (by omega) (by omega) J (λu=>by have:=C _ u;omega)
 refine⟨S.keep.trans ⟨?_,λj p=>H j (by omega) (by omega)⟩ (Ab _),S.c.keep (H bc (by omega) (by omega)),(H D (by omega) (by omega)).trans S.d,set_self P,S.r2.keep (H b2 (by omega) (by omega)),S.r3.keep (H b3 (by omega) (by omega)),S.r4.keep (H b4 (by omega) (by omega)),?_,?_⟩;rw[A0];have:=S.keep.size;omega;exact Blk.keep u1 (zk (by omega));refine F.frame (λc q=>?_) (Fr.le.refl _) (λc q=>(F.own c q).2.2);have:=(F.own c q).1;rw[zk (by omega),Y c (by omega)];rw[A0];omega;intro j p J I u;rw[zk I];exact N j p I J u
set_option maxRecDepth 100000 in
set_option maxHeartbeats 1000000 in
theorem TkS.err(A:Apart h b2 b3 b4 b5 bc D l)(S:TkS h M b2 b3 b4 b5 bc D l rec s out sl bs g){k f t e:Int}(I:¬e=0) (H:∀g',Keep h.size h g'->g'[D]?=Td (.deferred (Td []))->g'[l]?=Td (.loop (rec .done (Td .ret)))->Blk g' b2 #[.slice Te 0 0]->Blk g' b3 #[.int .i64 f]->Blk g' b4 #[.int .i64 e]->K (.bool Tc) g'):
  zax Tp 25 (rfA (codeOf Tryz.f60)) (rfB (codeOf Tryz.f60)) rec l K [(11,[],.int .i64 e),(10,[],.agg #[.int .i64 k,.int .i64 f,.int .i64 t]),(9,[],x9),(8,[],x8),(5,[],.pointer (Td ⟨b5,0,Te⟩)),(4,[],.pointer (Td ⟨b4,0,Te⟩)),(3,[],.pointer (Td ⟨b3,0,Te⟩)),(2,[],.pointer (Td ⟨b2,0,Te⟩)),(0,[],x0)] g:=by
 apply zet;intro i;have y:Keep g.size g i:=Keep.push _ _ (Ab _);have N:i.size=g.size+1:=Aj _;have B:Blk i g.size (ztf 0 0 0).toArray:=Blk.new _ _ _;clear_value i;have C:=lt_of_some S.rc;have:=A.lo;have:=A.a3;have:=A.a4;have:=A.a5;have:=A.ac;have:=A.aD;have:=A.al;refine qgr B λm J V G=>?_;have p:∀j,j<g.size->m[j]?=g[j]?:=λj n=>by rw[J j (by omega)];exact y.get j n
 refine⟨by rw[p l C];exact S.rc,?_⟩;intro c;have q:∀j,j≠l->c[j]?=m[j]?:=λj n=>zk n;have z:c[l]?=Td (.loop (rec .busy Te)):=set_self (by omega);have F:c.size=m.size:=A0;clear_value c;refine⟨λ_=>?_,λU=>by simp[I]at U⟩;have Bt:Blk c g.size (ztf k f t).toArray:=G.keep (q g.size (by omega));have b:∀j,j<g.size->j≠l->c[j]?=g[j]?:=λj n O=>(q j O).trans (p j n);refine⟨f,?_,?_⟩;rw[qd,qd];exact Bt.cell rfl;refine yg qgw qgx (S.r2.keep (b b2 (by omega) (by omega))) (by show 0<1;omega) rfl λL P u3 o=>⟨?_,?_⟩;rw[qd,qd];exact o g.size (by omega);refine yg qjp qjq (S.r3.keep ((o b3 (by omega)).trans (b b3 (by omega) (by omega)))) (by show 0<1;omega) rfl λE Q Z r=>?_;refine yg qjr qjs (S.r4.keep ((r b4 (by omega)).trans ((o b4 (by omega)).trans (b b4 (by omega) (by omega))))) (by show 0<1;omega) rfl λx w1 Y u=>?_;have w:x[l]?=Td (.loop (rec .busy Te)):=by rw[u l (by omega),r l (by omega),o l (by omega)];exact z
 refine⟨w,H _ ?_ ?_ (set_self (lt_of_some w)) ?_ ?_ ?_⟩;refine S.keep.trans ⟨by rw[A0];have:=S.keep.size;omega,λj n=>?_⟩ (Ab _);rw[zk (by omega),u j (by omega),r j (by omega),o j (by omega)];exact b j (by have:=S.keep.size;omega) (by omega);rw[zk (by omega),u D (by omega),r D (by omega),o D (by omega),b D (by omega) (by omega)];exact S.d;exact Blk.keep P (by rw[zk (by omega),u b2 (by omega),r b2 (by omega)]);exact Blk.keep Q (by rw[zk (by omega),u b3 (by omega)]);exact Blk.keep w1 (zk (by omega))
end
end
end Go.X
end
