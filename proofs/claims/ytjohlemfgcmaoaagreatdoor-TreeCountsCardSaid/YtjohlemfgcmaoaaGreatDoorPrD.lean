/- A part of the proof: nothing is stated here for its own sake. -/
import Derived.Test.YtjohlemfgcmaoaaGreatDoorPrC
import Derived.Lib.AppendZerosOnto
import Derived.RangeFuncCalls
open _root_.Go.Addr renaming add->Ad
open _root_.Array renaming getD_eq_getD_getElem?->BM,getElem?_append_left->CU,getElem?_eq_some_iff->An,getElem?_push->Cd,getElem?_setIfInBounds_ne->AB,getElem?_setIfInBounds_self_of_lt->CB,getElem?_toList->Cj,length_toList->CW,replicate->BN,size_push->Aj,size_setIfInBounds->AW
open _root_.BitVec renaming ofInt->BX
open _root_.Bool renaming and_eq_false_iff->CJ,and_eq_true->Ap,and_true->Dt,eq_iff_iff->AM,false_eq_true->Bc,false_or->D7,or_eq_false_iff->DV,or_eq_true->BO,true_and->Cs
open _root_.Go.Builtin renaming append_->Au
open _root_.Classical renaming byContradiction->C0
open _root_.Go.Code renaming cond->Ei,region->Ek
open _root_.Go.Deferred renaming ofValue->DX
open _root_.Go.Extern.AbiNoEscape renaming same->Ev
open _root_.False renaming elim->DD
open _root_.Go.Instr renaming lookup->Dw,mapUpdate->Cv,next->Di,storeAt->Af
open _root_.Int renaming toNat_natCast->Ai
open _root_.Go.IntKind renaming bits->Bj,wrap->Aa
open _root_.List renaming all_append->DG,all_cons->DJ,all_eq_true->Av,append_assoc->AF,append_nil->AQ,cons_append->AD,drop_drop->BU,drop_eq_getElem_cons->Bw,drop_eq_nil_of_le->Br,drop_zero->BZ,exists_cons_of_ne_nil->Bq,ext_getElem?->Bu,getElem?_append_left->BK,getElem?_append_right->BF,getElem?_drop->A9,getElem?_eq_getElem->Al,getElem?_eq_none->BL,getElem?_eq_some_iff->AY,getElem?_map->Bn,getElem?_modify->BJ,getElem?_take->AJ,getElem_append_left->BS,getElem_append_right->Ce,getElem_mem->AE,length->Ct,length_append->Ag,length_cons->Aq,length_drop->AH,length_eq_zero_iff->Bi,length_map->Ao,length_nil->AR,length_pos_iff->Bv,length_replicate->CI,length_take->AK,map_append->Bf,map_cons->Ar,map_map->A8,map_nil->Cp,mem_append->Ay,mem_append_left->As,mem_append_right->AC,mem_cons->Ah,mem_cons_of_mem->Ae,mem_cons_self->Am,mem_filter->CM,mem_flatMap->Cw,mem_map->AL,mem_of_getElem?->BD,mem_range->A1,mem_singleton->A4,nil_append->A5,nodup_append->CV,nodup_cons->Ba,nodup_nil->Dm,not_mem_nil->Dg,range->Bl,replicate->BE,take_length->A3,take_of_length_le->BG,take_succ_cons->Dd,take_succ_eq_append_getElem->Aw,take_take->Ec,take_zero->Dl
open _root_.List.cons renaming injEq->BV
open _root_.Nat renaming add_assoc->CP,add_sub_cancel_left->Db,add_zero->C7,blt_eq->CG,eq_of_beq_eq_true->Ak,le_of_ble_eq_true->Ca,le_of_lt->DZ,le_refl->Ab,le_trans->Ck,lt_or_ge->A6,min_eq_left->CE,mul_le_mul_right->AP,mul_one->Ci,not_lt_zero->Dc,pow_succ->Ef,strongRecOn->DF,sub_self->D3,succ_mul->C6,zero_add->AI,zero_le->AX,zero_mul->Eb
open _root_.Option renaming bind_some->C2,map_eq_some_iff->CF,map_some->Ep
open _root_.Option.some renaming inj->Az,injEq->Ac
open _root_.Prod.mk renaming injEq->Bh
open _root_.Go.Region renaming wanted->Cc
open _root_.Go.Proofs.Tryz renaming func212->Ee,prog->A0,underlying181->DC,underlying5->Bz,underlying9->BC
open _root_.UInt8 renaming ofNat->Bb
open _root_.Go.Utf8 renaming decode->Es,encode->En
open _root_.Go.Value renaming slice->Dv,string->AZ
set_option linter.unusedVariables false
set_option maxRecDepth 100000
namespace Go.X
end Go.X
namespace Go.Proofs
end Go.Proofs
open Go Go.X Go.Proofs
open _root_.Bool renaming true->Ta,false->Tc
open _root_.Option renaming some->Td,none->Te
section
namespace Go.X
open Go Go.X Go.Proofs Go.RowKit
section
theorem qmk{z:UInt8}(h:128<=z.toNat):Lib.indexByte [95] z=-1:=by
 have:z≠95:=by rintro rfl;revert h;decide
 unfold Lib.indexByte;simp[Lib.indexByte,this.symm]
theorem ix0{z:UInt8}:Lib.indexByte [] z=-1:=by simp[Lib.indexByte]
def VR(r:Int)(e:Ending):Prop:=∃b,e=.returned (.bool b)/\(b=Ta->(0<=r/\r<55296)\/(57343<r/\r<=1114111))
set_option maxHeartbeats 4000000 in
set_option maxRecDepth 1000000 in
theorem zu7(r:Int)(w:World):Calls Tp 300 #[.int .i32 r] w λe w'=>VR r e/\w'=w:=by
 have mixed:=Tryz.mixed
 go_enter Tryz.func300,Tryz.ntmps300
 by_cases h1:0<=r <;> by_cases f:r<55296 <;> by_cases c:57343<r <;> by_cases b:r<=1114111 <;> (go_wp2;go_ret;exact⟨⟨_,rfl,λh=>by first|omega|cases h⟩,rfl⟩)
theorem z5a(r:Int)(h:128<=r):(∃a z:UInt8,En r=⟨#[a,z]⟩/\128<=z.toNat)\/(∃a b z:UInt8,En r=⟨#[a,b,z]⟩/\128<=z.toNat)\/(∃a b c z:UInt8,En r=⟨#[a,b,c,z]⟩/\128<=z.toNat):=by
 have e:∀n:Nat,128<=(Bb (128+n % 64)).toNat:=λn=>by have:(Bb (128+n % 64)).toNat=(128+n % 64) % 256:=UInt8.toNat_ofNat;rw[this,Nat.mod_eq_of_lt (by omega)];omega
 have k:∃c:Nat,128<=c/\(if Utf8.valid r then r.toNat else Utf8.runeError)=c:=by refine⟨_,?_,rfl⟩;split;omega;decide
 obtain⟨c,l,f⟩:=k;unfold En;simp only[f];rw[if_neg (by omega)];by_cases h1:c<2048;rw[if_pos h1];exact .inl ⟨_,_,rfl,e _⟩;rw[if_neg h1];by_cases i:c<65536;rw[if_pos i];exact .inr (.inl ⟨_,_,_,rfl,e _⟩);rw[if_neg i];exact .inr (.inr ⟨_,_,_,_,rfl,e _⟩)
def IR(e:Ending):Prop:=∃n,e=.returned (.int .i64 n)
set_option maxHeartbeats 4000000 in
set_option maxRecDepth 1000000 in
theorem zu8(r:Int)(w:World)(h1:128<=r)(p:r≠65533):Calls Tp 269 #[.string ⟨#[43,45,95]⟩,.int .i32 r] w λe w'=>IR e/\Below w.heap.size w w':=by
 have mixed:=Tryz.mixed;have m:∀args w,(callFunc 212 args).run Tp w=.ok (.enter 212 args) w:=enters_of Ee (by kernel_rfl) rfl;have n:∀args w,(callFunc 300 args).run Tp w=.ok (.enter 300 args) w:=enters_of Tryz.func300 (by kernel_rfl) rfl;have q:¬r<128:=by omega
 go_enter Tryz.func269,Tryz.ntmps269
 go_wp2_with (go_at_fn 300;refine(zu7 _ _).mono ?_;rintro e w' ⟨⟨b,rfl,s⟩,o⟩;rw[o];cases b)
 go_ret
 exact⟨⟨_,rfl⟩,Below.refl _ _⟩
 ·rcases z5a r h1 with⟨a,z,k,l⟩|⟨a,b,z,k,l⟩|⟨a,b,c,z,k,l⟩
  ·have f:=λ(w:World)=>run_convert_int_string (P:=Tp) w 21 9 .i32 r (by kernel_rfl) (by kernel_rfl);rw[k]at f;refine wp_scope_straight ?_
   go_wp2
   go_loop [9] (λv=>v=.int .i64 1) (λ_=>0)
   case atStart=>rfl
   case round=>
    subst hrel
    go_wp2
    refine wp_scope_straight ?_;have i:((45:Int) != (z.toNat:Int))=Ta:=bne_iff_ne.2 (by omega)
    go_wp2
    go_region
    simp only[show ∀h,((⟨#[43,45,95]⟩:Bt)[1]'h)=45 from λ_=>rfl,show ∀h,((⟨#[a,z]⟩:Bt)[1]'h)=z from λ_=>rfl,show((45:UInt8).toNat:Int)=45 from rfl,i];all_goals go_wp2
    all_goals go_region_with (go_at_call 212;refine(jf _ _ _).mono ?_;rintro e w' ⟨rfl,rfl⟩)
    all_goals simp only[show ∀h,((⟨#[a,z]⟩:Bt)[1]'h)=z from λ_=>rfl,qmk l]
    all_goals go_wp2
    all_goals simp only[Exit.noGoto,Exit.inBlock]
    all_goals go_wp2
    all_goals simp only[Exit.noGoto,Exit.inBlock]
    all_goals go_wp2
    all_goals go_ret
    all_goals exact⟨⟨_,rfl⟩,zi7 w 2⟩
  ·have f:=λ(w:World)=>run_convert_int_string (P:=Tp) w 21 9 .i32 r (by kernel_rfl) (by kernel_rfl);rw[k]at f;refine wp_scope_straight ?_
   go_wp2
   go_loop [9] (λv=>v=.int .i64 2) (λ_=>0)
   case atStart=>rfl
   case round=>
    subst hrel
    go_wp2
    refine wp_scope_straight ?_;have i:((95:Int) != (z.toNat:Int))=Ta:=bne_iff_ne.2 (by omega)
    go_wp2
    go_region
    simp only[show ∀h,((⟨#[43,45,95]⟩:Bt)[2]'h)=95 from λ_=>rfl,show ∀h,((⟨#[a,b,z]⟩:Bt)[2]'h)=z from λ_=>rfl,show((95:UInt8).toNat:Int)=95 from rfl,i];all_goals go_wp2
    all_goals go_region_with (go_at_call 212;refine(jf _ _ _).mono ?_;rintro e w' ⟨rfl,rfl⟩)
    all_goals simp only[show ∀h,((⟨#[a,b,z]⟩:Bt)[2]'h)=z from λ_=>rfl,ix0]
    all_goals go_wp2
    all_goals simp only[Exit.noGoto,Exit.inBlock]
    all_goals go_wp2
    all_goals simp only[Exit.noGoto,Exit.inBlock]
    all_goals go_wp2
    all_goals go_ret
    all_goals exact⟨⟨_,rfl⟩,zi7 w 2⟩
  ·have f:=λ(w:World)=>run_convert_int_string (P:=Tp) w 21 9 .i32 r (by kernel_rfl) (by kernel_rfl);rw[k]at f;refine wp_scope_straight ?_
   go_wp2
   go_loop [9] (λv=>v=.int .i64 3) (λ_=>0)
   case atStart=>rfl
   case round=>
    subst hrel
    go_wp2
    go_ret
    exact⟨⟨_,rfl⟩,Below.refl _ _⟩
end
end Go.X
end
section
namespace Go.X
open Go Go.Lib
section
def qe7(l:Bs):Prop:=∀c∈l,c.toNat<128
theorem zaf(cs:Bs):∀l:Bs,containsAny l cs=l.any λc=>cs.contains c
 |[]=>by simp[containsAny,indexAny]
 |c::l=>by
  have i:=zaf cs l;have h:=indexAny_ge cs l;rw[List.any_cons,<-i];unfold containsAny;rw[indexAny];by_cases b:cs.contains c=Ta;rw[if_pos b,b];simp;have e:cs.contains c=Tc:=by simpa using b
  rw[if_neg b,e,D7];by_cases h1:indexAny l cs=-1;simp[h1];have f:(indexAny l cs==-1)=Tc:=by rw[beq_eq_false_iff_ne];exact h1
  rw[f,if_neg (by simp),AM,decide_eq_true_eq,decide_eq_true_eq];omega
end
end Go.X
end
section
namespace Go.X
section
theorem Xl(gl:Fr)(c:Bt)(b:Bt)(R:Bool->Prop) (H:PC Tp gl 265 [Arg.mk .str c,Arg.mk .str b] [.int .i64] (λa:Int=>R (decide (a>=0)))):
  PC Tp gl 209 [Arg.mk .str c,Arg.mk .str b] [.bool] R:=
 PF ⟨[],[],[],[]⟩ [.tmp 4] 9 Tryz.func209 H
theorem zcv(gl:Fr)(l:Bt)(k:Bt)(R:Int->Prop) (H:((k.toList==(⟨#[]⟩:Bt).toList)=Ta->R (-1))/\((k.toList==(⟨#[]⟩:Bt).toList)=Tc->(((k.size:Int)==1)=Ta->(0<=(0:Int)/\(0:Int)<(k.size:Int))/\∀a:Int->Prop,(∀b:Int,(PC Tp gl 269 [Arg.mk .str l,Arg.mk (.int .i32) b] [.int .i64] (λc:Int=>R c))->a b)->((decide ((Aa .i32 (zr k (0:Int).toNat))>=128))=Ta->a 65533)/\((decide ((Aa .i32 (zr k (0:Int).toNat))>=128))=Tc->a (Aa .i32 (zr k (0:Int).toNat))))/\(((k.size:Int)==1)=Tc->∀d:Prop,((∃(e:(Bt×Nat)->Prop) (f:(Bt×Nat)->Nat),e (l,0)/\∀h:Bt×Nat,e h->(((nxB h.1 h.2)=Ta->(nxB h.1 h.2)=Ta/\(nxB h.1 h.2)=Ta/\PC Tp gl 269 [Arg.mk .str k,Arg.mk (.int .i32) (nxR h.1 h.2)] [.int .i64] (λg:Int=>(decide (g>=0)=Ta->R (h.2:Int))/\(decide (g>=0)=Tc->(e (h.1,nxP h.1 h.2)/\f (h.1,nxP h.1 h.2)<f h))))/\((nxB h.1 h.2)=Tc->R (-1))))->d)->PC Tp gl 293 [Arg.mk (.int .i64) (l.size:Int)] [.bool] (λi:Bool=>(i=Ta->False)/\(i=Tc->d))))):
  PC Tp gl 265 [Arg.mk .str l,Arg.mk .str k] [.int .i64] R:=
 PF ⟨[],[],[(18,⟨[],[(45,[.dat .iter])],[],[1002880]⟩)],[(7,⟨[(5,.one (.dat (.int .i32)))],[],[],[100320]⟩),(17,⟨[],[],[],[]⟩)]⟩ [.tmp 4] 55 Tryz.func265 H
theorem Qb(gl:Fr)(h:Bt)(f:Int)(R:Int->Prop) (H:((bif (decide ((0:Int)<=f))then(decide (f<128))else Tc)=Ta->PC Tp gl 212 [Arg.mk .str h,Arg.mk (.int .u8) (Aa .u8 f)] [.int .i64] (λa:Int=>R a))/\((bif (decide ((0:Int)<=f))then(decide (f<128))else Tc)=Tc->((f==65533)=Ta->∃(b:(Bt×Nat)->Prop) (c:(Bt×Nat)->Nat),b (h,0)/\∀e:Bt×Nat,b e->(((nxB e.1 e.2)=Ta->(nxB e.1 e.2)=Ta/\(nxB e.1 e.2)=Ta/\(((nxR e.1 e.2:Int)==65533)=Ta->R (e.2:Int))/\(((nxR e.1 e.2:Int)==65533)=Tc->(b (e.1,nxP e.1 e.2)/\c (e.1,nxP e.1 e.2)<c e)))/\((nxB e.1 e.2)=Tc->R (-1))))/\((f==65533)=Tc->PC Tp gl 300 [Arg.mk (.int .i32) f] [.bool] (λd:Bool=>((!d)=Ta->R (-1))/\((!d)=Tc->False))))):
  PC Tp gl 269 [Arg.mk .str h,Arg.mk (.int .i32) f] [.int .i64] R:=
 PF ⟨[],[],[(38,⟨[],[(175,[.dat .iter])],[],[1011200]⟩)],[]⟩ [.tmp 4] 187 Tryz.func269 H
theorem Qg(gl:Fr)(b:Int)(R:Bool->Prop) (H:R (decide (b>8))):
  PC Tp gl 293 [Arg.mk (.int .i64) b] [.bool] R:=
 PF ⟨[],[],[],[]⟩ [.tmp 2] 5 Tryz.func293 H
end
end Go.X
end
section
namespace Go.X
open Go Go.X Go.Proofs Go.RowKit
section
variable {gl:Fr} {R:Int -> Prop}
theorem zjr{f:FuncId}{args:List Arg}{us:List Value}(c:zgs args=Td us)(l:∀n,R n)
  (H:∀w:World,Calls Tp f us.toArray w λe w'=>IR e/\Below w.heap.size w w'):PC Tp gl f args [.int .i64] R:=by
 intro h M vs m ag i;rw[zd7 c i];refine XC.of_calls λB d=>(H (mk B d h)).mono ?_;rintro e w' ⟨⟨n,rfl⟩,b⟩;have k:Keep h.size h w'.heap:=⟨b.size,b.block⟩;exact⟨_,rfl,b.os,b.tape,b.output,k,M,n,Fr.le.refl _,λ_ _=>rfl,ag.keep k,z3k _ _,l n⟩
theorem zrv{r:Int}(l:0<=r)(b:∀n,R n):PC Tp gl 269 [Arg.mk .str (bl [43,45,95]),Arg.mk (.int .i32) r] [.int .i64] R:=by
 by_cases h1:r<128;apply Qb;have e:(bif decide ((0:Int)<=r)then decide (r<128)else Tc)=Ta:=by simp[l,h1]
 rw[e];exact⟨λ_=>zab (b _),λf=>by cases f⟩;by_cases i:r=65533;subst i;apply Qb;refine⟨λ_=>zab (b _),λ_=>⟨λ_=>?_,λf=>by cases f⟩⟩;refine⟨λq=>∃p:Nat,q=(bl [43,45,95],p),λq=>3-q.2,⟨0,rfl⟩,?_⟩;rintro q ⟨p,rfl⟩;simp only[zre];refine⟨λc=>⟨c,c,λ_=>b _,λ_=>⟨⟨_,rfl⟩,?_⟩⟩,λ_=>b _⟩;have h:p < [43,45,95].length:=by simpa using c
 have k:p<3:=h;rw[zja _ _ h];have:=(wo (([43,45,95]:Bs).drop p)).1;omega;exact zjr (us:=[.string ⟨#[43,45,95]⟩,.int .i32 r]) rfl b λw=>zu8 r w (by omega) i
theorem z5b(w:World)(b c:Obj):Below w.heap.size w ((w.alloc b).alloc c):=((Below.refl _ w).alloc (Ab _) b).alloc (by show w.heap.size<=(w.heap.push b).size;simp) c
theorem z5c(l:Bs):(0:Int)<=((dec l).1:Int):=Int.natCast_nonneg _
theorem qe8{l:Bs}(C:l.length<=9){R:Bool->Prop}(h1:qe7 l->R (l.any λc=>[43,45,95].contains c))(x:¬qe7 l->∀b,R b):PC Tp gl 209 [Arg.mk .str (bl l),Arg.mk .str (bl [43,45,95])] [.bool] R:=by
 have h:∀(j:Nat) (b:UInt8),([43,45,95]:Bs)[j]?=Td b->b.toNat<128:=by intro j b f;have:b∈([43,45,95]:Bs):=BD f;simp at this;rcases this with rfl|rfl|rfl <;> decide
 by_cases k:qe7 l;refine zk3 (s:=bl l) (c:=bl [43,45,95]) (by rw[zf];omega) (by rw[zf];decide) ?_ ?_ ?_;rw[yg];exact λj b f=>k b (BD f);rw[yg];exact h;rw[yg,yg,zaf];exact h1 k;have f:=x k;apply Xl;by_cases B:l.length<=8;apply zcv;have y:((bl [43,45,95]).toList==(⟨#[]⟩:Bt).toList)=Tc:=by rw[qh0,yg];rfl
 have o:((((bl [43,45,95]).size:Int))==1)=Tc:=by rw[zf];rfl
 rw[y,o];refine⟨λi=>(by cases i),λ_=>⟨λi=>(by cases i),λ_ K u=>?_⟩⟩;apply Qg;have z:decide (((bl l).size:Int)>8)=Tc:=by rw[zf];simp;omega
 rw[z];refine⟨λi=>(by cases i),λ_=>u ?_⟩;refine⟨λq=>∃p:Nat,q=(bl l,p),λq=>l.length-q.2,⟨0,rfl⟩,?_⟩;rintro q ⟨p,rfl⟩;simp only[zre];refine⟨λm=>⟨m,m,?_⟩,λ_=>f _⟩;have A:p<l.length:=by simpa using m
 refine zrv (by rw[zrf];exact z5c _) λn=>⟨λ_=>f _,λ_=>⟨⟨_,rfl⟩,?_⟩⟩;rw[zja _ _ A];have:=(wo (l.drop p)).1;omega;refine zjr (us:=[.string (bl l),.string (bl [43,45,95])]) rfl (λn=>f _) λw=>?_;have r:=(zero_of_info (P:=Tp) (t:=169) (v:=.agg (BN 256 (.bool Tc))) (n:=256) (by kernel_rfl)).1;refine(Wu r (bl l) (bl [43,45,95]) w (by rw[zf];decide) (by rw[zf];omega) (by rw[zf];omega) (by rw[zf];decide) h).mono ?_;rintro e w' ⟨rfl,rfl⟩;exact⟨⟨_,rfl⟩,z5b w _ _⟩
end
section
variable {gl:Fr} {l:Bs}
theorem z5d{gl M:Fr}(m:zun gl)(k:Fr.le gl M){h:zb}(ag:AgM M h){fn s:Bt}(l:s.size<=281474976710656){b n:Int}{K:Value->zb->Prop}(i:∀t u h',Keep h.size h h'->K (.iface t u) h'):
  XC Tp 267 #[.string fn,.string s,.int .i64 b,.int .i64 n,.iface 287 (.int .i64 2)] h K:=by
 obtain⟨⟨cs,q,p,f,o⟩,_⟩:=m;refine XC.of_calls λB d=>(Jg fn s b n q (mk B d h) l (AgM.glob (w:=mk B d h) ag (k _ _ p) f) o).mono ?_;rintro e w' ⟨N,rfl,h1,r,c⟩;exact⟨_,rfl,c.os,c.tape,c.output,i _ _ _ ⟨c.size,c.block⟩⟩
theorem zok:∀{l:Bs} {c:UInt8} (n:Nat),c∈l->zkn c=Te->zlb n l=Te
 |x::l,c,n,b,hv=>by
  show(match zkn x with|some d=>zlb (16*n+d) l|none=>Te)=Te;rcases Ah.1 b with rfl|b;rw[hv];cases zkn x with
  |none=>rfl
  |some d=>exact zok _ b hv
theorem zxe{c:UInt8}(h:c.toNat<48\/c=95\/128<=c.toNat):zkn c=Te:=by
 have h':c.toNat<48\/c.toNat=95\/128<=c.toNat:=by rcases h with h|rfl|h <;> simp[*]
 unfold zkn;rw[if_neg (by omega),if_neg (by omega),if_neg (by omega)]
theorem zrw(p:GL gl)(f:l.length=4){R:Int×Bool->Prop}(h1:∀n:Nat,zlb 0 l=Td n->R ((n:Int),Ta))(i:zlb 0 l=Te->R (0,Tc)):
  PC Tp gl 329 [Arg.mk .str (bl l),Arg.mk (.int .i64) 16,Arg.mk (.int .i64) 32] [.int .u64,.err] R:=by
 intro h M vs m ag c
 match vs,c with
 |[u1,u2,u3],⟨a1,a2,a3,_⟩=>obtain rfl:=Wp a1;obtain rfl:=j4 a2;obtain rfl:=j4 a3;apply PX.of;apply zbi;refine zu6 f (λn h' e k=>?_) (λh' e k=>?_);exact⟨(n:Int),.nilIface,rfl,rfl,λb=>(by cases b),λ_=>⟨M,((n:Int),Ta),Later.same ag k,zrc _ _,h1 n e⟩⟩;refine⟨0,.iface _ _,rfl,rfl,λ_=>?_,λb=>(by cases b)⟩;refine z5d p.err m (ag.keep k) (by rw[zf];omega) λt u q o=>⟨_,rfl,M,(0,Tc),Later.same ag (k.trans o k.size),zuo _ _ _ _,i e⟩
theorem z5e(x:GL gl)(A:l.length<=1152921504606846976){R:Int×Bool->Prop}(h1:∀n:Nat,zjp l=Td n->R ((n:Int),Ta))(o:zjp l=Te->∀v,R (v,Tc)):
  PC Tp gl 328 [Arg.mk .str (bl l)] [.int .i32,.bool] R:=by
 apply zoj;simp only[zf,wb,show(0:Int).toNat=0 from rfl,show(4:Int).toNat=4 from rfl,BZ,Nat.sub_zero];by_cases y:l.length<4;have e:decide (((l.length:Nat):Int)<4)=Ta:=by rw[decide_eq_true_eq];omega
 have w:zjp l=Te:=by unfold zjp;rw[if_neg (by omega)]
 simp only[e];exact⟨λi=>(by cases i),λ_=>True,λi=>(by cases i),λr _=>⟨λ_=>o w 0,λi=>(by cases i)⟩⟩;have e:decide (((l.length:Nat):Int)<4)=Tc:=by rw[decide_eq_false_iff_not];omega
 simp only[e];have f:zjp l=zlb 0 (l.take 4):=by unfold zjp;rw[if_pos (by omega)]
 have u:(l.take 4).length=4:=by rw[AK];omega
 refine⟨λ_=>⟨by omega,by omega,by omega⟩,λr=>r=Ta->zjp l=Te,λ_=>?_,λr t=>⟨λi=>o (t rfl i) 0,λi=>⟨⟨by omega,by omega,by omega⟩,?_⟩⟩⟩;refine qe8 (l:=l.take 4) (by omega) (λp s=>?_) (λp b s=>?_);obtain⟨c,k,h⟩:=List.any_eq_true.1 s;rw[f];refine zok 0 k (zxe ?_);simp at h;rcases h with rfl|rfl|rfl;left;decide;left;decide;right;left;rfl;rw[f];have:∃c∈l.take 4,128<=c.toNat:=by refine C0 λq=>p λc k=>?_;refine C0 λz=>q ⟨c,k,by omega⟩
 obtain⟨c,k,h⟩:=this;exact zok 0 k (zxe (.inr (.inr h)));refine zrw x u (λn m=>?_) (λm=>o (f.trans m) _);have q:=zf3 (f.trans m);have:=h1 n (f.trans m);rw[zaa (by omega) (by omega)];exact this
end
section
variable {M:Fr} {h:zb} {K:Value -> zb -> Prop} {b o c:Nat}
def Brn(gl:Fr):Prop:=∃cs:Array Value,gl 7=Td cs/\cs[15]?=Td (.int .u8 4)
theorem Brn.mono{gl M:Fr}(h:Brn gl)(le:Fr.le gl M):Brn M:=by obtain⟨cs,e,h⟩:=h;exact⟨cs,le _ _ e,h⟩
theorem qe9(c:K (.bool Ta) h):XC Tp 273 #[.int .i64 16] h K:=by apply Zd;exact Eq.mpr (congrArg (λb=>K (.bool b) h) (by kernel_rfl)) c
theorem qml(f:Brn M)(ag:AgM M h)(i:K (.int .i64 4) h):XC Tp 274 #[.int .u64 16] h K:=by
 obtain⟨cs,e,c⟩:=f;apply Ye;refine⟨λb=>(by cases b),λ_=>?_⟩;apply Qe;refine⟨λb=>(by cases b),λ_=>⟨_,⟨rfl,by decide +kernel,by decide +kernel⟩,4,?_,4,rfl,i⟩⟩;have key:∀n:Nat,n=15->zc h (Ad ⟨7,0,Te⟩ n)=Td (.int .u8 4):=by rintro n rfl;exact ag.cell e c
 exact key _ (by kernel_rfl)
def ql9:Bs:=[48,49,50,51,52,53,54,55,56,57,97,98,99,100,101,102,103,104,105,106,107,108,109,110,111,112,113,114,115,116,117,118,119,120,121,122]
def dgH(k:Nat):UInt8:=ql9[k]?.getD 0
theorem zmi(k:Nat):zr (⟨#[48,49,50,51,52,53,54,55,56,57,97,98,99,100,101,102,103,104,105,106,107,108,109,110,111,112,113,114,115,116,117,118,119,120,121,122]⟩:Bt) k=((dgH k).toNat:Int):=jj ql9 k
def zba(c:Nat):Bs:=if c<16 then [dgH c]else [dgH 1,dgH (c % 16)]
def z65:Array Value:=#[.int .u8 0,.int .u8 0,.int .u8 0,.int .u8 0,.int .u8 0,.int .u8 0,.int .u8 0,.int .u8 0,.int .u8 0,.int .u8 0,.int .u8 0,.int .u8 0,.int .u8 0,.int .u8 0,.int .u8 0,.int .u8 0,.int .u8 0,.int .u8 0,.int .u8 0,.int .u8 0,.int .u8 0,.int .u8 0,.int .u8 0,.int .u8 0,.int .u8 0,.int .u8 0,.int .u8 0,.int .u8 0,.int .u8 0,.int .u8 0,.int .u8 0,.int .u8 0,.int .u8 0,.int .u8 0,.int .u8 0,.int .u8 0,.int .u8 0,.int .u8 0,.int .u8 0,.int .u8 0,.int .u8 0,.int .u8 0,.int .u8 0,.int .u8 0,.int .u8 0,.int .u8 0,.int .u8 0,.int .u8 0,.int .u8 0,.int .u8 0,.int .u8 0,.int .u8 0,.int .u8 0,.int .u8 0,.int .u8 0,.int .u8 0,.int .u8 0,.int .u8 0,.int .u8 0,.int .u8 0,.int .u8 0,.int .u8 0,.int .u8 0,.int .u8 0,.int .u8 0]
theorem qmm:qb Tp 5=Ta:=by kernel_rfl
theorem qmn:qi Tp 5=1:=by kernel_rfl
theorem qh8{l:Bs}{cap:Nat}(f:∀j (c:j<l.length),zc h ⟨b,o+j,Te⟩=Td (.int .u8 (l[j].toNat:Int)))(e:K (.string (bl l)) h):
  XRun Tp (convert 110 9 (.slice (Td ⟨b,o,Te⟩) l.length cap)) h K:=by
 intro B d;refine⟨_,d,h,run_convert_bytes_back (P:=Tp) (mk B d h) 110 9 5 ⟨b,o,Te⟩ cap l Tryz.underlying110 Bz BC λj c=>?_,e⟩;rw[zto,zi];exact f j c
theorem qh9(b:c<18446744073709551616):Aa .u64 (((BX (Bj .u64) (c:Int)) &&& (BX (Bj .u64) (15:Int))).toNat:Int)=((c % 16:Nat):Int):=by rw[show(15:Int)=((15:Nat):Int)from rfl,qkz b (by decide)];congr 1;exact Nat.and_two_pow_sub_one_eq_mod c 4
theorem z5f{k:Nat}(h:k<36):0<=(k:Int)/\(k:Int)<(((⟨#[48,49,50,51,52,53,54,55,56,57,97,98,99,100,101,102,103,104,105,106,107,108,109,110,111,112,113,114,115,116,117,118,119,120,121,122]⟩:Bt)).size:Int):=by have:(((⟨#[48,49,50,51,52,53,54,55,56,57,97,98,99,100,101,102,103,104,105,106,107,108,109,110,111,112,113,114,115,116,117,118,119,120,121,122]⟩:Bt)).size:Int)=36:=rfl;rw[this];omega
theorem z5g{g:zb}{cs:Array Value}(B:Blk g b cs)(e:o<cs.size){x:Int}{K:zb->Prop}(c:∀g',Blk g' b (cs.setIfInBounds o (.int .u8 x))->g'.size=g.size->(∀i,i≠b->g'[i]?=g[i]?)->K g'):XRunU Tp (Af 5 (.pointer (Td ⟨b,o,Te⟩)) (.int .u8 x)) g K:= yf qmm qmn B e rfl c
set_option maxRecDepth 100000 in
set_option maxHeartbeats 4000000 in
theorem qk9(hc:c<32)(hb:Brn M)(ag:AgM M h)(U:∀h',Keep h.size h h'->K (.tuple #[.slice Te 0 0,.string (bl (zba c))]) h'):
  XC Tp 224 #[.slice Te 0 0,.int .u64 (c:Int),.int .i64 16,.bool Tc,.bool Tc] h K:=by
 refine Zy ⟨Te,0,0⟩ (c:Int) 16 Tc Tc h K ?_;intro K2 C;refine⟨λb=>(by simp at b),λ_=>C _ ?_⟩;intro z;have Q:Keep h.size h z:=Keep.push _ _ (Ab _);have z3:z.size=h.size+1:=Aj _;have S:Blk z h.size z65:=Blk.new _ _ _;clear_value z;have L:=ag.keep Q;intro K6 H;refine⟨λb=>(by cases b),λ_=>H _ _ ?_⟩;intro V N;have A:Aa .u64 16=16:=by decide
 have D:Aa .u64 (16-1)=15:=by decide
 rw[A,D];refine qe9 ⟨Ta,rfl,λ_=>?_,λb=>(by cases b)⟩;refine qml hb L ⟨_,rfl,?_⟩;have p:z65.size=65:=rfl;have fin:∀(g:zb) (cs:Array Value) (u i:Nat),Keep h.size h g->Blk g h.size cs->cs.size=65->u<16->1<=i->i<=65->(∀j,j<65-i->∃x:UInt8,(zba c)[j+1]?=Td x/\cs[i+j]?=Td (.int .u8 (x.toNat:Int)))->(zba c).length=66-i->(zba c)[0]?=Td (dgH u) ->
   XRunU Tp (Af 5 (.pointer (Td (Ad ⟨h.size,0,Te⟩ (((i-1:Nat):Int).toNat*1)))) (.int .u8 (zr (⟨#[48,49,50,51,52,53,54,55,56,57,97,98,99,100,101,102,103,104,105,106,107,108,109,110,111,112,113,114,115,116,117,118,119,120,121,122]⟩:Bt) ((u:Int)).toNat))) g (λE=>V (((i-1:Nat):Int)) E):=by
  intro g cs u i n r w hu Y hi2 m y e;rw[Ai,Ai,Ci,zmi];rw[zi,AI];refine z5g r (by rw[w];omega) λP I z2 G=>N _ _ ?_;intro Z t;refine⟨λb=>(by cases b),λ_=>t _ _ ?_⟩;refine⟨λb=>(by cases b),λ_=>⟨⟨by omega,by omega,by omega⟩,?_⟩⟩;have F:Keep h.size h P:=⟨by have:=n.size;omega,λj l=>(G j (by omega)).trans (n.get j l)⟩;have B:Dv (zfb (Td ⟨h.size,0,Te⟩) 1 ((i-1:Nat):Int).toNat 65) ((65:Int).toNat-((i-1:Nat):Int).toNat) (65-((i-1:Nat):Int).toNat)=.slice (Td ⟨h.size,i-1,Te⟩) (zba c).length (65-(i-1)):=by rw[Ai,y,show(65:Int).toNat-(i-1)=66-i from by have:(65:Int).toNat=65:=rfl;omega];congr 1;unfold zfb;rw[if_neg (by omega)];simp only[Ep,zi,AI,Ci]
  rw[B];refine qh8 (λj l=>?_) ⟨_,rfl,U _ F⟩;refine I.cell ?_;rw[Array.getElem?_setIfInBounds];cases j with
  |zero=>rw[C7,if_pos rfl,if_pos (by rw[w];omega)];rw[Al l]at e;rw[Az e]
  |succ j=>rw[if_neg (by omega)];obtain⟨x,s,O⟩:=m j (by omega);rw[show i-1+(j+1)=i+j from by omega,O];rw[Al l]at s;rw[Az s]
 refine⟨λu i g=>Keep h.size h g/\((u=(c:Int)/\i=65/\Blk g h.size z65)\/(16<=c/\u=1/\i=64/\Blk g h.size (z65.setIfInBounds 64 (.int .u8 ((dgH (c % 16)).toNat:Int))))),λu _ _=>u.toNat,⟨Q,.inl ⟨rfl,rfl,S⟩⟩,?_⟩;rintro u i g ⟨n,⟨rfl,rfl,r⟩|⟨f,rfl,rfl,r⟩⟩;refine⟨λb=>?_,λb=>?_⟩;have f:16<=c:=by have:=of_decide_eq_true b;omega
 rw[qh9 (by omega)];have w64:Aa .i64 ((65:Int)-1)=64:=by decide
 rw[w64];refine⟨z5f (by omega),_,⟨rfl,by decide,by decide⟩,?_⟩;rw[Ai,zmi,zi];refine z5g (o:=64) r (by rw[p];omega) λP I z2 G=>⟨by decide,⟨⟨by have:=n.size;omega,λj l=>(G j (by omega)).trans (n.get j l)⟩,.inr ⟨f,?_,rfl,I⟩⟩,?_⟩;have:(min (Aa .u64 4).toNat 64)=4:=by decide
 rw[this];show(c:Int).fdiv 16=1;rw[Int.fdiv_eq_ediv_of_nonneg _ (by decide)];omega;have:(min (Aa .u64 4).toNat 64)=4:=by decide
 rw[this];show((c:Int).fdiv 16).toNat<(c:Int).toNat;rw[Int.fdiv_eq_ediv_of_nonneg _ (by decide)];omega;have f:c<16:=by have:=of_decide_eq_false b;omega
 have w64:Aa .i64 ((65:Int)-1)=((65-1:Nat):Int):=by decide
 rw[w64];refine⟨z5f (by omega),_,⟨rfl,by decide,by decide⟩,?_⟩;have q:zba c=[dgH c]:=by unfold zba;rw[if_pos f]
 exact fin g z65 c 65 n r rfl f (by omega) (by omega) (λj l=>by omega) (by rw[q];rfl) (by rw[q];rfl);refine⟨λb=>?_,λb=>?_⟩;exact absurd (of_decide_eq_true b) (by omega);have J:Aa .i64 ((64:Int)-1)=((64-1:Nat):Int):=by decide
 rw[J];refine⟨z5f (k:=1) (by omega),_,⟨rfl,by decide,by decide⟩,?_⟩;have q:zba c=[dgH 1,dgH (c % 16)]:=by unfold zba;rw[if_neg (by omega)]
 refine fin g _ 1 64 n r (by simp[p]) (by omega) (by omega) (by omega) (λj l=>?_) (by rw[q];rfl) (by rw[q];rfl);have:j=0:=by omega
 subst this;exact⟨_,by rw[q];rfl,by rw[Array.getElem?_setIfInBounds,if_pos rfl,if_pos (by rw[p];omega)]⟩
theorem zu9(e:c<32)(f:Brn M)(ag:AgM M h)(i:∀h',Keep h.size h h'->K (.string (bl (zba c))) h'):XC Tp 84 #[.int .i64 (c:Int),.int .i64 16] h K:=by apply zbg;apply Z7;refine⟨λl=>(by simp at l),λ_=>?_⟩;have m:Aa .u64 (c:Int)=(c:Int):=qev (by omega) (by omega);have b:decide ((c:Int)<0)=Tc:=decide_eq_false (by omega);rw[m,b];exact qk9 e f ag λh' k=>⟨⟨Te,0,0⟩,_,rfl,_,rfl,i h' k⟩
end
end Go.X
end
section
namespace Go.Proofs.YtjohlemfgcmaoaaGreatDoor
open Go Go.X Go.ChangeShapes Go.WideShapes Go.ChangeAt Go.RowKit Go.Lib
set_option linter.unusedVariables false
section
theorem qia{W:World}(h:laidMetH A0 zjk W):Brn (Fz W):=by
 have hl:laidMet A0 zjk W:=by rw[MakeChecks.laidMetH_plain _ _ _ (by kernel_rfl)]at h;exact h
 have hv : VarReads Tryz.prog W "math/bits.deBruijn64tab" (tabData .u8 [0, 1, 56, 2, 57, 49, 28, 3, 61, 58, 42, 50, 38, 29, 17, 4, 62, 47, 59, 36, 45, 43, 51, 22, 53, 39, 33, 30, 24, 18, 12, 5, 63, 55, 48, 27, 60, 41, 37, 16, 46, 35, 44, 21, 52, 32, 23, 11, 54, 26, 40, 15, 34, 20, 31, 10, 25, 14, 19, 9, 13, 8, 7, 6]) := by
  have := Go.Lib.laidMet.reads hl (List.mem_of_getElem? (show zjk[1]? = some ("math/bits.deBruijn64tab", Rows.laid_math_bits_deBruijn64tab) from rfl));have e:(Rows.laid_math_bits_deBruijn64tab:DataW Unit)=tabData .u8 [0,1,56,2,57,49,28,3,61,58,42,50,38,29,17,4,62,47,59,36,45,43,51,22,53,39,33,30,24,18,12,5,63,55,48,27,60,41,37,16,46,35,44,21,52,32,23,11,54,26,40,15,34,20,31,10,25,14,19,9,13,8,7,6]:=by kernel_rfl
  rw[<-e];exact this
 obtain⟨cs,h1,h2⟩:=z4j (g:=7) (t:=307) (e:=5) (m:=64) (by kernel_rfl) (by kernel_rfl) (by kernel_rfl) (by kernel_rfl) (by kernel_rfl) (by kernel_rfl) hv;exact⟨cs,h1,by rw[<-Cj,h2];rfl⟩
end
end Go.Proofs.YtjohlemfgcmaoaaGreatDoor
end
section
namespace Go.X
open Go Go.X Go.Proofs Go.RowKit
section
variable {b:Nat} {h h':zb} {s:Sl} {ln:Bool} {nd:Int} {l:Bs} {K:Value -> zb -> Prop}
def nU(o:Obj):Bool:=match o with
 |.cells _ T _=>!(Nat.beq T 5) && !(Nat.beq T 128)
 |_=>Ta
def Otk(h h':zb):Prop:=∀(i:Nat) (o:Obj),h[i]?=Td o->nU o=Ta->h'[i]?=Td o
theorem Otk.trans{a b c:zb}(x:Otk a b)(y:Otk b c):Otk a c:=λi o e n=>y i o (x i o e n) n
theorem Otk.keep(k:Keep h.size h h'):Otk h h':=λi o e _=>by have hi:i<h.size:=(An.1 e).1;rw[k.get i hi];exact e
theorem Otk.ne{cs:Array Value}{m:Nat×Nat}(e:h[b]?=Td (.cells cs 128 m))(f:∀i,i≠b->h'[i]?=h[i]?):Otk h h':=λi o c n=>by by_cases hi:i=b;subst hi;rw[e]at c;cases c;cases n;rw[f i hi];exact c
theorem Otk.own{base:Nat}{sz:Nat}{xs:List Value}(H:Owns h base 5 sz s xs)(f:∀i,i<h.size->(∀p,s.a=Td p->i≠p.block)->h'[i]?=h[i]?):Otk h h':=λi o b n=>by have hi:i<h.size:=(An.1 b).1;rw[f i hi λq m k=>?_];exact b;rcases H.2 with⟨c,_⟩|⟨g,cap,e,c,_,l,_⟩;rw[m]at c;cases c;have l:h[g]?=Td (.cells e 5 (0,0)):=l;rw[m]at c;injection c with e1 _ _;injection e1 with e1;rw[k,e1]at b;rw[l]at b;cases b;cases n
theorem qfa:liesAt Tp A0.depth 128 (4 / A0.cellsOf 128) 0 112 1=Ta:=by kernel_rfl
def Prn(h:zb)(b:Nat)(ln:Bool)(nd:Int)(l:Bs):Prop:=∃(p:Option Addr) (s:Sl),h[b]?=Td (.cells #[.pointer p,slV s,.bool ln,.int .i64 nd] 128 (0,0))/\(p=Te\/p=Td ⟨b,0,Te⟩)/\Owns h (b+1) 5 1 s (Lib.byteCells l)
theorem Prn.lt(H:Prn h b ln nd l):b<h.size:=by obtain⟨p,s,e,_⟩:=H;rcases A6 b h.size with q|q;exact q;rw[Array.getElem?_eq_none q]at e;cases e
theorem Prn.keep(H:Prn h b ln nd l)(k:Keep h.size h h'):Prn h' b ln nd l:=by have c:=H.lt;obtain⟨p,s,e,i,f⟩:=H;exact⟨p,s,by rw[k.get b c];exact e,i,f.keepN k⟩
theorem Prn.new(h:zb)(ln:Bool)(nd:Int):Prn (h.push (.cells #[.pointer Te,.slice Te 0 0,.bool ln,.int .i64 nd] 128)) h.size ln nd []:= ⟨Te,⟨Te,0,0⟩,yb _ _,.inl rfl,Owns.nil _ _ _ _⟩
set_option maxHeartbeats 1000000 in
set_option maxRecDepth 100000 in
theorem zrx(b:Nat)(w:World)(h0:w.cell? ⟨b,0,Te⟩=Td (.pointer Te))(c:w.shape? b=Td (128,4))(i:w.frozen? ⟨b,0,Te⟩=Tc):
  Calls Tp 152 #[.pointer (Td ⟨b,0,Te⟩)] w λe w'=>e=.returned (.tuple #[])/\w'=w.setCell ⟨b,0,Te⟩ (.pointer (Td ⟨b,0,Te⟩)):=by
 obtain⟨j,h,f⟩:=CF.1 zuy;have mixed:=Tryz.mixed
 go_enter Tryz.func152,Tryz.ntmps152
 go_wp2
 rw[Lib.run_to_unsafe w ⟨b,0,Te⟩ zrp zoe h (by rw[f];decide) c (Nat.zero_lt_succ 3)];simp only[Result.andThen];rw[Oper.upon_value]
 go_wp2
 rw[run_callFunc_extern Tryz.func219 (by kernel_rfl) (by kernel_rfl) (by kernel_rfl) (e:=Ev) (by kernel_rfl)];rw[Lib.run_noEscape];simp only[Result.andThen];rw[Oper.upon_value]
 go_wp2
 rw[Lib.run_from_unsafe w ⟨b,0,Te⟩ zoe zrp h c qfa];simp only[Result.andThen];rw[Oper.upon_value]
 go_wp2
 go_end0
 exact⟨rfl,rfl⟩
theorem qma(H:Prn h b ln nd l)(m:∀h',Prn h' b ln nd l->Keep b h h'->h'.size=h.size->Otk h h'->K (.tuple #[]) h'):XC Tp 152 #[.pointer (Td ⟨b,0,Te⟩)] h K:=by
 have f:=H.lt;obtain⟨p,s,e,n,k⟩:=H;have c:∀B d,(mk B d h).cell? ⟨b,0,Te⟩=Td (.pointer p):=λB d=>by have:(mk B d h).heap[b]?=Td (.cells #[.pointer p,slV s,.bool ln,.int .i64 nd] 128 (0,0)):=e;simp[World.cell?,this]
 rcases n with rfl|rfl;refine XC.of_calls λB d=>(zrx b (mk B d h) (c B d) ?_ ?_).mono ?_
 have:(mk B d h).heap[b]?=Td (.cells #[.pointer Te,slV s,.bool ln,.int .i64 nd] 128 (0,0)):=e;simp[World.shape?,this];exact zfk ⟨_,e⟩ B d;rintro e' w' ⟨rfl,rfl⟩;rw[zmf e];refine⟨_,rfl,rfl,rfl,rfl,?_⟩;show K _ (h.setIfInBounds b _);refine m _ ⟨_,s,?_,.inr rfl,?_⟩ ?_ (by simp) (Otk.ne e λi hi=>AB (Ne.symm hi));rw[CB f];rfl;refine k.keep λq o=>?_;have:=k.base_le q o;rw[AB (by omega)];exact Keep.setBlk _ (Ab _);refine XC.of_calls λB d=>(zme b (mk B d h) (c B d)).mono ?_;rintro e' w' ⟨rfl,rfl⟩;exact⟨_,rfl,rfl,rfl,rfl,m _ ⟨_,s,e,.inr rfl,k⟩ (Keep.refl _ _) rfl (Otk.keep (Keep.refl _ _))⟩
theorem z5h{p:Option Addr}{s t:Sl}(e:h[b]?=Td (.cells #[.pointer p,slV t,.bool ln,.int .i64 nd] 128 (0,0)))(k:p=Te\/p=Td ⟨b,0,Te⟩)(i:Owns h (b+1) 5 1 s (Lib.byteCells l)){K:zb->Prop}
  (r:∀h',Prn h' b ln nd l->Keep b h h'->h'.size=h.size->Otk h h'->K h'):XRunU Tp (Af 110 (.pointer (Td ⟨b,1,Te⟩)) (.slice s.a s.len s.cap)) h K:=by
 intro B d;obtain⟨h',n,u,f,c⟩:=Qx (P:=Tp) z4t z4u e (o:=1) (v:=slV s) rfl (by simp) (by simp[slV,Value.cells,Value.oneCell']) B d;refine⟨d,h',n,r h' ⟨p,s,?_,k,?_⟩ (Keep.ne f c) f (Otk.ne e c)⟩;rw[u];rfl;refine i.keep λq m=>?_;have:=i.base_le q m;exact c _ (by omega)
theorem Qq(H:Prn h b ln nd l)(hl:l.length<140737488355328)(c:UInt8)(F:∀h',Prn h' b ln nd (l++[c])->Keep b h h'->Otk h h'->K .nilIface h'):
  XC Tp 81 #[.pointer (Td ⟨b,0,Te⟩),.int .u8 (c.toNat:Int)] h K:=by
 apply j5;refine qma H λf C k2 z2 E=>⟨rfl,_,rfl,?_⟩;have y:=C.lt;obtain⟨p,s,e,J,t⟩:=C;have r:=t.1;rw[Lib.byteCells_length,Ci]at r;refine⟨s,Blk.cellAdd (o:=0) (k:=1) (cs:=#[.pointer p,slV s,.bool ln,.int .i64 nd]) ⟨_,e⟩ rfl,?_⟩;intro m;have u:Keep f.size f m:=Keep.push _ _ (Ab _);have Z:m.size=f.size+1:=Aj _;have b5:Blk m f.size #[.int .u8 (c.toNat:Int)]:=Blk.new _ _ _;have L:m[b]?=Td (.cells #[.pointer p,slV s,.bool ln,.int .i64 nd] 128 (0,0)):=by rw[u.get b y];exact e
 have B:=t.keepN u;clear_value m;refine za2 elemU8 B (src:=⟨Td ⟨f.size,0,Te⟩,1,1⟩) (news:=[.int .u8 (c.toNat:Int)]) (n:=m.size) ?_ rfl (by simp[Value.oneCell']) (by simp only;omega) (by simp only;omega) (by omega) λD A Y O x q4 V=>⟨D,rfl,_,rfl,?_⟩;refine .inr ⟨f.size,0,rfl,by omega,λi v z=>?_⟩
 match i,z with
 |0,z=>cases z;exact b5.cell rfl
 have P:A[b]?=Td (.cells #[.pointer p,slV s,.bool ln,.int .i64 nd] 128 (0,0)):=by rw[x b (by omega) λq w=>by have:=t.base_le q w;omega];exact L
 have G:Owns A (b+1) 5 1 D (Lib.byteCells (l++[c])):=by
  have:Lib.byteCells (l++[c])=Lib.byteCells l++[.int .u8 (c.toNat:Int)]:=by unfold Lib.byteCells;rw[Bf];rfl
  rw[this];exact O
 have S:Keep b h A:=k2.trans ⟨by omega,λi hi=>by rw[x i (by omega) λq w=>by have:=t.base_le q w;omega];exact u.get i (by omega)⟩ (Ab _);refine z5h P J G λN Q M U I=>F N Q (S.trans M (Ab _)) (E.trans ((Otk.keep u).trans ((Otk.own B x).trans I)))
theorem Ys(H:Prn h b ln nd l)(t:Bs)(hl:l.length+t.length<=140737488355328)(E:∀h',Prn h' b ln nd (l++t)->Keep b h h'->Otk h h'->K (.tuple #[.int .i64 (t.length:Int),.nilIface]) h'):
  XC Tp 85 #[.pointer (Td ⟨b,0,Te⟩),.string (bl t)] h K:=by
 apply jb;refine qma H λG z k2 z2 C=>⟨rfl,_,rfl,?_⟩;have L:=z.lt;obtain⟨p,s,e,U,f⟩:=z;have n:=f.1;rw[Lib.byteCells_length,Ci]at n;refine⟨s,Blk.cellAdd (o:=0) (k:=1) (cs:=#[.pointer p,slV s,.bool ln,.int .i64 nd]) ⟨_,e⟩ rfl,?_⟩;have c:=zf t;refine za7 elemU8 f (x:=.string (bl t)) (m:=(bl t).size) (news:=Lib.byteCells t) (λB d=>?_) (by rw[c];omega) (by rw[c];omega) (by omega) λA y Y N u q4 Z=>⟨A,rfl,_,rfl,?_⟩;have:=Src.ofString (P:=Tp) (w:=mk B d G) qk7 (bl t);have D:byteCells (bl t)=Lib.byteCells t:=by unfold byteCells Lib.byteCells;have:(bl t).data.toList=t:=yg t;rw[this]
 rw[D]at this;exact this;have O:y[b]?=Td (.cells #[.pointer p,slV s,.bool ln,.int .i64 nd] 128 (0,0)):=by rw[u b (by omega) λq r=>by have:=f.base_le q r;omega];exact e
 have F:Owns y (b+1) 5 1 A (Lib.byteCells (l++t)):=by
  have:Lib.byteCells (l++t)=Lib.byteCells l++Lib.byteCells t:=by unfold Lib.byteCells;rw[Bf]
  rw[this];exact N
 have S:Keep b h y:=k2.trans ⟨by omega,λi hi=>u i (by omega) λq r=>by have:=f.base_le q r;omega⟩ (Ab _);refine z5h O U F λM Q I V J=>?_;rw[c];exact E M Q (S.trans I (Ab _)) (C.trans ((Otk.own f u).trans J))
theorem zva(b:Nat)(p:Value)(ln:Bool)(nd:Int)(v:Value)(l:Bs)(w:World)(i:w.heap[b]?=Td (.cells #[p,v,.bool ln,.int .i64 nd] 128 (0,0)))(f:w.ownsRow (b+1) 5 1 v l.length (Lib.byteCells l))(h0:l≠[]):
  Calls Tp 87 #[.pointer (Td ⟨b,0,Te⟩)] w λe w'=>e=.returned (.string ⟨l.toArray⟩)/\Below (b+1) w w':=by
 have m:l.length≠0:=by simpa using h0
 obtain⟨g,cap,c,rfl,n,s,t,A,y,h⟩:∃g cap c,v=.slice (Td ⟨g,0,Te⟩) l.length cap/\b+1<=g/\w.heap[g]?=Td (.cells c 5 (0,0))/\_:=by rcases f.2 with⟨_,o⟩|⟨g,cap,c,B,r⟩;exact absurd o m;exact⟨g,cap,c,B,r⟩
 have c1:w.drew.cell? ⟨b,1,Te⟩=Td (.slice (Td ⟨g,0,Te⟩) l.length cap):=by have:w.drew.heap[b]?=Td (.cells #[p,.slice (Td ⟨g,0,Te⟩) l.length cap,.bool ln,.int .i64 nd] 128 (0,0)):=i;rw[Lib.cell_of_heap this];rfl
 have z:(Builtin.unsafeSliceData_ #[110] 181 #[.slice (Td ⟨g,0,Te⟩) l.length cap]).run Tp w.drew=.ok (.pointer (Td ⟨g,0,Te⟩)) w.drew:= Lib.run_unsafeSliceData_row _ _ _ _ _ _ (by omega);have q:(Builtin.unsafeString_ #[181,3] 9 #[.pointer (Td ⟨g,0,Te⟩),.int .i64 l.length]).run Tp w.drew=.ok (.string ⟨l.toArray⟩) (w.drew.freeze ⟨g,0,Te⟩ l.length):=by refine Lib.run_unsafeString_row w.drew 181 3 9 5 DC (by kernel_rfl) g c.size (by have k:w.drew.heap[g]?=Td (.cells c 5 (0,0)):=s;simp[World.shape?,k]) l h0 (by omega) (by have:maxLen=9223372036854775807:=rfl;omega) ?_;intro j x u;have:=f.cells (g:=g) rfl j (.int .u8 x.toNat) (by simp[Lib.byteCells,u]);exact this
 have mixed:=Tryz.mixed
 go_enter Tryz.func87,Tryz.ntmps87
 go_wp2
 go_region_o
 all_goals (go_wp2;go_ret;exact⟨rfl,Lib.below_freeze (Below.drew (Below.refl (b+1) w)) (p:=⟨g,0,Te⟩) n _⟩)
theorem qfb(H:Prn h b ln nd l)(h0:l≠[])(m:∀h',Keep b h h'->K (.string (bl l)) h'):XC Tp 87 #[.pointer (Td ⟨b,0,Te⟩)] h K:=by obtain⟨p,s,e,n,k⟩:=H;have f:=k.1;rw[Lib.byteCells_length,Ci]at f;refine XC.of_calls λB d=>(zva b (.pointer p) ln nd (slV s) l (mk B d h) e (by rw[f];exact k) h0).mono ?_;rintro e' w' ⟨rfl,c⟩;exact⟨_,rfl,c.os,c.tape,c.output,m _ ⟨c.size,λi hi=>c.block i (by omega)⟩⟩
end
end Go.X
end
section
namespace Go.X
section
theorem zhd(b:Int)(c:Bt)(d:Sl)(e:Sl)(h:zb)(R:Value->zb->Prop) (H:let f:=h.push (.cells #[.int .i64 b,.string c,slV d,slV e] 26);∃g i j k,zd f ⟨h.size,0,Te⟩ 0 [.int .i64 g,.string i,slV j,slV k]/\XC Tp 33 #[.agg #[.int .i64 g,.string i,slV j,slV k]] f (λl m=>∃n,l=.bool n/\((!n)=Ta->R (.tuple #[.string (⟨#[]⟩:Bt),.int .i64 1]) m)/\((!n)=Tc->let o:=m.push (.cells #[.pointer Te,.slice Te 0 0,.bool Tc,.int .i64 0] 128);∃p q r s,zd o ⟨h.size,0,Te⟩ 0 [.int .i64 p,.string q,slV r,slV s]/\XC Tp 97 #[.pointer (Td ⟨m.size,0,Te⟩),.agg #[.int .i64 p,.string q,slV r,slV s],.int .i64 0] o (λt u=>t=.tuple #[]/\XC Tp 87 #[.pointer (Td (Ad ⟨m.size,0,Te⟩ 0))] u (λv w=>∃x,v=.string x/\R (.tuple #[.string x,.int .i64 0]) w))))):
  XC Tp 34 #[.agg #[.int .i64 b,.string c,.slice d.a d.len d.cap,.slice e.a e.len e.cap]] h R:=
 XF ⟨[],[],[]⟩ [.tmp 2,.tmp 3] 12 Tryz.func34 H
theorem Xm(L:Option Addr)(b:Int)(c:Bt)(d:Sl)(e:Sl)(J:Int)(h:zb)(R:Value->zb->Prop) (H:let f:=h.push (.cells #[.int .i64 b,.string c,slV d,slV e] 26);∃g,zc f (Ad ⟨h.size,0,Te⟩ 0)=Td (.int .i64 g)/\((g==1)=Ta->∃i,L=Td i/\XC Tp 85 #[.pointer (Td (Ad i 0)),.string (⟨#[110,117,108,108]⟩:Bt)] f (λj k=>∃l,∃m:Value,j=.tuple #[.int .i64 l,m]/\R (.tuple #[]) k))/\((g==1)=Tc->((g==4)=Ta->∃n,zc f (Ad ⟨h.size,0,Te⟩ 1)=Td (.string n)/\XC Tp 168 #[.pointer L,.string n] f (λo p=>o=.tuple #[]/\R (.tuple #[]) p))/\((g==4)=Tc->((g==5)=Ta->∃q r s t,zd f ⟨h.size,0,Te⟩ 0 [.int .i64 q,.string r,slV s,slV t]/\XC Tp 169 #[.pointer L,.agg #[.int .i64 q,.string r,slV s,slV t],.int .i64 J,.string (⟨#[91,93]⟩:Bt),.func (.func 170) #[.pointer L] #[]] f (λu v=>u=.tuple #[]/\R (.tuple #[]) v))/\((g==5)=Tc->((g==6)=Ta->∃w x y z,zd f ⟨h.size,0,Te⟩ 0 [.int .i64 w,.string x,slV y,slV z]/\XC Tp 169 #[.pointer L,.agg #[.int .i64 w,.string x,slV y,slV z],.int .i64 J,.string (⟨#[123,125]⟩:Bt),.func (.func 171) #[.pointer L] #[]] f (λA B=>A=.tuple #[]/\R (.tuple #[]) B))/\((g==6)=Tc->∃C,L=Td C/\∃D,zc f (Ad ⟨h.size,0,Te⟩ 1)=Td (.string D)/\XC Tp 85 #[.pointer (Td (Ad C 0)),.string D] f (λE F=>∃G,∃I:Value,E=.tuple #[.int .i64 G,I]/\R (.tuple #[]) F)))))):
  XC Tp 97 #[.pointer L,.agg #[.int .i64 b,.string c,.slice d.a d.len d.cap,.slice e.a e.len e.cap],.int .i64 J] h R:=
 XF ⟨[(2,8000)],[],[]⟩ [] 42 Tryz.func97 H
theorem Ww(k:Option Addr)(s1:Bt)(h:zb)(R:Value->zb->Prop) (H:XC Tp 27 #[.string s1] h (λa b=>∃c d,a=.tuple #[.string c,.int .i64 d]/\∃e,k=Td e/\XC Tp 85 #[.pointer (Td (Ad e 0)),.string c] b (λf g=>∃i,∃j:Value,f=.tuple #[.int .i64 i,j]/\R (.tuple #[]) g))):
  XC Tp 168 #[.pointer k,.string s1] h R:=
 XF ⟨[],[],[]⟩ [] 16 Tryz.func168 H
theorem Xn(Y:Option Addr)(b:Int)(c:Bt)(d:Sl)(e:Sl)(P:Int)(Q:Bt)(S:FuncId)(V:Array Value)(U:Array Value)(h:zb)(R:Value->zb->Prop) (H:let f:=h.push (.cells #[.int .i64 b,.string c,slV d,slV e] 26);∃g,Y=Td g/\(0<=(0:Int)/\(0:Int)<(Q.size:Int))/\XC Tp 81 #[.pointer (Td (Ad g 0)),.int .u8 (zr Q (0:Int).toNat)] f (λi j=>∃k:Value,i=k/\∃l,zc j (Ad ⟨h.size,0,Te⟩ 3)=Td (slV l)/\∃(m:Int->zb->Prop) (n:Int->zb->Nat),m 0 j/\∀o:Int,∀p:zb,m o p->((decide (o<l.len)=Ta->∀q:zb->Prop,(∀r:zb,(XC Tp 235 #[.pointer Y,.int .i64 (Aa .i64 (P+1))] r (λs t=>s=.tuple #[]/\∃u v w x,zd t ⟨h.size,0,Te⟩ 0 [.int .i64 u,.string v,slV w,slV x]/\zh Tp S=Ta/\XC Tp S (V++#[.agg #[.int .i64 u,.string v,slV w,slV x],.int .i64 o,.int .i64 (Aa .i64 (P+1))]++U) t (λy z=>y=.tuple #[]/\(m (Aa .i64 (o+1)) z/\n (Aa .i64 (o+1)) z<n o p))))->q r)->(decide (o>0)=Ta->∃A,Y=Td A/\XC Tp 81 #[.pointer (Td (Ad A 0)),.int .u8 44] p (λB C=>∃D:Value,B=D/\q C))/\(decide (o>0)=Tc->q p))/\(decide (o<l.len)=Tc->∀E:zb->Prop,(∀F:zb,(∃G,Y=Td G/\(0<=(1:Int)/\(1:Int)<(Q.size:Int))/\XC Tp 81 #[.pointer (Td (Ad G 0)),.int .u8 (zr Q (1:Int).toNat)] F (λI J=>∃L:Value,I=L/\R (.tuple #[]) J))->E F)->∃M,zc p (Ad ⟨h.size,0,Te⟩ 3)=Td (slV M)/\(decide ((M.len:Int)>0)=Ta->XC Tp 235 #[.pointer Y,.int .i64 P] p (λN O=>N=.tuple #[]/\E O))/\(decide ((M.len:Int)>0)=Tc->E p))))):
  XC Tp 169 #[.pointer Y,.agg #[.int .i64 b,.string c,.slice d.a d.len d.cap,.slice e.a e.len e.cap],.int .i64 P,.string Q,.func (.func S) V U] h R:=
 XF ⟨[(1,8000),(12,8000)],[(3,[(20,.one (.int .i64))])],[(7,[]),(12,[])]⟩ [] 53 Tryz.func169 H
theorem zag(r:Option Addr)(b:Int)(c:Bt)(d:Sl)(e:Sl)(q:Int)(p:Int)(h:zb)(R:Value->zb->Prop) (H:let f:=h.push (.cells #[.int .i64 b,.string c,slV d,slV e] 26);∃g,zc f (Ad ⟨h.size,0,Te⟩ 3)=Td (slV g)/\∃i,(g.a=Td i/\0<=q/\q<g.len)/\∃j k l m,zd f (i.add (q.toNat*4)) 0 [.int .i64 j,.string k,slV l,slV m]/\XC Tp 97 #[.pointer r,.agg #[.int .i64 j,.string k,slV l,slV m],.int .i64 p] f (λn o=>n=.tuple #[]/\R (.tuple #[]) o)):
  XC Tp 170 #[.pointer r,.agg #[.int .i64 b,.string c,.slice d.a d.len d.cap,.slice e.a e.len e.cap],.int .i64 q,.int .i64 p] h R:=
 XF ⟨[],[],[]⟩ [] 16 Tryz.func170 H
theorem Wx(J:Option Addr)(b:Int)(c:Bt)(d:Sl)(e:Sl)(I:Int)(G:Int)(h:zb)(R:Value->zb->Prop) (H:let f:=h.push (.cells #[.int .i64 b,.string c,slV d,slV e] 26);∃g,zc f (Ad ⟨h.size,0,Te⟩ 2)=Td (slV g)/\∃i,(g.a=Td i/\0<=I/\I<g.len)/\∃j,zc f (i.add (I.toNat*1))=Td (.string j)/\XC Tp 168 #[.pointer J,.string j] f (λk l=>k=.tuple #[]/\∃m,J=Td m/\XC Tp 81 #[.pointer (Td (Ad m 0)),.int .u8 58] l (λn o=>∃p:Value,n=p/\∀q:zb->Prop,(∀r:zb,(∃s,zc r (Ad ⟨h.size,0,Te⟩ 3)=Td (slV s)/\∃t,(s.a=Td t/\0<=I/\I<s.len)/\∃u v w x,zd r (t.add (I.toNat*4)) 0 [.int .i64 u,.string v,slV w,slV x]/\XC Tp 97 #[.pointer J,.agg #[.int .i64 u,.string v,slV w,slV x],.int .i64 G] r (λy z=>y=.tuple #[]/\R (.tuple #[]) z))->q r)->∃A,J=Td A/\∃B,zc o (Ad A 2)=Td (.bool B)/\(B=Ta->∃C,J=Td C/\XC Tp 81 #[.pointer (Td (Ad C 0)),.int .u8 32] o (λD E=>∃F:Value,D=F/\q E))/\(B=Tc->q o)))):
  XC Tp 171 #[.pointer J,.agg #[.int .i64 b,.string c,.slice d.a d.len d.cap,.slice e.a e.len e.cap],.int .i64 I,.int .i64 G] h R:=
 XF ⟨[],[],[(5,[])]⟩ [] 35 Tryz.func171 H
theorem zah(s:Option Addr)(r:Int)(h:zb)(R:Value->zb->Prop) (H:∃a,s=Td a/\∃b,zc h (Ad a 2)=Td (.bool b)/\(b=Ta->∃c,s=Td c/\XC Tp 81 #[.pointer (Td (Ad c 0)),.int .u8 10] h (λd e=>∃f:Value,d=f/\∃g,s=Td g/\∃i,s=Td i/\∃j,zc e (Ad i 3)=Td (.int .i64 j)/\XC Tp 86 #[.string (⟨#[32]⟩:Bt),.int .i64 (Aa .i64 (j*r))] e (λk l=>∃m,k=.string m/\XC Tp 85 #[.pointer (Td (Ad g 0)),.string m] l (λn o=>∃p,∃q:Value,n=.tuple #[.int .i64 p,q]/\R (.tuple #[]) o))))/\(b=Tc->R (.tuple #[]) h)):
  XC Tp 235 #[.pointer s,.int .i64 r] h R:=
 XF ⟨[(2,8000)],[],[]⟩ [] 23 Tryz.func235 H
theorem zjs(b:Int)(c:Bt)(d:Sl)(e:Sl)(h:zb)(R:Value->zb->Prop) (H:let f:=h.push (.cells #[.int .i64 b,.string c,slV d,slV e] 26);let g:=f.push (.cells #[.int .i64 0,.string (⟨#[]⟩:Bt),.slice Te 0 0,.slice Te 0 0] 26);∃i j k l,zd g ⟨h.size,0,Te⟩ 0 [.int .i64 i,.string j,slV k,slV l]/\XC Tp 88 #[.agg #[.int .i64 i,.string j,slV k,slV l]] g (λm n=>∃o,m=.bool o/\((!o)=Ta->XRunU Tp (Af 26 (.pointer (Td ⟨f.size,0,Te⟩)) (.agg #[.int .i64 0,.string (⟨#[]⟩:Bt),.slice Te 0 0,.slice Te 0 0])) n (λp=>∃q r s t,zd p ⟨f.size,0,Te⟩ 0 [.int .i64 q,.string r,slV s,slV t]/\R (.agg #[.int .i64 q,.string r,slV s,slV t]) p))/\((!o)=Tc->∃u v w x,zd n ⟨h.size,0,Te⟩ 0 [.int .i64 u,.string v,slV w,slV x]/\XC Tp 98 #[.agg #[.int .i64 u,.string v,slV w,slV x]] n (λy z=>∃A B C D,y=.agg #[.int .i64 A,.string B,slV C,slV D]/\XRunU Tp (Af 26 (.pointer (Td ⟨f.size,0,Te⟩)) (.agg #[.int .i64 A,.string B,slV C,slV D])) z (λE=>∃F G I J,zd E ⟨f.size,0,Te⟩ 0 [.int .i64 F,.string G,slV I,slV J]/\R (.agg #[.int .i64 F,.string G,slV I,slV J]) E))))):
  XC Tp 37 #[.agg #[.int .i64 b,.string c,.slice d.a d.len d.cap,.slice e.a e.len e.cap]] h R:=
 XF ⟨[],[],[]⟩ [.cell 2 26] 9 Tryz.func37 H
theorem zjt(b:Int)(c:Bt)(d:Sl)(e:Sl)(h:zb)(R:Value->zb->Prop) (H:let f:=h.push (.cells #[.int .i64 b,.string c,slV d,slV e] 26);let g:=f.push (.cells #[.int .i64 0,.string (⟨#[]⟩:Bt),.slice Te 0 0,.slice Te 0 0] 26);∃i,zc g (Ad ⟨h.size,0,Te⟩ 0)=Td (.int .i64 i)/\∃j,zc g (Ad ⟨h.size,0,Te⟩ 1)=Td (.string j)/\let k:=g.push (.cells #[.int .i64 0,.string (⟨#[]⟩:Bt),.slice Te 0 0,.slice Te 0 0] 26);XRunU Tp (Af 26 (.pointer (Td ⟨g.size,0,Te⟩)) (.agg #[.int .i64 i,.string j,.slice Te 0 0,.slice Te 0 0])) k (λl=>∃m,zc l (Ad ⟨h.size,0,Te⟩ 0)=Td (.int .i64 m)/\((m != 6)=Ta->∃n,zc l (Ad ⟨h.size,0,Te⟩ 3)=Td (slV n)/\∃(o:Int->zb->Prop) (p:Int->zb->Nat),o 0 l/\∀q:Int,∀r:zb,o q r->((decide (q<n.len)=Ta->∃s,(n.a=Td s/\0<=q/\q<n.len)/\∃t u v w,zd r (s.add (q.toNat*4)) 0 [.int .i64 t,.string u,slV v,slV w]/\let x:=r.push (.cells #[.int .i64 0,.string (⟨#[]⟩:Bt),.slice Te 0 0,.slice Te 0 0] 26);XRunU Tp (Af 26 (.pointer (Td ⟨r.size,0,Te⟩)) (.agg #[.int .i64 t,.string u,slV v,slV w])) x (λy=>∃z,zc y (Ad ⟨g.size,0,Te⟩ 3)=Td (slV z)/\∃A B C D,zd y ⟨r.size,0,Te⟩ 0 [.int .i64 A,.string B,slV C,slV D]/\XC Tp 98 #[.agg #[.int .i64 A,.string B,slV C,slV D]] y (λE F=>∃G I J L,E=.agg #[.int .i64 G,.string I,slV J,slV L]/\(F)[((Ad ⟨g.size,0,Te⟩ 3):Addr).block]?=(y)[((Ad ⟨g.size,0,Te⟩ 3):Addr).block]?/\let M:=F.push (.cells #[.int .i64 G,.string I,slV J,slV L] 26);(M)[((Ad ⟨g.size,0,Te⟩ 3):Addr).block]?=(y)[((Ad ⟨g.size,0,Te⟩ 3):Addr).block]?/\XRun Tp (Au #[24,24] 24 #[slV z,.slice (Td ⟨F.size,0,Te⟩) 1 1]) M (λN O=>∃P,N=slV P/\XRunU Tp (Af 24 (.pointer (Td (Ad ⟨g.size,0,Te⟩ 3))) (slV P)) O (λQ=>(o (Aa .i64 (q+1)) Q/\p (Aa .i64 (q+1)) Q<p q r))))))/\(decide (q<n.len)=Tc->∃S T U V,zd r ⟨g.size,0,Te⟩ 0 [.int .i64 S,.string T,slV U,slV V]/\XRunU Tp (Af 26 (.pointer (Td ⟨f.size,0,Te⟩)) (.agg #[.int .i64 S,.string T,slV U,slV V])) r (λW=>∃X Y Z aa,zd W ⟨f.size,0,Te⟩ 0 [.int .i64 X,.string Y,slV Z,slV aa]/\R (.agg #[.int .i64 X,.string Y,slV Z,slV aa]) W))))/\((m != 6)=Tc->∃ab ac ad ae,zd l ⟨h.size,0,Te⟩ 0 [.int .i64 ab,.string ac,slV ad,slV ae]/\XC Tp 172 #[.agg #[.int .i64 ab,.string ac,slV ad,slV ae]] l (λaf ag=>∃ah:Option Nat,af=.map ah/\XC Tp 174 #[.map ah] ag (λai aj=>∃ak:Value,ai=ak/\XC Tp 173 #[ak] aj (λal am=>∃an,al=slV an/\XRunU Tp (Af 23 (.pointer (Td (Ad ⟨g.size,0,Te⟩ 2))) (slV an)) am (λao=>∃ap,zc ao (Ad ⟨g.size,0,Te⟩ 2)=Td (slV ap)/\∃(aq:Int->zb->Prop) (ar:Int->zb->Nat),aq 0 ao/\∀au:Int,∀av:zb,aq au av->((decide (au<ap.len)=Ta->∃aw,(ap.a=Td aw/\0<=au/\au<ap.len)/\∃ax,zc av (aw.add (au.toNat*1))=Td (.string ax)/\∃ay,zc av (Ad ⟨g.size,0,Te⟩ 3)=Td (slV ay)/\∃az aA aB aC,QExec Tp (Dw 193 (.map ah) (.string ax) Tc) av (.agg #[.int .i64 az,.string aA,slV aB,slV aC])/\(av)[((Ad ⟨g.size,0,Te⟩ 3):Addr).block]?=(av)[((Ad ⟨g.size,0,Te⟩ 3):Addr).block]?/\XC Tp 98 #[.agg #[.int .i64 az,.string aA,slV aB,slV aC]] av (λaD aE=>∃aF aG aH aI,aD=.agg #[.int .i64 aF,.string aG,slV aH,slV aI]/\(aE)[((Ad ⟨g.size,0,Te⟩ 3):Addr).block]?=(av)[((Ad ⟨g.size,0,Te⟩ 3):Addr).block]?/\let aJ:=aE.push (.cells #[.int .i64 aF,.string aG,slV aH,slV aI] 26);(aJ)[((Ad ⟨g.size,0,Te⟩ 3):Addr).block]?=(av)[((Ad ⟨g.size,0,Te⟩ 3):Addr).block]?/\XRun Tp (Au #[24,24] 24 #[slV ay,.slice (Td ⟨aE.size,0,Te⟩) 1 1]) aJ (λaL aM=>∃aN,aL=slV aN/\XRunU Tp (Af 24 (.pointer (Td (Ad ⟨g.size,0,Te⟩ 3))) (slV aN)) aM (λaO=>(aq (Aa .i64 (au+1)) aO/\ar (Aa .i64 (au+1)) aO<ar au av)))))/\(decide (au<ap.len)=Tc->∃aP aQ aS aT,zd av ⟨g.size,0,Te⟩ 0 [.int .i64 aP,.string aQ,slV aS,slV aT]/\XRunU Tp (Af 26 (.pointer (Td ⟨f.size,0,Te⟩)) (.agg #[.int .i64 aP,.string aQ,slV aS,slV aT])) av (λaU=>∃aV aW aX aY,zd aU ⟨f.size,0,Te⟩ 0 [.int .i64 aV,.string aW,slV aX,slV aY]/\R (.agg #[.int .i64 aV,.string aW,slV aX,slV aY]) aU)))))))))):
  XC Tp 98 #[.agg #[.int .i64 b,.string c,.slice d.a d.len d.cap,.slice e.a e.len e.cap]] h R:=
 XF ⟨[(6,8000),(14,8000)],[(4,[(20,.one (.int .i64))]),(12,[(42,.one (.int .i64))])],[]⟩ [.cell 2 26] 57 Tryz.func98 H
theorem zhe(b:Int)(c:Bt)(d:Sl)(e:Sl)(h:zb)(R:Value->zb->Prop) (H:let f:=h.push (.cells #[.int .i64 b,.string c,slV d,slV e] 26);∃g,zc f (Ad ⟨h.size,0,Te⟩ 2)=Td (slV g)/\let i:=f.push (.map #[] 0);∃j,zc i (Ad ⟨h.size,0,Te⟩ 2)=Td (slV j)/\∃(k:Int->zb->Prop) (l:Int->zb->Nat),k 0 i/\∀m:Int,∀n:zb,k m n->((decide (m<j.len)=Ta->∃o,(j.a=Td o/\0<=m/\m<j.len)/\∃p,zc n (o.add (m.toNat*1))=Td (.string p)/\∃q,zc n (Ad ⟨h.size,0,Te⟩ 3)=Td (slV q)/\∃r,(q.a=Td r/\0<=m/\m<q.len)/\∃s t u v,zd n (r.add (m.toNat*4)) 0 [.int .i64 s,.string t,slV u,slV v]/\XRunU Tp (Cv 193 (.map (Td f.size)) (.string p) (.agg #[.int .i64 s,.string t,slV u,slV v])) n (λw=>(k (Aa .i64 (m+1)) w/\l (Aa .i64 (m+1)) w<l m n)))/\(decide (m<j.len)=Tc->R (.map (Td f.size)) n))):
  XC Tp 172 #[.agg #[.int .i64 b,.string c,.slice d.a d.len d.cap,.slice e.a e.len e.cap]] h R:=
 XF ⟨[],[(3,[(13,.one (.int .i64))])],[]⟩ [.tmp 2] 27 Tryz.func172 H
theorem zlc(b:Int)(c:Bt)(d:Sl)(e:Sl)(h:zb)(R:Value->zb->Prop) (H:let f:=h.push (.cells #[.int .i64 b,.string c,slV d,slV e] 26);∃g i j k,zd f ⟨h.size,0,Te⟩ 0 [.int .i64 g,.string i,slV j,slV k]/\XC Tp 93 #[.agg #[.int .i64 g,.string i,slV j,slV k]] f (λl m=>∃n,l=.bool n/\∃o p q r,(n=Ta->zd m ⟨h.size,0,Te⟩ 0 [.int .i64 o,.string p,slV q,slV r])/\∃s:Value->zb->Prop,(n=Ta->XC Tp 94 #[.agg #[.int .i64 o,.string p,slV q,slV r],.func (.func 95) #[] #[]] m (λt u=>∃v,t=.bool v/\s (.bool v) u))/\(n=Tc->∃w,s (.bool w) m)/\(n=Ta->∀x y,s x y->∃z,x=.bool z)/\∀A:Bool,∀B,s (.bool A) B->R (.bool (bif n then A else Tc)) B)):
  XC Tp 33 #[.agg #[.int .i64 b,.string c,.slice d.a d.len d.cap,.slice e.a e.len e.cap]] h R:=
 XF ⟨[],[],[]⟩ [.tmp 2] 9 Tryz.func33 H
end
end Go.X
end
section
namespace Go.X
open Go Go.Lib
section
variable {a:Nat}
abbrev Tk:=Int×Int×Int
def xj:Bs:=[32,9,10,13]
def q9:Bs:=[123,125,91,93,44,58]
def zcw:Bs:=[45,43,46,48,49,50,51,52,53,54,55,56,57,101,69]
def zcx:Bs:=[45,48,49,50,51,52,53,54,55,56,57]
def j8:Bs:=[97,98,99,100,101,102,103,104,105,106,107,108,109,110,111,112,113,114,115,116,117,118,119,120,121,122]
def Q9(p:UInt8->Bool)(l:Bs):Nat:=(l.takeWhile p).length
theorem z5i(p:UInt8->Bool)(l:Bs):Q9 p l<=l.length:=(List.takeWhile_sublist p).length_le
theorem zxf{p:UInt8->Bool}{c:UInt8}{l:Bs}(h:p c=Ta):0<Q9 p (c::l):=by unfold Q9;rw[List.takeWhile_cons,if_pos h];simp
theorem zvb{p:UInt8->Bool}:∀{l:Bs} {k:Nat} (b:k<=l.length),(∀j (f:j<k),p (l[j]'(by omega))=Ta)->(∀h:k<l.length,p l[k]=Tc)->Q9 p l=k
 |[],k,b,h1,h2=>by simp at b;subst b;rfl
 |c::l,0,b,h1,h2=>by have:=h2 (by simp);unfold Q9;rw[List.takeWhile_cons,if_neg (by simp at this;simp[this])];rfl
 |c::l,k+1,b,h1,h2=>by have e:=h1 0 (by omega);simp only[List.getElem_cons_zero]at e;unfold Q9;rw[List.takeWhile_cons,if_pos e,Aq];have:=zvb (p:=p) (l:=l) (k:=k) (by simp at b;omega) (λj f=>by have:=h1 (j+1) (by omega);simpa using this) (λi=>by have:=h2 (by simp;omega);simpa using this);unfold Q9 at this;omega
def Qh(s:Bs):Int:=if s=[116,114,117,101]then 10 else if s=[102,97,108,115,101]then 11 else if s=[110,117,108,108]then 12 else 0
def xm(l:Bs)(c:UInt8):Bool:=decide (c∈l)
def Z1(s:Bs)(a:Nat):Int×Nat×Int:=match s.drop a with
 |[]=>(0,a,2)
 |c::t=>
  if c∈q9 then(2+indexByte q9 c,a+1,0)
  else if c∈xj then(1,a+Q9 (xm xj) (c::t),0)
  else if c=34 then(if(yq s a).2.2=0 then(8,(yq s a).2.1,0)else(0,(yq s a).2.1,(yq s a).2.2))
  else if c∈zcx then(if(zj ((c::t).take (Q9 (xm zcw) (c::t)))).2=0 then(9,a+Q9 (xm zcw) (c::t),0)else(0,a,(zj ((c::t).take (Q9 (xm zcw) (c::t)))).2))
  else if Qh ((c::t).take (Q9 (xm j8) (c::t)))=0 then(0,a,2)else(Qh ((c::t).take (Q9 (xm j8) (c::t))),a+Q9 (xm j8) (c::t),0)
theorem z0a{t:Bs}(h:(yq t a).2.2=0):a<(yq t a).2.1/\(yq t a).2.1<=t.length:=by
 unfold yq at h ⊢;split at h;rename_i b;rw[if_pos b];have:=(zru _ (t.drop (a+1)) rfl).1;have c:a<t.length:=by rcases A6 a t.length with h1|h1;exact h1;rw[Br h1]at b;cases b
 rw[AH]at this;dsimp only at h ⊢;split at h;rename_i e;rw[if_pos e];dsimp only;omega;cases h;cases h
theorem Jl{s:Bs}(n:a<s.length)(h:(Z1 s a).2.2=0):a<(Z1 s a).2.1/\(Z1 s a).2.1<=s.length:=by
 have m:s.drop a=s[a]::s.drop (a+1):=Bw n;have q:(s[a]::s.drop (a+1)).length=s.length-a:=by rw[<-m,AH]
 have rb:=λp=>z5i p (s[a]::s.drop (a+1));rw[q]at rb;unfold Z1 at h ⊢;rw[m]at h ⊢;dsimp only at h ⊢;split;dsimp only;omega;rename_i h1;rw[if_neg h1]at h;split;rename_i k;have:=zxf (p:=xm xj) (l:=s.drop (a+1)) (c:=s[a]) (by unfold xm;exact decide_eq_true k);have:=rb (xm xj);dsimp only;omega;rename_i k;rw[if_neg k]at h;split;rename_i i;rw[if_pos i]at h;split at h;rename_i b;rw[if_pos b];exact z0a b;rename_i b;exact absurd h b;rename_i i;rw[if_neg i]at h;split;rename_i b;rw[if_pos b]at h;split at h;rename_i f;rw[if_pos f];have o:s[a]∈zcw:=by
  have:∀c∈zcx,c∈zcw:=by decide
  exact this _ b
 have:=zxf (p:=xm zcw) (l:=s.drop (a+1)) (c:=s[a]) (by unfold xm;exact decide_eq_true o);have:=rb (xm zcw);dsimp only;omega;rename_i f;exact absurd h f;rename_i b;rw[if_neg b]at h;split at h;cases h;rename_i f;rw[if_neg f];have:0<Q9 (xm j8) (s[a]::s.drop (a+1)):=by refine Nat.pos_of_ne_zero λe=>f ?_;rw[e];rfl
 have:=rb (xm j8);dsimp only;omega
def Q4:Nat->Bs->Nat->List Tk->List Tk×Nat×Int
 |0,_,a,o=>(o,a,0)
 |f+1,s,a,o=>if a<s.length then(if(Z1 s a).2.2=0 then Q4 f s (Z1 s a).2.1 (o++[((Z1 s a).1,((a:Int),((Z1 s a).2.1:Int)))])else([],(Z1 s a).2.1,(Z1 s a).2.2))else(o,a,0)
def yr(s:Bs):List Tk×Nat×Int:=if 65536<s.length then([],0,3)else Q4 s.length s 0 []
end
section
variable {s:Bs}
abbrev Sp:=Int×Int
abbrev Nd:=Int×Sp×Sp×List Int×List Sp
structure PSt where
 rest:List Tk
 last:Int
 nodes:List Nd
abbrev PR(α:Type):=α ⊕ (Int×Int)
def PSt.kind(st:PSt):Int:=match st.rest with | []=>0|t::_=>t.1
def PSt.here(st:PSt)(n:Nat):Int:=match st.rest with | []=>(n:Int)|t::_=>t.2.1
def PSt.skip(st:PSt):PSt:=match st.rest with | []=>st|t::r=>⟨r,t.2.2,st.nodes⟩
def zu(k:Int):Int:=if k=12 then 1 else if k=10\/k=11 then 2 else if k=9 then 3 else if k=8 then 4 else if k=4 then 5 else if k=2 then 6 else 0
def z5j(k:Int)(p:Sp)(x:Nd):Nd:=(x.1,x.2.1,x.2.2.1,x.2.2.2.1++[k],x.2.2.2.2++[p])
def qfc(t:Int)(x:Nd):Nd:=(x.1,(x.2.1.1,t),x.2.2)
def PSt.addKid(st:PSt)(n:Nat)(k:Int)(p:Sp):PSt:=⟨st.rest,st.last,st.nodes.modify n (z5j k p)⟩
def PSt.setTo(st:PSt)(n:Nat):PSt:=⟨st.rest,st.last,st.nodes.modify n (qfc st.last)⟩
def PSt.err{α:Type}(st:PSt)(s:Bs)(e:Int):PR α:=.inr (st.here s.length,e)
abbrev zmj:=List Bs->PSt->PR (List Bs×PSt)
def Jm(s:Bs)(n:Nat)(closing:Int)(kid:zmj):Nat->List Bs->PSt->PR PSt
 |0,_,st=>st.err s 2
 |f+1,had,st=>match kid had st with
  |.inr e=>.inr e
  |.inl (had',st')=>
   if st'.kind=closing then .inl (st'.addKid n st.nodes.length (st.last,st'.here s.length)).skip
   else if st'.kind=6 then Jm s n closing kid f had' (st'.addKid n st.nodes.length (st.last,st'.here s.length)).skip
   else st'.err s 2
def Xo(s:Bs)(n:Nat)(closing:Int)(kid:zmj)(st:PSt):PR PSt:=
 if st.kind=closing then .inl st.skip else Jm s n closing kid (st.rest.length+1) [] st
abbrev zry:=Sp->PSt->PR PSt
def zen(val:zry):zmj:=λhad st=>match val (0,0) st with
 |.inl st'=>.inl (had,st')
 |.inr e=>.inr e
def Jw(s:Bs)(p:Sp):Bs:=(s.drop p.1.toNat).take (p.2.toNat-p.1.toNat)
def zrz(s:Bs)(val:zry):zmj:=λhad st=>match st.rest with
 |[]=>st.err s 2
 |t::_=>
  if t.1=8 then
   if(Xh (Jw s t.2)).1∈had then st.err s 7
   else if st.skip.kind=7 then match val t.2 st.skip.skip with
    |.inl st'=>.inl (had++[(Xh (Jw s t.2)).1],st')
    |.inr e=>.inr e
   else st.skip.err s 2
  else st.err s 2
def PSt.open(st:PSt)(key:Sp):PSt:=match st.rest with
 |[]=>st
 |t::r=>⟨r,t.2.2,st.nodes++[(zu t.1,t.2,key,[],[])]⟩
def ztm(s:Bs)(val:zry)(n:Nat)(k:Int)(st:PSt):PR PSt:=
 if k=5 then Xo s n 5 (zen val) st else if k=6 then Xo s n 3 (zrz s val) st else .inl st
def Jx(s:Bs):Nat->zry
 |0,key,st=>if zu st.kind=0 then st.err s 2 else st.err s 5
 |d+1,key,st=>if zu st.kind=0 then st.err s 2 else if st.nodes.length=4096 then st.err s 6 else
  match ztm s (Jx s d) st.nodes.length (zu st.kind) (st.open key)with
  |.inl st'=>.inl (st'.setTo st.nodes.length)
  |.inr e=>.inr e
def zw(l:List Tk):List Tk:=l.filter λt=>decide (t.1≠1)
def Ya(s:Bs):(Bs×List Nd)×Int×Int:=
 if(yr s).2.2=0 then
  match Jx s 32 (0,0) ⟨zw (yr s).1,0,[]⟩with
  |.inl st=>if st.rest=[]then((s,st.nodes),(s.length:Int),0)else(([],[]),st.here s.length,2)
  |.inr e=>(([],[]),e.1,e.2)
 else(([],[]),((yr s).2.1:Int),(yr s).2.2)
def TkW(s:Bs)(t:Tk):Prop:=0<=t.2.1/\t.2.1<t.2.2/\t.2.2<=(s.length:Int)/\(2<=t.1/\t.1<=7->t.2.2=t.2.1+1)
theorem z5k{a:Nat}(b:a<s.length)(h:2<=(Z1 s a).1/\(Z1 s a).1<=7):(Z1 s a).2.1=a+1:=by
 have c:s.drop a=s[a]::s.drop (a+1):=Bw b;unfold Z1 at h ⊢;rw[c]at h ⊢;dsimp only at h ⊢;have f:∀l:Bs,Qh l=0\/Qh l=10\/Qh l=11\/Qh l=12:=λl=>by unfold Qh;split;exact .inr (.inl rfl);split;exact .inr (.inr (.inl rfl));split;exact .inr (.inr (.inr rfl));exact .inl rfl
 split;rfl;rename_i h1;rw[if_neg h1]at h;split at h;omega;rename_i i;split at h;split at h <;> (dsimp only at h;omega);split at h;split at h <;> (dsimp only at h;omega);split at h;dsimp only at h;omega;dsimp only at h;rcases f ((s[a]::s.drop (a+1)).take (Q9 (xm j8) (s[a]::s.drop (a+1))))with e|e|e|e <;> rw[e]at h <;> omega
theorem zxg:∀(f:Nat) (s:Bs) (a:Nat) (o:List Tk),(∀t∈o,TkW s t)->∀t∈(Q4 f s a o).1,TkW s t
 |0,s,a,o,h=>h
 |f+1,s,a,o,h=>by rw[Q4];split;rename_i c;split;rename_i h0;refine zxg f s _ _ λt b=>?_;rcases Ay.1 b with b|b;exact h t b;rw[A4.1 b];have i:=Jl c h0;refine⟨by dsimp only;omega,by dsimp only;omega,by dsimp only;omega,λe=>?_⟩;have:=z5k c e;dsimp only;omega;intro t b;cases b;exact h
theorem qau(s:Bs):∀t∈(yr s).1,TkW s t:=by unfold yr;split;intro t b;cases b;exact zxg _ _ _ _ λt b=>by cases b
theorem z0b{l:List Tk}(h:∀t∈l,TkW s t):∀t∈zw l,TkW s t:=λt b=>h t (CM.1 b).1
end
section
variable {k:Int} {s:Bs}
def ndW(x:Nd):Nat:=x.2.2.2.1.length+x.2.2.2.2.length
def PSt.T(st:PSt):Nat:=2*st.rest.length+(st.nodes.map ndW).sum
theorem zvc{f:Nd->Nd}{k:Nat}(h:∀x,ndW (f x)<=ndW x+k):∀(l:List Nd) (n:Nat),((l.modify n f).map ndW).sum<=(l.map ndW).sum+k
 |[],n=>by simp
 |x::l,0=>by have:=h x;simp only[List.modify_zero_cons,Ar,List.sum_cons];omega
 |x::l,n+1=>by have:=zvc h l n;simp only[List.modify_succ_cons,Ar,List.sum_cons];omega
theorem qfd{st:PSt}{x:Nd}(h:x∈st.nodes):ndW x<=st.T:=by
 have:∀(l:List Nd),x∈l->ndW x<=(l.map ndW).sum:=by
  intro l;induction l with
  |nil=>intro h;cases h
  |cons y l b=>intro h;rw[Ar,List.sum_cons];rcases Ah.1 h with rfl|h;omega;have:=b h;omega
 have:=this _ h;unfold PSt.T;omega
theorem qav(st:PSt)(n:Nat)(k:Int)(p:Sp):(st.addKid n k p).T<=st.T+2:=by have:=zvc (f:=z5j k p) (k:=2) (λx=>by unfold ndW z5j;simp;omega) st.nodes n;unfold PSt.T PSt.addKid;dsimp only;omega
theorem qfe(st:PSt)(n:Nat):(st.setTo n).T<=st.T:=by have:=zvc (f:=qfc st.last) (k:=0) (λx=>by unfold ndW qfc;simp) st.nodes n;unfold PSt.T PSt.setTo;dsimp only;omega
theorem qib{st:PSt}(h:st.rest≠[]):st.skip.T+2=st.T:=by
 unfold PSt.skip PSt.T;cases hr:st.rest with
 |nil=>exact absurd hr h
 |cons t r=>simp only[Aq];omega
theorem qic{st:PSt}{key:Sp}(h:st.rest≠[]):(st.open key).T+2=st.T:=by
 unfold PSt.open PSt.T;cases hr:st.rest with
 |nil=>exact absurd hr h
 |cons t r=>simp only[Aq,Bf,List.sum_append,Ar,Cp,List.sum_cons,List.sum_nil,ndW,AR];omega
theorem qu(st:PSt):st.skip.nodes=st.nodes:=by unfold PSt.skip;split <;> rfl
theorem PSt.ne_kind{st:PSt}(h:st.kind=k)(b:k≠0):st.rest≠[]:=λe=>by unfold PSt.kind at h;rw[e]at h;exact b h.symm
theorem zhu{st:PSt}(h:¬zu st.kind=0):st.rest≠[]:=λe=>by refine h ?_;unfold PSt.kind;rw[e];rfl
theorem Jn(st:PSt)(n:Nat)(k:Int)(p:Sp):(st.addKid n k p).nodes.length=st.nodes.length:=by unfold PSt.addKid;simp
theorem zeo(st:PSt)(n:Nat):(st.setTo n).nodes.length=st.nodes.length:=by unfold PSt.setTo;simp
theorem zol{st:PSt}{key:Sp}(h:st.rest≠[]):(st.open key).nodes.length=st.nodes.length+1:=by
 unfold PSt.open;cases hr:st.rest with
 |nil=>exact absurd hr h
 |cons t r=>simp
structure Okk (st st':PSt) (k:Nat):Prop where
 t:st'.T+k<=st.T
 r:2*st'.rest.length+k<=2*st.rest.length
 w:∀t∈st'.rest,t∈st.rest
 n:st.nodes.length<=st'.nodes.length
 m:st.nodes.length<=4096->st'.nodes.length<=4096
theorem Okk.trans{a b c:PSt}{j k:Nat}(x:Okk a b j)(y:Okk b c k):Okk a c (j+k):=⟨by have:=x.t;have:=y.t;omega,by have:=x.r;have:=y.r;omega,λt h=>x.w t (y.w t h),by have:=x.n;have:=y.n;omega,λh=>y.m (x.m h)⟩
theorem Okk.le{a b:PSt}{j k:Nat}(x:Okk a b j)(h:k<=j):Okk a b k:=⟨by have:=x.t;omega,by have:=x.r;omega,x.w,x.n,x.m⟩
theorem Okk.refl(a:PSt):Okk a a 0:=⟨Ab _,Ab _,λt h=>h,Ab _,id⟩
theorem qid{st:PSt}(h:st.rest≠[]):st.skip.rest.length+1=st.rest.length:=by
 unfold PSt.skip;cases hr:st.rest with
 |nil=>exact absurd hr h
 |cons t r=>simp
theorem qie{st:PSt}{key:Sp}(h:st.rest≠[]):(st.open key).rest.length+1=st.rest.length:=by
 unfold PSt.open;cases hr:st.rest with
 |nil=>exact absurd hr h
 |cons t r=>simp
theorem qif(st:PSt):∀t∈st.skip.rest,t∈st.rest:=by
 unfold PSt.skip;cases hr:st.rest with
 |nil=>simp[hr]
 |cons t r=>intro x b;exact Ae _ b
theorem qig(st:PSt)(key:Sp):∀t∈(st.open key).rest,t∈st.rest:=by
 unfold PSt.open;cases hr:st.rest with
 |nil=>simp[hr]
 |cons t r=>intro x b;exact Ae _ b
theorem zai{st:PSt}(h:st.rest≠[]):Okk st st.skip 2:=⟨by have:=qib h;omega,by have:=qid h;omega,qif st,by rw[qu];omega,by rw[qu];exact id⟩
def z0c(kid:zmj):Prop:=∀had st had' st',kid had st=.inl (had',st')->Okk st st' 2
theorem zf4{kid:zmj}(f:z0c kid){had had':List Bs}{st st':PSt}{n:Nat}{p:Sp}(e:kid had st=.inl (had',st'))(h:st'.rest≠[]):Okk st (st'.addKid n k p).skip 2:=by have a:=f _ _ _ _ e;have l:(st'.addKid n k p).rest≠[]:=h;have b:=zai l;have c:=qav st' n k p;have d:=Jn st' n k p;have i:(st'.addKid n k p).rest=st'.rest:=rfl;exact⟨by have:=a.t;have:=b.t;omega,by have:=a.r;have:=b.r;rw[i]at this;omega,λt h=>a.w t (b.w t h),by have:=a.n;have:=b.n;omega,λh=>b.m (by have:=a.m h;omega)⟩
theorem zxh{s:Bs}{n:Nat}{closing:Int}(m:closing≠0){kid:zmj}(i:z0c kid):∀(f:Nat) (had:List Bs) (st st':PSt),Jm s n closing kid f had st=.inl st'->Okk st st' 2
 |0,had,st,st',h=>by unfold Jm PSt.err at h;cases h
 |f+1,had,st,st',h=>by rw[Jm]at h;split at h;cases h;rename_i b l e;split at h;rename_i c;cases h;exact zf4 i e (PSt.ne_kind c m);split at h;rename_i o;have a:=zf4 i e (n:=n) (k:=(st.nodes.length:Int)) (p:=(st.last,l.here s.length)) (PSt.ne_kind o (by omega));exact(a.trans (zxh m i f b _ st' h)).le (by omega);unfold PSt.err at h;cases h
theorem zxi{n:Nat}{closing:Int}(b:closing≠0){kid:zmj}(e:z0c kid){st st':PSt}(h:Xo s n closing kid st=.inl st'):Okk st st' 0:=by unfold Xo at h;split at h;rename_i c;cases h;exact(zai (PSt.ne_kind c b)).le (by omega);exact(zxh b e _ _ _ _ h).le (by omega)
def qff(val:zry):Prop:=∀key st st',val key st=.inl st'->Okk st st' 2
theorem z5l{val:zry}(h:qff val):z0c (zen val):=by intro had st had' st' e;unfold zen at e;split at e;rename_i c b;cases e;exact h _ _ _ b;cases e
theorem qcu{val:zry}(h:qff val):z0c (zrz s val):=by intro had st had' st' e;unfold zrz at e;split at e;unfold PSt.err at e;cases e;rename_i t r c;split at e;split at e;unfold PSt.err at e;cases e;split at e;rename_i f;split at e;rename_i k i;cases e;have a:=zai (st:=st) (by rw[c];simp);have b:=zai (PSt.ne_kind f (by omega));exact((a.trans b).trans (h _ _ _ i)).le (by omega);cases e;unfold PSt.err at e;cases e;unfold PSt.err at e;cases e
theorem z5m{st:PSt}{key:Sp}(h:st.rest≠[])(b:¬st.nodes.length=4096):Okk st (st.open key) 2:=⟨by have:=qic (key:=key) h;omega,by have:=qie (key:=key) h;omega,qig st key,by rw[zol h];omega,λc=>by rw[zol h];omega⟩
theorem zr0(s:Bs):∀d:Nat,qff (Jx s d)
 |0=>by intro key st st' e;unfold Jx at e;split at e <;> (unfold PSt.err at e;cases e)
 |d+1=>by
  intro key st st' e;unfold Jx at e;split at e;unfold PSt.err at e;cases e;rename_i l;split at e;unfold PSt.err at e;cases e;rename_i k;split at e;rename_i f i;cases e;have a:=z5m (key:=key) (zhu l) k;have b:Okk (st.open key) f 0:=by unfold ztm at i;split at i;exact zxi (by omega) (z5l (zr0 s d)) i;split at i;exact zxi (by omega) (qcu (zr0 s d)) i;cases i;exact Okk.refl _
  have c:Okk f (f.setTo st.nodes.length) 0:=⟨qfe _ _,Ab _,λt h=>h,by rw[zeo];omega,by rw[zeo];exact id⟩;exact(a.trans b).trans c;cases e
def qjy(s:Bs)(had:List Bs)(st:PSt):PR (Bs×Sp×PSt):=match st.rest with
 |[]=>st.err s 2
 |t::_=>
  if t.1=8 then
   if(Xh (Jw s t.2)).1∈had then st.err s 7
   else if st.skip.kind=7 then .inl ((Xh (Jw s t.2)).1,t.2,st.skip.skip)
   else st.skip.err s 2
  else st.err s 2
theorem qaw(s:Bs)(val:zry)(had:List Bs)(st:PSt):zrz s val had st=match qjy s had st with
  |.inl x=>(match val x.2.1 x.2.2 with
   |.inl st'=>.inl (had++[x.1],st')
   |.inr e=>.inr e)
  |.inr e=>.inr e:=by
 unfold zrz qjy PSt.err;cases st.rest with
 |nil=>rfl
 |cons t r=>dsimp only;by_cases h1:t.1=8;rw[if_pos h1,if_pos h1];by_cases c:(Xh (Jw s t.2)).1∈had;rw[if_pos c,if_pos c];rw[if_neg c,if_neg c];by_cases b:st.skip.kind=7;rw[if_pos b,if_pos b] <;> rfl;rw[if_neg b,if_neg b];rw[if_neg h1,if_neg h1]
theorem qih{had:List Bs}{st:PSt}{x:Bs×Sp×PSt}(h:qjy s had st=.inl x):Okk st x.2.2 4/\x.2.2.nodes=st.nodes:=by unfold qjy PSt.err at h;split at h;cases h;rename_i t r c;split at h;split at h;cases h;split at h;rename_i e;cases h;have a:=zai (st:=st) (by rw[c];simp);have b:=zai (PSt.ne_kind e (by omega));exact⟨a.trans b,by dsimp only;rw[qu,qu]⟩;cases h;cases h
end
section
variable {lvs:List Nat} {l n lk:Nat} {s:Bs} {closing:Int}
structure GoodN (lvs:List Nat) (nodes:List Nd):Prop where
 len:lvs.length=nodes.length
 lv:∀(k l:Nat),lvs[k]?=Td l->1<=l/\l<=32
 kid:∀(k l:Nat) (x:Nd),nodes[k]?=Td x->lvs[k]?=Td l->∀c∈x.2.2.2.1,∃j:Nat,c=(j:Int)/\k<j/\lvs[j]?=Td (l+1)
theorem GoodN.nil:GoodN [] []:=⟨rfl,λk l h=>(by cases h),λk l x h=>(by cases h)⟩
theorem GoodN.push{nodes:List Nd}(G:GoodN lvs nodes)(h1:1<=l)(s:l<=32){x:Nd}(p:x.2.2.2.1=[]):GoodN (lvs++[l]) (nodes++[x]):=by refine⟨by simp[G.len],λk m h=>?_,λk m y b e c f=>?_⟩;rw[List.getElem?_append]at h;split at h;exact G.lv k m h;have:=BD h;rw[A4]at this;omega;rw[List.getElem?_append]at b e;have r:=G.len;by_cases i:k<nodes.length;rw[if_pos i]at b;rw[if_pos (by omega)]at e;obtain⟨j,q,o,n⟩:=G.kid k m y b e c f;refine⟨j,q,o,?_⟩;rw[BK (AY.1 n).1];exact n;rw[if_neg i]at b;have:=BD b;rw[A4]at this;subst this;rw[p]at f;cases f
theorem GoodN.mod{nodes:List Nd}(G:GoodN lvs nodes){f:Nd->Nd}(h:∀x l c,lvs[n]?=Td l->c∈(f x).2.2.2.1->c∈x.2.2.2.1\/∃j:Nat,c=(j:Int)/\n<j/\lvs[j]?=Td (l+1)):GoodN lvs (nodes.modify n f):=by
 refine⟨by rw[List.length_modify];exact G.len,G.lv,λk l x b i c m=>?_⟩;rw[BJ]at b;cases hy:nodes[k]? with
 |none=>rw[hy]at b;cases b
 |some y=>
  rw[hy]at b;by_cases e:n=k;subst e;have b:f y=x:=by simpa using b
  subst b;rcases h y l c i m with h|h;exact G.kid n l y hy i c h;exact h;have b:y=x:=by simpa[e]using b
  subst b;exact G.kid k l y hy i c m
def qjz(kid:zmj)(lk:Nat):Prop:=∀had st had' st' lvs,kid had st=.inl (had',st')->GoodN lvs st.nodes->∃new,GoodN (lvs++lk::new) st'.nodes
theorem zmk{s:Bs}{n l:Nat}{closing:Int}{kid:zmj}(t:qjz kid (l+1)):∀(f:Nat) (had:List Bs) (st st':PSt) (lvs:List Nat),Jm s n closing kid f had st=.inl st'->GoodN lvs st.nodes->lvs[n]?=Td l->∃new,GoodN (lvs++new) st'.nodes
 |0,had,st,st',lvs,h,G,hn=>by unfold Jm PSt.err at h;cases h
 |f+1,had,st,st',lvs,h,G,hn=>by
  rw[Jm]at h;split at h;cases h;rename_i p o e;obtain⟨new,z⟩:=t _ _ _ _ lvs e G;have r:=(AY.1 hn).1;have q:=G.len;have b:(lvs++(l+1)::new)[n]?=Td l:=by rw[BK r];exact hn
  have k:(lvs++(l+1)::new)[st.nodes.length]?=Td (l+1):=by rw[BF (by omega),<-q,D3];rfl
  have y:GoodN (lvs++(l+1)::new) (o.addKid n st.nodes.length (st.last,o.here s.length)).skip.nodes:=by rw[qu];refine z.mod λx m c u w=>?_;unfold z5j at w;rw[b]at u;cases u;rcases Ay.1 w with h|h;exact .inl h;rw[A4]at h;exact .inr ⟨_,h,by omega,k⟩
  split at h;cases h;exact⟨_,y⟩;split at h;obtain⟨i,A⟩:=zmk t f p _ st' _ h y b;exact⟨(l+1)::new++i,by rw[<-AF];exact A⟩;unfold PSt.err at h;cases h
theorem zml{kid:zmj}(c:qjz kid (l+1)){st st':PSt}(h:Xo s n closing kid st=.inl st')(G:GoodN lvs st.nodes)(b:lvs[n]?=Td l):∃new,GoodN (lvs++new) st'.nodes:=by unfold Xo at h;split at h;cases h;exact⟨[],by rw[AQ,qu];exact G⟩;exact zmk c _ _ _ _ _ h G b
def qla(val:zry)(lk:Nat):Prop:=∀key st st' lvs,val key st=.inl st'->GoodN lvs st.nodes->∃new,GoodN (lvs++lk::new) st'.nodes
theorem z5n{val:zry}(h:qla val lk):qjz (zen val) lk:=by intro had st had' st' lvs e G;unfold zen at e;split at e;rename_i c b;cases e;exact h _ _ _ _ b G;cases e
theorem qax{val:zry}(h:qla val lk):qjz (zrz s val) lk:=by intro had st had' st' lvs e G;rw[qaw]at e;split at e;rename_i x c;have b:=(qih c).2;split at e;rename_i i f;cases e;exact h _ _ _ _ f (by rw[b];exact G);cases e;cases e
theorem z0d{st:PSt}{key:Sp}(h:st.rest≠[]):∃x:Nd,x.2.2.2.1=[]/\(st.open key).nodes=st.nodes++[x]:=by
 unfold PSt.open;cases hr:st.rest with
 |nil=>exact absurd hr h
 |cons t r=>exact⟨_,rfl,rfl⟩
theorem zxj(s:Bs):∀d:Nat,d<=32->qla (Jx s d) (33-d)
 |0,_=>by intro key st st' lvs e G;unfold Jx at e;split at e <;> (unfold PSt.err at e;cases e)
 |d+1,hd=>by
  intro key st st' lvs e G;have m:=zxj s d (by omega);rw[show 33-d=33-(d+1)+1 by omega]at m;unfold Jx at e;split at e;unfold PSt.err at e;cases e;rename_i p;split at e;unfold PSt.err at e;cases e;split at e;rename_i k b;cases e;obtain⟨x,f,h⟩:=z0d (key:=key) (zhu p);have i:GoodN (lvs++[33-(d+1)]) (st.open key).nodes:=by rw[h];exact G.push (by omega) (by omega) f
  have n:(lvs++[33-(d+1)])[st.nodes.length]?=Td (33-(d+1)):=by rw[<-G.len,BF (Ab _),D3];rfl
  obtain⟨new,o⟩:∃new,GoodN (lvs++[33-(d+1)]++new) k.nodes:=by unfold ztm at b;split at b;exact zml (z5n m) b i n;split at b;exact zml (qax m) b i n;cases b;exact⟨[],by rw[AQ];exact i⟩
  refine⟨new,?_⟩;rw[AF]at o;exact o.mod λx l c r q=>.inl q;cases e
def qj0(kid:zmj):Prop:=∀had st x,kid had st=.inr x->x.2≠0
def qlb(val:zry):Prop:=∀key st x,val key st=.inr x->x.2≠0
theorem zep{α:Type}{st:PSt}{e:Int}(b:e≠0){x:Int×Int}(h:(st.err s e:PR α)=.inr x):x.2≠0:=by unfold PSt.err at h;cases h;exact b
theorem z5o{s:Bs}{n:Nat}{closing:Int}{kid:zmj}(b:qj0 kid):∀(f:Nat) (had:List Bs) (st:PSt) (x:Int×Int),Jm s n closing kid f had st=.inr x->x.2≠0
 |0,had,st,x,h=>by unfold Jm at h;exact zep (by omega) h
 |f+1,had,st,x,h=>by rw[Jm]at h;split at h;rename_i y e;cases h;exact b _ _ _ e;split at h;cases h;split at h;exact z5o b f _ _ x h;exact zep (by omega) h
theorem z5p{kid:zmj}(b:qj0 kid){st:PSt}{x:Int×Int}(h:Xo s n closing kid st=.inr x):x.2≠0:=by unfold Xo at h;split at h;cases h;exact z5o b _ _ _ _ h
theorem qii{val:zry}(h:qlb val):qj0 (zen val):=by intro had st x e;unfold zen at e;split at e;cases e;rename_i y b;cases e;exact h _ _ _ b
theorem qlc{val:zry}(h:qlb val):qj0 (zrz s val):=by intro had st x e;unfold zrz at e;split at e;exact zep (by omega) e;split at e;split at e;exact zep (by omega) e;split at e;split at e;cases e;rename_i y b;cases e;exact h _ _ _ b;exact zep (by omega) e;exact zep (by omega) e
theorem qay(s:Bs):∀d:Nat,qlb (Jx s d)
 |0=>by intro key st x e;unfold Jx at e;split at e <;> exact zep (by omega) e
 |d+1=>by intro key st x e;unfold Jx at e;split at e;exact zep (by omega) e;split at e;exact zep (by omega) e;split at e;cases e;rename_i y b;cases e;unfold ztm at b;split at b;exact z5p (qii (qay s d)) b;split at b;exact z5p (qlc (qay s d)) b;cases b
theorem z5q(h:(Ya s).2.2=0):∃lvs,GoodN (1::lvs) (Ya s).1.2/\(Ya s).1.1=s/\(Ya s).2.1=(s.length:Int)/\(Ya s).1.2.length<=4096/\∀x∈(Ya s).1.2,ndW x<=2*(yr s).1.length:=by
 have b:∀{x:Int×Int},Jx s 32 (0,0) ⟨zw (yr s).1,0,[]⟩=.inr x->x.2≠0:=λh=>qay s 32 _ _ _ h;unfold Ya at h ⊢;split at h;rename_i h0;rw[if_pos h0];split at h;rename_i st e;split at h;rename_i c;rw[if_pos c];have a:=zr0 s 32 _ _ _ e;obtain⟨new,G⟩:=zxj s 32 (by omega) _ _ _ [] e GoodN.nil;refine⟨new,G,rfl,rfl,a.m (by simp),λx f=>?_⟩;have h1:=qfd f;have n:=a.t;have l:(⟨zw (yr s).1,0,[]⟩:PSt).T=2*(zw (yr s).1).length:=by unfold PSt.T;simp
 have k:(zw (yr s).1).length<=(yr s).1.length:=List.length_filter_le _ _;omega;simp at h;rename_i e i;exact absurd h (b i);rename_i h0;exact absurd h h0
end
section
def qp(t:Bs)(p:Sp):Bs:=if p.1<0\/p.2<p.1\/(t.length:Int)<p.2 then []else Jw t p
theorem zf5(t:Bs)(p:Sp):(qp t p).length<=t.length:=by unfold qp Jw;split;exact AX _;rw[AK,AH];omega
def Yf(kind:Int)(t:Bs):Bs:=if kind=2 then t else if kind=3 then qm (zj t).1 else if kind=4 then(Xh t).1 else []
def qcv(t:Bs)(x:Nd):Bs:=(Xh (qp t x.2.2.1)).1
def zr1(t:Bs)(nodes:List Nd)(c:Int):Bs:=match nodes[c.toNat]? with
 |some x=>qcv t x
 |none=>[]
def Q5(t:Bs)(nodes:List Nd):Nat->Nat->Tr
 |0,_=>.mk 0 (bl []) [] []
 |f+1,k=>match nodes[k]? with
  |none=>.mk 0 (bl []) [] []
  |some x=>.mk x.1 (bl (Yf x.1 (qp t x.2.1))) (if x.1=6 then x.2.2.2.1.map λc=>bl (zr1 t nodes c)else []) (x.2.2.2.1.map λc=>Q5 t nodes f c.toNat)
def yu(s:Bs):Tr×Int×Int:=if(Ya s).2.2=0 then(Q5 s (Ya s).1.2 33 0,(s.length:Int),0)else(.mk 0 (bl []) [] [],(Ya s).2.1,(Ya s).2.2)
end
section
variable {v:Tr}
theorem Jo{q:Tr->Bool}{v x:Tr}(h:Q8 q v=Ta)(b:x∈v.items):Q8 q x=Ta:=by rw[y0,Ap,jk,Av]at h;exact h.2 x b
theorem zeq{q:Tr->Bool}(h:Q8 q v=Ta):q v=Ta:=by rw[y0,Ap]at h;exact h.1
end
section
theorem zf6{t:Bs}{nodes:List Nd}{k f:Nat}{x:Nd}(h:nodes[k]?=Td x):Q5 t nodes (f+1) k=.mk x.1 (bl (Yf x.1 (qp t x.2.1))) (if x.1=6 then x.2.2.2.1.map λc=>bl (zr1 t nodes c)else []) (x.2.2.2.1.map λc=>Q5 t nodes f c.toNat):=by rw[Q5,h]
end
section
variable {lo d m:Nat} {s:Bs} {α:Type} {obj:Bool}
inductive KidsG (K:List Bs->List Bs->Bs×Tr->List Tk->Nat->Prop) (close:Int):List Bs->List (Bs×Tr)->List Tk->Nat->Prop
 |last {had had':List Bs} {kv:Bs×Tr} {C:List Tk} {c:Tk} {m:Nat}:K had had' kv C m->c.1=close->KidsG K close had [kv] (C++[c]) m
 |more {had had':List Bs} {kv:Bs×Tr} {kvs:List (Bs×Tr)} {C D:List Tk} {q:Tk} {m m':Nat}:K had had' kv C m->q.1=6->KidsG K close had' kvs D m'->KidsG K close had (kv::kvs) (C++q::D) (m+m')
def KA(P:Tr->List Tk->Nat->Prop)(had had':List Bs)(b:Bs×Tr)(C:List Tk)(m:Nat):Prop:=had'=had/\P b.2 C m
def KO(s:Bs)(P:Tr->List Tk->Nat->Prop)(had had':List Bs)(b:Bs×Tr)(C:List Tk)(m:Nat):Prop:=
 ∃t q c,C=t::q::c/\t.1=8/\q.1=7/\b.1=(Xh (Jw s t.2)).1/\qp s t.2=Jw s t.2/\b.1∉had/\had'=had++[b.1]/\P b.2 c m
def PV(s:Bs):Nat->Tr->List Tk->Nat->Prop
 |0,_,_,_=>False
 |d+1,v,C,m=>∃t,(C=[t]/\zu t.1≠0/\zu t.1≠5/\zu t.1≠6/\v=.mk (zu t.1) (bl (Yf (zu t.1) (qp s t.2))) [] []/\m=1)
  \/ (∃c,C=[t,c]/\((t.1=4/\c.1=5/\v=.mk 5 (bl []) [] [])\/(t.1=2/\c.1=3/\v=.mk 6 (bl []) [] []))/\m=1)
  \/ (∃D kvs m',C=t::D/\t.1=4/\KidsG (KA (PV s d)) 5 [] kvs D m'/\v=.mk 5 (bl []) [] (kvs.map (·.2))/\m=m'+1)
  \/ (∃D kvs m',C=t::D/\t.1=2/\KidsG (KO s (PV s d)) 3 [] kvs D m'/\v=.mk 6 (bl []) (kvs.map λb=>bl b.1) (kvs.map (·.2))/\m=m'+1)
def qij(C:List Tk):Sp:=((C.head?.map (·.2.1)).getD 0,(C.getLast?.map (·.2.2)).getD 0)
def zcy(C:List Tk)(l:Int):Int:=(C.getLast?.map (·.2.2)).getD l
theorem j9{C D:List Tk}(h:D≠[])(l:Int):zcy (C++D) l=zcy D l:=by
 unfold zcy;rw[List.getLast?_append];cases hd:D.getLast? with
 |none=>exact absurd (List.getLast?_eq_none_iff.1 hd) h
 |some x=>rfl
theorem zf7{C:List Tk}(h:C≠[])(l b:Int):zcy C l=zcy C b:=by
 unfold zcy;cases hd:C.getLast? with
 |none=>exact absurd (List.getLast?_eq_none_iff.1 hd) h
 |some x=>rfl
def Agr(lo:Nat)(new nodes:List Nd):Prop:=∀i x,new[i]?=Td x->nodes[lo+i]?=Td x
theorem Agr.left{a b nodes:List Nd}(h:Agr lo (a++b) nodes):Agr lo a nodes:=λi x c=>h i x (by rw[BK (AY.1 c).1];exact c)
theorem Agr.right{a b nodes:List Nd}(h:Agr lo (a++b) nodes):Agr (lo+a.length) b nodes:=λi x c=>by have:=h (a.length+i) x (by rw[BF (by omega),Db];exact c);rw[CP];exact this
def SubV(s:Bs)(d lo:Nat)(new:List Nd)(C:List Tk)(m:Nat):Prop:=∀i,i<new.length->∃e h c pre b m',e<=d/\PV s e h c m'/\C=pre++c++b/\m'<=m/\∀nodes,Agr lo new nodes->∀f,e<=f->Q5 s nodes f (lo+i)=h/\∃x,nodes[lo+i]?=Td x/\x.2.1=qij c
structure Made (s:Bs) (d lo:Nat) (key:Sp) (new:List Nd) (v:Tr) (C:List Tk) (m:Nat):Prop where
 len:new.length=m
 pos:1<=m
 key:∃x,new[0]?=Td x/\x.2.2.1=key
 val:∀nodes,Agr lo new nodes->∀f,d<=f->Q5 s nodes f lo=v
 sub:SubV s d lo new C m
structure MadeK (s:Bs) (obj:Bool) (d lo:Nat) (ks:List Int) (new:List Nd) (kvs:List (Bs×Tr)) (D:List Tk) (m:Nat):Prop where
 len:new.length=m
 val:∀nodes,Agr lo new nodes->∀f,d<=f->(ks.map λc=>Q5 s nodes f c.toNat)=kvs.map (·.2)
 key:obj=Ta->∀nodes,Agr lo new nodes->(ks.map λc=>bl (zr1 s nodes c))=kvs.map λkv=>bl kv.1
 sub:SubV s d lo new D m
theorem SubV.mono{d d2 lo:Nat}{new:List Nd}{C:List Tk}{m c:Nat}(h:SubV s d lo new C m)(u:d<=d2)(t:m<=c)(pre b:List Tk):SubV s d2 lo new (pre++C++b) c:=by intro i hi;obtain⟨n,f,l,p,q,m',h1,k,e,r,o⟩:=h i hi;exact⟨n,f,l,pre++p,q++b,m',by omega,k,by rw[e];simp,by omega,o⟩
theorem SubV.append{a b:List Nd}{C:List Tk}(h:SubV s d lo a C m)(n:SubV s d (lo+a.length) b C m):SubV s d lo (a++b) C m:=by intro i hi;rcases A6 i a.length with h'|h';obtain⟨r,k,o,p,q,m',h1,n,e,c,t⟩:=h i h';exact⟨r,k,o,p,q,m',h1,n,e,c,λnodes l=>t nodes l.left⟩;obtain⟨r,k,o,p,q,m',h1,e,c,t,u⟩:=n (i-a.length) (by rw[Ag]at hi;omega);refine⟨r,k,o,p,q,m',h1,e,c,t,λnodes l f w=>?_⟩;have:=u nodes l.right f w;rw[show lo+a.length+(i-a.length)=lo+i from by omega]at this;exact this
def qld(s:Bs)(obj:Bool)(d:Nat)(close:Int)(K:List Bs->List Bs->Bs×Tr->List Tk->Nat->Prop)(kid:zmj):Prop:=
 ∀had had' b C m,K had had' b C m->1<=m/\(∃t c,C=t::c/\t.1≠close)/\∀(st:PSt) (rest:List Tk),st.rest=C++rest->st.nodes.length+m<=4096->∃new,
  kid had st=.inl (had',⟨rest,zcy C st.last,st.nodes++new⟩)/\MadeK s obj d st.nodes.length [((st.nodes.length:Nat):Int)] new [b] C m
def z0e(x:Nd)(ks:List Int)(ps:List Sp):Nd:=(x.1,x.2.1,x.2.2.1,x.2.2.2.1++ks,x.2.2.2.2++ps)
theorem Jp{a:List α}{x:α}{b:List α}{f:α->α}:(a++x::b).modify a.length f=a++f x::b:=by
 induction a with
 |nil=>rfl
 |cons y a c=>simp only[AD,Aq,List.modify_succ_cons,c]
theorem zmm{close:Int}{K:List Bs->List Bs->Bs×Tr->List Tk->Nat->Prop}{kid:zmj}(F:qld s obj d close K kid)(u:close≠6){had:List Bs}{kvs:List (Bs×Tr)}{D:List Tk}(H:KidsG K close had kvs D m):
  (∃t N,D=t::N/\t.1≠close)/\1<=m/\kvs.length<=D.length/\∀(base:List Nd) (x:Nd) (news:List Nd) (rest:List Tk) (last:Int) (f:Nat),kvs.length<=f->base.length+1+news.length+m<=4096->∃ks ps new,Jm s base.length close kid f had ⟨D++rest,last,base++x::news⟩=.inl ⟨rest,zcy D last,base++z0e x ks ps::(news++new)⟩/\MadeK s obj d (base.length+1+news.length) ks new kvs D m:=by
 induction H with
 | @last had had' kv C c m hk hc=>
  obtain⟨h1,⟨B,w,k,y⟩,A⟩:=F _ _ _ _ _ hk;refine⟨⟨B,w++[c],by rw[k];rfl,y⟩,h1,by simp,λbase x news rest last f n l=>?_⟩;obtain⟨g,rfl⟩:∃g,f=g+1:=⟨f-1,by simp at n;omega⟩;have o:(base++x::news).length=base.length+1+news.length:=by simp;omega
  obtain⟨new,e,M⟩:=A ⟨C++[c]++rest,last,base++x::news⟩ (c::rest) (by simp) (by dsimp only;rw[o];omega);dsimp only at e M;rw[o]at M;refine⟨[((base++x::news).length:Int)],[(last,c.2.1)],new,?_,?_⟩;rw[Jm,e];dsimp only;have r:PSt.kind ⟨c::rest,zcy C last,base++x::news++new⟩=close:=hc;rw[if_pos r];unfold PSt.addKid PSt.skip PSt.here;dsimp only;rw[AF,AD,Jp];congr 2;unfold zcy;simp;rw[o];refine⟨M.len,M.val,M.key,?_⟩;have:=M.sub.mono (Ab _) (Ab _) [] [c];simpa using this
 | @more had had' kv kvs C D q m m' hk hq hr ih=>
  obtain⟨h1,⟨B,w,k,y⟩,A⟩:=F _ _ _ _ _ hk;obtain⟨⟨Q,S,z,_⟩,U,gl,O⟩:=ih;have G:D≠[]:=by rw[z];simp
  refine⟨⟨B,w++q::D,by rw[k];rfl,y⟩,by omega,by simp;omega,λbase x news rest last f n l=>?_⟩;obtain⟨g,rfl⟩:∃g,f=g+1:=⟨f-1,by simp at n;omega⟩;have o:(base++x::news).length=base.length+1+news.length:=by simp;omega
  obtain⟨new,e,M⟩:=A ⟨C++q::D++rest,last,base++x::news⟩ (q::(D++rest)) (by simp) (by dsimp only;rw[o];omega);dsimp only at e M;rw[o]at M;have L:=M.len;obtain⟨ks,ps,i,J,p⟩:=O base (z0e x [((base++x::news).length:Int)] [(last,q.2.1)]) (news++new) rest q.2.2 g (by simp at n;omega) (by rw[Ag];omega);refine⟨((base++x::news).length:Int)::ks,(last,q.2.1)::ps,new++i,?_,?_⟩;rw[Jm,e];dsimp only;have r:PSt.kind ⟨q::(D++rest),zcy C last,base++x::news++new⟩=6:=hq;rw[if_neg (by rw[r];exact λh=>u h.symm),if_pos r];have P:(PSt.addKid ⟨q::(D++rest),zcy C last,base++x::news++new⟩ base.length ((base++x::news).length:Int) (last,PSt.here ⟨q::(D++rest),zcy C last,base++x::news++new⟩ s.length)).skip=⟨D++rest,q.2.2,base++z0e x [((base++x::news).length:Int)] [(last,q.2.1)]::(news++new)⟩:=by unfold PSt.addKid PSt.skip PSt.here;dsimp only;rw[AF,AD,Jp];rfl
  rw[P,J];congr 2;rw[j9 (C:=C) (D:=q::D) (by simp),show q::D=[q]++D from rfl,j9 G];exact zf7 G _ _;unfold z0e;simp;rw[o];have E:base.length+1+(news++new).length=base.length+1+news.length+new.length:=by rw[Ag];omega
  rw[E]at p;refine⟨by rw[Ag,M.len,p.len],λnodes l f n=>?_,λI nodes l=>?_,?_⟩;have a:=M.val nodes l.left f n;have b:=p.val nodes l.right f n;simp only[Ar,Cp,BV,and_true]at a ⊢;exact⟨a,b⟩;have a:=M.key I nodes l.left;have b:=p.key I nodes l.right;simp only[Ar,Cp,BV,and_true]at a ⊢;exact⟨a,b⟩;have a:=M.sub.mono (d2:=d) (Ab _) (show m<=m+m' by omega) [] (q::D);have b:=p.sub.mono (d2:=d) (Ab _) (show m'<=m+m' by omega) (C++[q]) [];rw[A5]at a;have b:SubV s d (base.length+1+news.length+new.length) i (C++q::D) (m+m'):=by simpa using b
  exact a.append b
theorem modify_last{a:List α}{x:α}{f:α->α}:(a++[x]).modify a.length f=a++[f x]:=Jp
theorem qcw(t:Bs):Yf 5 t=[]:=by unfold Yf;simp
theorem qcx(t:Bs):Yf 6 t=[]:=by unfold Yf;simp
theorem Agr.head{x:Nd}{l nodes:List Nd}(h:Agr lo (x::l) nodes):nodes[lo]?=Td x:=h 0 x rfl
theorem Agr.tail{x:Nd}{l nodes:List Nd}(h:Agr lo (x::l) nodes):Agr (lo+1) l nodes:=λi y b=>by have:=h (i+1) y b;rw[show lo+1+i=lo+(i+1)from by omega];exact this
theorem zr2{key:Sp}{k:Int}{t:Tk}{D:List Tk}{ks:List Int}{ps:List Sp}{new:List Nd}{kvs:List (Bs×Tr)}{v:Tr}(o:k=5/\obj=Tc\/k=6/\obj=Ta)(z:v=.mk k (bl []) (if obj=Ta then kvs.map λr=>bl r.1 else []) (kvs.map (·.2)))(n:D≠[])
  (A:PV s (d+1) v (t::D) (m+1)) (M:MadeK s obj d (lo+1) ks new kvs D m):Made s (d+1) lo key ((k,(t.2.1,zcy D 0),key,ks,ps)::new) v (t::D) (m+1):=by
 have c:∀nodes,Agr lo ((k,(t.2.1,zcy D 0),key,ks,ps)::new) nodes->∀f,d+1<=f->Q5 s nodes f lo=v:=λnodes b f l=>by obtain⟨g,rfl⟩:∃g,f=g+1:=⟨f-1,by omega⟩;rw[zf6 b.head,M.val nodes b.tail g (by omega),z];dsimp only;rcases o with⟨rfl,rfl⟩|⟨rfl,rfl⟩;rw[qcw];simp;rw[qcx,if_pos rfl,if_pos rfl,M.key rfl nodes b.tail]
 refine⟨by rw[Aq,M.len],by omega,⟨_,rfl,rfl⟩,c,λi hi=>?_⟩;cases i with
 |zero=>refine⟨d+1,v,t::D,[],[],m+1,Ab _,A,by simp,Ab _,λnodes b f l=>⟨c nodes b f l,_,b.head,?_⟩⟩;have e:zcy (t::D) 0=zcy D 0:=j9 (C:=[t]) n 0;show(t.2.1,zcy D 0)=qij (t::D);rw[<-e];rfl
 |succ i=>obtain⟨y,w,x,pre,h,m',h1,p,u,B,q⟩:=M.sub i (by simpa using hi);refine⟨y,w,x,t::pre,h,m',by omega,p,by rw[u];rfl,by omega,λnodes b f l=>?_⟩;have:=q nodes b.tail f l;rw[show lo+1+i=lo+(i+1)from by omega]at this;exact this
theorem zju{s:Bs}:∀(d:Nat) (v:Tr) (C:List Tk) (m:Nat),PV s d v C m->1<=m/\(∃t A,C=t::A/\zu t.1≠0)/\∀(key:Sp) (st:PSt) (rest:List Tk),st.rest=C++rest->st.nodes.length+m<=4096->∃new,
  Jx s d key st=.inl ⟨rest,zcy C st.last,st.nodes++new⟩/\Made s d st.nodes.length key new v C m
 |0,v,C,m,h=>h.elim
 |d+1,v,C,m,h=>by
  have ih:=zju (s:=s) d;have ae:qld s Tc d 5 (KA (PV s d)) (zen (Jx s d)):=by rintro had had' kv C m ⟨rfl,O⟩;obtain⟨h1,⟨t,A,p,U⟩,w⟩:=ih _ _ _ O;refine⟨h1,⟨t,A,p,λe=>U (by rw[e];rfl)⟩,λst rest k b=>?_⟩;obtain⟨new,e,M⟩:=w (0,0) st rest k b;refine⟨new,by unfold zen;rw[e],M.len,λnodes b f z=>?_,λh=>(by cases h),M.sub⟩;simp only[Ar,Cp,Ai];rw[M.val nodes b f z]
  have ah:qld s Ta d 3 (KO s (PV s d)) (zrz s (Jx s d)):=by
   rintro had had' kv C m ⟨t,q,A,p,Q,hq,o,I,J,S,O⟩;subst p;obtain⟨h1,⟨t1,C1,P,U⟩,w⟩:=ih _ _ _ O;refine⟨h1,⟨t,_,rfl,by omega⟩,λst rest k b=>?_⟩;obtain⟨new,e,M⟩:=w t.2 st.skip.skip rest (by unfold PSt.skip;rw[k];rfl) (by rw[qu,qu];exact b);have e2:st.skip.skip.last=q.2.2:=by unfold PSt.skip;rw[k];rfl
   rw[qu,qu]at e M;rw[e2]at e;refine⟨new,?_,M.len,λnodes b f z=>?_,λ_ nodes b=>?_,?_⟩;unfold zrz;rw[k];dsimp only[AD];rw[if_pos Q,if_neg (by rw[<-o];exact J)];have ek:st.skip.kind=7:=by unfold PSt.skip PSt.kind;rw[k];exact hq
   rw[if_pos ek,e];dsimp only;rw[S,o];have N:zcy A q.2.2=zcy (t::q::A) st.last:=by rw[show t::q::A=[t,q]++A from rfl,j9 (by rw[P];simp)];exact zf7 (by rw[P];simp) _ _
   rw[N];simp only[Ar,Cp,Ai];rw[M.val nodes b f z];obtain⟨x,hx,ab⟩:=M.key;have:=b 0 x hx;simp only[Ar,Cp,BV,and_true];unfold zr1;rw[Ai];rw[show nodes[st.nodes.length]?=Td x from this];show bl (qcv s x)=bl kv.1;unfold qcv;rw[ab,o,I];have:=M.sub.mono (d2:=d) (Ab _) (Ab m) [t,q] [];simpa using this
  have aa:∀(st:PSt) (t:Tk) (r:List Tk) (key:Sp),st.rest=t::r->st.open key=⟨r,t.2.2,st.nodes++[(zu t.1,t.2,key,[],[])]⟩:=λst t r key k=>by unfold PSt.open;rw[k]
  have af:∀(st:PSt) (t:Tk) (r:List Tk),st.rest=t::r->st.kind=t.1:=λst t r k=>by unfold PSt.kind;rw[k]
  have go:∀(key:Sp) (st st':PSt) (t:Tk) (r:List Tk),st.rest=t::r->zu t.1≠0->st.nodes.length<4096->ztm s (Jx s d) st.nodes.length (zu t.1) ⟨r,t.2.2,st.nodes++[(zu t.1,t.2,key,[],[])]⟩=.inl st'->Jx s (d+1) key st=.inl (st'.setTo st.nodes.length):=λkey st st' t r k U b e=>by rw[Jx,af st t r k,if_neg U,if_neg (by omega),aa st t r key k,e]
  obtain⟨t,V|⟨c,p,V,E⟩|⟨D,kvs,m',p,Q,Y,y,E⟩|⟨D,kvs,m',p,Q,Y,y,E⟩⟩:=id h;obtain⟨p,H,G,B,y,E⟩:=V;subst p E;refine⟨Ab _,⟨t,[],rfl,H⟩,λkey st rest k b=>⟨[(zu t.1,(t.2.1,t.2.2),key,[],[])],?_,?_⟩⟩;rw[go key st _ t rest k H (by omega) (by unfold ztm;rw[if_neg G,if_neg B])];unfold PSt.setTo;dsimp only;rw[modify_last];rfl;have n:∀nodes,Agr st.nodes.length [(zu t.1,(t.2.1,t.2.2),key,[],[])] nodes->∀f,d+1<=f->Q5 s nodes f st.nodes.length=v:=λnodes b f z=>by obtain⟨g,rfl⟩:∃g,f=g+1:=⟨f-1,by omega⟩;rw[zf6 b.head,y];dsimp only;rw[if_neg B];rfl
  refine⟨rfl,Ab _,⟨_,rfl,rfl⟩,n,λi hi=>?_⟩;have:i=0:=by simp at hi;exact hi
  subst this;exact⟨d+1,v,[t],[],[],1,Ab _,h,by simp,Ab _,λnodes b f z=>⟨n nodes b f z,_,b.head,rfl⟩⟩;subst p E;have e4:zu 4=5:=rfl;have e2:zu 2=6:=rfl;have o:zu t.1=5/\c.1=5/\v=.mk 5 (bl []) [] []\/zu t.1=6/\c.1=3/\v=.mk 6 (bl []) [] []:=by rcases V with⟨h1,Z,w⟩|⟨h1,Z,w⟩;exact .inl ⟨by rw[h1];rfl,Z,w⟩;exact .inr ⟨by rw[h1];rfl,Z,w⟩
  have H:zu t.1≠0:=by rcases o with⟨h,_⟩|⟨h,_⟩ <;> rw[h] <;> decide
  have O:PV s (d+1) v [t,c] 1:=⟨t,.inr (.inl ⟨c,rfl,V,rfl⟩)⟩;refine⟨Ab _,⟨t,[c],rfl,H⟩,λkey st rest k b=>⟨[(zu t.1,(t.2.1,c.2.2),key,[],[])],?_,?_⟩⟩;rw[go key st ⟨rest,c.2.2,st.nodes++[(zu t.1,t.2,key,[],[])]⟩ t (c::rest) k H (by omega) (by unfold ztm;rcases o with⟨h,hc,_⟩|⟨h,hc,_⟩;rw[h,if_pos rfl];unfold Xo;rw[if_pos (show PSt.kind ⟨c::rest,t.2.2,_⟩=5 from hc)];rfl;rw[h,if_neg (by decide),if_pos rfl];unfold Xo;rw[if_pos (show PSt.kind ⟨c::rest,t.2.2,_⟩=3 from hc)];rfl)];unfold PSt.setTo;dsimp only;rw[modify_last];rfl;have n:∀nodes,Agr st.nodes.length [(zu t.1,(t.2.1,c.2.2),key,[],[])] nodes->∀f,d+1<=f->Q5 s nodes f st.nodes.length=v:=λnodes b f z=>by obtain⟨g,rfl⟩:∃g,f=g+1:=⟨f-1,by omega⟩;rw[zf6 b.head];dsimp only;rcases o with⟨h,_,y⟩|⟨h,_,y⟩;rw[h,y,qcw];rfl;rw[h,y,qcx];rfl
  refine⟨rfl,Ab _,⟨_,rfl,rfl⟩,n,λi hi=>?_⟩;have:i=0:=by simp at hi;exact hi
  subst this;exact⟨d+1,v,[t,c],[],[],1,Ab _,O,by simp,Ab _,λnodes b f z=>⟨n nodes b f z,_,b.head,rfl⟩⟩;subst p E;obtain⟨⟨t1,D',u,F⟩,h1,L,w⟩:=zmm ae (by decide) Y;have l:D≠[]:=by rw[u];simp
  have G:zu t.1=5:=by rw[Q];rfl
  refine⟨by omega,⟨t,D,rfl,by rw[G];decide⟩,λkey st rest k b=>?_⟩;obtain⟨ks,ps,new,e,M⟩:=w st.nodes (zu t.1,t.2,key,[],[]) [] rest t.2.2 ((D++rest).length+1) (by rw[Ag];omega) (by simp only[AR];omega);rw[AR,C7]at M;refine⟨(5,(t.2.1,zcy D 0),key,ks,ps)::new,?_,zr2 (.inl ⟨rfl,rfl⟩) (by rw[y];rfl) l h M⟩;rw[go key st _ t (D++rest) k (by rw[G];decide) (by omega) (by unfold ztm;rw[G,if_pos rfl];unfold Xo;rw[if_neg (show¬PSt.kind ⟨D++rest,t.2.2,_⟩=5 from by rw[u];exact F)];rw[G]at e;exact e)];unfold PSt.setTo;dsimp only;rw[Jp];have N:zcy D t.2.2=zcy (t::D) st.last:=by rw[show t::D=[t]++D from rfl,j9 l];exact zf7 l _ _
  rw[N,zf7 (C:=t::D) (by simp) st.last 0,show zcy (t::D) 0=zcy D 0 from j9 (C:=[t]) l 0];simp[z0e,qfc];subst p E;obtain⟨⟨t1,D',u,F⟩,h1,L,w⟩:=zmm ah (by decide) Y;have l:D≠[]:=by rw[u];simp
  have B:zu t.1=6:=by rw[Q];rfl
  refine⟨by omega,⟨t,D,rfl,by rw[B];decide⟩,λkey st rest k b=>?_⟩;obtain⟨ks,ps,new,e,M⟩:=w st.nodes (zu t.1,t.2,key,[],[]) [] rest t.2.2 ((D++rest).length+1) (by rw[Ag];omega) (by simp only[AR];omega);rw[AR,C7]at M;refine⟨(6,(t.2.1,zcy D 0),key,ks,ps)::new,?_,zr2 (.inr ⟨rfl,rfl⟩) (by rw[y];rfl) l h M⟩;rw[go key st _ t (D++rest) k (by rw[B];decide) (by omega) (by unfold ztm;rw[B,if_neg (by decide),if_pos rfl];unfold Xo;rw[if_neg (show¬PSt.kind ⟨D++rest,t.2.2,_⟩=3 from by rw[u];exact F)];rw[B]at e;exact e)];unfold PSt.setTo;dsimp only;rw[Jp];have N:zcy D t.2.2=zcy (t::D) st.last:=by rw[show t::D=[t]++D from rfl,j9 l];exact zf7 l _ _
  rw[N,zf7 (C:=t::D) (by simp) st.last 0,show zcy (t::D) 0=zcy D 0 from j9 (C:=[t]) l 0];simp[z0e,qfc]
end
section
variable {k:Int}
theorem qcy(h:zu k=5):k=4:=by unfold zu at h;by_cases h1:k=12 <;> by_cases i:k=10\/k=11 <;> by_cases c:k=9 <;> by_cases b:k=8 <;> by_cases f:k=4 <;> by_cases e:k=2 <;> simp[*]at h ⊢
theorem qcz(h:zu k=6):k=2:=by unfold zu at h;by_cases h1:k=12 <;> by_cases i:k=10\/k=11 <;> by_cases c:k=9 <;> by_cases b:k=8 <;> by_cases f:k=4 <;> by_cases e:k=2 <;> simp[*]at h ⊢
def WfT(s:Bs)(l:List Tk):Prop:=∀t∈l,qp s t.2=Jw s t.2
theorem WfT.drop{s:Bs}{a b:List Tk}(h:WfT s (a++b)):WfT s b:=λt c=>h t (AC _ c)
def qle(s:Bs)(K:List Bs->List Bs->Bs×Tr->List Tk->Nat->Prop)(kid:zmj):Prop:=
 ∀had st had' st',kid had st=.inl (had',st')->WfT s st.rest->st.nodes.length<=4096->∃b C m,K had had' b C m/\st.rest=C++st'.rest/\st'.nodes.length=st.nodes.length+m/\st'.nodes.length<=4096
theorem zaj{st:PSt}(h:st.kind=k)(b:k≠0):∃t r,st.rest=t::r/\t.1=k:=by
 unfold PSt.kind at h;cases hr:st.rest with
 |nil=>rw[hr]at h;exact absurd h.symm b
 |cons t r=>rw[hr]at h;exact⟨t,r,rfl,h⟩
theorem Q6{st:PSt}{t:Tk}{r:List Tk}(h:st.rest=t::r):st.skip=⟨r,t.2.2,st.nodes⟩:=by unfold PSt.skip;rw[h]
theorem zcz{s:Bs}{n:Nat}{close:Int}(k:close≠0){K:List Bs->List Bs->Bs×Tr->List Tk->Nat->Prop}{kid:zmj}(x:qle s K kid):∀(f:Nat) (had:List Bs) (st st':PSt),Jm s n close kid f had st=.inl st'->WfT s st.rest->st.nodes.length<=4096 ->
  ∃kvs D m,KidsG K close had kvs D m/\st.rest=D++st'.rest/\st'.nodes.length=st.nodes.length+m/\st'.nodes.length<=4096
 |0,had,st,st',h,hw,hn=>by unfold Jm PSt.err at h;cases h
 |f+1,had,st,st',h,hw,hn=>by
  rw[Jm]at h;split at h;cases h;rename_i p b e;obtain⟨y,C,m,h1,u,I,G⟩:=x _ _ _ _ e hw hn;have o:WfT s b.rest:=by rw[u]at hw;exact hw.drop
  split at h;rename_i l;obtain⟨c,r,i,l⟩:=zaj l k;have w:=Q6 (st:=b.addKid n st.nodes.length (st.last,b.here s.length)) (t:=c) (r:=r) i;rw[w]at h;cases h;refine⟨[y],C++[c],m,.last h1 l,by rw[u,i];simp,?_,?_⟩ <;> dsimp only <;> rw[Jn] <;> assumption;split at h;rename_i l;obtain⟨q,r,i,B⟩:=zaj l (by decide);have w:=Q6 (st:=b.addKid n st.nodes.length (st.last,b.here s.length)) (t:=q) (r:=r) i;rw[w]at h;obtain⟨kvs,D,m',H,A,z,F⟩:=zcz k x f p _ st' h (by rw[i]at o;exact λt E=>o t (Ae _ E)) (by dsimp only;rw[Jn];exact G);dsimp only at A z;rw[Jn]at z;exact⟨y::kvs,C++q::D,m+m',.more h1 B H,by rw[u,i,A];simp,by omega,F⟩;unfold PSt.err at h;cases h
theorem zmn{s:Bs}:∀(d:Nat) (key:Sp) (st st':PSt),Jx s d key st=.inl st'->WfT s st.rest->st.nodes.length<=4096 ->
  ∃v C m,PV s d v C m/\st.rest=C++st'.rest/\st'.nodes.length=st.nodes.length+m/\st'.nodes.length<=4096
 |0,key,st,st',h,k,w=>by unfold Jx at h;split at h <;> (unfold PSt.err at h;cases h)
 |d+1,key,st,st',h,k,w=>by
  have Y:=zmn (s:=s) d;have H:qle s (KA (PV s d)) (zen (Jx s d)):=by intro had st had' st' e k w;unfold zen at e;split at e;rename_i l S;cases e;obtain⟨v,C,m,h1,B,F,L⟩:=Y _ _ _ S k w;exact⟨([],v),C,m,⟨rfl,h1⟩,B,F,L⟩;cases e
  have Q:qle s (KO s (PV s d)) (zrz s (Jx s d)):=by intro had st had' st' e k w;unfold zrz at e;split at e;unfold PSt.err at e;cases e;rename_i t r f;split at e;rename_i ht;split at e;unfold PSt.err at e;cases e;rename_i y;split at e;rename_i hk;obtain⟨q,V,b,Z⟩:=zaj hk (by decide);rw[Q6 f]at b;dsimp only at b;rw[Q6 f,Q6 (st:=⟨r,t.2.2,st.nodes⟩) b]at e;split at e;rename_i l S;cases e;rw[f,b]at k;obtain⟨v,C,m,h1,B,F,L⟩:=Y _ _ _ S (λx N=>k x (Ae _ (Ae _ N))) w;dsimp only at B F;exact⟨((Xh (Jw s t.2)).1,v),t::q::C,m,⟨t,q,C,rfl,ht,Z,rfl,k t Am,y,rfl,h1⟩,by rw[f,b,B];rfl,F,L⟩;cases e;unfold PSt.err at e;cases e;unfold PSt.err at e;cases e
  rw[Jx]at h;split at h;unfold PSt.err at h;cases h;rename_i M;split at h;unfold PSt.err at h;cases h;rename_i P;split at h;rename_i l e;cases h;have J:=zhu M;obtain⟨t,r,f⟩:∃t r,st.rest=t::r:=by
   cases f:st.rest with
   |nil=>exact absurd f J
   |cons t r=>exact⟨t,r,rfl⟩
  have O:st.kind=t.1:=by unfold PSt.kind;rw[f]
  have U:st.open key=⟨r,t.2.2,st.nodes++[(zu t.1,t.2,key,[],[])]⟩:=by unfold PSt.open;rw[f]
  rw[O]at e M;rw[U]at e;have p:WfT s r:=by rw[f]at k;exact λx N=>k x (Ae _ N)
  have i:(st.nodes++[(zu t.1,t.2,key,[],[])]).length=st.nodes.length+1:=by simp
  have o:(l.setTo st.nodes.length).rest=l.rest:=rfl;rw[o,zeo,f];unfold ztm at e;split at e;rename_i E;unfold Xo at e;split at e;rename_i n;obtain⟨c,V,b,n⟩:=zaj n (by decide);rw[Q6 b]at e;cases e;dsimp only at b ⊢;rw[i,b];exact⟨_,[t,c],1,⟨t,.inr (.inl ⟨c,rfl,.inl ⟨qcy E,n,rfl⟩,rfl⟩)⟩,rfl,rfl,by omega⟩;obtain⟨kvs,D,m,G,z,u,I⟩:=zcz (by decide) H _ _ _ _ e p (by dsimp only;omega);dsimp only at z u;rw[i]at u;exact⟨_,t::D,m+1,⟨t,.inr (.inr (.inl ⟨D,kvs,m,rfl,qcy E,G,rfl,rfl⟩))⟩,by rw[z];rfl,by omega,I⟩;rename_i E;split at e;rename_i A;unfold Xo at e;split at e;rename_i n;obtain⟨c,V,b,n⟩:=zaj n (by decide);rw[Q6 b]at e;cases e;dsimp only at b ⊢;rw[i,b];exact⟨_,[t,c],1,⟨t,.inr (.inl ⟨c,rfl,.inr ⟨qcz A,n,rfl⟩,rfl⟩)⟩,rfl,rfl,by omega⟩;obtain⟨kvs,D,m,G,z,u,I⟩:=zcz (by decide) Q _ _ _ _ e p (by dsimp only;omega);dsimp only at z u;rw[i]at u;exact⟨_,t::D,m+1,⟨t,.inr (.inr (.inr ⟨D,kvs,m,rfl,qcz A,G,rfl,rfl⟩))⟩,by rw[z];rfl,by omega,I⟩;rename_i A;cases e;dsimp only;rw[i];exact⟨_,[t],1,⟨t,.inl ⟨rfl,M,E,A,rfl,rfl⟩⟩,rfl,rfl,by omega⟩;cases h
end
section
variable {s:Bs} {a b:Nat}
inductive Lex (s:Bs):Nat->Nat->List Tk->Prop
 |nil {i:Nat}:Lex s i i []
 |cons {i j:Nat} {T:List Tk}:i<s.length->(Z1 s i).2.2=0->Lex s (Z1 s i).2.1 j T->Lex s i j (((Z1 s i).1,((i:Int),((Z1 s i).2.1:Int)))::T)
theorem zr3:∀(f:Nat) (s:Bs) (a:Nat) (o:List Tk),(Q4 f s a o).2.2=0->s.length-a<=f->a<=s.length->∃T,(Q4 f s a o).1=o++T/\Lex s a s.length T
 |0,s,a,o,h,hf,ha=>by
  have:a=s.length:=by omega
  subst this;exact⟨[],by simp[Q4],.nil⟩
 |f+1,s,a,o,h,hf,ha=>by
  rw[Q4]at h ⊢;split at h;rename_i h1;rw[if_pos h1];split at h;rename_i b;rw[if_pos b];have c:=Jl h1 b;obtain⟨T,e,L⟩:=zr3 f s _ _ h (by omega) c.2;exact⟨_::T,by rw[e];simp,.cons h1 b L⟩;rename_i b;exact absurd h b;rename_i h1;rw[if_neg h1];have:a=s.length:=by omega
  subst this;exact⟨[],by simp,.nil⟩
theorem Lex.le{T:List Tk}(H:Lex s a b T):a+T.length<=b/\(T≠[]->b<=s.length):=by
 induction H with
 |nil=>exact⟨by simp,λh=>absurd rfl h⟩
 | @cons a b T h1 h2 h3 ih=>
  have c:=Jl h1 h2;refine⟨by simp only[Aq];omega,λ_=>?_⟩;cases h3 with
  |nil=>exact c.2
  |cons=>exact ih.2 (by simp)
theorem z5r{T:List Tk}(H:Lex s a b T):∀(f:Nat) (o:List Tk),b=s.length->T.length<=f->Q4 f s a o=(o++T,s.length,0):=by
 induction H with
 | @nil a=>
  intro f o c e;subst c;cases f with
  |zero=>simp[Q4]
  |succ f=>rw[Q4,if_neg (by omega)];simp
 | @cons a b T h1 h2 h3 ih=>intro f o c e;obtain⟨g,rfl⟩:∃g,f=g+1:=⟨f-1,by simp at e;omega⟩;rw[Q4,if_pos h1,if_pos h2,ih g _ c (by simpa using e)];simp
theorem z5s{T:List Tk}(H:Lex s 0 s.length T)(b:s.length<=65536):yr s=(T,s.length,0):=by unfold yr;rw[if_neg (by omega),z5r H _ _ rfl (by have:=H.le.1;omega),A5]
theorem zr4(h:(yr s).2.2=0):s.length<=65536/\Lex s 0 s.length (yr s).1:=by unfold yr at h ⊢;split at h;cases h;rename_i h1;rw[if_neg h1];obtain⟨T,e,L⟩:=zr3 _ _ _ _ h (by omega) (by omega);rw[e];exact⟨by omega,L⟩
theorem Lex.append{c e:List Tk}{a m b:Nat}(H:Lex s a m c)(f:Lex s m b e):Lex s a b (c++e):=by
 induction H with
 |nil=>exact f
 |cons h1 i _ h=>exact .cons h1 i (h f)
theorem Lex.tok{T:List Tk}(H:Lex s a b T):∀t∈T,(a:Int)<=t.2.1/\t.2.1<t.2.2/\t.2.2<=(b:Int)/\b<=s.length:=by
 induction H with
 |nil=>intro t c;cases c
 | @cons a b T h1 h2 h3 ih=>
  have f:=Jl h1 h2;have e:=h3.le;intro t c;rcases Ah.1 c with rfl|c;refine⟨by dsimp only;omega,by dsimp only;omega,by dsimp only;omega,?_⟩;cases h3 with
  |nil=>exact f.2
  |cons=>exact e.2 (by simp)
  have:=ih t c;exact⟨by omega,this.2.1,this.2.2.1,this.2.2.2⟩
theorem zbb{p:Sp}(h0:0<=p.1)(h1:p.1<p.2)(b:p.2<=(s.length:Int)):qp s p=Jw s p:=by unfold qp;rw[if_neg (by omega)]
theorem qfg(b:(Ya s).2.2=0):(yr s).2.2=0/\∃v C m,PV s 32 v C m/\m<=4096/\zw (yr s).1=C/\Made s 32 0 (0,0) (Ya s).1.2 v C m:=by
 have f:(yr s).2.2=0:=by unfold Ya at b;split at b;assumption;exact b
 refine⟨f,?_⟩;obtain⟨p,L⟩:=zr4 f;have n:WfT s (zw (yr s).1):=λt h=>by have:=L.tok t (CM.1 h).1;exact zbb (by omega) this.2.1 (by omega)
 unfold Ya at b ⊢;rw[if_pos f]at b ⊢;cases e:Jx s 32 (0,0) ⟨zw (yr s).1,0,[]⟩with
 |inr x=>rw[e]at b;dsimp only at b;exfalso;exact qay s 32 _ _ _ e b
 |inl st=>
  rw[e]at b;dsimp only at b ⊢;split at b;rename_i k;rw[if_pos k];obtain⟨v,C,m,h1,c,i,q⟩:=zmn 32 _ _ _ e n (by simp);rw[k,AQ]at c;have c:zw (yr s).1=C:=c;have o:m<=4096:=by simp only[AR]at i;omega
  obtain⟨_,_,g⟩:=zju 32 v C m h1;obtain⟨new,l,M⟩:=g (0,0) ⟨zw (yr s).1,0,[]⟩ [] (by rw[c];simp) (by simp at i ⊢;omega);rw[l]at e;simp only[Sum.inl.injEq]at e;subst e;simp only[A5,AR]at i M ⊢;exact⟨v,C,m,h1,o,c,M⟩;cases b
end
section
variable {l:Bs} {u:Nat}
theorem qik{k:Nat}(h:k<10):(Bb (48+k)).toNat=48+k:=by rw[UInt8.toNat_ofNat'];omega
theorem zak:∀(n u:Nat),u<=n->(decDigits u).all ja=Ta/\decDigits u≠[]/\zm (decDigits u)=u/\(1<=u->(decDigits u).head?≠Td 48)
 |0,u,h=>by
  have:u=0:=by omega
  subst this;rw[decDigits,dif_pos (by omega)];exact⟨by decide,by simp,by decide,λh=>by omega⟩
 |n+1,u,h=>by by_cases b:u<10;rw[decDigits,dif_pos b];refine⟨?_,by simp,?_,λh1=>?_⟩;simp only[DJ,List.all_nil,Dt,ja,qik b];simp;omega;simp only[zm,List.foldl_cons,List.foldl_nil,qik b];omega;intro e;simp only[List.head?_cons,Ac]at e;have:=congrArg UInt8.toNat e;rw[qik b]at this;have k:(48:UInt8).toNat=48:=rfl;omega;rw[decDigits,dif_neg b];obtain⟨h1,m,l,i⟩:=zak n (u / 10) (by omega);have f:u % 10<10:=Nat.mod_lt _ (by omega);refine⟨?_,by simp,?_,λ_=>?_⟩;rw[DG,h1];simp only[DJ,List.all_nil,Dt,Cs,ja,qik f];simp;omega;rw[zjd,l,qik f];omega;obtain⟨c,t,e⟩:=Bq m;have:=i (by omega);rw[e]at this ⊢;exact this
theorem zhv{c:UInt8}(h:l.all ja=Ta)(e:ja c=Tc):l.head?≠Td c:=by
 cases l with
 |nil=>simp
 |cons b t=>simp only[DJ,Ap]at h;simp only[List.head?_cons,ne_eq,Ac];rintro rfl;rw[h.1]at e;cases e
theorem zxk(h:l.head?≠Td 48):l.dropWhile (· == 48)=l:=by
 cases l with
 |nil=>rfl
 |cons b t=>simp only[List.head?_cons,ne_eq,Ac]at h;rw[List.dropWhile_cons,if_neg (by simpa using h)]
theorem qfh(h:l.head?≠Td 48)(b:l.getLast?≠Td 48):yp l=l:=by unfold yp;rw[zxk h,zxk (by rw[List.head?_reverse];exact b),List.reverse_reverse]
theorem zal:∀(k u:Nat),u<10 ^ (k+1)->(decDigits u).length<=k+1
 |0,u,h=>by rw[decDigits,dif_pos (by omega)];exact Ab _
 |k+1,u,h=>by by_cases b:u<10;rw[decDigits,dif_pos b];simp;have:=zal k (u / 10) (by rw[Ef]at h;omega);rw[decDigits,dif_neg b,Ag];simpa using this
theorem Qi(h:u<=1000000):(decDigits u).length<=9:=zal 8 u (by omega)
theorem qfi(u:Nat):itoa (u:Int)=decDigits u:=by unfold itoa;rw[if_neg (by omega)];simp
theorem qfj(h:1<=u):itoa (-(u:Int))=45::decDigits u:=by unfold itoa;rw[if_pos (by omega)];simp
theorem zom{n:Nm}(h:yo n=Ta):zj (qm n)=(n,0):=by
 obtain⟨neg,d,e⟩:=n;by_cases f:d=[];have Y:=zjb h f;subst f;unfold zac at Y;simp at Y;obtain⟨rfl,rfl⟩:=Y;rfl;have hr:zac (neg,d,e)=Tc:=by
  unfold zac;cases d with
  |nil=>exact absurd rfl f
  |cons c t=>simp
 have M:=h;unfold yo at M;rw[hr,D7]at M;simp only[Ap,decide_eq_true_eq,bne_iff_ne,ne_eq]at M;obtain⟨⟨⟨⟨⟨G,hl⟩,L⟩,A⟩,ab⟩,ae⟩:=M;have o:=Yq G;obtain⟨u,hu,D⟩:∃u:Nat,u<=1000000/\(e=(u:Int)\/e=-(u:Int)/\1<=u):=by by_cases h0:e<0;exact⟨e.natAbs,by omega,.inr ⟨by omega,by omega⟩⟩;exact⟨e.toNat,by omega,.inl (by omega)⟩
 obtain⟨f1,f2,f3,f4⟩:=zak u u (Ab _);have H:∀c∈d,isE c=Tc:=λc Q=>by have:=Av.1 o c Q;unfold ja at this;simp at this;unfold isE;simp only[DV,beq_eq_false_iff_ne,ne_eq];constructor <;> (rintro rfl;revert this;decide)
 have P:∀c∈d,zjc c=Tc:=λc Q=>by have:=Av.1 o c Q;unfold ja at this;simp at this;unfold zjc;simp only[beq_eq_false_iff_ne,ne_eq];rintro rfl;revert this;decide
 generalize U:(if e=0 then []else 101::itoa e:Bs)=X;have s:qm (neg,d,e)=(if neg then [45]else [])++d++X:=by unfold qm;rw[if_pos h,if_neg f,U]
 have y:ja 45=Tc:=by decide
 have hS:zpw (qm (neg,d,e))=d++X:=by
  rw[s];unfold zpw;cases neg with
  |true=>simp
  |false=>
   have:(d++X).head?≠Td 45:=by obtain⟨c,t,rfl⟩:=Bq f;exact zhv (l:=c::t) o y
   simp only[Bc,if_false,A5];rw[if_neg (by simpa using this)]
 have C:((qm (neg,d,e)).head?==Td 45)=neg:=by
  rw[s];cases neg with
  |true=>simp
  |false=>
   have:(d++X).head?≠Td 45:=by obtain⟨c,t,rfl⟩:=Bq f;exact zhv (l:=c::t) o y
   simpa using this
 have O:cutAt zjc d=(d,[],Tc):=za8 P;have E:=zxk L;have N:=qfh L A;have fin:∀(low:Bool) (ex:Bs) (q:Bool),Zn (qm (neg,d,e))=(d,(Zn (qm (neg,d,e))).2.1,q)->Q1 (qm (neg,d,e))=low->(q=Ta->Jv (zkm (qm (neg,d,e)))=Ta)->(if q then zkm (qm (neg,d,e))else [])=ex->(ex.dropWhile (· == 48)).length<=9->(if low then-(zm (ex.dropWhile (· == 48)):Int)else zm (ex.dropWhile (· == 48)))=e->zj (qm (neg,d,e))=((neg,d,e),0):=by
  intro low ex q r b I aa h9 S;have hW:Zc (qm (neg,d,e))=(d,[],Tc):=by unfold Zc;rw[r];exact O
  have Z:zeb (qm (neg,d,e))=Ta:=by
   unfold zeb;rw[hW,r,G];cases q with
   |true=>rw[I rfl];simp;exact .inr L
   |false=>simp;exact .inr L
  have V:zg9 (qm (neg,d,e))=⟨neg,d,[],low,ex⟩:=by unfold zg9;rw[hW,C,b,show(Zn (qm (neg,d,e))).2.2=q from by rw[r],aa]
  unfold zj Xf;rw[if_pos Z,V];dsimp only;rw[if_neg (by simp;omega),if_neg (by omega),S,AQ,E,N,if_neg f,if_pos (by simp;omega)];simp
 by_cases h0:e=0;subst h0;have z:X=[]:=by rw[<-U];rfl
 subst z;have r:Zn (qm (neg,d,0))=(d,[],Tc):=by unfold Zn;rw[hS,AQ];exact za8 H
 exact fin Tc [] Tc (by rw[r]) (by unfold Q1;rw[r];rfl) (λh=>by cases h) rfl (by simp) (by simp[zm]);have z:X=101::itoa e:=by rw[<-U,if_neg h0]
 subst z;have r:Zn (qm (neg,d,e))=(d,itoa e,Ta):=by unfold Zn;rw[hS];have:=zn3 (p:=isE) (l:=d++101::itoa e) (k:=d.length) (by simp) (λi hi=>by rw[BS hi];exact H _ (AE hi)) (by simp;decide);rw[this];simp
 have B:1<=u:=by rcases D with h|h <;> omega
 have m:=zxk (f4 B);have J:Jv (decDigits u)=Ta:=by
  unfold Jv;rw[f1,Cs];cases hq:decDigits u with
  |nil=>exact absurd hq f2
  |cons=>rfl
 rcases D with x|⟨w,_⟩;have hi:itoa e=decDigits u:=by rw[x,qfi]
 have b:Q1 (qm (neg,d,e))=Tc:=by unfold Q1;rw[r,hi];have:=zhv f1 y;simpa using this
 have F:zkm (qm (neg,d,e))=decDigits u:=by unfold zkm;rw[b,r,hi];have:=zhv f1 (show ja 43=Tc by decide);simp only[Bc,if_false];rw[if_neg (by simpa using this)]
 exact fin Tc (decDigits u) Ta (by rw[r]) b (λ_=>by rw[F];exact J) (by rw[F];rfl) (by rw[m];exact Qi hu) (by rw[m,f3];exact x.symm);have hi:itoa e=45::decDigits u:=by rw[w,qfj B]
 have b:Q1 (qm (neg,d,e))=Ta:=by unfold Q1;rw[r,hi];rfl
 have F:zkm (qm (neg,d,e))=decDigits u:=by unfold zkm;rw[b,r,hi];rfl
 exact fin Ta (decDigits u) Ta (by rw[r]) b (λ_=>by rw[F];exact J) (by rw[F];rfl) (by rw[m];exact Qi hu) (by rw[m,f3];exact w.symm)
end
section
variable {r a m:Nat} {s:Bs} {close:Int}
def z08(r:Nat):Prop:=r<55296\/(57344<=r/\r<=1114111)
theorem z0f{x:Int}(h0:0<=x)(h1:x<256):(x.toNat.toUInt8).toNat=x.toNat:=by rw[Nat.toUInt8,UInt8.toNat_ofNat'];omega
theorem zvd(h:z08 r)(m:Bs):dec (encodeRune (r:Int)++m)=(r,(encodeRune (r:Int)).length)/\1<=(encodeRune (r:Int)).length/\(128<=r->2<=(encodeRune (r:Int)).length):=by
 unfold z08 at h;by_cases h1:r<=127;have e:encodeRune (r:Int)=[(r:Int).toNat.toUInt8]:=by unfold encodeRune;rw[encodeRuneZ_one (by omega) (by omega)];rfl
 rw[e];have b0:=z0f (x:=(r:Int)) (by omega) (by omega);refine⟨?_,by simp,λh=>by omega⟩;rw[List.singleton_append,X9 (by rw[b0];omega),b0];simp;by_cases c:r<=2047;have e:encodeRune (r:Int)=[(192+(r:Int) / 64).toNat.toUInt8,(128+(r:Int) % 64).toNat.toUInt8]:=by unfold encodeRune;rw[encodeRuneZ_two (by omega) (by omega)];rfl
 rw[e];have b0:=z0f (x:=192+(r:Int) / 64) (by omega) (by omega);have b1:=z0f (x:=128+(r:Int) % 64) (by omega) (by omega);refine⟨?_,by simp,λh=>by simp⟩;simp only[dec,AD,A5,List.getD_cons_zero,List.getD_cons_succ,Aq,b0,b1];unfold decodeN;rw[if_neg (by omega),if_pos ⟨by omega,by omega,by omega⟩,if_pos (by omega)];simp only[AR,Bh,and_true];omega;by_cases b:r<=65535;have e:encodeRune (r:Int)=[(224+(r:Int) / 4096).toNat.toUInt8,(128+(r:Int) / 64 % 64).toNat.toUInt8,(128+(r:Int) % 64).toNat.toUInt8]:=by unfold encodeRune;rw[encodeRuneZ_three (by omega)];rfl
 rw[e];have b0:=z0f (x:=224+(r:Int) / 4096) (by omega) (by omega);have b1:=z0f (x:=128+(r:Int) / 64 % 64) (by omega) (by omega);have b2:=z0f (x:=128+(r:Int) % 64) (by omega) (by omega);refine⟨?_,by simp,λh=>by simp⟩;simp only[dec,AD,A5,List.getD_cons_zero,List.getD_cons_succ,Aq,b0,b1,b2];unfold decodeN;rw[if_neg (by omega),if_neg (by omega),if_pos ⟨by omega,⟨by omega,by omega⟩,by omega,by omega⟩,if_pos (by omega)];simp only[AR,Bh,and_true];omega;have e:encodeRune (r:Int)=[(240+(r:Int) / 262144).toNat.toUInt8,(128+(r:Int) / 4096 % 64).toNat.toUInt8,(128+(r:Int) / 64 % 64).toNat.toUInt8,(128+(r:Int) % 64).toNat.toUInt8]:=by unfold encodeRune;rw[encodeRuneZ_four (by omega) (by omega)];rfl
 rw[e];have b0:=z0f (x:=240+(r:Int) / 262144) (by omega) (by omega);have b1:=z0f (x:=128+(r:Int) / 4096 % 64) (by omega) (by omega);have b2:=z0f (x:=128+(r:Int) / 64 % 64) (by omega) (by omega);have b3:=z0f (x:=128+(r:Int) % 64) (by omega) (by omega);refine⟨?_,by simp,λh=>by simp⟩;simp only[dec,AD,A5,List.getD_cons_zero,List.getD_cons_succ,Aq,b0,b1,b2,b3];unfold decodeN;rw[if_neg (by omega),if_neg (by omega),if_neg (by omega),if_pos ⟨by omega,⟨by omega,by omega⟩,⟨by omega,by omega⟩,by omega,by omega⟩,if_pos (by omega)];simp only[AR,Bh,and_true];omega
theorem qaz(h:z08 r)(m:Bs):Z4 (encodeRune (r:Int)++m)=Z4 m:=by
 obtain⟨h1,c,f⟩:=zvd h m;have b:encodeRune (r:Int)++m≠[]:=by intro e;have:=(List.append_eq_nil_iff.1 e).1;rw[this]at c;simp at c
 have k:zkl (dec (encodeRune (r:Int)++m))=Tc:=by rw[h1];unfold zkl;simp only[CJ,beq_eq_false_iff_ne,ne_eq];by_cases i:r=65533;exact .inr (by have:=f (by omega);omega);exact .inl i
 rw[Zw b,k,h1];simp
theorem zon(l:Bs):z08 (dec l).1:=by
 have h0:=(l.getD 0 0).toNat_lt;have h1:=(l.getD 1 0).toNat_lt;have c:=(l.getD 2 0).toNat_lt;have b:=(l.getD 3 0).toNat_lt;unfold z08 dec decodeN;repeat' split
 all_goals omega
theorem z0g{l:Bs}{r n:Nat}(h:zae l=Td (r,n)):z08 r:=by
 unfold zae at h;split at h
 match l,h with
 |a::c::t,h=>
  unfold qe4 at h;dsimp only at h;cases e:qas c with
  |some q=>rw[e]at h;cases h;have:=z4w e;exact .inl (by omega)
  |none=>
   rw[e]at h;dsimp only at h;split at h;unfold qe3 at h;cases e4:zjp t with
   |none=>rw[e4]at h;cases h
   |some m=>
    have b:=zf3 e4;rw[e4]at h;dsimp only at h;split at h;cases h;split at h;cases h;unfold z08;omega;split at h;cases e5:zjp (t.drop 6)with
    |none=>rw[e5]at h;cases h
    |some k=>rw[e5]at h;dsimp only at h;split at h;simp only[Ac,Bh]at h;obtain⟨rfl,_⟩:=h;have:=zf3 e5;unfold z08;omega;cases h
    cases h
   cases h
 split at h;cases h;have h:=Az h;have:r=(dec l).1:=by rw[h]
 rw[this];exact zon l
theorem qa0:∀(k:Nat) (l:Bs),l.length=k->Z4 (zem l).1=Ta:=by
 intro k;induction k using DF with
 |_ k b=>
  intro l f;by_cases h:l=[];subst h;exact Yp;have m:=Bv.2 h;rw[Jk h];split;exact Yp;cases e:zae l with
  |none=>exact Yp
  |some x=>obtain⟨r,n⟩:=x;obtain⟨i,_,c,_⟩:=Q3 h e;dsimp only;rw[qaz (z0g e)];exact b (l.drop n).length (by rw[AH];omega) _ rfl
theorem z5t(t:Bs):Z4 (Xh t).1=Ta:=by unfold Xh;dsimp only;split;exact Yp;unfold yq;split;dsimp only;split;exact qa0 _ _ rfl;exact Yp;exact Yp
theorem zxl(t:Bs):(Xh t).1.length<=4*t.length:=by unfold Xh;dsimp only;split;simp;unfold yq;split;dsimp only;split;have:=(zru _ (t.drop (0+1)) rfl).2;rw[AH]at this;dsimp only;omega;simp;simp
def TkG(s:Bs)(t:Tk):Prop:=(t.1=10->qp s t.2=[116,114,117,101])/\(t.1=11->qp s t.2=[102,97,108,115,101])/\(t.1=9->(zj (qp s t.2)).2=0)
theorem zve(w:Bs):(Qh w=10->w=[116,114,117,101])/\(Qh w=11->w=[102,97,108,115,101])/\Qh w≠9:=by unfold Qh;split;rename_i h;exact⟨λ_=>h,λh=>by omega,by omega⟩;split;rename_i h;exact⟨λh=>by omega,λ_=>h,by omega⟩;split;exact⟨λh=>by omega,λh=>by omega,by omega⟩;exact⟨λh=>by omega,λh=>by omega,by omega⟩
theorem z5u(i:a<s.length)(ok:(Z1 s a).2.2=0):TkG s ((Z1 s a).1,((a:Int),((Z1 s a).2.1:Int))):=by
 have b:=Jl i ok;have k:qp s ((a:Int),((Z1 s a).2.1:Int))=(s.drop a).take ((Z1 s a).2.1-a):=by rw[zbb (by dsimp only;omega) (by dsimp only;omega) (by dsimp only;omega)];unfold Jw;simp only[Ai]
 unfold TkG;dsimp only;rw[k];clear k;have m:s.drop a=s[a]::s.drop (a+1):=Bw i;rw[m];unfold Z1 at ok b ⊢;rw[m]at ok b ⊢;dsimp only at ok b ⊢;have o:=λh:s[a]∈q9=>xr s[a] q9;split;rename_i h1;have r:indexByte q9 s[a]<6:=by
  have:∀c∈q9,indexByte q9 c<6:=by decide
  exact this _ h1
 dsimp only;exact⟨λh=>by omega,λh=>by omega,λh=>by omega⟩;rename_i h1;rw[if_neg h1]at ok b;split;exact⟨λh=>(by cases h),λh=>(by cases h),λh=>(by cases h)⟩;rename_i n;rw[if_neg n]at ok b;split;rename_i f;rw[if_pos f]at ok;split;exact⟨λh=>(by cases h),λh=>(by cases h),λh=>(by cases h)⟩;exact⟨λh=>(by cases h),λh=>(by cases h),λh=>(by cases h)⟩;rename_i f;rw[if_neg f]at ok b;split;rename_i e;rw[if_pos e]at ok b;split;rename_i l;refine⟨λh=>(by cases h),λh=>(by cases h),λ_=>?_⟩;dsimp only;rw[Db];exact l;exact⟨λh=>(by cases h),λh=>(by cases h),λh=>(by cases h)⟩;rename_i e;rw[if_neg e]at ok b;split;exact⟨λh=>(by cases h),λh=>(by cases h),λh=>(by cases h)⟩;rename_i l;obtain⟨w1,q,p⟩:=zve ((s[a]::s.drop (a+1)).take (Q9 (xm j8) (s[a]::s.drop (a+1))));dsimp only;rw[Db];exact⟨w1,q,λh=>absurd h p⟩
theorem Lex.good{a b:Nat}{T:List Tk}(H:Lex s a b T):∀t∈T,TkG s t:=by
 induction H with
 |nil=>intro t c;cases c
 |cons h1 f _ e=>intro t c;rcases Ah.1 c with rfl|c;exact z5u h1 f;exact e t c
theorem zld(h:(zj s).2=0):yo (zj s).1=Ta:=by
 unfold zj at h ⊢;cases e:Xf s with
 |none=>rfl
 |some x=>obtain⟨b,d2,f⟩:=zjg e;rw[e]at h;dsimp only at h ⊢;generalize (if x.low=Ta then -((zm (List.dropWhile (· == 48) x.exp):Nat):Int)else((zm (List.dropWhile (· == 48) x.exp):Nat):Int))=ee at h ⊢;split;rfl;rename_i c1;rw[if_neg c1]at h;split;rfl;rename_i c2;rw[if_neg c2]at h;split;rfl;rename_i c3;rw[if_neg c3]at h;split;rename_i c;rw[zma (by rw[DG,Yq b,d2];rfl) c3 (by rw[Ag];omega)];simp;omega;rfl
theorem z0h(n:Nm):(qm n).length<=1100:=by
 unfold qm;split;rename_i h;obtain⟨h1,e,b⟩:=zcj h;split;simp;have:(itoa n.2.2).length<=10:=by unfold itoa;split;have:=Qi (u:=n.2.2.natAbs) (by omega);simp only[Aq];omega;have:=Qi (u:=n.2.2.toNat) (by omega);omega
 have c:(if n.1 then [45]else []:Bs).length<=1:=by split <;> simp
 have a2:(if n.2.2=0 then []else 101::itoa n.2.2:Bs).length<=11:=by split;simp;simp only[Aq];omega
 simp only[Ag];omega;simp
def okV(x:Tr):Bool:=decide (x.kind≠7)&&zn x
mutual
theorem zam{p q:Tr->Bool}(h:∀x,p x=Ta->q x=Ta):∀v:Tr,Q8 p v=Ta->Q8 q v=Ta
 |.mk k s ks xs,hv=>by rw[Q8,Ap]at hv ⊢;exact⟨h _ hv.1,zmo h xs hv.2⟩
theorem zmo{p q:Tr->Bool}(h:∀x,p x=Ta->q x=Ta):∀l:List Tr,zeh p l=Ta->zeh q l=Ta
 |[],_=>rfl
 |x::l,hl=>by rw[zeh,Ap]at hl ⊢;exact⟨zam h x hl.1,zmo h l hl.2⟩
end
theorem qa1{l:List Bs}(h:l.Nodup):(l.map bl).Nodup:=by
 induction l with
 |nil=>simp
 |cons x l c=>rw[Ba]at h;rw[Ar,Ba];refine⟨λf=>?_,c h.2⟩;obtain⟨y,b,e⟩:=AL.1 f;have:=zrd.1 e;subst this;exact h.1 b
structure GoodV (d:Nat) (v:Tr) (m:Nat):Prop where
 sz:tsz v=m
 dp:tdp v<=d
 ok:Q8 okV v=Ta
 tx:txB 1048576 v
structure GoodK (d:Nat) (xs:List Tr) (m:Nat):Prop where
 sz:w9 xs=m
 dp:Xj xs<=d
 ok:zeh okV xs=Ta
 tx:zn6 1048576 xs
theorem zr5{d:Nat}{P:List Bs->List Bs->Bs×Tr->List Tk->Nat->Prop}{G:Tk->Prop}{N:Nat}(f:∀had had' h C m,P had had' h C m->(∀t∈C,G t)->m<=N->GoodV d h.2 m){had:List Bs}{kvs:List (Bs×Tr)}{D:List Tk}(H:KidsG P close had kvs D m):(∀t∈D,G t)->m<=N->GoodK d (kvs.map (·.2)) m:=by
 induction H with
 |last e o=>intro c i;have g:=f _ _ _ _ _ e (λt b=>c t (As _ b)) i;refine⟨?_,?_,?_,?_⟩;simp only[Ar,Cp,w9];rw[g.sz];omega;simp only[Ar,Cp,Xj];have:=g.dp;omega;simp only[Ar,Cp,zeh];rw[g.ok];rfl;simp only[Ar,Cp,zn6];exact⟨g.tx,trivial⟩
 |more e n _ l=>intro c i;have g:=f _ _ _ _ _ e (λt b=>c t (As _ b)) (by omega);have k:=l (λt b=>c t (AC _ (Ae _ b))) (by omega);refine⟨?_,?_,?_,?_⟩;simp only[Ar,w9];rw[g.sz,k.sz];simp only[Ar,Xj];have:=g.dp;have:=k.dp;omega;simp only[Ar,zeh];rw[g.ok,k.ok];rfl;simp only[Ar,zn6];exact⟨g.tx,k.tx⟩
theorem z5v{P:Tr->List Tk->Nat->Prop}{had:List Bs}{kvs:List (Bs×Tr)}{D:List Tk}(A:s.length<=65536)(H:KidsG (KO s P) close had kvs D m):(kvs.map (·.1)).Nodup/\(∀k∈kvs.map (·.1),k∉had/\Z4 k=Ta/\k.length<=262144):=by
 have one:∀{t:Tk},Z4 (Xh (Jw s t.2)).1=Ta/\(Xh (Jw s t.2)).1.length<=262144:=λ {t}=>⟨z5t _,by
  have:=zxl (Jw s t.2);have:(Jw s t.2).length<=s.length:=by unfold Jw;rw[AK,AH];omega
  omega⟩
 induction H with
 |last c B=>obtain⟨t,q,u,rfl,w,n,b,h,e,f,z⟩:=c;refine⟨by simp,λk c=>?_⟩;simp only[Ar,Cp,A4]at c;subst c;exact⟨e,by rw[b];exact one.1,by rw[b];exact one.2⟩
 |more c n _ y=>obtain⟨t,q,u,rfl,w,n,b,h,e,f,z⟩:=c;obtain⟨x,l⟩:=y;refine⟨?_,λk c=>?_⟩;rw[Ar,Ba];refine⟨λi=>?_,x⟩;have:=(l _ i).1;rw[f]at this;exact this (by simp);rw[Ar]at c;rcases Ah.1 c with rfl|c;exact⟨e,by rw[b];exact one.1,by rw[b];exact one.2⟩;obtain⟨p,r,o⟩:=l k c;refine⟨λi=>p ?_,r,o⟩;rw[f];exact As _ i
theorem qa2{k:Int}(h0:zu k≠0)(c:zu k≠5)(b:zu k≠6):(k=12/\zu k=1)\/(k=10/\zu k=2)\/(k=11/\zu k=2)\/(k=9/\zu k=3)\/(k=8/\zu k=4):=by unfold zu at *;by_cases h1:k=12 <;> by_cases m:k=10 <;> by_cases e:k=11 <;> by_cases h:k=9 <;> by_cases f:k=8 <;> by_cases l:k=4 <;> by_cases i:k=2 <;> simp[*]at h0 c b ⊢
theorem z5w{s:Bs}(H:s.length<=65536):∀(d:Nat) (v:Tr) (C:List Tk) (m:Nat),PV s d v C m->(∀t∈C,TkG s t)->m<=4096->GoodV d v m
 |0,v,C,m,h,_,_=>h.elim
 |d+1,v,C,m,h,hg,F=>by
  have I:=z5w H d;obtain⟨t,w|⟨c,F,w,b⟩|⟨D,kvs,m',i,f,p,A,b⟩|⟨D,kvs,m',i,f,p,A,b⟩⟩:=h
  ·obtain⟨rfl,U,Q,M,rfl,rfl⟩:=w;obtain⟨g1,Y,O⟩:=hg t Am;have L:=zf5 s t.2;refine⟨by simp[tsz,w9],by simp[tdp,Xj],?_,?_⟩;rw[y0];simp only[zeh,Dt];unfold okV zn;rcases qa2 U Q M with⟨e,n⟩|⟨e,n⟩|⟨e,n⟩|⟨e,n⟩|⟨e,n⟩ <;> simp only[Tr.kind,Tr.text,Tr.keys,Tr.items,n,yg] <;> unfold Yf;simp;rw[g1 e];simp;rw[Y e];simp;have S:=zom (zld (O e));simp[zz4,S];simp[z5t]
   ·rw[zmd];simp only[Tr.text,Tr.keys,zn6,and_true,zf];refine⟨?_,by simp,by simp⟩;unfold Yf;have:=z0h (zj (qp s t.2)).1;have:=zxl (qp s t.2);repeat' split
    all_goals first|omega|simp
  subst F b;have:v=.mk 5 (bl []) [] []\/v=.mk 6 (bl []) [] []:=by rcases w with⟨_,_,h⟩|⟨_,_,h⟩;exact .inl h;exact .inr h
  rcases this with rfl|rfl;exact⟨by simp[tsz,w9],by simp[tdp,Xj],rfl,by rw[txB,zn6];exact⟨by decide,trivial⟩⟩;exact⟨by simp[tsz,w9],by simp[tdp,Xj],rfl,by rw[txB,zn6];exact⟨by decide,trivial⟩⟩;subst i b A;have k:=zr5 (d:=d) (N:=4096) (G:=TkG s) (P:=KA (PV s d)) (λhad had' u C m ⟨_,B⟩ z b=>I _ _ _ B z b) p (λt f=>hg t (Ae _ f)) (by omega);refine⟨?_,?_,?_,?_⟩;rw[tsz,k.sz];omega;rw[tdp];have:=k.dp;omega;rw[y0];simp only[Tr.items,k.ok,Dt];rfl;rw[txB];exact⟨⟨by decide,by simp,by simp⟩,k.tx⟩;subst i b A;have k:=zr5 (d:=d) (N:=4096) (G:=TkG s) (P:=KO s (PV s d)) (λhad had' u C m ⟨_,_,_,e,_,_,_,_,_,_,B⟩ z b=>I _ _ _ B (λt f=>z t (by rw[e];exact Ae _ (Ae _ f))) b) p (λt f=>hg t (Ae _ f)) (by omega);obtain⟨V,E⟩:=z5v H p;have o:=Qd (kvs.map (·.2));rw[k.sz,Ao]at o;have l:(kvs.map λu=>bl u.1)=(kvs.map (·.1)).map bl:=by rw[A8];rfl
  refine⟨?_,?_,?_,?_⟩;rw[tsz,k.sz];omega;rw[tdp];have:=k.dp;omega;rw[y0];simp only[Tr.items,k.ok,Dt];unfold okV zn wh;simp only[Tr.kind,Tr.keys,Tr.items,Tr.text,l];have Z:((kvs.map (·.1)).map bl).all (λk=>Z4 (lb k))=Ta:=by rw[Av];intro x q;obtain⟨y,r,rfl⟩:=AL.1 q;rw[yg];exact(E y r).2.1
  have J:((kvs.map (·.1)).map bl).Nodup:=qa1 V;rw[Z,decide_eq_true J];simp;rw[txB];refine⟨⟨by decide,by rw[Ao];omega,λx q=>?_⟩,k.tx⟩;rw[l]at q;obtain⟨y,r,rfl⟩:=AL.1 q;rw[zf];have:=(E y r).2.2;omega
theorem z5x(o:(Ya s).2.2=0):qa (Q5 s (Ya s).1.2 33 0)=Ta/\Zx (Q5 s (Ya s).1.2 33 0)=Ta/\Sm (Q5 s (Ya s).1.2 33 0):=by
 obtain⟨n,v,C,m,r,k,f,M⟩:=qfg o;obtain⟨l,L⟩:=zr4 n;have q:Q5 s (Ya s).1.2 33 0=v:=M.val _ (λi y h=>by rw[AI];exact h) 33 (by omega);have g:=z5w l 32 v C m r (λt b=>by rw[<-f]at b;exact L.good t (CM.1 b).1) k;rw[q];have c:Zf v=Ta:=by unfold Zf;have:=g.sz;have:=g.dp;simp;omega
 have p:Q8 zn v=Ta:=zam (λx e=>by unfold okV at e;simp at e;exact e.2) v g.ok;refine⟨?_,?_,⟨by have:=g.sz;omega,g.tx⟩⟩;unfold qa;rw[c];exact g.ok;unfold Zx;rw[c,p];rfl
end
section
theorem zjv(a b:Bs):za9 (a++b)=za9 a++za9 b:=by unfold za9;rw[List.flatMap_append]
theorem qa3(c:UInt8):(qct c).length<=6:=by
 unfold qct;repeat' split
 all_goals simp
theorem zoo:∀l:Bs,(za9 l).length<=6*l.length
 |[]=>by simp[za9]
 |c::l=>by have:=zoo l;have h1:=qa3 c;have e:za9 (c::l)=qct c++za9 l:=rfl;rw[e,Ag,Aq];omega
theorem z5y{c:UInt8}(h:128<=c.toNat):qct c=[c]:=by
 have ne:∀n:Nat,n<128->c≠Bb n:=λn b e=>by rw[e,UInt8.toNat_ofNat']at h;omega
 unfold qct;rw[if_neg (by rintro(e|e);exact ne 34 (by omega) e;exact ne 92 (by omega) e),if_neg (show¬c=8 from ne 8 (by omega)),if_neg (show¬c=12 from ne 12 (by omega)),if_neg (show¬c=10 from ne 10 (by omega)),if_neg (show¬c=13 from ne 13 (by omega)),if_neg (show¬c=9 from ne 9 (by omega)),if_neg (by omega)]
theorem zr6:∀{l:Bs},(∀c∈l,128<=c.toNat)->za9 l=l
 |[],_=>rfl
 |c::l,h=>by have e:za9 (c::l)=qct c++za9 l:=rfl;rw[e,z5y (h c Am),zr6 λx b=>h x (Ae _ b)];rfl
theorem zxm{r:Nat}(h:z08 r)(l:128<=r):∀c∈encodeRune (r:Int),128<=c.toNat:=by
 unfold z08 at h;intro c f;unfold encodeRune at f;obtain⟨x,b,rfl⟩:=AL.1 f;have key:∀y:Int,x=y->128<=y->y<256->128<=x.toNat.toUInt8.toNat:=λy e h1 i=>by subst e;rw[z0f (by omega) i];omega
 by_cases i:r<=2047;rw[encodeRuneZ_two (by omega) (by omega)]at b;simp only[Ah,Dg,or_false]at b;rcases b with e|e <;> exact key _ e (by omega) (by omega);by_cases k:r<=65535;rw[encodeRuneZ_three (by omega)]at b;simp only[Ah,Dg,or_false]at b;rcases b with e|e|e <;> exact key _ e (by omega) (by omega);rw[encodeRuneZ_four (by omega) (by omega)]at b;simp only[Ah,Dg,or_false]at b;rcases b with e|e|e|e <;> exact key _ e (by omega) (by omega)
def zr7(r:Nat):Nat:=if r=34\/r=92 then r else if r=8 then 98 else if r=12 then 102 else if r=10 then 110 else if r=13 then 114 else if r=9 then 116 else 0
def qfk(k:Nat):UInt8:=Bb (if k<10 then 48+k else 87+k)
def z09(r:Nat):Bs:=if zr7 r≠0 then [92,Bb (zr7 r)]else if 32<=r then encodeRune (r:Int)else [92,117,48,48,Bb (48+r / 16),qfk (r % 16)]
theorem qa4:(Bl 128).all (λk=>decide (qct (Bb k)=z09 k))=Ta:=by kernel_rfl
theorem zxn{l:Bs}(h:l≠[])(m:zkl (dec l)=Tc):za9 (l.take (dec l).2)=z09 (dec l).1:=by
 by_cases f:(dec l).1<128;obtain⟨c,t,rfl⟩:=Bq h;have k:c.toNat<128:=by
  rcases A6 c.toNat 128 with h1|h1;exact h1;exfalso;have b:=zu2 h m;have q:=(wo (c::t)).1;have p:encodeRune ((dec (c::t)).1:Int)=[((dec (c::t)).1:Int).toNat.toUInt8]:=by unfold encodeRune;rw[encodeRuneZ_one (by omega) (by omega)];rfl
  obtain⟨n,i⟩:∃n,(dec (c::t)).2=n+1:=⟨(dec (c::t)).2-1,by omega⟩;rw[p,i,Dd]at b;injection b with b _;rw[<-b,z0f (by omega) (by omega)]at h1;omega
 rw[X9 k]at f ⊢;have:=Av.1 qa4 c.toNat (A1.2 k);have:=of_decide_eq_true this;rw[UInt8.ofNat_toNat]at this;rw[<-this];simp[za9];have f:128<=(dec l).1:=by omega
 have e:=zu2 h m;have o:zr7 (dec l).1=0:=by unfold zr7;rw[if_neg (by omega),if_neg (by omega),if_neg (by omega),if_neg (by omega),if_neg (by omega),if_neg (by omega)]
 unfold z09;rw[if_neg (by rw[o];exact λh=>h rfl),if_pos (by omega),<-e];exact zr6 (zxm (zon l) f)
end
end Go.X
end
section
namespace Go.X
open Go Go.X Go.Proofs Go.RowKit
section
variable {h:zb} {it:Nat} {s:Bt} {K:Value -> zb -> Prop}
theorem qil{P:Program}{p:Nat}(e:h[it]?=Td (.stringIter s p)){T:TypeId}(h1:p<s.size->K (.tuple #[.bool Ta,.int .i64 (p:Int),.int .i32 (nxR s p)]) (h.setIfInBounds it (.stringIter s (nxP s p))))
  (h0:s.size<=p->K (.tuple #[.bool Tc]) h):XRun P (Di (.pointer (Td ⟨it,0,Te⟩)) Ta T) h K:=by
 have f:∀(w:World),w.heap[it]?=Td (.stringIter s p)->(getObj it).run P w=.ok (.stringIter s p) w:=λw e=>by simp[getObj,Sem.run,e]
 have k:∀(w:World) (c:Obj),w.heap[it]?=Td (.stringIter s p)->(setObj it c).run P w=.ok () { w with heap:=w.heap.setIfInBounds it c }:=λw c e=>by simp[setObj,Sem.run,e]
 intro B d;by_cases b:p<s.size;have i:nxB s p=Ta:=by simpa[nxB,CG]using b
 have l:nxP s p=p+(Es s p).2:=by unfold nxP;rw[show Nat.blt p s.size=Ta from i];rfl
 refine⟨_,d,_,?_,h1 b⟩;unfold Di;simp only;rw[Sem.run_bind,f (mk B d h) e];simp only[Result.andThen_ok,b,if_true];rw[Sem.run_bind,k (mk B d h) _ e,l];rfl;refine⟨_,d,h,?_,h0 (by omega)⟩;unfold Di;simp only;rw[Sem.run_bind,f (mk B d h) e];simp only[Result.andThen_ok,b,if_false];rfl
theorem Bld.other{h h':zb}{b:Nat}{l:Bs}(H:Bld h b l){p:Nat}(e:h[it]?=Td (.stringIter s p))(f:∀i,i≠it->h'[i]?=h[i]?):Bld h' b l:=by obtain⟨q,r,o,w,u⟩:=H;refine⟨q,r,?_,w,u.keep λa t=>?_⟩;rw[f b (λc=>by rw[c,e]at o;cases o)];exact o;refine f _ λc=>?_;rcases u.2 with⟨k,_⟩|⟨g,cap,n,k,_,m,_⟩;rw[t]at k;cases k;have m:h[g]?=Td (.cells n 5 (0,0)):=m;rw[t]at k;injection k with e1 _ _;injection e1 with e1;rw[e1]at c;have c:g=it:=c;rw[c,e]at m;cases m
theorem Bld.zero(h:zb):Bld (h.push (.cells #[.pointer Te,.slice Te 0 0] 112)) h.size []:= ⟨Te,⟨Te,0,0⟩,yb _ _,.inl rfl,Owns.nil _ _ _ _⟩
theorem qa5{r:Nat}(x:r<=1114111)(c:K (.int .u8 (zr7 r:Int)) h):XC Tp 82 #[.int .i32 (r:Int)] h K:=by
 apply zjl;intro w l;have i:∀n:Nat,((r:Int)==(n:Int))=decide (r=n):=λn=>by rw[AM];simp only[beq_iff_eq,decide_eq_true_eq];omega
 have m:((r:Int)==34)=decide (r=34):=i 34;have q:((r:Int)==92)=decide (r=92):=i 92;have u:((r:Int)==8)=decide (r=8):=i 8;have p:((r:Int)==12)=decide (r=12):=i 12;have o:((r:Int)==10)=decide (r=10):=i 10;have k:((r:Int)==13)=decide (r=13):=i 13;have t:((r:Int)==9)=decide (r=9):=i 9;unfold zr7 at c;have fin:∀b:Bool,(b=Ta↔r=34\/r=92)->w b h:=λb s=>by
  refine l _ _ ⟨λf=>?_,λf=>?_⟩;rw[if_pos (s.1 f)]at c;have e:Aa .u8 (r:Int)=(r:Int):=by rcases s.1 f with rfl|rfl <;> rfl
  rw[e];exact c;rw[if_neg (λh=>by rw[s.2 h]at f;cases f)]at c;rw[u,p,o,k,t];refine⟨λh=>?_,λh=>?_⟩;rw[if_pos (of_decide_eq_true h)]at c;exact c;rw[if_neg (of_decide_eq_false h)]at c;refine⟨λh=>?_,λh=>?_⟩;rw[if_pos (of_decide_eq_true h)]at c;exact c;rw[if_neg (of_decide_eq_false h)]at c;refine⟨λh=>?_,λh=>?_⟩;rw[if_pos (of_decide_eq_true h)]at c;exact c;rw[if_neg (of_decide_eq_false h)]at c;refine⟨λh=>?_,λh=>?_⟩;rw[if_pos (of_decide_eq_true h)]at c;exact c;rw[if_neg (of_decide_eq_false h)]at c;refine⟨λh=>?_,λh=>?_⟩;rw[if_pos (of_decide_eq_true h)]at c;exact c;rw[if_neg (of_decide_eq_false h)]at c;exact c
 rw[m,q];refine⟨λf=>fin _ ?_,λf=>fin _ ?_⟩;rw[f];exact⟨λ_=>.inl (of_decide_eq_true f),λ_=>rfl⟩;rw[decide_eq_true_eq];exact⟨.inr,λh=>h.resolve_left (of_decide_eq_false f)⟩
theorem qa6{c:Nat}(b:c<32):[92,117]++Lib.repeatL [48] (4-(zba c).length)++zba c=[92,117,48,48,Bb (48+c / 16),qfk (c % 16)]/\((zba c).length=1\/(zba c).length=2):=by
 have:(Bl 32).all (λc=>decide ([92,117]++Lib.repeatL [48] (4-(zba c).length)++zba c=[92,117,48,48,Bb (48+c / 16),qfk (c % 16)]/\((zba c).length=1\/(zba c).length=2)))=Ta:=by kernel_rfl
 exact of_decide_eq_true (Av.1 this c (A1.2 b))
set_option maxRecDepth 100000 in
set_option maxHeartbeats 4000000 in
theorem qfl{gl:Fr}(hg:GL gl){t:Bs}(ht:t.length<=1048576){M:Fr}(hM:Fr.le gl M)(hb:Brn M)(ag:AgM M h)(U:∀h',Keep h.size h h'->K (.tuple #[.string (bl (zmh t).1),.int .i64 (zmh t).2]) h'):
  XC Tp 27 #[.string (bl t)] h K:=by
 apply zk5
 refine(zw5 hg.tabs (l:=t) (by omega) (R:=λr=>r.2=Z4 t) λk=>rfl).go hM ag (qc (a:=Arg.mk .str _) (rdStr _) qt) λv f M2 r L2 O hr=>?_
 obtain⟨n,is⟩:=r
 have hr:is=Z4 t:=hr
 subst hr
 obtain⟨_,⟨u1,_,rfl,aE,u2,rfl,C⟩,rfl⟩:=O
 obtain rfl:=j4 aE
 have C:u2=.bool (Z4 t):=by rw[zfw rfl]at C;simpa[Rd]using C
 subst C
 refine⟨_,_,rfl,?_⟩
 unfold zmh at U
 refine⟨λq=>?_,λq=>?_⟩
 ·have:Z4 t=Tc:=by simpa using q
  rw[this]at U
  exact U f L2.keep
 have hu:Z4 t=Ta:=by simpa using q
 rw[if_pos hu]at U
 intro h5
 have k5:Keep f.size f h5:=Keep.push _ _ (Ab _)
 have z5:h5.size=f.size+1:=Aj _
 have B5:Bld h5 f.size []:=Bld.zero f
 clear_value h5
 have z2:=L2.keep.size
 refine Wv B5 (by simp) 34 λu B7 k7 i7=>⟨_,rfl,?_⟩
 have z7:f.size<u.size:=B7.lt
 intro B
 have k9:Keep u.size u B:=Keep.push _ _ (Ab _)
 have z9:B.size=u.size+1:=Aj _
 have B9:Bld B f.size [34]:=B7.keep k9
 have e9:B[u.size]?=Td (.stringIter (bl t) 0):=yb _ _
 clear_value B
 have I:Keep h.size h B:=⟨by omega,λj L=>by rw[k9.get j (by omega),k7.get j (by omega),k5.get j (by omega),L2.keep.get j L]⟩
 refine⟨λg=>∃p,p<=t.length/\Bld g f.size (34::za9 (t.take p))/\g[u.size]?=Td (.stringIter (bl t) p)/\Z4 (t.drop p)=Ta/\Keep f.size B g,λg=>match g[u.size]? with
  |some (.stringIter _ p)=>t.length-p
  |_=>0,⟨0,by omega,B9,e9,hu,Keep.refl _ _⟩,?_⟩
 rintro g ⟨p,hp,Bg,eg,w,kg⟩
 have ar:(za9 (t.take p)).length<=6*t.length:=by
  have:=zoo (t.take p)
  rw[AK]at this;omega
 refine qil eg (λN=>.inr ⟨_,_,rfl,λ_=>?_,λq=>(by cases q)⟩) (λz=>.inl ⟨rfl,λq=>(by cases q),λ_=>?_⟩)
 ·-- a rune more
  rw[zf]at N
  have hd:t.drop p≠[]:=by intro e;rw[List.drop_eq_nil_iff]at e;omega
  have F:zkl (dec (t.drop p))=Tc:=by
   rw[Zw hd]at w
   cases hbd:zkl (dec (t.drop p))with
   |true=>rw[hbd]at w;cases w
   |false=>rfl
  have V:Z4 (t.drop (p+(dec (t.drop p)).2))=Ta:=by
   rw[Zw hd,F]at w
   rw[<-BU];simpa using w
  have hq:=zxn hd F
  have hw:=wo (t.drop p)
  have Z:=zw0 hd
  rw[AH]at Z
  have G:=z4x (t.drop p)
  have o:za9 (t.take (p+(dec (t.drop p)).2))=za9 (t.take p)++z09 (dec (t.drop p)).1:=by
   rw[<-hq,<-zjv,List.take_add]
  rw[zrf,zja t p N]
  generalize hr:(dec (t.drop p)).1=r at G o ⊢
  generalize hn:(dec (t.drop p)).2=n at hw Z V o ⊢
  have am:u.size<g.size:=(An.1 eg).1
  generalize A:g.setIfInBounds u.size (.stringIter (bl t) (p+n))=h14
  have aa:∀i,i≠u.size->h14[i]?=g[i]?:=λi hi=>by rw[<-A,AB (Ne.symm hi)]
  have aL:h14[u.size]?=Td (.stringIter (bl t) (p+n)):=by rw[<-A,CB am]
  have aS:h14.size=g.size:=by rw[<-A];simp
  have D:=Bg.other eg aa
  have J:Keep f.size B h14:=⟨by have:=kg.size;omega,λj L=>by rw[aa j (by omega)];exact kg.get j L⟩
  have fin:∀g':zb,Bld g' f.size (34::za9 (t.take p)++z09 r)->Keep f.size h14 g'->Itk h14 g'->(∃p,p<=t.length/\Bld g' f.size (34::za9 (t.take p))/\g'[u.size]?=Td (.stringIter (bl t) p)/\Z4 (t.drop p)=Ta/\Keep f.size B g') /\
    (match g'[u.size]? with|some (.stringIter _ p)=>t.length-p|_=>0)<(match g[u.size]? with|some (.stringIter _ p)=>t.length-p|_=>0):=λg' B' k' i'=>by
   have e':=i' _ _ _ aL
   refine⟨⟨p+n,by omega,by rw[o];exact B',e',V,J.trans k' (Ab _)⟩,?_⟩
   rw[e',eg]
   show t.length-(p+n)<t.length-p
   omega
  have aV:(34::za9 (t.take p)).length=(za9 (t.take p)).length+1:=rfl
  unfold z09 at fin
  refine qa5 G ⟨_,rfl,λq=>?_,λq=>?_⟩
  ·have h0:zr7 r≠0:=by intro e;rw[e]at q;simp at q
   rw[if_pos h0]at fin
   have ab:zr7 r<256:=by
    unfold zr7
    repeat' split
    all_goals omega
   have e8:((Bb (zr7 r)).toNat:Int)=(zr7 r:Int):=by rw[UInt8.toNat_ofNat'];omega
   refine Wv D (by omega) 92 λaQ aj ax au=>⟨_,rfl,?_⟩
   rw[<-e8]
   refine Wv aj (by simp;omega) (Bb (zr7 r)) λae S aN aB=>⟨_,rfl,?_⟩
   refine fin ae ?_ (ax.trans aN (Ab _)) (au.trans aB)
   rw[AF]at S;exact S
  ·have h0:zr7 r=0:=by
    have:((zr7 r:Int) != 0)=Tc:=q
    simpa using this
   rw[if_neg (by rw[h0];exact λh=>h rfl)]at fin
   refine⟨λz=>?_,λb=>?_⟩
   ·have z:32<=r:=by have:=of_decide_eq_true z;omega
    rw[if_pos z]at fin
    refine zjq D (by omega) (by omega) (by omega) λaH m ah aC ap=>⟨_,_,rfl,?_⟩
    exact fin aH ah aC ap
   ·have b:r<32:=by have:=of_decide_eq_false b;omega
    rw[if_neg (by omega)]at fin
    obtain⟨az,a6⟩:=qa6 b
    rw[w64 (by omega)]
    have Q:Keep h.size h h14:=⟨by have:=J.size;have:=I.size;omega,λj L=>by rw[J.get j (by omega),I.get j L]⟩
    have E:AgM M h14:=ag.keep Q
    refine zu9 b hb E λa1 y=>⟨_,rfl,?_⟩
    have aO:(zba r).length<=4:=by omega
    rw[zf,w64 (by omega),show(4:Int)-((zba r).length:Int)=((4-(zba r).length:Nat):Int)from by omega]
    refine(zi8 (gl:=gl) (s:=bl [48]) (c:=4-(zba r).length) (by omega) (by rw[zf];simp;omega) (R:=λx=>x=bl (Lib.repeatL [48] (4-(zba r).length))) (by rw[yg])).go hM (E.keep y) (qc (a:=Arg.mk .str _) (rdStr _) (qc (a:=Arg.mk (.int .i64) _) (Jf _ _) qt)) λv ay aZ x H O q=>?_
    subst q
    have O:=Wp (Xe.1 O)
    have ak:=Lib.repeatL_length [48] (4-(zba r).length)
    have hz:(Lib.repeatL [48] (4-(zba r).length)).length<=4:=by rw[ak];simp
    refine⟨_,O,?_,?_,?_⟩
    ·show wl ((bl [92,117]).size+(bl (Lib.repeatL [48] (4-(zba r).length))).size)
     unfold wl
     rw[zf,zf];simp only[Aq,AR];omega
    ·show wl ((bl [92,117]++bl (Lib.repeatL [48] (4-(zba r).length))).size+(bl (zba r)).size)
     unfold wl
     rw[wq,zf,zf,Ag];simp only[Aq,AR];omega
    ·have e:((⟨#[92,117]⟩:Bt)++bl (Lib.repeatL [48] (4-(zba r).length)))++bl (zba r)=bl ([92,117]++Lib.repeatL [48] (4-(zba r).length)++zba r):=by
      show(bl [92,117]++bl (Lib.repeatL [48] (4-(zba r).length)))++bl (zba r)=_
      rw[wq,wq]
     rw[e,az]
     have aU:=y.size
     have aI:=(D.keep y).keep H.keep
     have aJ:Itk h14 ay:=(Itk.keep y).trans (Itk.keep H.keep)
     have aP:=D.lt
     refine zof aI _ (by simp only[Aq,AR];omega) λaA af aM an=>⟨_,_,rfl,?_⟩
     exact fin aA af (((y.mono (m:=f.size) (by omega)).trans (H.keep.mono (m:=f.size) (by omega)) (Ab _)).trans aM (Ab _)) (aJ.trans an)
 ·rw[zf]at z
  have aF:p=t.length:=by omega
  subst aF
  rw[A3]at Bg
  refine Wv Bg (by rw[A3]at ar;simp;omega) 34 λaY ai P aT=>⟨_,rfl,?_⟩
  refine zxd ai λaG Y=>⟨_,rfl,?_⟩
  refine U aG ⟨?_,λj L=>?_⟩
  ·have:=kg.size;have:=P.size;have:=Y.size;omega
  ·rw[Y.get j (by omega),P.get j (by omega),kg.get j (by omega),I.get j L]
end
end Go.X
end
section
namespace Go.X
open Go Go.Lib
section
def yj(ln:Bool)(nd lv:Nat):Bs:=if ln then 10::BE (nd*lv) 32 else []
def Ze(ln:Bool)(nd lv:Nat):List Bs->Bs
 |[]=>[]
 |p::ps=>yj ln nd lv++p++ps.flatMap λq=>44::(yj ln nd lv++q)
def Xp(ln:Bool)(nd lv:Nat)(ps:List Bs):Bs:=Ze ln nd (lv+1) ps++(if ps=[]then []else yj ln nd lv)
def zf8(ln:Bool)(k:Bt)(p:Bs):Bs:=(zmh (lb k)).1++58::((if ln then [32]else [])++p)
mutual
def jv(ln:Bool)(nd:Nat):Tr->Nat->Bs
 |.mk k s ks xs,lv=>if k=1 then [110,117,108,108]else if k=4 then(zmh (lb s)).1 else if k=5 then 91::Xp ln nd lv (qim ln nd xs (lv+1))++[93]
  else if k=6 then 123::Xp ln nd lv (List.zipWith (zf8 ln) ks (qim ln nd xs (lv+1)))++[125]else lb s
def qim(ln:Bool)(nd:Nat):List Tr->Nat->List Bs
 |[],_=>[]
 |x::l,lv=>jv ln nd x lv::qim ln nd l lv
end
theorem zxo(ln:Bool)(nd:Nat)(lv:Nat):∀l:List Tr,qim ln nd l lv=l.map λx=>jv ln nd x lv
 |[]=>rfl
 |x::l=>by rw[qim,zxo ln nd lv l];rfl
theorem Yy(ln:Bool)(nd:Nat)(v:Tr)(lv:Nat):jv ln nd v lv=if v.kind=1 then [110,117,108,108]else if v.kind=4 then(zmh (lb v.text)).1 else if v.kind=5 then 91::Xp ln nd lv (v.items.map λx=>jv ln nd x (lv+1))++[93]
  else if v.kind=6 then 123::Xp ln nd lv (List.zipWith (zf8 ln) v.keys (v.items.map λx=>jv ln nd x (lv+1)))++[125]else lb v.text:=by
 cases v with
 |mk k s ks xs=>rw[jv,zxo]
theorem z0i(ln:Bool)(nd lv:Nat)(ps:List Bs)(p:Bs):Ze ln nd lv (ps++[p])=Ze ln nd lv ps++((if ps=[]then []else [44])++(yj ln nd lv++p)):=by
 cases ps with
 |nil=>simp[Ze]
 |cons q b=>rw[AD,Ze,Ze,List.flatMap_append,if_neg (by simp)];simp[AF]
theorem zmp(ln:Bool)(nd lv:Nat){ps:List Bs}{n:Nat}(h:n<ps.length):Ze ln nd lv (ps.take (n+1))=Ze ln nd lv (ps.take n)++((if n=0 then []else [44])++(yj ln nd lv++ps[n])):=by rw[Aw h,z0i];congr 2;by_cases h0:n=0;subst h0;rfl;rw[if_neg h0,if_neg (by intro e;rw[List.take_eq_nil_iff]at e;rcases e with e|e;exact h0 e;rw[e]at h;simp at h)]
theorem zxp(ln:Bool)(nd lv:Nat){ps:List Bs}:∀{n:Nat},n<=ps.length->(Ze ln nd lv (ps.take n)).length<=(Ze ln nd lv ps).length:=by
 have step:∀k n,n+k=ps.length->(Ze ln nd lv (ps.take n)).length<=(Ze ln nd lv ps).length:=by
  intro k;induction k with
  |zero=>intro n h;rw[C7]at h;subst h;rw[A3];exact Ab _
  |succ k b=>intro n h;have h1:=b (n+1) (by omega);rw[zmp ln nd lv (by omega),Ag]at h1;omega
 intro n h;exact step (ps.length-n) n (by omega)
theorem qin:∀n:Nat,repeatL [32] n=BE n 32
 |0=>rfl
 |n+1=>by rw[show repeatL [32] (n+1)=[32]++repeatL [32] n from rfl,qin n];rfl
theorem z5z:∀{l:List Tr} {y:Tr},y∈l->tdp y<=Xj l
 |x::l,y,h=>by rw[Xj];rcases Ah.1 h with rfl|h;omega;have:=z5z h;omega
theorem zop{v x:Tr}(h:x∈v.items):tdp x<tdp v:=by have:=z5z h;rw[zji v];omega
end
end Go.X
end
section
namespace Go.X
open Go Go.X Go.Proofs Go.RowKit
section
variable {b:Nat} {g g':zb} {K:Value -> zb -> Prop}
structure FrP (b:Nat) (g g':zb):Prop where
 keep:Keep b g g'
 oth:Otk g g'
theorem FrP.refl(b:Nat)(g:zb):FrP b g g:=⟨Keep.refl _ _,λi o e _=>e⟩
theorem FrP.trans{g g' c:zb}(h:FrP b g g')(k:FrP b g' c):FrP b g c:=⟨h.keep.trans k.keep (Ab _),h.oth.trans k.oth⟩
theorem FrP.ofKeep(k:Keep g.size g g')(c:b<=g.size):FrP b g g':=⟨k.mono c,Otk.keep k⟩
theorem FrP.blk(h:FrP b g g'){c:Nat}{cs:Array Value}(e:g[c]?=Td (.cells cs 26 (0,0))):g'[c]?=Td (.cells cs 26 (0,0)):=h.oth c _ e rfl
structure Low (gl M:Fr) (b:Nat) (g:zb):Prop where
 hM:Fr.le gl M
 ag:AgM M g
 low:∀c cs,M c=Td cs->c<b
theorem Low.frp{gl M:Fr}(L:Low gl M b g)(f:FrP b g g'):Low gl M b g':=⟨L.hM,λc cs e=>by rw[f.keep.get c (L.low c cs e)];exact L.ag c cs e,L.low⟩
theorem add0(b:Nat):Ad ⟨b,0,Te⟩ 0=⟨b,0,Te⟩:=rfl
section
variable {gl M : Fr} {b N : Nat} {ln : Bool} {l : Bs} {g : zb}
theorem qa7(m:GL gl)(n:Brn gl)(H:Prn g b ln (N:Int) l)(L:Low gl M b g){t:Bs}(e:t.length<=1048576)(p:l.length+(zmh t).1.length<=140737488355328)(o:∀g',Prn g' b ln (N:Int) (l++(zmh t).1)->FrP b g g'->K (.tuple #[]) g'):
  XC Tp 168 #[.pointer (Td ⟨b,0,Te⟩),.string (bl t)] g K:=by
 apply Ww;refine qfl m e L.hM (n.mono L.hM) L.ag λh' k=>⟨_,_,rfl,_,rfl,?_⟩;rw[add0];have f:=FrP.ofKeep k (DZ H.lt);refine Ys (H.keep k) _ p λh i c q=>⟨_,_,rfl,o h i (f.trans ⟨c,q⟩)⟩
theorem zxq(h:GL gl)(e:Brn gl)(H:Prn g b ln (N:Int) l)(L:Low gl M b g){s:Bt}(c:(lb s).length<=1048576)(i:l.length+(zmh (lb s)).1.length<=140737488355328)(f:∀g',Prn g' b ln (N:Int) (l++(zmh (lb s)).1)->FrP b g g'->K (.tuple #[]) g'):
  XC Tp 168 #[.pointer (Td ⟨b,0,Te⟩),.string s] g K:=by
 have:=qa7 h e H L (t:=lb s) c i f;rw[Yw]at this;exact this
theorem qc0(H:Prn g b ln (N:Int) l)(L:Low gl M b g){lv:Nat}(Q:N<=8)(y:lv<=100)(A:l.length+(yj ln N lv).length<=140737488355328)(m:∀g',Prn g' b ln (N:Int) (l++yj ln N lv)->FrP b g g'->K (.tuple #[]) g'):
  XC Tp 235 #[.pointer (Td ⟨b,0,Te⟩),.int .i64 (lv:Int)] g K:=by
 apply zah;obtain⟨p,s,e,E,C⟩:=H;refine⟨_,rfl,ln,Blk.cellAdd (o:=0) (k:=2) (cs:=#[.pointer p,slV s,.bool ln,.int .i64 (N:Int)]) ⟨_,e⟩ rfl,λf=>?_,λf=>?_⟩;subst f;unfold yj at A m;simp only[if_true,Aq,CI]at A m;refine⟨_,rfl,?_⟩;rw[add0];refine Qq (b:=b) (nd:=(N:Int)) ⟨p,s,e,E,C⟩ (by omega) 10 λI u S G=>⟨_,rfl,_,rfl,_,rfl,?_⟩;have t:=u;obtain⟨O,V,F,P,Y⟩:=t;have D:FrP b g I:=⟨S,G⟩;have z:=L.frp D;have B:N*lv<=800:=Ck (Nat.mul_le_mul Q y) (by omega);refine⟨(N:Int),Blk.cellAdd (o:=0) (k:=3) (cs:=#[.pointer O,slV V,.bool Ta,.int .i64 (N:Int)]) ⟨_,F⟩ rfl,?_⟩;rw[show((N:Int)*(lv:Int))=((N*lv:Nat):Int)from by rw[Int.natCast_mul],w64 (by omega)];refine(zi8 (gl:=gl) (s:=bl [32]) (c:=N*lv) (by omega) (by rw[zf];simp;omega) (R:=λx=>x=bl (BE (N*lv) 32)) (by rw[yg,qin])).go z.hM z.ag (qc (a:=Arg.mk .str _) (rdStr _) (qc (a:=Arg.mk (.int .i64) _) (Jf _ _) qt)) λv U J x i y Z=>?_;subst Z;refine⟨_,Wp (Xe.1 y),?_⟩;have q:=FrP.ofKeep i.keep (DZ u.lt);rw[add0];refine Ys (u.keep i.keep) _ (by simp only[Ag,Aq,AR,CI];omega) λn h r w=>⟨_,_,rfl,?_⟩;refine m n ?_ ((D.trans q).trans ⟨r,w⟩);rw[AF]at h;exact h;subst f;refine m g ?_ (FrP.refl _ _);have:l++yj Tc N lv=l:=by unfold yj;simp
 rw[this];exact⟨p,s,e,E,C⟩
end
end
section
variable {gl:Fr} {l:Bs} {n:Nat}
theorem zr8{s p:Bs}{R:Bool->Prop}(h:R (p.isPrefixOf s)):PC Tp gl 156 [Arg.mk .str (bl s),Arg.mk .str (bl p)] [.bool] R:= PC.of_scal rfl (λ_=>znn _) (r:=p.isPrefixOf s) h λw i=>by have:=zch (bl s) (bl p) w;have f:(bl s).data.toList=s:=yg s;have b:(bl p).data.toList=p:=yg p;rw[f,b]at this;exact this.mono λe w' ⟨h1,c⟩=>⟨h1,c ▸ Below.refl _ _⟩
theorem qfm{a b:UInt8}(l:Bs):[a,b].isPrefixOf l=decide (l.take 2=[a,b]):=by
 match l with
 |[]=>rfl
 |[x]=>simp[List.isPrefixOf]
 |x::y::l=>simp only[List.isPrefixOf,Dd,Dl,Dt,BV,and_true];rw[AM,Ap,beq_iff_eq,beq_iff_eq,decide_eq_true_eq];constructor <;> (rintro⟨rfl,rfl⟩;exact⟨rfl,rfl⟩)
theorem qa8(h:zjp l=Td n):4<=l.length:=by unfold zjp at h;split at h;assumption;cases h
theorem z0j(q:GL gl)(y:2<=l.length)(w:l.length<=1152921504606846976){R:Int×Int->Prop}(h:R (match qe3 (l.drop 2)with|some (r,n)=>((r:Int),(n:Int))|none=>(0,0))):
  PC Tp gl 324 [Arg.mk .str (bl l)] [.int .i32,.int .i64] R:=by
 apply zhc;simp only[zf,qgp (show(2:Int)=((2:Nat):Int)from rfl),qgp (show(6:Int)=((6:Nat):Int)from rfl),qgp (show(8:Int)=((8:Nat):Int)from rfl)];refine⟨⟨by omega,by omega,by omega⟩,?_⟩;unfold qe3 at h;refine z5e q (by rw[AH];omega) (λn e=>?_) (λe v=>?_);rw[e]at h;have u:=zf3 e;have s:=qa8 e;rw[AH]at s;dsimp only at h;intro K p;refine⟨λb=>(by cases b),λ_=>p _ ?_⟩;refine⟨λb=>?_,λb=>⟨λo=>?_,λo=>⟨⟨by omega,by omega,by omega⟩,?_⟩⟩⟩;simp only[Bool.cond_eq_ite,Bool.if_false_right,Ap,decide_eq_true_eq]at b;rw[if_pos (by omega)]at h;exact h;simp only[Bool.cond_eq_ite,Bool.if_false_right,CJ,decide_eq_false_iff_not,Bool.if_true_left,BO,decide_eq_true_eq]at b o;rw[if_neg (by omega),if_pos (by omega)]at h;exact h;simp only[Bool.cond_eq_ite,Bool.if_false_right,CJ,decide_eq_false_iff_not,Bool.if_true_left,DV,decide_eq_true_eq]at b o;rw[if_neg (by omega),if_neg (by omega)]at h;rw[BU,BU]at h;refine zr8 ?_;rw[qfm];refine⟨λk=>?_,λk=>⟨⟨by omega,?_,by omega⟩,?_⟩⟩;rw[if_neg (by simpa using k)]at h;exact h;have c:(l.drop 6).take 2=[92,117]:=by simpa using k
 have:=congrArg Ct c;simp only[AK,AH,Aq,AR]at this;omega;have c:(l.drop 6).take 2=[92,117]:=by simpa using k
 rw[if_pos c]at h;refine z5e q (by rw[AH];omega) (λm i=>?_) (λi v=>?_);rw[show 2+6=8 from rfl,i]at h;have x:=zf3 i;dsimp only at h;refine⟨λf=>?_,λf=>?_⟩;simp only[Bool.cond_eq_ite,Bool.if_true_left,BO,decide_eq_true_eq,Bool.not_true,Bc,false_or]at f;rw[if_neg (show¬(56320<=m/\m<57344)by omega)]at h;exact h;simp only[Bool.cond_eq_ite,Bool.if_true_left,DV,decide_eq_false_iff_not,Bool.not_true,Bc,decide_false,decide_eq_true_eq,D7]at f;rw[if_pos (show 56320<=m/\m<57344 by omega)]at h;dsimp only at h;rw[zaa (n:=(n:Int)-55296) (by omega) (by omega),zaa (n:=((n:Int)-55296)*1024) (by omega) (by omega),zaa (n:=65536+((n:Int)-55296)*1024) (by omega) (by omega),zaa (n:=65536+((n:Int)-55296)*1024+(m:Int)) (by omega) (by omega),zaa (by omega) (by omega)];have t:(((65536+(n-55296)*1024+(m-56320):Nat):Int))=65536+((n:Int)-55296)*1024+(m:Int)-56320:=by omega
 rw[t]at h;exact h;rw[show 2+6=8 from rfl,i]at h;exact⟨λ_=>h,λf=>by simp at f⟩;rw[e]at h;intro K p;exact⟨λ_=>p _ ⟨λ_=>h,λb=>by cases b⟩,λb=>by cases b⟩
theorem u8i{c:UInt8}(b:n<256):((c.toNat:Int)==(n:Int))=decide (c=Bb n):=by rw[AM,beq_iff_eq,decide_eq_true_eq,u8n b];omega
theorem qa9{c:UInt8}{R:Int×Bool->Prop}(h:R (match qas c with|some r=>((r:Int),Ta)|none=>(0,Tc))):PC Tp gl 323 [Arg.mk (.int .u8) (c.toNat:Int)] [.int .i32,.bool] R:=by
 apply zla;have B:=c.toNat_lt;have q:∀n:Nat,n<256->((c.toNat:Int)==(n:Int))=decide (c=Bb n):=λn z=>u8i z;have l:=q 34 (by omega);have s:=q 92 (by omega);have p:=q 47 (by omega);have m:=q 98 (by omega);have e:=q 102 (by omega);have k:=q 110 (by omega);have f:=q 114 (by omega);have i:=q 116 (by omega);simp only[Int.cast_ofNat_Int,show Bb 34=34 from rfl,show Bb 92=92 from rfl,show Bb 47=47 from rfl,show Bb 98=98 from rfl,show Bb 102=102 from rfl,show Bb 110=110 from rfl,show Bb 114=114 from rfl,show Bb 116=116 from rfl]at l s p m e k f i;rw[l,s,p,m,e,k,f,i];unfold qas at h;intro K A;have yes:(c=34\/c=92\/c=47)->K Ta:=by intro h1;apply A;rw[if_pos h1]at h;rw[zaa (by omega) (by omega)];exact⟨λ_=>h,λb=>by cases b⟩
 refine⟨λh1=>by rw[h1];exact yes (.inl (by simpa using h1)),λh1=>⟨λo=>by rw[o];exact yes (.inr (.inl (by simpa using o))),λo=>?_⟩⟩;by_cases x:c=47;rw[decide_eq_true x];exact yes (.inr (.inr x));have z:¬(c=34\/c=92\/c=47):=by rw[decide_eq_false_iff_not]at h1 o;rintro(h|h|h);exact h1 h;exact o h;exact x h
 rw[if_neg z]at h;rw[decide_eq_false x];apply A;refine⟨λb=>(by cases b),λ_=>?_⟩;by_cases w:c=98;rw[if_pos w]at h;rw[decide_eq_true w];exact⟨λ_=>h,λb=>by cases b⟩;rw[if_neg w]at h;rw[decide_eq_false w];refine⟨λb=>(by cases b),λ_=>?_⟩;by_cases a2:c=102;rw[if_pos a2]at h;rw[decide_eq_true a2];exact⟨λ_=>h,λb=>by cases b⟩;rw[if_neg a2]at h;rw[decide_eq_false a2];refine⟨λb=>(by cases b),λ_=>?_⟩;by_cases u:c=110;rw[if_pos u]at h;rw[decide_eq_true u];exact⟨λ_=>h,λb=>by cases b⟩;rw[if_neg u]at h;rw[decide_eq_false u];refine⟨λb=>(by cases b),λ_=>?_⟩;by_cases t:c=114;rw[if_pos t]at h;rw[decide_eq_true t];exact⟨λ_=>h,λb=>by cases b⟩;rw[if_neg t]at h;rw[decide_eq_false t];refine⟨λb=>(by cases b),λ_=>?_⟩;by_cases y:c=116;rw[if_pos y]at h;rw[decide_eq_true y];exact⟨λ_=>h,λb=>by cases b⟩;rw[if_neg y]at h;rw[decide_eq_false y];exact⟨λb=>(by cases b),λ_=>h⟩
end
section
variable {gl M:Fr} {l:Bs}
theorem z6a(m:GL gl)(f:l.length<=1152921504606846976){R:Int×Int->Prop}(h:R (match qe4 l with|some (r,n)=>((r:Int),(n:Int))|none=>(0,0))):
  PC Tp gl 315 [Arg.mk .str (bl l)] [.int .i32,.int .i64] R:=by
 apply zjo;rw[zf]
 match l,f,h with
 |[],_,h=>exact⟨λ_=>h,λb=>by simp at b⟩
 |[a],_,h=>exact⟨λ_=>h,λb=>by simp at b⟩
 |a::c::t,f,h=>
  have i:((a::c::t).length:Int)=t.length+2:=by simp;omega
  refine⟨λb=>(by rw[decide_eq_true_eq]at b;omega),λ_=>⟨⟨by omega,by omega⟩,?_⟩⟩;have o:zr (bl (a::c::t)) (1:Int).toNat=(c.toNat:Int):=by rw[jj];rfl
  rw[o];refine qa9 ?_;unfold qe4 at h;dsimp only at h;cases e:qas c with
  |some r=>rw[e]at h;exact⟨λ_=>h,λb=>(by cases b)⟩
  |none=>rw[e]at h;dsimp only at h;refine⟨λb=>(by cases b),λ_=>⟨⟨by omega,by omega⟩,?_⟩⟩;have k:((c.toNat:Int)==117)=decide (c=117):=u8i (n:=117) (by omega);rw[k];refine⟨λb=>?_,λb=>?_⟩;rw[if_pos (by simpa using b)]at h;refine z0j m (by simp) f ?_;exact h;rw[if_neg (by simpa using b)]at h;exact h
theorem qlf(h:l≠[]):Lib.decodeGo (bl l)=dec l:=by unfold Lib.decodeGo;have b:=Bv.2 h;rw[if_neg (by rw[zf];omega),zwz,yg,BZ]
theorem qfn(e:GL gl)(c:l≠[])(m:l.length<=1152921504606846976){R:Int×Int->Prop}(h:R (match zae l with|some (r,n)=>((r:Int),(n:Int))|none=>(0,0))):
  PC Tp gl 291 [Arg.mk .str (bl l)] [.int .i32,.int .i64] R:=by
 apply zoi;have i:=Bv.2 c;rw[zf,jj,show(0:Int).toNat=0 from rfl,z4c i];refine⟨⟨by omega,by omega⟩,?_⟩;have f:((l[0].toNat:Int)==92)=decide (l[0]=92):=u8i (n:=92) (by omega);have o:l.head?=Td l[0]:=by cases l with
  |nil=>exact absurd rfl c
  |cons a t=>rfl
 rw[f];unfold zae at h;rw[o]at h;refine⟨λb=>?_,λb=>?_⟩;rw[if_pos (by rw[of_decide_eq_true b])]at h;exact z6a e m h;rw[if_neg (by rw[Ac];exact of_decide_eq_false b)]at h;refine zrb e.tabs ?_;rw[qlf c];have k:(bif (decide (((dec l).1:Int)<32))then Ta else(bif (((dec l).1:Int)==65533)then(((dec l).2:Int)==1)else Tc))=decide ((dec l).1<32\/zkl (dec l)=Ta):=by rw[AM];unfold zkl;simp only[Bool.cond_eq_ite,Bool.if_true_left,Bool.if_false_right,BO,Ap,decide_eq_true_eq,beq_iff_eq];constructor;rintro(h1|⟨h1,p⟩);left;omega;right;exact⟨by omega,by omega⟩;rintro(h1|⟨h1,p⟩);left;omega;right;exact⟨by omega,by omega⟩
 rw[k];refine⟨λb=>?_,λb=>?_⟩;rw[if_pos (of_decide_eq_true b)]at h;exact h;rw[if_neg (of_decide_eq_false b)]at h;exact h
theorem zxr(s:Bt)(i j:Int):Yv M [.str,.int .i64,.int .i64] (s,i,j) (.tuple #[.string s,.int .i64 i,.int .i64 j]):= ⟨[_,_,_],⟨_,_,rfl,rdStr s,_,_,rfl,Jf _ i,_,rfl,Jf _ j⟩,rfl⟩
theorem zr9{k:IntKind}{r:Int×Int}{v:Value}(h:Yv M [.int k,.int .i64] r v):v=.tuple #[.int k r.1,.int .i64 r.2]:=by obtain⟨vs,⟨f,rest,rfl,c,e,rfl,b⟩,rfl⟩:=h;rw[j4 c,j4 b];rfl
set_option maxHeartbeats 1000000 in
theorem zxs(V:GL gl){t:Bs}{a:Nat}(aa:a<=1152921504606846976)(hl:t.length<=1099511627776){R:Bt×Int×Int->Prop}(u:R (bl (yq t a).1,((yq t a).2.1:Int),(yq t a).2.2)):
  PC Tp gl 253 [Arg.mk .str (bl t),Arg.mk (.int .i64) (a:Int)] [.str,.int .i64,.int .i64] R:=by
 intro h M vs S ag Z
 match vs,Z with
 |[u1,u2],⟨a1,a2,_⟩=>
  obtain rfl:=Wp (s:=bl t) a1;obtain rfl:=j4 (i:=(a:Int)) a2;apply PX.of;apply zn9;rw[zf,jj,Ai];have f:∀{k:Nat},k<t.length->(t.drop k).head?=Td (t[k]?.getD 0):=λ {k} J=>by rw[List.head?_drop,Al J];rfl
  have D:∀k:Nat,(((t[k]?.getD 0).toNat:Int)==34)=decide (t[k]?.getD 0=34):=λk=>u8i (n:=34) (by omega);have H:(((t[a]?.getD 0).toNat:Int) != 34)=!decide (t[a]?.getD 0=34):=by rw[bne,D]
  rw[H];refine⟨λl=>?_,λl=>?_,λl=>?_⟩;have:¬((a:Int)>=(t.length:Int)):=by simpa using l
  exact⟨by omega,by omega⟩;have hn:¬(t.drop a).head?=Td 34:=by
   intro e;have p:a<t.length:=by rcases A6 a t.length with h1|h1;exact h1;rw[Br h1]at e;cases e
   rw[f p]at e;have e:=Az e;have E:decide ((a:Int)>=(t.length:Int))=Tc:=by rw[decide_eq_false_iff_not];omega
   rw[E,e]at l;simp at l
  have e:yq t a=([],a,2):=by unfold yq;rw[if_neg hn]
  rw[e]at u;exact⟨M,(bl [],(a:Int),2),Later.refl ag,zxr _ _ _,u⟩;have p:a<t.length:=by
   rcases A6 a t.length with h1|h1;exact h1;have E:decide ((a:Int)>=(t.length:Int))=Ta:=by rw[decide_eq_true_eq];omega
   rw[E]at l;cases l
  have E:decide ((a:Int)>=(t.length:Int))=Tc:=by rw[decide_eq_false_iff_not];omega
  have P:(t.drop a).head?=Td 34:=by rw[f p];rw[E]at l;congr 1;simpa using l
  have U:yq t a=(let q:=zem (t.drop (a+1));if q.2.2 then(q.1,a+1+q.2.1,0)else([],a+1+q.2.1,2)):=by unfold yq;rw[if_pos P]
  rw[ju p (by omega)];intro h1;have O:Bld h1 h.size []:=Bld.new h;have k1:Keep h.size h h1:=Keep.push _ _ (Ab _);clear_value h1;refine⟨λi g=>∃(k:Nat) (out:Bs),i=(k:Int)/\k<=t.length/\out.length<=4*k/\Bld g h.size out/\Keep h.size h g/\yq t a=(let q:=zem (t.drop k);if q.2.2 then(out++q.1,k+q.2.1,0)else([],k+q.2.1,2)),λi _=>t.length-i.toNat,⟨a+1,[],rfl,by omega,by simp,O,k1,by rw[U];rfl⟩,?_⟩;rintro i g ⟨k,out,rfl,J,ho,B,w,A⟩;simp only[Ai];refine⟨λl=>?_,λl=>?_⟩;have o:k<t.length:=by rw[decide_eq_true_eq]at l;omega
  have z:t.drop k≠[]:=by rw[<-Bv,AH];omega
  refine⟨⟨by omega,by omega⟩,?_⟩;rw[jj,D];have b:=Jk z;rw[f o]at b;refine⟨λy=>?_,λy=>⟨⟨by omega,by omega,by omega⟩,?_⟩⟩;rw[if_pos (by rw[of_decide_eq_true y])]at b;rw[b]at A;refine zxd B λh7 k7=>⟨_,rfl,M,(bl out,((k+1:Nat):Int),0),Later.same ag (w.trans k7 (Ab _)),?_,?_⟩;rw[ju o (by omega)];exact zxr _ _ _;rw[A]at u;simpa using u;rw[if_neg (by rw[Ac];exact of_decide_eq_false y)]at b;have ex:(bl t).extract k t.length=bl (t.drop k):=qgp (n:=(k:Int)) rfl;rw[ex];refine(qfn V z (by rw[AH];omega) (R:=λr=>r=(match zae (t.drop k)with|some (r,n)=>((r:Int),(n:Int))|none=>(0,0))) rfl).go S (ag.keep w) (qc (a:=Arg.mk .str _) (rdStr _) qt) λv h9 M9 r L Y C=>?_;obtain rfl:=zr9 Y;cases ep:zae (t.drop k)with
  |none=>rw[ep]at C b;dsimp only at C;subst C;refine⟨_,_,rfl,λ_=>?_,λF=>by cases F⟩;dsimp only at b;rw[b]at A;refine⟨M,(bl [],(k:Int),2),Later.same ag (w.trans L.keep w.size),zxr _ _ _,?_⟩;rw[A]at u;simpa using u
  |some x=>
   obtain⟨c,n⟩:=x;rw[ep]at C b;dsimp only at C;subst C;obtain⟨n1,n2,Q,n4⟩:=Q3 z ep;rw[AH]at Q;dsimp only at b;refine⟨(c:Int),(n:Int),rfl,λF=>?_,λ_=>?_⟩;simp only[beq_iff_eq]at F;omega;refine zu4 (B.keep L.keep) (by omega) (by omega) (by omega) λN m I G=>⟨_,_,rfl,?_,?_⟩;refine⟨k+n,out++Lib.encodeRune (c:Int),?_,by omega,?_,I,?_,?_⟩;rw[w64 (by omega)];omega;have h4:(Lib.encodeRune (c:Int)).length<=4:=by have:=(Lib.encodeRuneZ_length (c:Int)).2;rw[Lib.encodeRune,Ao];exact this
   rw[Ag];omega;exact(w.trans L.keep w.size).trans G (Ab _);rw[A,b,BU];dsimp only;rw[AF,CP];show t.length-(Aa .i64 ((k:Int)+(n:Int))).toNat<t.length-((k:Nat):Int).toNat;rw[w64 (by omega)];omega
  have o:k=t.length:=by rw[decide_eq_false_iff_not]at l;omega
  rw[o,List.drop_length,z4y]at A;refine⟨M,(bl [],(t.length:Int),2),Later.same ag w,zxr _ _ _,?_⟩;rw[A]at u;simpa using u
end
section
variable {t:Bs} {gl:Fr}
def qio(t:Bs)(a:Int):Int×Int:=if a<0\/(t.length:Int)<a then(0,2)else((yq t a.toNat).2.1,(yq t a.toNat).2.2)
theorem qfo{R:Bt×Int×Int->Prop}(h:R (bl (Xh t).1,((Xh t).2.1:Int),(Xh t).2.2)):
  ((bif ((yq t 0).2.2==0)then(decide (((yq t 0).2.1:Int)<(t.length:Int)))else Tc)=Ta->R (bl [],((yq t 0).2.1:Int),2))/\((bif ((yq t 0).2.2==0)then(decide (((yq t 0).2.1:Int)<(t.length:Int)))else Tc)=Tc->R (bl (yq t 0).1,((yq t 0).2.1:Int),(yq t 0).2.2)):=by
 have e:(bif ((yq t 0).2.2==0)then(decide (((yq t 0).2.1:Int)<(t.length:Int)))else Tc)=decide ((yq t 0).2.2=0/\(yq t 0).2.1<t.length):=by rw[AM];simp only[Bool.cond_eq_ite,Bool.if_false_right,Ap,decide_eq_true_eq,beq_iff_eq];omega
 rw[e];unfold Xh at h;refine⟨λb=>?_,λb=>?_⟩;rw[if_pos (of_decide_eq_true b)]at h;exact h;rw[if_neg (of_decide_eq_false b)]at h;exact h
theorem zf9(c:GL gl)(b:t.length<=1099511627776){R:Bt×Int×Int->Prop}(h:R (bl (Xh t).1,((Xh t).2.1:Int),(Xh t).2.2)):
  PC Tp gl 196 [Arg.mk .str (bl t)] [.str,.int .i64,.int .i64] R:=by
 apply zhb;rw[zf];exact zxs c (a:=0) (by omega) b (qfo h)
theorem qip(k:GL gl){a:Int}(l:t.length<=1099511627776){R:Int×Int->Prop}(h:R (qio t a)):PC Tp gl 258 [Arg.mk .str (bl t),Arg.mk (.int .i64) a] [.int .i64,.int .i64] R:=by
 apply zrr;rw[zf];have e:(bif (decide (a<0))then Ta else(decide (a>(t.length:Int))))=decide (a<0\/(t.length:Int)<a):=by rw[AM];simp only[Bool.cond_eq_ite,Bool.if_true_left,BO,decide_eq_true_eq]
 rw[e];unfold qio at h;refine⟨λc=>?_,λc=>?_⟩;rw[if_pos (of_decide_eq_true c)]at h;exact h;have f:=of_decide_eq_false c;rw[if_neg f]at h;have i:a=((a.toNat:Nat):Int):=by omega
 have:=zxs k (t:=t) (a:=a.toNat) (by omega) l (R:=λb=>R (b.2.1,b.2.2)) h;rw[<-i]at this;exact this
end
end Go.X
end
section
namespace Go.X
open Go Go.RowKit
section
theorem qfp{n:Nat}{bf:Nat->List Nat}:((Bl n).flatMap bf).Nodup↔(∀i,i<n->(bf i).Nodup)/\∀i j,i<j->j<n->∀x∈bf i,∀y∈bf j,x≠y:=by unfold List.Nodup;rw[List.pairwise_flatMap,List.pairwise_iff_getElem];constructor;rintro⟨h1,e⟩;refine⟨λi hi=>h1 i (by simpa using hi),λi j b c=>?_⟩;have:=e i j (by simp;omega) (by simpa using c) b;simpa using this;rintro⟨h1,e⟩;refine⟨λi hi=>h1 i (by simpa using hi),λi j hi c b=>?_⟩;simp at hi c;simpa using e i j b c
end
section
variable {h:zb} {v:Tr} {sk si:Sl} {bk bb:List Nat} {b n i k:Nat} {cs:Array Value} {cw:List Value}
structure OTp (h:zb) (v:Tr) (sk si:Sl) (bk bb:List Nat) (b:Nat) (cs:Array Value) (bf:Nat->List Nat):Prop where
 keys:OKeys h v.keys bk sk
 hn:si.len=v.items.length/\v.items.length<=140737488355328/\v.items.length<=si.cap
 hz:(v.items=[]/\bb=[]/\si.cap=0)\/(bb=[b]/\si.a=Td ⟨b,0,Te⟩/\Blk h b cs/\si.cap*4<=cs.size)
 hi:∀i (hx:i<v.items.length),OT h v.items[i] (bf i) (cut cs (i*4) 4)
 nk:bk.Nodup
 d1:∀c∈bk,c∉bb
 d2:∀c∈bk,∀i,i<v.items.length->c∉bf i
 d3:∀c∈bb,∀i,i<v.items.length->c∉bf i
 d4:∀i j,i<v.items.length->j<v.items.length->i≠j->∀c∈bf i,c∉bf j
def Zz(v:Tr)(sk si:Sl):List Value:=[.int .i64 v.kind,.string v.text,slV sk,slV si]
theorem OTp.ot{bf:Nat->List Nat}(H:OTp h v sk si bk bb b cs bf):OT h v (bk++(bb++(Bl v.items.length).flatMap bf)) (Zz v sk si):=by obtain⟨k,s,ks,xs⟩:=v;refine OT.mk (b:=b) (cs:=cs) H.keys H.hn H.hz H.hi ?_;rw[CV];refine⟨H.nk,?_,λx f y c e=>?_⟩;rw[CV];refine⟨?_,qfp.2 ⟨λi hi=>(H.hi i hi).nodup,λi j l m x f y c e=>?_⟩,λx f y c e=>?_⟩;rcases H.hz with⟨_,e,_⟩|⟨e,_⟩;rw[e];exact Dm;rw[e];simp;subst e;exact H.d4 i j (Nat.lt_trans l m) m (by omega) x f c;subst e;obtain⟨i,hi,c⟩:=Cw.1 c;exact H.d3 x f i (by simpa using hi) c;subst e;rcases Ay.1 c with c|c;exact H.d1 x f c;obtain⟨i,hi,c⟩:=Cw.1 c;exact H.d2 x f i (by simpa using hi) c
theorem z6b{bf:Nat->List Nat}{n c:Nat}:c∈bk++(bb++(Bl n).flatMap bf)↔c∈bk\/c∈bb\/∃i,i<n/\c∈bf i:=by simp only[Ay,Cw,A1]
theorem zoq(h:i+4<=n):cut cs i 4=((cut cs 0 n).drop i).take 4:=by unfold cut;rw[BZ,List.drop_take,Ec,CE (by omega)]
theorem qfq{α:Type}{xs:List α}{w:α}(c:k<=xs.length)(h:i<(xs.take k++w::xs.drop k).length):
  (i<k/\∃h':i<xs.length,(xs.take k++w::xs.drop k)[i]=xs[i])\/(i=k/\(xs.take k++w::xs.drop k)[i]=w)\/(k<i/\∃h':i-1<xs.length,(xs.take k++w::xs.drop k)[i]=xs[i-1]):=by
 have b:(xs.take k).length=k:=by rw[AK];omega
 simp only[Ag,Aq,b,AH]at h;rcases Nat.lt_trichotomy i k with h1|h1|h1;refine .inl ⟨h1,by omega,?_⟩;rw[BS (by rw[b];exact h1),List.getElem_take];refine .inr (.inl ⟨h1,?_⟩);subst h1;rw[Ce (by rw[b];exact Ab _)];simp[b];refine .inr (.inr ⟨h1,by omega,?_⟩);rw[Ce (by rw[b];omega)];simp only[b];have e:i-k=(i-1-k)+1:=by omega
 simp only[e,List.getElem_cons_succ,List.getElem_drop];congr 1;omega
theorem qfr{c cw:List Value}(h:c.length=n*4)(e:cw.length=4)(f:k<=n):
  (∀i,i<k->((c.take (k*4)++cw++c.drop (k*4)).drop (i*4)).take 4=(c.drop (i*4)).take 4)/\((c.take (k*4)++cw++c.drop (k*4)).drop (k*4)).take 4=cw/\∀i,k<i->((c.take (k*4)++cw++c.drop (k*4)).drop (i*4)).take 4=(c.drop ((i-1)*4)).take 4:=by
 have b:(c.take (k*4)).length=k*4:=by rw[AK];omega
 refine⟨λi hi=>?_,?_,λi hi=>?_⟩;apply Bu;intro j;rw[AJ,AJ];split;rw[A9,A9,AF,BK (by rw[b];omega),AJ,if_pos (by omega)];rfl;rw[AF,List.drop_append,Br (by rw[b];exact Ab _),A5,b,D3,BZ,List.take_append,e,D3,Dl,AQ,BG (by omega)];rw[List.drop_append,Br (by rw[Ag,b,e];omega),A5,Ag,b,e,BU];congr 2;omega
theorem OTp.ins{h h':zb}{bf:Nat->List Nat}(H:OTp h v sk si bk bb b cs bf)(N:k<=v.items.length){w:Tr}{bw:List Nat}(O:OT h' w bw cw) (P:∀i,i<v.items.length->∀c∈bf i,h'[c]?=h[c]?) {o:Sl} {r:Nat} {cs':Array Value} (e1:o.a=Td ⟨r,0,Te⟩) (Q:Blk h' r cs') (e3:o.len=v.items.length+1) (U:v.items.length+1<=o.cap) (V:o.cap*4<=cs'.size) (e6:v.items.length+1<=140737488355328) (S:cut cs' 0 ((v.items.length+1)*4)=(cut cs 0 (v.items.length*4)).take (k*4)++cw++(cut cs 0 (v.items.length*4)).drop (k*4)) (M:∀i,i<v.items.length->r∉bf i) (D:r∉bw) (C:∀c∈bw,∀i,i<v.items.length->c∉bf i) {z:List Bt} {A:Sl} {p:List Nat} (ok:OKeys h' z p A) (Z:p.Nodup) (L:r∉p) (E:∀c∈p,∀i,i<v.items.length->c∉bf i) (J:∀c∈p,c∉bw):
  OTp h' (.mk v.kind v.text z (v.items.take k++w::v.items.drop k)) A o p [r] r cs' (λi=>if i<k then bf i else if i=k then bw else bf (i-1)):=by
 have l:(v.items.take k++w::v.items.drop k).length=v.items.length+1:=by simp;omega
 have F:∀i (y:i<v.items.length),(cut cs 0 (v.items.length*4)).length=v.items.length*4:=by intro i y;rcases H.hz with⟨h0,_⟩|⟨_,_,_,ab⟩;rw[h0]at y;simp at y;unfold cut;simp;have:=H.hn.2.2;omega
 have u:(cut cs 0 (v.items.length*4)).length=v.items.length*4:=by
  by_cases h0:0<v.items.length;exact F 0 h0;have:v.items.length=0:=by omega
  rw[this];unfold cut;simp
 have G:cw.length=4:=O.len;obtain⟨c1,c2,c3⟩:=qfr u G N;have x:∀i,i<v.items.length+1->∀c,c∈(if i<k then bf i else if i=k then bw else bf (i-1))->(∃j,j<v.items.length/\c∈bf j)\/c∈bw:=by intro i hi c m;split at m;exact .inl ⟨i,by omega,m⟩;split at m;exact .inr m;exact .inl ⟨i-1,by omega,m⟩
 refine⟨ok,⟨by show o.len=(v.items.take k++w::v.items.drop k).length;rw[l];exact e3,by show(v.items.take k++w::v.items.drop k).length<=_;rw[l];exact e6,by show(v.items.take k++w::v.items.drop k).length<=_;rw[l];exact U⟩,.inr ⟨rfl,e1,Q,V⟩,λi y=>?_,Z,λc m f=>?_,λc m i hi f=>?_,λc m i hi f=>?_,λi j hi t I c m f=>?_⟩;have B:i<(v.items.take k++w::v.items.drop k).length:=y;have aa:i<v.items.length+1:=by rw[<-l];exact B
 rw[zoq (n:=(v.items.length+1)*4) (by omega),S];show OT h' (v.items.take k++w::v.items.drop k)[i] _ _;rcases qfq N B with⟨hi,s,e⟩|⟨hi,e⟩|⟨hi,s,e⟩;rw[e,if_pos hi,c1 i hi,<-zoq (by omega)];exact(H.hi i s).frame (P i s);subst hi;rw[e,if_neg (by omega),if_pos rfl,c2];exact O;rw[e,if_neg (by omega),if_neg (by omega),c3 i hi,<-zoq (by omega)];exact(H.hi (i-1) s).frame (P (i-1) s);simp at f;subst f;exact L m;have q:i<v.items.length+1:=by rw[<-l];exact hi
 rcases x i q c f with⟨j,t,f⟩|f;exact E c m j t f;exact J c m f;have q:i<v.items.length+1:=by rw[<-l];exact hi
 simp at m;subst m;rcases x i q c f with⟨j,t,f⟩|f;exact M j t f;exact D f
 ·have q:i<v.items.length+1:=by rw[<-l];exact hi
  have Y:j<v.items.length+1:=by rw[<-l];exact t
  try simp only at m f
  split at m;split at f;exact H.d4 i j (by omega) (by omega) I c m f;split at f;exact C c f i (by omega) m;exact H.d4 i (j-1) (by omega) (by omega) (by omega) c m f;split at m;split at f;exact C c m j (by omega) f;split at f;omega;exact C c m (j-1) (by omega) f;split at f;exact H.d4 (i-1) j (by omega) (by omega) (by omega) c m f;split at f;exact C c f (i-1) (by omega) m;exact H.d4 (i-1) (j-1) (by omega) (by omega) (by omega) c m f
end
section
variable {cs:Array Value} {o n b:Nat} {h:zb}
theorem zc0(h:o+n<=cs.size):(cut cs o n).length=n:=by unfold cut;simp;omega
theorem z6c(H:Blk h b cs):Arr h.size h (Td ⟨b,o,Te⟩) (cut cs o n):=by refine .inr ⟨b,o,rfl,H.lt,λi v c=>H.cell ?_⟩;rw[qz]at c;split at c;rw[<-Cj];exact c;cases c
theorem z6d{P:Program}(H:Blk h b cs){vs:List Value}(k:o+vs.length<=cs.size)(h1:∀u∈vs,u.oneCell'=Ta)(B:World)(d:Nat):
  ∃h',(storeCells ⟨b,o,Te⟩ vs 0).run P (mk B d h)=.ok () (mk B d h')/\Blk h' b (upd cs o vs)/\h'.size=h.size/\∀j,j≠b->h'[j]?=h[j]?:=by
 obtain⟨T,e⟩:=H;obtain⟨h',c,i,f,l⟩:=zqs (P:=P) e k h1 B d;exact⟨h',c,⟨T,i⟩,f,l⟩
end
section
variable {cs:Array Value} {vs:List Value}
structure RowO (h:zb) (s:Sl) (b:Nat) (cs:Array Value) (sz:Nat):Prop where
 le:s.len<=s.cap
 at_:(s.len=0/\s.cap=0)\/(s.a=Td ⟨b,0,Te⟩/\Blk h b cs/\s.cap*sz<=cs.size)
structure RowN (h h':zb) (s':Sl) (b b':Nat) (cs':Array Value) (sz n:Nat) (cells:List Value):Prop where
 a:s'.a=Td ⟨b',0,Te⟩
 len:s'.len=n
 cap:n<=s'.cap
 blk:Blk h' b' cs'
 size:s'.cap*sz<=cs'.size
 cut:cut cs' 0 (n*sz)=cells
 new:b'=b\/h.size<=b'
 grow:h.size<=h'.size
 old:∀j,j<h.size->j≠b'->h'[j]?=h[j]?
theorem qfs{n m:Nat}(c:n+vs.length<=cs.size)(f:m=n+vs.length):cut (upd cs n vs) 0 m=cut cs 0 n++vs:=by subst f;have b:(cut cs 0 n).length=n:=zc0 (by omega);apply Bu;intro q;rw[qz];split;rename_i e;rw[AI,qez c];split;rename_i h1;rw[BK (by rw[b];exact h1),qz,if_pos h1,AI];rename_i h1;rw[BF (by rw[b];omega),b];rename_i e;rw[BL];rw[Ag,b];omega
theorem zor{P:Program}{t e:TypeId}{z:Value}{sz bytes:Nat}(T:ElemT P t e z sz bytes){ty:TypeId}{h:zb}{s:Sl}{b:Nat}(H:RowO h s b cs sz){bv cv:Nat}(Z:Blk h bv vs.toArray)(i:vs.length=sz)(h1:∀u∈vs,u.oneCell'=Ta)(Y:(s.len+1)*bytes<=140737488355328)(F:s.len+1<=140737488355328){K:Value->zb->Prop} (y:∀(w:Sl) (h':zb) (G:Nat) (cs':Array Value),RowN h h' w b G cs' sz (s.len+1) (cut cs 0 (s.len*sz)++vs)->K (.slice w.a w.len w.cap) h'):
  XRun P (Au #[t,t] ty #[.slice s.a s.len s.cap,.slice (Td ⟨bv,0,Te⟩) 1 cv]) h K:=by
 intro B d;have r:Arr h.size h (Td ⟨bv,0,Te⟩) vs:=by have:=z6c Z (o:=0) (n:=vs.length);rw[show cut vs.toArray 0 vs.length=vs by unfold cut;simp]at this;exact this
 have D:∀B d,Src P sz t (.slice (Td ⟨bv,0,Te⟩) 1 cv) 1 vs (mk B d h):=λB d=>zqr (P:=P) (s:=⟨Td ⟨bv,0,Te⟩,1,cv⟩) r (by simp[i]) T.pos h1 T.slice B d;have L:(s.len+1)*sz=s.len*sz+sz:=C6 _ _;by_cases x:s.len+1<=s.cap;rcases H.at_ with⟨_,h0⟩|⟨m,k,A⟩;omega;have V:(s.len+1)*sz<=s.cap*sz:=AP _ x;obtain⟨h',J,M,r3,S⟩:=z6d (P:=P) k (o:=s.len*sz) (vs:=vs) (by rw[i];omega) h1 B d;have q:=Qz (P:=P) (ty:=ty) T (s:=s) (h':=h') (D B d) x (λp E=>by rw[m]at E;cases E;rw[zi,AI];exact J) (λC=>by rw[m]at C;cases C);refine⟨_,d,h',q,y ⟨s.a,s.len+1,s.cap⟩ h' b _ ⟨m,rfl,x,M,by rw[zw9 (by rw[i];omega)];exact A,qfs (by rw[i];omega) (by rw[i];exact L),.inl rfl,by omega,λj I l=>S j l⟩⟩;have f:Arr h.size h s.a (cut cs 0 (s.len*sz))/\(cut cs 0 (s.len*sz)).length=s.len*sz:=by rcases H.at_ with⟨h0,_⟩|⟨m,k,A⟩;rw[h0,Eb];exact⟨.inl (by unfold cut;simp),by unfold cut;simp⟩;have V:s.len*sz<=s.cap*sz:=AP _ H.le;rw[m];exact⟨z6c k,zc0 (by omega)⟩
 obtain⟨c,blk,N,Q,q3,U,O⟩:=Wg (P:=P) (ty:=ty) (base:=0) T f.2 (λB d=>Qy f.1 f.2 T.pos B d) D Y F (AX _) (by omega) B d;refine⟨_,d+1,_,N,y ⟨Td ⟨h.size,0,Te⟩,s.len+1,c⟩ _ h.size blk ⟨rfl,rfl,Q,Blk.new _ _ _,by rw[U];exact Ab _,by unfold cut;rw[BZ];exact O,.inr (Ab _),by simp,λj I l=>by rw[Cd,if_neg (by omega)]⟩⟩
end
end Go.X
end
section
namespace Go.X
section
variable {lo:Nat} {h h':zb} {M M':Fr} {s:Sl} {bs:List Nat}
def ORow(lo:Nat)(h:zb)(M:Fr)(T:Ty)(xs:List (El T))(s:Sl)(bs:List Nat):Prop:=
 (xs=[]/\s.len=0/\s.cap=0/\bs=[])\/∃(b:Nat) (cs:Array Value),bs=[b]/\s.a=Td ⟨b,0,Te⟩/\s.len=xs.length/\s.len<=s.cap/\Blk h b cs/\s.cap*sz T<=cs.size/\lo<=b/\M b=Te/\∀i (hi:i<xs.length),Rd M T xs[i] (cut cs (i*sz T) (sz T))
theorem ORow.nil{T:Ty}:ORow lo h M T [] ⟨Te,0,0⟩ []:=.inl ⟨rfl,rfl,rfl,rfl⟩
theorem ORow.len{T:Ty}{xs:List (El T)}(H:ORow lo h M T xs s bs):s.len=xs.length:=by rcases H with⟨rfl,h1,_⟩|⟨b,cs,_,_,h1,_⟩;exact h1;exact h1
theorem ORow.own{T:Ty}{xs:List (El T)}(H:ORow lo h M T xs s bs):∀c∈bs,lo<=c/\c<h.size/\M c=Te:=by rcases H with⟨_,_,_,rfl⟩|⟨b,cs,rfl,_,_,_,e,_,h1,i,_⟩;intro c f;cases f;intro c f;rw[A4.1 f];exact⟨h1,e.lt,i⟩
theorem ORow.frame{T:Ty}{xs:List (El T)}(H:ORow lo h M T xs s bs)(f:∀c∈bs,h'[c]?=h[c]?)(le:Fr.le M M')(m:∀c∈bs,M' c=Te):ORow lo h' M' T xs s bs:=by rcases H with H|⟨b,cs,rfl,h1,n,k,e,o,l,q,p⟩;exact .inl H;refine .inr ⟨b,cs,rfl,h1,n,k,?_,o,l,m b (by simp),λi hi=>Rd.mono le (p i hi)⟩;unfold Blk at e ⊢;rw[f b (by simp)];exact e
theorem ORow.call{T:Ty}{xs:List (El T)}(H:ORow lo h M T xs s bs)(L:Later h M h' M'):ORow lo h' M' T xs s bs:=by refine H.frame (λc b=>L.keep.get c (H.own c b).2.1) L.le λc b=>?_;rw[L.old c (H.own c b).2.1];exact(H.own c b).2.2
theorem ORow.rd{T:Ty}{xs:List (El T)}{bs all:List Nat}(H:ORow lo h M T xs s bs)(ag:AgM M h)(k:∀c∈bs,c∈all)(o:xs.length<=1000000):Rd (MxL M h all) (.row T) xs [slV s]:=by rcases H with⟨rfl,h1,e,rfl⟩|⟨b,cs,rfl,h1,e,n,f,r,p,q,m⟩;refine⟨_,rfl,s.a,s.cap,?_,⟨by simp,by simp⟩,.inl rfl⟩;show slV s=_;unfold slV;rw[h1];rfl;refine⟨_,rfl,s.a,s.cap,?_,⟨by omega,by omega⟩,?_⟩;unfold slV;rw[e];by_cases l:xs=[];exact .inl l;refine .inr ⟨b,0,cs,h1,MxL.at (k b (by simp)) f,λi hi=>?_⟩;rw[AI];exact Rd.mono (zej ag all) (m i hi)
theorem ORow.app{t e:TypeId}{z:Value}{bytes:Nat}{T:Ty}(E:ElemT Tp t e z (sz T) bytes)(B:bytes<=1000){ty:TypeId}{xs:List (El T)}(ag:AgM M h)(H:ORow lo h M T xs s bs)(af:lo<=h.size){bv cv:Nat}{vs:List Value}{x:El T}(hv:Blk h bv vs.toArray)(L:Rd M T x vs)(U:xs.length<=1000000){K:Value->zb->Prop} (V:∀(o:Sl) (h':zb) (bs':List Nat),ORow lo h' M T (xs++[x]) o bs'->h.size<=h'.size->(∀c∈bs',c∈bs\/h.size<=c)->(∀j,j<h.size->j∉bs->h'[j]?=h[j]?)->K (.slice o.a o.len o.cap) h'):
  XRun Tp (Au #[t,t] ty #[.slice s.a s.len s.cap,.slice (Td ⟨bv,0,Te⟩) 1 cv]) h K:=by
 have P:vs.length=sz T:=Rd.len L;have h1:∀u∈vs,u.oneCell'=Ta:=Rd.one L;have m:=H.len;have I:∀c,h.size<=c->M c=Te:=by
  intro c S;cases e:M c with
  |none=>rfl
  |some cs=>have:=ag.lt e;omega
 obtain⟨b,cs,f,hb,A⟩:∃b cs,RowO h s b cs (sz T)/\((bs=[b]/\lo<=b/\M b=Te)\/(b=h.size/\bs=[]))/\∀i (hi:i<xs.length),i*sz T+sz T<=cs.size/\Rd M T xs[i] (cut cs (i*sz T) (sz T)):=by rcases H with⟨rfl,O,Q,rfl⟩|⟨b,cs,rfl,O,Q,e3,Z,e5,e6,Y,e8⟩;exact⟨h.size,#[],⟨by omega,.inl ⟨O,Q⟩⟩,.inr ⟨rfl,rfl⟩,λi hi=>by simp at hi⟩;refine⟨b,cs,⟨e3,.inr ⟨O,Z,e5⟩⟩,.inl ⟨rfl,e6,Y⟩,λi hi=>⟨?_,e8 i hi⟩⟩;have:(i+1)*sz T<=s.cap*sz T:=AP _ (by omega);rw[C6]at this;omega
 have y:(s.len+1)*bytes<=140737488355328:=by have:(s.len+1)*bytes<=1000001*1000:=Nat.mul_le_mul (by omega) B;omega
 refine zor E f hv P h1 y (by omega) λo h' n cs' N=>?_;have l:(n∈bs/\lo<=n/\M n=Te)\/h.size<=n:=by rcases N.new with e|e;rcases hb with⟨r,J,D⟩|⟨r,_⟩;subst e;exact .inl ⟨by rw[r];simp,J,D⟩;exact .inr (by omega);exact .inr e
 refine V o h' [n] (.inr ⟨n,cs',rfl,N.a,by rw[N.len,Ag,m];rfl,by rw[N.len];exact N.cap,N.blk,N.size,?_,?_,λi hi=>?_⟩) N.grow (λc S=>?_) λj hj U=>N.old j hj λe=>?_;rcases l with q|q;exact q.2.1;omega;rcases l with q|q;exact q.2.2;exact I n q;have w:=N.cut;have ab:i<xs.length+1:=by simpa using hi
 have hm:(i+1)*sz T<=(s.len+1)*sz T:=AP _ (by omega);have ah:(i+1)*sz T=i*sz T+sz T:=C6 _ _;have ae:(s.len+1)*sz T=s.len*sz T+sz T:=C6 _ _;have key:∀q,q<sz T->(cut cs' (i*sz T) (sz T))[q]?=(cut cs 0 (s.len*sz T)++vs)[i*sz T+q]?:=by intro q k;rw[qz,if_pos k,<-w,qz,if_pos (by omega),AI]
 by_cases p:i<xs.length;rw[BS p];obtain⟨g1,g2⟩:=A i p;have aa:(i+1)*sz T<=s.len*sz T:=AP _ (by omega);have e:cut cs' (i*sz T) (sz T)=cut cs (i*sz T) (sz T):=by
  apply Bu;intro q;by_cases k:q<sz T;rw[key q k,BK ?_,qz,qz,if_pos k,if_pos (by omega),AI];have G:s.len*sz T<=cs.size:=by rcases f.at_ with⟨r,J⟩|⟨_,_,D⟩;omega;have:s.len*sz T<=s.cap*sz T:=AP _ f.le;omega
  rw[zc0 (by omega)];omega;rw[qz,qz,if_neg k,if_neg k]
 rw[e];exact g2;have C:i=xs.length:=by omega
 subst C;rw[Ce (Ab _)];have F:(cut cs 0 (s.len*sz T)).length=xs.length*sz T:=by
  rcases f.at_ with⟨r,J⟩|⟨_,_,D⟩;have:xs.length=0:=by omega
  rw[r,this];unfold cut;simp;have:s.len*sz T<=s.cap*sz T:=AP _ f.le;rw[zc0 (by omega),m]
 have e:cut cs' (xs.length*sz T) (sz T)=vs:=by apply Bu;intro q;by_cases k:q<sz T;rw[key q k,BF (by omega),F];congr 1;omega;rw[qz,if_neg k,BL (by omega)]
 rw[e];simpa using L;rw[A4.1 S];rcases l with q|q;exact .inl q.1;exact .inr q;rcases l with q|q;exact U (by rw[e];exact q.1);omega
end
end Go.X
end
section
namespace Go.X
open Go Go.X Go.Proofs Go.RowKit
section
variable {cs:Array Value} {o n q z b bv cv lo c:Nat} {l:List Value} {g g':zb} {t e ty:TypeId} {zv v:Value} {K:Value -> zb -> Prop} {M:Fr}
abbrev tSp:Ty:=.pair (.int .i64) (.int .i64)
abbrev tNd:Ty:=.pair (.int .i64) (.pair tSp (.pair tSp (.pair (.row (.int .i64)) (.row tSp))))
structure Ax where
 ks:Sl
 kb:List Nat
 ps:Sl
 pb:List Nat
def ax0:Ax:=⟨⟨Te,0,0⟩,[],⟨Te,0,0⟩,[]⟩
def ndC(p:Nd×Ax):List Value:=[.int .i64 p.1.1,.int .i64 p.1.2.1.1,.int .i64 p.1.2.1.2,.int .i64 p.1.2.2.1.1,.int .i64 p.1.2.2.1.2,slV p.2.ks,slV p.2.ps]
structure CR (g:zb) (z:Nat) (els:List (List Value)) (sl:Sl) (b:Nat) (cs:Array Value):Prop where
 ro:RowO g sl b cs z
 ln:sl.len=els.length
 el:∀(i:Nat) (e:List Value),els[i]?=Td e->(i+1)*z<=cs.size/\cut cs (i*z) z=e
theorem zan(c:l.length=n)(h:∀q,q<n->cs.toList[o+q]?=l[q]?):cut cs o n=l:=by apply Bu;intro q;rw[qz];split;rename_i b;exact h q b;rename_i b;rw[BL (by omega)]
theorem zsa(h:cut cs o n=l)(b:q<n):cs.toList[o+q]?=l[q]?:=by rw[<-h,qz,if_pos b]
theorem CR.blk{els:List (List Value)}{sl:Sl}(H:CR g z els sl b cs)(c:els≠[]):sl.a=Td ⟨b,0,Te⟩/\Blk g b cs:=by rcases H.ro.at_ with⟨h1,_⟩|⟨h1,e,_⟩;have:=H.ln;rw[h1]at this;exact absurd (Bi.1 this.symm) c;exact⟨h1,e⟩
theorem CR.frame{els:List (List Value)}{sl:Sl}(H:CR g z els sl b cs)(f:els≠[]\/sl.cap≠0->g'[b]?=g[b]?):CR g' z els sl b cs:=by refine⟨⟨H.ro.le,?_⟩,H.ln,H.el⟩;rcases H.ro.at_ with h1|⟨h1,h,e⟩;exact .inl h1;by_cases c:sl.cap=0;exact .inl ⟨by have:=H.ro.le;omega,c⟩;exact .inr ⟨h1,h.keep (f (.inr c)),e⟩
theorem CR.app{bytes z:Nat}(E:ElemT Tp t e zv z bytes)(s:bytes<=1000){els:List (List Value)}{sl:Sl}(H:CR g z els sl b cs){vs:List Value}(G:Blk g bv vs.toArray)(p:vs.length=z)(h1:∀u∈vs,u.oneCell'=Ta)(S:els.length<=1000000) (D:∀(l:Sl) (g':zb) (h:Nat) (cs':Array Value),CR g' z (els++[vs]) l h cs'->g.size<=g'.size->((h=b/\¬(sl.len=0/\sl.cap=0))\/g.size<=h)->h<g'.size->(∀j,j<g.size->j≠h->g'[j]?=g[j]?)->K (.slice l.a l.len l.cap) g'):
  XRun Tp (Au #[t,t] ty #[.slice sl.a sl.len sl.cap,.slice (Td ⟨bv,0,Te⟩) 1 cv]) g K:=by
 have c:=H.ln;have o:(sl.len+1)*bytes<=140737488355328:=by have:(sl.len+1)*bytes<=1000001*1000:=Nat.mul_le_mul (by omega) s;omega
 obtain⟨b0,f,y,w,m⟩:∃b0 f,RowO g sl b0 f z/\((b0=b/\¬(sl.len=0/\sl.cap=0))\/g.size<=b0)/\(∀(i:Nat) (e:List Value),els[i]?=Td e->(i+1)*z<=f.size/\cut f (i*z) z=e):=by by_cases h0:sl.len=0/\sl.cap=0;have O:els=[]:=Bi.1 (by omega);exact⟨g.size,#[],⟨H.ro.le,.inl h0⟩,.inr (Ab _),λi e hi=>by rw[O]at hi;cases hi⟩;exact⟨b,cs,H.ro,.inl ⟨rfl,h0⟩,H.el⟩
 refine zor E y G p h1 o (by omega) λl g' h cs' N=>D l g' h cs' ⟨⟨by rw[N.len];exact N.cap,.inr ⟨N.a,N.blk,N.size⟩⟩,by rw[N.len,Ag,c];rfl,λi e hi=>?_⟩ N.grow ?_ N.blk.lt N.old;have I:i<els.length+1:=by have:=(AY.1 hi).1;rw[Ag]at this;exact this
 have P:(i+1)*z<=(sl.len+1)*z:=AP _ (by omega);have F:(sl.len+1)*z<=l.cap*z:=AP _ N.cap;have M:(i+1)*z=i*z+z:=C6 _ _;have L:(sl.len+1)*z=sl.len*z+z:=C6 _ _;have:=N.size;refine⟨by omega,?_⟩;have n:=N.cut;have key:∀q,i*z+q<(sl.len+1)*z->cs'.toList[i*z+q]?=(cut f 0 (sl.len*z)++vs)[i*z+q]?:=λq r=>by rw[<-n,qz,if_pos r,AI]
 have k:(cut f 0 (sl.len*z)).length=sl.len*z:=by
  by_cases h0:els=[];have:sl.len=0:=by rw[c,h0];rfl
  rw[this,Eb];unfold cut;simp;have J:els.length-1<els.length:=by have:=Bv.2 h0;omega
  have:=(m (els.length-1) _ (Al J)).1;rw[show els.length-1+1=els.length by omega,<-c]at this;exact zc0 (by omega)
 by_cases A:i<els.length;rw[BK A]at hi;obtain⟨Q,B⟩:=m i e hi;have C:(i+1)*z<=sl.len*z:=AP _ (by omega);refine zan (by rw[<-B];exact zc0 (by omega)) λq r=>?_;rw[key q (by omega),BK (by rw[k];omega),qz,if_pos (by omega),AI];exact zsa B r;have x:i=els.length:=by omega
 subst x;rw[BF (Ab _),D3]at hi;cases hi;refine zan p λq r=>?_;have U:els.length*z=sl.len*z:=by rw[c]
 rw[key q (by omega),BF (by rw[k];omega),k];congr 1;omega;rcases N.new with e|e;rcases w with q|q;exact .inl ⟨e.trans q.1,q.2⟩;exact .inr (by omega);exact .inr e
theorem CR.set{els:List (List Value)}{sl:Sl}(H:CR g z els sl b cs)(s:n<els.length)(y:q<z)(B:Blk g' b (cs.setIfInBounds (n*z+q) v)):CR g' z (els.modify n (·.set q v)) sl b (cs.setIfInBounds (n*z+q) v):=by
 have l:els≠[]:=λh=>by rw[h]at s;simp at s
 have h1:=(H.blk l).1;refine⟨⟨H.ro.le,?_⟩,by rw[List.length_modify];exact H.ln,λi e hi=>?_⟩;rcases H.ro.at_ with⟨p,_⟩|⟨p,_,t⟩;have:=H.ln;omega;exact .inr ⟨p,B,by rw[AW];exact t⟩;rw[BJ]at hi;cases hx:els[i]? with
 |none=>rw[hx]at hi;cases hi
 |some x=>
  rw[hx]at hi;obtain⟨u,m⟩:=H.el i x hx;have w:(i+1)*z=i*z+z:=C6 _ _;have k:x.length=z:=by rw[<-m];exact zc0 (by omega)
  rw[AW];refine⟨u,?_⟩;have hi:(if n=i then x.set q v else x)=e:=by simpa using hi
  rw[<-hi];refine zan (by split <;> simp[k]) λr o=>?_;rw[Array.toList_setIfInBounds,List.getElem?_set];by_cases c:n=i;subst c;rw[if_pos rfl,List.getElem?_set];by_cases f:q=r;subst f;rw[if_pos rfl,if_pos rfl,if_pos (by rw[CW];omega),if_pos (by omega)];rw[if_neg (by omega),if_neg f];exact zsa m o;rw[if_neg c,if_neg ?_];exact zsa m o;intro A;rcases Nat.lt_or_gt_of_ne c with h|h;have:(n+1)*z<=i*z:=AP _ h;rw[C6]at this;omega;have:(i+1)*z<=n*z:=AP _ h;omega
abbrev NA:=List (Nd×Ax)
def axO(p:Nd×Ax)(c:Nat):Prop:=c∈p.2.kb\/c∈p.2.pb
def nsO(na:NA)(sl:Sl)(b c:Nat):Prop:=(sl.cap≠0/\c=b)\/∃p∈na,axO p c
structure NdI (lo:Nat) (g:zb) (M:Fr) (p:Nd×Ax):Prop where
 kk:ORow lo g M (.int .i64) p.1.2.2.2.1 p.2.ks p.2.kb
 pp:ORow lo g M tSp p.1.2.2.2.2 p.2.ps p.2.pb
 dd:∀c∈p.2.kb,c∉p.2.pb
structure NS (lo:Nat) (g:zb) (M:Fr) (na:NA) (sl:Sl) (b:Nat) (cs:Array Value):Prop where
 cr:CR g 7 (na.map ndC) sl b cs
 lb:sl.cap≠0->lo<=b/\b<g.size/\M b=Te
 nd:∀p∈na,NdI lo g M p
 dj:∀(i j:Nat) (p p':Nd×Ax) (c:Nat),na[i]?=Td p->na[j]?=Td p'->axO p c->axO p' c->i=j
 nb:∀p∈na,¬axO p b
theorem NS.len{na:NA}{sl:Sl}(H:NS lo g M na sl b cs):sl.len=na.length:=by rw[H.cr.ln,Ao]
theorem NdI.own{p:Nd×Ax}(H:NdI lo g M p)(h:axO p c):lo<=c/\c<g.size/\M c=Te:=by rcases h with h|h;exact H.kk.own c h;exact H.pp.own c h
theorem NS.own{na:NA}{sl:Sl}(H:NS lo g M na sl b cs)(h:nsO na sl b c):lo<=c/\c<g.size/\M c=Te:=by rcases h with⟨h1,rfl⟩|⟨p,e,h⟩;exact H.lb h1;exact(H.nd p e).own h
theorem NdI.frame{p:Nd×Ax}(H:NdI lo g M p)(f:∀c,axO p c->g'[c]?=g[c]?):NdI lo g' M p:= ⟨H.kk.frame (λc b=>f c (.inl b)) (Fr.le.refl _) λc b=>(H.kk.own c b).2.2,H.pp.frame (λc b=>f c (.inr b)) (Fr.le.refl _) λc b=>(H.pp.own c b).2.2,H.dd⟩
theorem NS.frame{na:NA}{sl:Sl}(H:NS lo g M na sl b cs)(k:g.size<=g'.size)(f:∀c,nsO na sl b c->g'[c]?=g[c]?):NS lo g' M na sl b cs:=by refine⟨H.cr.frame λh=>f b (.inl ⟨?_,rfl⟩),λh=>by have:=H.lb h;exact⟨this.1,by omega,this.2.2⟩,λp e=>(H.nd p e).frame λc i=>f c (.inr ⟨p,e,i⟩),H.dj,H.nb⟩;rcases h with h|h;have:=H.cr.ln;have l:=H.cr.ro.le;have:=Bv.2 h;omega;exact h
theorem NS.nil:NS lo g M [] ⟨Te,0,0⟩ b cs:= ⟨⟨⟨Ab _,.inl ⟨rfl,rfl⟩⟩,rfl,λi e h=>(by cases h)⟩,λh=>absurd rfl h,λp f=>(by cases f),λi j p k c h=>(by cases h),λp f=>(by cases f)⟩
theorem z6e(p:Nd×Ax):∀u∈ndC p,u.oneCell'=Ta:=by intro u b;unfold ndC slV at b;simp at b;rcases b with rfl|rfl|rfl|rfl|rfl|rfl|rfl <;> rfl
theorem NS.push{bytes:Nat}(E:ElemT Tp t e zv 7 bytes)(A:bytes<=1000)(ag:AgM M g)(P:lo<=g.size){na:NA}{sl:Sl}(H:NS lo g M na sl b cs){x:Nd}(z:x.2.2.2.1=[])(G:x.2.2.2.2=[])(O:Blk g bv (ndC (x,ax0)).toArray)(F:na.length<=1000000) (N:∀(o:Sl) (g':zb) (m:Nat) (cs':Array Value),NS lo g' M (na++[(x,ax0)]) o m cs'->g.size<=g'.size->(∀c,nsO (na++[(x,ax0)]) o m c->nsO na sl b c\/g.size<=c)->(∀j,j<g.size->¬nsO na sl b j->g'[j]?=g[j]?)->K (.slice o.a o.len o.cap) g'):
  XRun Tp (Au #[t,t] ty #[.slice sl.a sl.len sl.cap,.slice (Td ⟨bv,0,Te⟩) 1 cv]) g K:=by
 have D:∀c,g.size<=c->M c=Te:=by
  intro c f;cases e:M c with
  |none=>rfl
  |some cs=>have:=ag.lt e;omega
 refine CR.app E A H.cr O rfl (z6e _) (by rw[Ao];exact F) λo g' m cs' C L s w I=>?_;have n:nsO na sl b m\/g.size<=m:=by rcases s with⟨r,Q⟩|r;exact .inl (.inl ⟨by have:=H.cr.ro.le;omega,r⟩);exact .inr r
 have y:∀p∈na,¬axO p m:=λp k f=>by rcases s with⟨r,_⟩|r;rw[r]at f;exact H.nb p k f;have:=((H.nd p k).own f).2.1;omega
 have l:∀c,¬axO (x,ax0) c:=λc f=>by rcases f with f|f <;> exact absurd f (by simp[ax0])
 have mem:∀p∈na++[(x,ax0)],p∈na\/p=(x,ax0):=λp k=>by simpa using k
 refine N o g' m cs' ⟨by rw[Bf];exact C,λ_=>?_,λp k=>?_,?_,λp k=>?_⟩ L (λc f=>?_) (λj B F=>I j B λe=>?_);rcases n with h|h;have:=H.own h;exact⟨this.1,w,this.2.2⟩;exact⟨by omega,w,D m h⟩;rcases mem p k with k|rfl;exact(H.nd p k).frame λc f=>I c ((H.nd p k).own f).2.1 λe=>y p k (e ▸ f)
 refine⟨?_,?_,λc f=>by simp[ax0]at f⟩;show ORow lo g' M (.int .i64) x.2.2.2.1 _ _;rw[z];exact .nil;show ORow lo g' M tSp x.2.2.2.2 _ _;rw[G];exact .nil;intro i j p J c hi B f u;have q:∀(i:Nat) (p:Nd×Ax),(na++[(x,ax0)])[i]?=Td p->axO p c->na[i]?=Td p:=λi p hi f=>by rw[List.getElem?_append]at hi;split at hi;exact hi;have:=BD hi;rw[A4]at this;subst this;exact absurd f (l c)
 exact H.dj i j p J c (q i p hi f) (q j J B u) f u;rcases mem p k with k|rfl;exact y p k;exact l _;rcases f with⟨_,rfl⟩|⟨p,k,f⟩;exact n;rcases mem p k with k|rfl;exact .inl (.inr ⟨p,k,f⟩);exact absurd f (l c);subst e;rcases n with h|h;exact F h;omega
theorem NS.upd{na:NA}{sl:Sl}(H:NS lo g M na sl b cs)(C:n<na.length){f:Nd×Ax->Nd×Ax}(D:q<7)(B:Blk g' b (cs.setIfInBounds (n*7+q) v))(J:g.size<=g'.size)(m:ndC (f na[n])=(ndC na[n]).set q v)(G:NdI lo g' M (f na[n]))(y:∀c,axO (f na[n]) c->axO na[n] c\/g.size<=c)(F:∀j,j<g.size->j≠b->¬axO na[n] j->g'[j]?=g[j]?):
  NS lo g' M (na.modify n f) sl b (cs.setIfInBounds (n*7+q) v)/\∀c,nsO (na.modify n f) sl b c->nsO na sl b c\/g.size<=c:=by
 have k:na[n]?=Td na[n]:=Al C;have mem:∀p∈na.modify n f,p=f na[n]\/∃j,j≠n/\na[j]?=Td p:=λp s=>by obtain⟨j,o⟩:=List.mem_iff_getElem?.1 s;rw[BJ]at o;by_cases e:n=j;subst e;rw[k]at o;left;simpa using o.symm;right;refine⟨j,λh=>e h.symm,?_⟩;simpa[e]using o
 have t:sl.cap≠0:=by have:=H.len;have:=H.cr.ro.le;omega
 have u:=H.lb t;refine⟨⟨?_,λh=>⟨u.1,by omega,u.2.2⟩,λp s=>?_,?_,λp s=>?_⟩,λc h=>?_⟩;have:=H.cr.set (n:=n) (q:=q) (v:=v) (by rw[Ao];exact C) D B;have e:(na.modify n f).map ndC=(na.map ndC).modify n (·.set q v):=by apply Bu;intro i;rw[Bn,BJ,BJ,Bn];by_cases e:n=i;subst e;rw[k];simp[m];simp[e]
 rw[e];exact this;rcases mem p s with rfl|⟨j,o,l⟩;exact G;have r:=BD l;exact(H.nd p r).frame λc m=>F c ((H.nd p r).own m).2.1 (λe=>H.nb p r (e ▸ m)) λh=>o (H.dj j n p _ c l k m h)
 intro i j p I c hi o m x;have q:∀(i:Nat) (p:Nd×Ax),(na.modify n f)[i]?=Td p->axO p c->∃w,na[i]?=Td w/\((axO w c)\/(i=n/\g.size<=c)):=λi p hi m=>by
  rw[BJ]at hi;by_cases e:n=i;subst e;rw[k]at hi;have:f na[n]=p:=by simpa using hi
  subst this;rcases y c m with h|h;exact⟨_,k,.inl h⟩;exact⟨_,k,.inr ⟨rfl,h⟩⟩;exact⟨p,by simpa[e]using hi,.inl m⟩
 obtain⟨w,A,a2⟩:=q i p hi m;obtain⟨z,b1,b2⟩:=q j I o x;rcases a2 with a2|⟨a2,L⟩;rcases b2 with b2|⟨b2,b3⟩;exact H.dj i j w z c A b1 a2 b2;have:=((H.nd w (BD A)).own a2).2.1;omega;rcases b2 with b2|⟨b2,b3⟩;have:=((H.nd z (BD b1)).own b2).2.1;omega;omega;rcases mem p s with rfl|⟨j,o,l⟩;intro m;rcases y b m with h|h;exact H.nb _ (BD k) h;omega;exact H.nb p (BD l);rcases h with⟨h1,E⟩|⟨p,s,h⟩;exact .inl (.inl ⟨h1,E⟩);rcases mem p s with rfl|⟨j,o,l⟩;rcases y c h with h|h;exact .inl (.inr ⟨_,BD k,h⟩);exact .inr h;exact .inl (.inr ⟨p,BD l,h⟩)
end
section
variable {t:Bs} {gl:Fr}
abbrev qj1:Ty:=.pair .str (.row tNd)
theorem slice_form{p:Sp}{R:Bt->Prop}(h:R (bl (qp t p))): ((bif (bif (decide ((p.1:Int)<0))then Ta else(decide ((p.1:Int)>p.2)))then Ta else(decide ((p.2:Int)>((bl t).size:Int))))=Ta->R (⟨#[]⟩:Bt)) /\
  ((bif (bif (decide ((p.1:Int)<0))then Ta else(decide ((p.1:Int)>p.2)))then Ta else(decide ((p.2:Int)>((bl t).size:Int))))=Tc->(0<=(p.1:Int)/\(p.1:Int)<=p.2/\(p.2:Int)<=((bl t).size:Int))/\R ((bl t).extract (p.1:Int).toNat (p.2:Int).toNat)):=by
 rw[zf];have e:(bif (bif (decide ((p.1:Int)<0))then Ta else(decide ((p.1:Int)>p.2)))then Ta else(decide ((p.2:Int)>(t.length:Int))))=decide (p.1<0\/p.2<p.1\/(t.length:Int)<p.2):=by rw[AM];simp only[Bool.cond_eq_ite,Bool.if_true_left,BO,decide_eq_true_eq];omega
 rw[e];unfold qp at h;refine⟨λb=>?_,λb=>?_⟩;rw[if_pos (of_decide_eq_true b)]at h;exact h;have b:=of_decide_eq_false b;rw[if_neg b]at h;refine⟨by omega,?_⟩;rw[wb];exact h
theorem zxt{nodes:List Nd}{p:Sp}{R:Bt->Prop}(h:R (bl (qp t p))):PC Tp gl 31 [Arg.mk qj1 (bl t,nodes),Arg.mk tSp p] [.str] R:=by apply zog;exact slice_form h
theorem qft(b:GL gl)(e:t.length<=65536){nodes:List Nd}{k:Nat}{x:Nd}(c:nodes[k]?=Td x){R:Bt->Prop}(h:R (bl (qcv t x))):PC Tp gl 112 [Arg.mk qj1 (bl t,nodes),Arg.mk (.int .i64) (k:Int)] [.str] R:=by apply zu0;refine⟨x,⟨by omega,by rw[Ai];exact c⟩,?_⟩;refine zxt (p:=x.2.2.1) ?_;have:=zf5 t x.2.2.1;exact zf9 b (by omega) h
theorem qba(e:GL gl){k:Int}(f:t.length<=65536){R:Bt->Prop}(h:R (bl (Yf k t))):PC Tp gl 111 [Arg.mk (.int .i64) k,Arg.mk .str (bl t)] [.str] R:=by apply zrq;unfold Yf at h;refine⟨λh1=>?_,λh1=>⟨λb=>?_,λb=>⟨λc=>?_,λc=>?_⟩⟩⟩;rw[if_pos (by simpa using h1)]at h;exact h;rw[if_neg (by simpa using h1),if_pos (by simpa using b)]at h;exact zhr (by omega) (zur e.pow (Yr t (by omega)) h);rw[if_neg (by simpa using h1),if_neg (by simpa using b),if_pos (by simpa using c)]at h;exact zf9 e (by omega) h;rw[if_neg (by simpa using h1),if_neg (by simpa using b),if_neg (by simpa using c)]at h;exact h
end
end Go.X
end
section
namespace Go.X
section
variable {h:zb} {sk si:Sl} {bk bb:List Nat} {b bv cv:Nat} {cs:Array Value} {K:Value -> zb -> Prop}
theorem OTp.row{v:Tr}{bf:Nat->List Nat}(H:OTp h v sk si bk bb b cs bf){h':zb}(k:∀c∈bb,h'[c]?=h[c]?):RowO h' si b cs 4:=by refine⟨by have:=H.hn;omega,?_⟩;rcases H.hz with⟨h0,_,m⟩|⟨e,f,l,i⟩;exact .inl ⟨by rw[H.hn.1,h0];rfl,m⟩;exact .inr ⟨f,l.keep (k b (by rw[e];simp)),i⟩
theorem z0k(x:Tr)(sk si:Sl):∀u∈Zz x sk si,u.oneCell'=Ta:=by intro u b;simp[Zz]at b;rcases b with rfl|rfl|rfl|rfl <;> simp[Value.oneCell',slV]
theorem qfu{ks:List Bt}(H:OKeys h ks bk sk){s:Bt}(B:Blk h bv #[.string s])(q:ks.length<=1048576) (y:∀(f:Sl) (h':zb) (kb:Nat),OKeys h' (ks++[s]) [kb] f->(kb∈bk\/h.size<=kb)->h.size<=h'.size->(∀c,c<h.size->c∉bk->h'[c]?=h[c]?)->K (.slice f.a f.len f.cap) h'):
  XRun Tp (Au #[23,23] 23 #[.slice sk.a sk.len sk.cap,.slice (Td ⟨bv,0,Te⟩) 1 cv]) h K:=by
 obtain⟨n,F,E,t⟩:=H;obtain⟨b,cs,o,x,k⟩:∃b cs,RowO h sk b cs 1/\(b∈bk\/h.size<=b)/\cut cs 0 (sk.len*1)=ks.map AZ:=by rcases t with⟨rfl,rfl,h0⟩|⟨b,cs,rfl,C,i,p,z⟩;refine⟨h.size,#[],⟨by omega,.inl ⟨n,h0⟩⟩,.inr (Ab _),?_⟩;rw[n];rfl;exact⟨b,cs,⟨by omega,.inr ⟨C,i,by omega⟩⟩,.inl (by simp),by rw[n,Ci];exact z⟩
 have D:∀c∈bk,c<h.size:=by intro c l;rcases t with⟨_,rfl,_⟩|⟨b,cs,rfl,_,i,_⟩;cases l;simp at l;subst l;exact i.lt
 refine zor (vs:=[.string s]) z4n o B rfl (λu w=>by simp at w;subst w;simp[Value.oneCell']) (by omega) (by omega) λA h' r cs' N=>?_;rw[k]at N;have m:(ks++[s]).length=sk.len+1:=by simp[n]
 refine y A h' r ⟨by rw[m];exact N.len,by rw[m];omega,by rw[m];exact N.cap,.inr ⟨r,cs',rfl,N.a,N.blk,by have:=N.size;omega,?_⟩⟩ ?_ N.grow λc l q=>N.old c l λe=>?_;rw[m];have:=N.cut;rw[Ci]at this;rw[this];simp;rcases N.new with e|e;rw[e];exact x;exact .inr e;rcases N.new with i|i;rcases x with p|p;exact q (by rw[e,i];exact p);omega;omega
theorem qbb{g h:zb}{x:Tr}{bf:Nat->List Nat}(H:OTp g x sk si bk bb b cs bf)(kb:∀c∈bb,h[c]?=g[c]?){w:Tr}{p q:Sl}(C:Blk h bv (Zz w p q).toArray)(u:x.items.length<=1000000000) (y:∀(f:Sl) (h':zb) (i:Nat) (cs':Array Value),f.a=Td ⟨i,0,Te⟩->f.len=x.items.length+1->x.items.length+1<=f.cap->Blk h' i cs'->f.cap*4<=cs'.size->cut cs' 0 ((x.items.length+1)*4)=cut cs 0 (x.items.length*4)++Zz w p q -> ((i=b/\b∈bb)\/h.size<=i)->h.size<=h'.size->(∀c,c<h.size->c∉bb->h'[c]?=h[c]?)->K (.slice f.a f.len f.cap) h'):
  XRun Tp (Au #[24,24] 24 #[.slice si.a si.len si.cap,.slice (Td ⟨bv,0,Te⟩) 1 cv]) h K:=by
 have k:=H.hn.1;obtain⟨b0,m,t⟩:∃b0,RowO h si b0 cs 4/\((b0=b/\b∈bb)\/b0=h.size):=by have n:=OTp.row H (h':=h) kb;rcases H.hz with⟨h0,_,A⟩|⟨r,_⟩;exact⟨h.size,⟨n.le,.inl ⟨by rw[k,h0];rfl,A⟩⟩,.inr rfl⟩;exact⟨b,n,.inl ⟨rfl,by rw[r];simp⟩⟩
 refine zor (vs:=Zz w p q) zoc m C rfl (z0k w p q) (by omega) (by omega) λz h' i cs' N=>?_;rw[k]at N;have o:(i=b/\b∈bb)\/h.size<=i:=by rcases N.new with e|e;rcases t with⟨l,s⟩|l;exact .inl ⟨by rw[e,l],s⟩;exact .inr (by omega);exact .inr e
 refine y z h' i cs' N.a N.len N.cap N.blk N.size N.cut o N.grow λc B u=>N.old c B λe=>?_;rcases o with⟨l,s⟩|l;exact u (by rw[e,l];exact s);omega
end
section
variable {g':zb} {s:Bt} {bv cv:Nat} {K:zb -> Prop}
structure BT (lo hi:Nat) (g:zb) (b0:Nat) (v:Tr) (sk si:Sl) (bk bb:List Nat) (b:Nat) (cs:Array Value) (bf:Nat->List Nat):Prop where
 box:Blk g b0 (Zz v sk si).toArray
 p:OTp g v sk si bk bb b cs bf
 ok:∀c∈bk,lo<=c/\c<hi/\c≠b0
 ob:∀c∈bb,lo<=c/\c<hi/\c≠b0
 oi:∀i,i<v.items.length->∀c∈bf i,lo<=c/\c<hi/\c≠b0
 lb:lo<=b0
 hg:hi<=g.size
def Own(lo hi:Nat)(g:zb)(b0:Nat)(v:Tr)(sk si:Sl):Prop:=∃(bk bb:List Nat) (b:Nat) (cs:Array Value) (bf:Nat->List Nat),BT lo hi g b0 v sk si bk bb b cs bf
section
variable {lo hi : Nat} {g : zb} {b0 : Nat} {v : Tr} {sk si : Sl}
theorem Own.box(H:Own lo hi g b0 v sk si):Blk g b0 (Zz v sk si).toArray:=by obtain⟨bk,bb,b,cs,bf,B⟩:=H;exact B.box
theorem BT.move{bk bb:List Nat}{b:Nat}{cs:Array Value}{bf:Nat->List Nat}(B:BT lo hi g b0 v sk si bk bb b cs bf)(f:∀c,c∈bk\/c∈bb\/(∃i,i<v.items.length/\c∈bf i)->g'[c]?=g[c]?):OTp g' v sk si bk bb b cs bf:= ⟨B.p.keys.frame λc e=>f c (.inl e),B.p.hn,by rcases B.p.hz with h|⟨h1,m,l,k⟩;exact .inl h;exact .inr ⟨h1,m,l.keep (f b (.inr (.inl (by rw[h1];simp)))),k⟩,λi hi=>(B.p.hi i hi).frame λc e=>f c (.inr (.inr ⟨i,hi,e⟩)),B.p.nk,B.p.d1,B.p.d2,B.p.d3,B.p.d4⟩
theorem Own.keep(H:Own lo hi g b0 v sk si)(k:Keep g.size g g'):Own lo hi g' b0 v sk si:=by obtain⟨bk,bb,b,cs,bf,B⟩:=H;have f:=k.size;have h:=B.hg;refine⟨bk,bb,b,cs,bf,B.box.ofKeep k,B.move λc e=>k.get c ?_,B.ok,B.ob,B.oi,B.lb,by omega⟩;rcases e with e|e|⟨i,hi,e⟩;have:=(B.ok c e).2.1;omega;have:=(B.ob c e).2.1;omega;have:=(B.oi i hi c e).2.1;omega
theorem Own.ot(H:Own lo hi g b0 v sk si):∃bs:List Nat,OT g v bs (Zz v sk si)/\∀c∈bs,lo<=c/\c≠b0:=by obtain⟨bk,bb,b,cs,bf,B⟩:=H;refine⟨_,B.p.ot,λc e=>?_⟩;rcases z6b.1 e with h|h|⟨i,hi,h⟩;exact⟨(B.ok c h).1,(B.ok c h).2.2⟩;exact⟨(B.ob c h).1,(B.ob c h).2.2⟩;exact⟨(B.oi i hi c h).1,(B.oi i hi c h).2.2⟩
theorem Own.new{k:Int}(B:Blk g b0 (Zz (.mk k s [] []) ⟨Te,0,0⟩ ⟨Te,0,0⟩).toArray)(h:lo<=b0)(e:hi<=g.size):Own lo hi g b0 (.mk k s [] []) ⟨Te,0,0⟩ ⟨Te,0,0⟩:= ⟨[],[],0,#[],λ_=>[],B,⟨⟨rfl,AX _,AX _,.inl ⟨rfl,rfl,rfl⟩⟩,⟨rfl,AX _,AX _⟩,.inl ⟨rfl,rfl,rfl⟩,λi hi=>absurd hi (Dc i),Dm,λc b=>(by cases b),λc b=>(by cases b),λc b=>(by cases b),λi j hi=>absurd hi (Dc i)⟩,λc b=>(by cases b),λc b=>(by cases b),λi hi=>absurd hi (Dc i),h,e⟩
theorem qj2:qb Tp 23=Ta:=by kernel_rfl
theorem qj3:qi Tp 23=1:=by kernel_rfl
theorem qlg:qb Tp 24=Ta:=by kernel_rfl
theorem qlh:qi Tp 24=1:=by kernel_rfl
theorem Own.key(H:Own lo hi g b0 v sk si)(S:lo<=g.size)(u:v.keys.length<=1048576)(N:Blk g bv #[.string s]) (J:∀(g':zb) (y:Sl),Own lo g'.size g' b0 (.mk v.kind v.text (v.keys++[s]) v.items) y si->Keep lo g g'->g.size<=g'.size->K g'):
  XRun Tp (Au #[23,23] 23 #[.slice sk.a sk.len sk.cap,.slice (Td ⟨bv,0,Te⟩) 1 cv]) g (λw z=>∃x:Sl,w=.slice x.a x.len x.cap/\XRunU Tp (Af 23 (.pointer (Td ⟨b0,2,Te⟩)) (.slice x.a x.len x.cap)) z K):=by
 obtain⟨bk,bb,b,cs,bf,B⟩:=H;refine qfu B.p.keys N u λy z kb E D U I=>⟨y,rfl,?_⟩;have A:=B.box.lt;have Z:=B.hg;have l:∀c∈bk,lo<=c/\c<g.size/\c≠b0:=λc f=>by have:=B.ok c f;exact⟨this.1,by omega,this.2.2⟩
 have n:∀c∈bb,lo<=c/\c<g.size/\c≠b0:=λc f=>by have:=B.ob c f;exact⟨this.1,by omega,this.2.2⟩
 have m:∀i,i<v.items.length->∀c∈bf i,lo<=c/\c<g.size/\c≠b0:=λi hi c f=>by have:=B.oi i hi c f;exact⟨this.1,by omega,this.2.2⟩
 have t:b0∉bk:=λh=>(l b0 h).2.2 rfl;refine yf qj2 qj3 (B.box.keep (I b0 A t)) (by show 2<4;omega) rfl λG L u2 F=>?_;have Q:kb<z.size:=by obtain⟨_,_,_,h|⟨V,cs',e,_,h,_⟩⟩:=E;exact absurd h.1 (by simp);rw[BV]at e;rw[e.1];exact h.lt
 have q:lo<=kb/\kb≠b0:=by rcases D with h|h;exact⟨(l kb h).1,(l kb h).2.2⟩;exact⟨by omega,by omega⟩
 have o:∀c,c<g.size->c∉bk->c≠kb:=λc f u e=>by subst e;rcases D with h|h;exact u h;omega
 have C:∀c,c<g.size->c∉bk->c≠b0->G[c]?=g[c]?:=λc f u h0=>(F c h0).trans (I c f u);have r:∀i,i<v.items.length->∀c∈bf i,c∉bk:=λi hi c f h=>B.p.d2 c h i hi f;refine J G y ⟨[kb],bb,b,cs,bf,L,⟨E.frame λc f=>F c ?_,B.p.hn,?_,λi hi=>(B.p.hi i hi).frame λc f=>C c (m i hi c f).2.1 (r i hi c f) (m i hi c f).2.2,by simp,λc f=>?_,λc f i hi k=>?_,B.p.d3,B.p.d4⟩,λc f=>?_,λc f=>?_,λi hi c f=>?_,B.lb,Ab _⟩ ⟨by omega,λj Y=>C j (by omega) (λh=>?_) ?_⟩ (by omega);rw[A4.1 f];exact q.2;rcases B.p.hz with h|⟨h1,M,P,O⟩;exact .inl h;have k:b∈bb:=by rw[h1];simp
 exact .inr ⟨h1,M,P.keep (C b (n b k).2.1 (λh=>B.p.d1 b h k) (n b k).2.2),O⟩;rw[A4.1 f];intro k;exact o kb (n kb k).2.1 (λh=>B.p.d1 kb h k) rfl;rw[A4.1 f]at k;exact o kb (m i hi kb k).2.1 (r i hi kb k) rfl;rw[A4.1 f];exact⟨q.1,by omega,q.2⟩;have:=n c f;exact⟨this.1,by omega,this.2.2⟩;have:=m i hi c f;exact⟨this.1,by omega,this.2.2⟩;have:=(l j h).1;omega;have:=B.lb;omega
theorem Own.item(H:Own lo hi g b0 v sk si)(aa:lo<=g.size)(z:v.items.length<=1000000){w:Tr}{J M:Sl}(hv:Blk g bv (Zz w J M).toArray){bw:List Nat}(E:OT g w bw (Zz w J M))(ab:bv∉bw)(D:∀c∈bw,lo<=c/\c≠b0/\hi<=c) (Y:∀(g':zb) (G:Sl),Own lo g'.size g' b0 (.mk v.kind v.text v.keys (v.items++[w])) sk G->Keep lo g g'->g.size<=g'.size->K g'):
  XRun Tp (Au #[24,24] 24 #[.slice si.a si.len si.cap,.slice (Td ⟨bv,0,Te⟩) 1 cv]) g (λu P=>∃x:Sl,u=.slice x.a x.len x.cap/\XRunU Tp (Af 24 (.pointer (Td ⟨b0,3,Te⟩)) (.slice x.a x.len x.cap)) P K):=by
 obtain⟨bk,bb,b,cs,bf,B⟩:=H;refine qbb B.p (λc f=>rfl) hv (by omega) λG P m cs' e1 V e3 O e5 e6 y z1 U=>⟨G,rfl,?_⟩;have I:=B.box.lt;have hg:=B.hg;have o:∀c∈bk,lo<=c/\c<g.size/\c≠b0:=λc f=>by have:=B.ok c f;exact⟨this.1,by omega,this.2.2⟩
 have t:∀c∈bb,lo<=c/\c<g.size/\c≠b0:=λc f=>by have:=B.ob c f;exact⟨this.1,by omega,this.2.2⟩
 have r:∀i,i<v.items.length->∀c∈bf i,lo<=c/\c<g.size/\c≠b0:=λi hi c f=>by have:=B.oi i hi c f;exact⟨this.1,by omega,this.2.2⟩
 have q:∀c∈bw,c∉bk/\c∉bb/\∀i,i<v.items.length->c∉bf i:=λc f=>by have h1:=(D c f).2.2;exact⟨λh=>by have:=(B.ok c h).2.1;omega,λh=>by have:=(B.ob c h).2.1;omega,λi hi h=>by have:=(B.oi i hi c h).2.1;omega⟩
 have A:b0∉bb:=λh=>(B.ob b0 h).2.2 rfl;refine yf qlg qlh (B.box.keep (U b0 I A)) (by show 3<4;omega) rfl λL Z u2 Q=>?_;have n:lo<=m/\m≠b0:=by rcases y with⟨h,l⟩|h;rw[h];exact⟨(t b l).1,(t b l).2.2⟩;exact⟨by omega,by omega⟩
 have s:∀c,c<g.size->c∉bb->c≠m:=λc f z e=>by subst e;rcases y with⟨h,l⟩|h;rw[h]at z;exact z l;omega
 have F:∀c,c<g.size->c∉bb->c≠b0->L[c]?=g[c]?:=λc f z h0=>(Q c h0).trans (U c f z);have C:∀i,i<v.items.length->∀c∈bf i,c∉bb:=λi hi c f h=>B.p.d3 c h i hi f;have N:=OTp.ins (h':=L) B.p (k:=v.items.length) (Ab _) (w:=w) (bw:=bw) (cw:=Zz w J M) (E.frame λc f=>F c (E.lt c f) (q c f).2.1 (D c f).2.1) (λi hi c f=>F c (r i hi c f).2.1 (C i hi c f) (r i hi c f).2.2) e1 (O.keep (Q m n.2)) V e3 e5 (by omega)
  (by
   have S:(cut cs 0 (v.items.length*4)).length<=v.items.length*4:=by unfold cut;rw[AK];omega
   rw[e6,BG S,Br S,AQ])
  (λi hi l=>s m (r i hi m l).2.1 (C i hi m l) rfl) (λl=>s m (E.lt m l) (q m l).2.1 rfl) (λc f i hi=>(q c f).2.2 i hi)
  (B.p.keys.frame λc f=>F c (o c f).2.1 (B.p.d1 c f) (o c f).2.2) B.p.nk (λl=>s m (o m l).2.1 (B.p.d1 m l) rfl) (λc f i hi=>B.p.d2 c f i hi) (λc f l=>(q c l).1 f)
 rw[A3,List.drop_length]at N;refine Y L G ⟨bk,[m],m,cs',_,Z,N,λc f=>?_,λc f=>?_,λi hi c f=>?_,B.lb,Ab _⟩ ⟨by omega,λj hj=>F j (by omega) (λh=>?_) ?_⟩ (by omega);have:=o c f;exact⟨this.1,by omega,this.2.2⟩;rw[A4.1 f];exact⟨n.1,by have:=O.lt;omega,n.2⟩;have f:c∈(if i<v.items.length then bf i else if i=v.items.length then bw else bf (i-1)):=f;have hi:i<v.items.length+1:=by
  have:(v.items++[w]).length=v.items.length+1:=by simp
  rw[<-this];exact hi
 split at f;rename_i h;have:=r i h c f;exact⟨this.1,by omega,this.2.2⟩;rw[if_pos (by omega)]at f;have:=E.lt c f;exact⟨(D c f).1,by omega,(D c f).2.1⟩;have:=(t j h).1;omega;have:=B.lb;omega
end
end
end Go.X
end
section
namespace Go.X
open Go Go.X Go.Proofs Go.RowKit
section
variable {h:zb} {l:Bs} {K:Value -> zb -> Prop} {lo:Nat}
theorem zc1{c:UInt8}(b:K (.int .i64 (Lib.indexByte l c)) h):XC Tp 212 #[.string (bl l),.int .u8 (c.toNat:Int)] h K:=by refine XC.of_calls λB d=>(jf (bl l) (c.toNat:Int) (mk B d h)).mono ?_;rintro e w' ⟨rfl,rfl⟩;refine⟨_,rfl,rfl,rfl,rfl,?_⟩;have f:(bl l).data.toList=l:=yg l;rw[f,qhs];exact b
def z6f(F:FuncId)(A C:Array Value)(lo:Nat)(p:UInt8->Bool)(h0:zb):Prop:=
 zh Tp F=Ta/\∀(c:UInt8) (h:zb) (K:Value->zb->Prop),Keep lo h0 h->(∀h',Keep lo h h'->K (.bool (p c)) h')->XC Tp F (A++#[.int .u8 (c.toNat:Int)]++C) h K
theorem qfv{F:FuncId}{A C:Array Value}{p:UInt8->Bool}(H:z6f F A C lo p h)(y:l.length<=1152921504606846976)(s:∀h',Keep lo h h'->K (.int .i64 (Q9 p l:Int)) h'):
  XC Tp 256 #[.string (bl l),.func (.func F) A C] h K:=by
 obtain⟨u,H⟩:=H;apply zz6;rw[zf];refine⟨λi g=>∃k:Nat,i=(k:Int)/\k<=l.length/\Keep lo h g/\∀j (c:j<k) (f:j<l.length),p l[j]=Ta,λi _=>l.length-i.toNat,⟨0,rfl,by omega,Keep.refl _ _,λj c=>by omega⟩,?_⟩;rintro i g ⟨k,rfl,w,m,q⟩;refine⟨λo=>?_,λo=>?_⟩;have b:k<l.length:=by have:=of_decide_eq_true o;omega
 refine⟨⟨by omega,by omega⟩,u,?_⟩;rw[jj,Ai,z4c b];refine H _ _ _ m λh' t=>⟨_,rfl,λn=>?_,λn=>?_⟩;have e:Q9 p l=k:=zvb w (λj c=>q j c (by omega)) (λ_=>by simpa using n);rw[<-e];exact s h' (m.trans t (Ab _));rw[ju b (by omega)];refine⟨⟨k+1,rfl,by omega,m.trans t (Ab _),λj c f=>?_⟩,by show l.length-((k+1:Nat):Int).toNat<l.length-((k:Nat):Int).toNat;omega⟩;rcases A6 j k with r|r;exact q j r f;have:j=k:=by omega
 subst this;simpa using n;have b:k=l.length:=by have:=of_decide_eq_false o;omega
 have e:Q9 p l=l.length:=zvb (Ab _) (λj c=>q j (by omega) c) (λx=>absurd x (by omega));rw[<-e];exact s g m
theorem zjw{b:Nat}(m:Blk h b #[.string (bl l)])(i:b<lo):z6f 292 #[] #[.pointer (Td ⟨b,0,Te⟩)] lo (xm l) h:=by
 refine⟨by kernel_rfl,λc g K k n=>?_⟩;show XC Tp 292 #[.int .u8 (c.toNat:Int),.pointer (Td ⟨b,0,Te⟩)] g K;apply zk6;have f:Blk g b #[.string (bl l)]:=by obtain⟨T,e⟩:=m;exact⟨T,by rw[k.get b i];exact e⟩
 refine⟨bl l,f.cell rfl,zc1 ⟨_,rfl,?_⟩⟩;have e:decide (Lib.indexByte l c>=0)=xm l c:=by unfold xm;rw[AM,decide_eq_true_eq,decide_eq_true_eq];exact(xr c l).2
 rw[e];exact n g (Keep.refl _ _)
theorem zvf{gl M:Fr}(m:Fr.le gl M)(ag:AgM M h):z6f 259 #[] #[] h.size (xm j8) h:=by
 refine⟨by kernel_rfl,λc g K i l=>?_⟩;have e:(bif decide ((c.toNat:Int)>=97)then decide ((c.toNat:Int)<=122)else Tc)=xm j8 c:=by
  have f:(Bl 256).all (λn=>(bif decide ((n:Int)>=97)then decide ((n:Int)<=122)else Tc)==xm j8 (Bb n))=Ta:=by kernel_rfl
  have:=Av.1 f c.toNat (A1.2 c.toNat_lt);rw[beq_iff_eq,UInt8.ofNat_toNat]at this;exact this
 refine(PC.px (gl:=gl) (args:=[Arg.mk (.int .u8) (c.toNat:Int)]) (rt:=[.bool]) (R:=λb=>b=xm j8 c) ?_ m (ag.keep i) (qc (a:=Arg.mk (.int .u8) _) (Jf _ _) qt)).go λv h' M' r L o k=>?_;apply zrs;exact e;obtain rfl:=zhq o;rw[k];exact l h' (L.keep.mono i.size)
end
section
variable {K:Value -> zb -> Prop} {h:zb} {a e:Int} {M:Fr} {v:Value}
theorem qli:qb Tp 90=Ta:=by kernel_rfl
theorem qlj:qi Tp 90=3:=by kernel_rfl
abbrev zsb(k f t:Int):List Value:=[.int .i64 k,.int .i64 f,.int .i64 t]
theorem qfw{g:zb}{b:Nat}{x y z p q r:Int}(B:Blk g b (zsb x y z).toArray){K:zb->Prop}(f:∀g',(∀j,j≠b->g'[j]?=g[j]?)->g'.size=g.size->Blk g' b (zsb p q r).toArray->K g'):
  XRunU Tp (Af 90 (.pointer (Td ⟨b,0,Te⟩)) (.agg #[.int .i64 p,.int .i64 q,.int .i64 r])) g K:=by
 refine zei (vs:=zsb p q r) qli B rfl qlj (Ab 3) (λu c=>?_) λg' e h i=>f g' i h e;simp at c;rcases c with rfl|rfl|rfl <;> rfl
theorem z6g{c:Nat}{a k t:Int}(n:Blk h c #[.int .i64 a])(m:∀h',Keep h.size h h'->K (.tuple #[.agg #[.int .i64 k,.int .i64 a,.int .i64 t],.int .i64 0]) h'):
  XC Tp 254 #[.int .i64 k,.int .i64 t,.pointer (Td ⟨c,0,Te⟩)] h K:=by
 apply zoa;intro h1;have e:Keep h.size h h1:=Keep.push _ _ (Ab _);have f:Blk h1 h.size (zsb 0 0 0).toArray:=Blk.new _ _ _;have b:Blk h1 c #[.int .i64 a]:=n.ofKeep e;refine⟨a,b.cell rfl,qfw f λg' l p o=>⟨k,a,t,o.ld,m g' (e.trans ⟨by omega,λi hi=>l i (by omega)⟩ (Ab _))⟩⟩
theorem qlk{x:Int×Int×Int}(h:Yv M [.pair (.int .i64) (.pair (.int .i64) (.int .i64)),.int .i64] (x,e) v):v=.tuple #[.agg #[.int .i64 x.1,.int .i64 x.2.1,.int .i64 x.2.2],.int .i64 e]:=by obtain⟨vs,⟨n,rest,rfl,b,m,rfl,k⟩,rfl⟩:=h;rw[j4 k];unfold RdV at b;simp only[zhn,if_true]at b;obtain⟨cs,rfl,c1,c2,rfl,f,c3,l,rfl,i,c⟩:=b;have f:c1=[.int .i64 x.1]:=f;have i:c3=[.int .i64 x.2.1]:=i;have c:l=[.int .i64 x.2.2]:=c;subst f i c;rfl
theorem z6h{gl M:Fr}(b:Fr.le gl M)(ag:AgM M h)(f:∀h',Keep h.size h h'->K (.tuple #[.agg #[.int .i64 0,.int .i64 a,.int .i64 a],.int .i64 e]) h'):
  XC Tp 255 #[.int .i64 a,.int .i64 e] h K:=by
 refine(PC.px (gl:=gl) (args:=[Arg.mk (.int .i64) a,Arg.mk (.int .i64) e]) (rt:=[.pair (.int .i64) (.pair (.int .i64) (.int .i64)),.int .i64]) (R:=λr=>r=((0,(a,a)),e)) ?_ b ag (qc (a:=Arg.mk (.int .i64) _) (Jf _ _) (qc (a:=Arg.mk (.int .i64) _) (Jf _ _) qt))).go λv h' M' r L i c=>?_;apply zoh;rfl;subst c;rw[qlk i];exact f h' L.keep
theorem z6i{l:Bs}(b:∀h',Keep h.size h h'->h'.size=h.size+1->Blk h' h.size #[.string (bl l)]->K (.func (.func 292) #[] #[.pointer (Td ⟨h.size,0,Te⟩)]) h'):
  XC Tp 257 #[.string (bl l)] h K:=by
 apply zrm;intro h1;exact b h1 (Keep.push _ _ (Ab _)) (Aj _) (Blk.new _ _ _)
def zsc(s:Bs)(a:Nat):Value:=if(Z1 s a).2.2=0 then .tuple #[.agg #[.int .i64 (Z1 s a).1,.int .i64 (a:Int),.int .i64 ((Z1 s a).2.1:Int)],.int .i64 0]else .tuple #[.agg #[.int .i64 0,.int .i64 ((Z1 s a).2.1:Int),.int .i64 ((Z1 s a).2.1:Int)],.int .i64 (Z1 s a).2.2]
theorem qmo{x:Bool×Bt×Int}(h:Yv M [.pair .bool (.pair .str (.int .i64)),.int .i64] (x,e) v):v=.tuple #[.agg #[.bool x.1,.string x.2.1,.int .i64 x.2.2],.int .i64 e]:=by obtain⟨vs,⟨n,rest,rfl,b,m,rfl,k⟩,rfl⟩:=h;rw[j4 k];unfold RdV at b;simp only[zhn,if_true]at b;obtain⟨cs,rfl,c1,c2,rfl,f,c3,l,rfl,i,c⟩:=b;have f:c1=[.bool x.1]:=f;have i:c3=[.string x.2.1]:=i;have c:l=[.int .i64 x.2.2]:=c;subst f i c;rfl
end
section
variable {gl:Fr} {s:Bs} {a t:Nat} {k:Int}
theorem qiq(l:Bs)(c:UInt8):decide (Lib.indexByte l c>=0)=xm l c:=by unfold xm;rw[AM,decide_eq_true_eq,decide_eq_true_eq];exact(xr c l).2
theorem qbc:(Bl 256).all (λn=>(bif ((n:Int)==45)then Ta else(bif decide ((n:Int)>=48)then decide ((n:Int)<=57)else Tc))==xm zcx (Bb n))=Ta:=by kernel_rfl
theorem qfx(c:UInt8):(bif ((c.toNat:Int)==45)then Ta else(bif decide ((c.toNat:Int)>=48)then decide ((c.toNat:Int)<=57)else Tc))=xm zcx c:=by have:=Av.1 qbc c.toNat (A1.2 c.toNat_lt);rw[beq_iff_eq,UInt8.ofNat_toNat]at this;exact this
theorem qbd{R:Int->Prop}(h:R (Qh s)):PC Tp gl 260 [Arg.mk .str (bl s)] [.int .i64] R:=by apply zu1;have e:∀l:Bs,((bl s:Bt).toList==((⟨l.toArray⟩:Bt):Bt).toList)=decide (s=l):=λl=>zg8 s l;have k:=e [116,114,117,101];have i:=e [102,97,108,115,101];have m:=e [110,117,108,108];rw[k,i,m];unfold Qh at h;refine⟨λb=>?_,λb=>⟨λc=>?_,λc=>⟨λf=>?_,λf=>?_⟩⟩⟩;rw[if_pos (of_decide_eq_true b)]at h;exact h;rw[if_neg (of_decide_eq_false b),if_pos (of_decide_eq_true c)]at h;exact h;rw[if_neg (of_decide_eq_false b),if_neg (of_decide_eq_false c),if_pos (of_decide_eq_true f)]at h;exact h;rw[if_neg (of_decide_eq_false b),if_neg (of_decide_eq_false c),if_neg (of_decide_eq_false f)]at h;exact h
theorem z6j{c:UInt8}{t:Bs}(h:s.drop a=c::t):Z1 s a=
  if c∈q9 then(2+Lib.indexByte q9 c,a+1,0)
  else if c∈xj then(1,a+Q9 (xm xj) (s.drop a),0)
  else if c=34 then(if(yq s a).2.2=0 then(8,(yq s a).2.1,0)else(0,(yq s a).2.1,(yq s a).2.2))
  else if c∈zcx then(if(zj ((s.drop a).take (Q9 (xm zcw) (s.drop a)))).2=0 then(9,a+Q9 (xm zcw) (s.drop a),0)else(0,a,(zj ((s.drop a).take (Q9 (xm zcw) (s.drop a)))).2))
  else if Qh ((s.drop a).take (Q9 (xm j8) (s.drop a)))=0 then(0,a,2)else(Qh ((s.drop a).take (Q9 (xm j8) (s.drop a))),a+Q9 (xm j8) (s.drop a),0):=by
 unfold Z1;rw[h]
theorem zer(h:Z1 s a=(k,t,0)):zsc s a=.tuple #[.agg #[.int .i64 k,.int .i64 (a:Int),.int .i64 (t:Int)],.int .i64 0]:=by unfold zsc;rw[h];rfl
theorem zhw{k e:Int}(h:Z1 s a=(k,t,e))(b:¬e=0):zsc s a=.tuple #[.agg #[.int .i64 0,.int .i64 (t:Int),.int .i64 (t:Int)],.int .i64 e]:=by unfold zsc;rw[h,if_neg b]
set_option maxHeartbeats 2000000 in
theorem qir{gl M:Fr}(hg:GL gl)(J:Fr.le gl M){h:zb}(ag:AgM M h)(hs:s.length<=65536)(ha:a<s.length){K:Value->zb->Prop}(hK:∀h',Keep h.size h h'->K (zsc s a) h'):
  XC Tp 198 #[.string (bl s),.int .i64 (a:Int)] h K:=by
 have hd:s.drop a=s[a]::s.drop (a+1):=Bw ha;have ai:s.drop a≠[]:=by rw[hd];exact List.cons_ne_nil _ _
 have aj:(s.drop a).length=s.length-a:=AH;have l:=z6j hd;generalize hc:s[a]=c at l hd;apply zuv;intro h1 q;have z1:h1.size=h.size+1:=Aj _;have z2:q.size=h1.size+1:=Aj _;have k1:Keep h.size h h1:=Keep.push _ _ (Ab _);have k2:Keep h1.size h1 q:=Keep.push _ _ (Ab _);have Z:Keep h.size h q:=k1.trans k2 (by omega);have B:Blk q h.size #[.int .i64 (a:Int)]:=(Blk.new h #[.int .i64 (a:Int)] 3).ofKeep k2;have B1:Blk q h1.size (zsb 0 0 0).toArray:=Blk.new _ _ _;clear_value h1 q;have y:AgM M q:=ag.keep Z;have done:∀(k f t e:Int) (g:zb),Keep q.size q g->.tuple #[.agg #[.int .i64 k,.int .i64 f,.int .i64 t],.int .i64 e]=zsc s a ->
   XRunU Tp (Af 90 (.pointer (Td ⟨h1.size,0,Te⟩)) (.agg #[.int .i64 k,.int .i64 f,.int .i64 t])) g (λg'=>∃r1 r2 r3:Int,zd g' ⟨h1.size,0,Te⟩ 0 [.int .i64 r1,.int .i64 r2,.int .i64 r3]/\K (.tuple #[.agg #[.int .i64 r1,.int .i64 r2,.int .i64 r3],.int .i64 e]) g'):=by
  intro k f t e g C he;refine qfw (B1.ofKeep C) λg' q1 q2 q3=>⟨k,f,t,q3.ld,?_⟩;rw[he];have D:=C.size;exact hK g' ((Z.trans C (by omega)).trans (c:=g') (m:=h.size) ⟨by omega,λi hi=>q1 i (by omega)⟩ (Ab _))
 have ex:(bl s).extract (a:Int).toNat (s.length:Int).toNat=bl (s.drop a):=qgp (n:=(a:Int)) rfl;have b0:zr (bl (s.drop a)) (0:Int).toNat=(c.toNat:Int):=by rw[jj,hd];rfl
 rw[zf];refine⟨(a:Int),B.cell rfl,?_⟩;rw[ex,zf,b0];refine⟨⟨by omega,by omega,by omega⟩,⟨by omega,by omega⟩,?_⟩;have bs:(⟨#[123,125,91,93,44,58]⟩:Bt)=bl q9:=rfl;have bb:(⟨#[32,9,10,13]⟩:Bt)=bl xj:=rfl;have bn:(⟨#[45,43,46,48,49,50,51,52,53,54,55,56,57,101,69]⟩:Bt)=bl zcw:=rfl;rw[bs,bb,bn];have F:∀n:Nat,n<=s.length->Aa .i64 ((a:Int)+(n:Int))=((a+n:Nat):Int):=λn A=>by rw[w64 (by omega)];omega
 refine zc1 ⟨_,rfl,?_⟩;rw[qiq];refine⟨λH=>?_,λH=>?_⟩
 ·have H:=of_decide_eq_true H;rw[if_pos H]at l;have N:0<=Lib.indexByte q9 c/\Lib.indexByte q9 c<6:=by
   have:∀c∈q9,0<=Lib.indexByte q9 c/\Lib.indexByte q9 c<6:=by decide
   exact this c H
  refine⟨(a:Int),B.cell rfl,by kernel_rfl,?_⟩;refine z6g B λg C=>⟨_,_,_,_,rfl,done _ _ _ _ g C ?_⟩;rw[zer l,w64 (n:=2+Lib.indexByte q9 c) (by omega),show Aa .i64 ((a:Int)+1)=((a+1:Nat):Int)from F 1 (by omega)]
 have H:=of_decide_eq_false H;rw[if_neg H]at l;refine zc1 ⟨_,rfl,?_⟩;rw[qiq];have Q:=λp=>z5i p (s.drop a);refine⟨λO=>?_,λO=>?_⟩
 ·have O:=of_decide_eq_true O;rw[if_pos O]at l;refine⟨(a:Int),B.cell rfl,z6i λg C zg Bg=>⟨_,rfl,C.get h.size (by omega),?_⟩⟩;refine qfv (lo:=g.size) (zjw Bg (by omega)) (by omega) λI b=>⟨_,rfl,?_,by kernel_rfl,?_⟩;rw[b.get h.size (by omega)];exact C.get h.size (by omega);have E:Keep q.size q I:=C.trans b (by omega);refine z6g (B.ofKeep E) λU ae=>⟨_,_,_,_,rfl,done _ _ _ _ U (E.trans ae E.size) ?_⟩;have:=Q (xm xj);rw[zer l,F _ (by omega)]
 have O:=of_decide_eq_false O;rw[if_neg O]at l;rw[show((c.toNat:Int)==34)=decide (c=34)from u8i (n:=34) (by omega),qfx];refine⟨λD=>?_,λD=>⟨λV=>?_,λV=>?_⟩⟩
 ·have D:=of_decide_eq_true D;rw[if_pos D]at l;refine⟨(a:Int),B.cell rfl,?_⟩;refine((qip hg (t:=s) (a:=(a:Int)) (by omega) (R:=λr=>r=qio s (a:Int)) rfl).px J y (qc (a:=Arg.mk .str _) (rdStr _) (qc (a:=Arg.mk (.int .i64) _) (Jf _ _) qt))).go λv g M' r L Y N=>?_;have he:qio s (a:Int)=(((yq s a).2.1:Int),(yq s a).2.2):=by unfold qio;rw[if_neg (by omega),Ai]
  rw[he]at N;subst N;rw[zr9 Y];refine⟨_,_,rfl,λo=>⟨by kernel_rfl,?_⟩,λo=>⟨by kernel_rfl,?_⟩⟩
  ·refine z6h J (y.keep L.keep) λI b=>⟨_,_,_,_,rfl,done _ _ _ _ I (L.keep.trans b L.keep.size) ?_⟩;have A:¬(yq s a).2.2=0:=by simpa using o
   rw[if_neg A]at l;rw[zhw l A]
  ·refine z6g (B.ofKeep L.keep) λI b=>⟨_,_,_,_,rfl,done _ _ _ _ I (L.keep.trans b L.keep.size) ?_⟩;have A:(yq s a).2.2=0:=by simpa using o
   rw[if_pos A]at l;rw[zer l]
 ·have D:=of_decide_eq_false D;have V:=of_decide_eq_true V;rw[if_neg D,if_pos V]at l;refine⟨(a:Int),B.cell rfl,z6i λg C zg Bg=>⟨_,rfl,C.get h.size (by omega),?_⟩⟩;have ah:=Q (xm zcw);refine qfv (lo:=g.size) (zjw Bg (by omega)) (by omega) λI b=>⟨_,rfl,?_,?_⟩;rw[b.get h.size (by omega)];exact C.get h.size (by omega);have E:Keep q.size q I:=C.trans b (by omega);rw[F _ (by omega)];have S:(bl s).extract (a:Int).toNat ((a+Q9 (xm zcw) (s.drop a):Nat):Int).toNat=bl ((s.drop a).take (Q9 (xm zcw) (s.drop a))):=by rw[Ai,Ai,wb,show a+Q9 (xm zcw) (s.drop a)-a=Q9 (xm zcw) (s.drop a)by omega]
  refine⟨(a:Int),(B.ofKeep E).cell rfl,⟨by omega,by omega,by omega⟩,?_⟩;rw[S];refine((zhr (gl:=gl) (s:=(s.drop a).take (Q9 (xm zcw) (s.drop a))) (by rw[AK];omega) (R:=λr=>r=(nmB (zj ((s.drop a).take (Q9 (xm zcw) (s.drop a)))).1,(zj ((s.drop a).take (Q9 (xm zcw) (s.drop a)))).2)) rfl).px J (y.keep E) (qc (a:=Arg.mk .str _) (rdStr _) qt)).go λv U M' r L Y N=>?_;subst N;rw[qmo Y];generalize hq:(s.drop a).take (Q9 (xm zcw) (s.drop a))=w at l;refine⟨_,_,_,_,rfl,?_⟩;intro G;have af:Keep U.size U G:=Keep.push _ _ (Ab _);have aa:Blk G U.size #[.bool Tc,.string ⟨#[]⟩,.int .i64 0]:=Blk.new _ _ _;have k4:Keep q.size q G:=(E.trans L.keep E.size).trans af (by have:=L.keep.size;have:=E.size;omega);clear_value G;refine zei (vs:=[.bool (nmB (zj w).1).1,.string (nmB (zj w).1).2.1,.int .i64 (nmB (zj w).1).2.2]) (by kernel_rfl) aa rfl (by kernel_rfl) (Ab 3) (λu hu=>?_) λab q1 q2 q3=>?_;simp at hu;rcases hu with rfl|rfl|rfl <;> rfl;have x:Keep q.size q ab:=k4.trans ⟨by omega,λi hi=>q3 i (by have:=L.keep.size;have:=E.size;omega)⟩ (Ab _);refine⟨λo=>⟨(a:Int),(B.ofKeep x).cell rfl,by kernel_rfl,?_⟩,λo=>⟨by kernel_rfl,?_⟩⟩
  ·refine z6h J (y.keep x) λP z=>⟨_,_,_,_,rfl,done _ _ _ _ P (x.trans z x.size) ?_⟩;have A:¬(zj w).2=0:=by simpa using o
   rw[if_neg A]at l;rw[zhw l A]
  ·refine z6g (B.ofKeep x) λP z=>⟨_,_,_,_,rfl,done _ _ _ _ P (x.trans z x.size) ?_⟩;have A:(zj w).2=0:=by simpa using o
   rw[if_pos A]at l;rw[zer l]
 ·have D:=of_decide_eq_false D;have V:=of_decide_eq_false V;rw[if_neg D,if_neg V]at l;have ah:=Q (xm j8);refine qfv (lo:=q.size) (zvf J y) (by omega) λI b=>⟨_,rfl,⟨by omega,by omega,by omega⟩,?_⟩;have S:(bl (s.drop a)).extract (0:Int).toNat ((Q9 (xm j8) (s.drop a):Nat):Int).toNat=bl ((s.drop a).take (Q9 (xm j8) (s.drop a))):=by rw[Ai,wb];rfl
  rw[S];refine((qbd (gl:=gl) (s:=(s.drop a).take (Q9 (xm j8) (s.drop a))) (R:=λr=>r=Qh ((s.drop a).take (Q9 (xm j8) (s.drop a)))) rfl).px J (y.keep b) (qc (a:=Arg.mk .str _) (rdStr _) qt)).go λv U M' r L Y N=>?_;subst N;rw[qkx Y];generalize hq:(s.drop a).take (Q9 (xm j8) (s.drop a))=w at l;have x:Keep q.size q U:=b.trans L.keep b.size;refine⟨_,rfl,λo=>⟨(a:Int),(B.ofKeep x).cell rfl,by kernel_rfl,?_⟩,λo=>⟨(a:Int),(B.ofKeep x).cell rfl,by kernel_rfl,?_⟩⟩
  ·refine z6g (B.ofKeep x) λP z=>⟨_,_,_,_,rfl,done _ _ _ _ P (x.trans z x.size) ?_⟩;have A:¬Qh w=0:=by simpa using o
   rw[if_neg A]at l;rw[zer l,F _ (by omega)]
  ·refine z6h J (y.keep x) λP z=>⟨_,_,_,_,rfl,done _ _ _ _ P (x.trans z x.size) ?_⟩;have A:Qh w=0:=by simpa using o
   rw[if_pos A]at l;rw[zhw l (by decide)]
end
end Go.X
end
section
namespace Go.X
open Go Go.Code
section
variable {ro:Option Nat} {n:Nat} {P:Program} {f:FuncId} {args:Array Value} {w:World} {o:Oper} {a:Act} {e:Env} {h:zb}
abbrev rf(ro:Option Nat):Fence:={ Fence.wide with round:=ro }
def zhf(K:Act->World->Prop):Exit->Act->World->Prop
 |.normal,a,w=>K a w
 |_,_,_=>False
theorem Q7{K:Act->World->Prop}:¬LetsOut (zhf K):=λ⟨_,_,h⟩=>h
theorem qbe{R:Ending->World->Prop}(h:Calls P f args w R):CallsIn (rf ro) n P f args w R:=by have h1:CallsIn Fence.wide n P f args w R:=callsIn_wide.2 h;exact h1
theorem qfy{row:String}{R:Value->World->Prop}(h:Rows P row args w R):RowsIn (rf ro) n P row args w R:=by have h1:RowsIn Fence.wide n P row args w R:=λc cs _=>let ⟨v,w',r,s⟩:=h c cs;⟨v,w',r,stepsIn_wide.2 s⟩;exact h1
def xu(o:Oper):Bool:=match o.op with
 |.defer _=>Tc
 |_=>Ta
theorem zvg(h:xu o=Ta):∀c,o.op≠.defer c:=by intro c e;unfold xu at h;rw[e]at h;cases h
theorem qis(c:xu o=Ta){K:Act->World->Prop}{Q:Exit->Act->World->Prop}(h:o.wp P a w K Q):o.wpIn (rf ro) n P a w K Q:=by
 refine⟨λ_ _=>trivial,?_⟩;rw[Oper.semAt_eq _ _ _ (zvg c)];unfold Oper.wp at h;generalize (execOp a.eval o).run P w=r at *;cases r with
 |ok x w'=>
  cases x with
  |enter f args=>exact⟨λb=>(by cases b),qbe h⟩
  |row row args=>exact⟨λb=>(by cases b),qfy h⟩
  |value v=>exact h
  |skip=>exact h
  |defer d=>exact h
  |_=>exact h.elim
 |halt x w'=>cases x <;> first|exact h|exact h.elim
theorem zjx{ro:Option Nat}{n:Nat}{P:Program}{ops:Array Oper}{K:Act->World->Prop}{Q:Exit->Act->World->Prop}: ∀(l i:List Oper) (a:Act) (w:World),l.all xu=Ta->wpList P ops (zhf K) l a w->(∀a w,K a w->wpListIn (rf ro) n P ops Q i a w)->wpListIn (rf ro) n P ops Q (l++i) a w
 |[],i,a,w,_,h,hK=>hK a w h
 |o::l,i,a,w,hd,h,hK=>by
  rw[DJ,Ap]at hd;rw[AD];unfold wpListIn;unfold wpList at h;by_cases m:Cc o (yielded ops a.tmps)=Ta;rw[if_pos m]at h ⊢;rcases h with h|⟨_,h⟩;have h1:=qis (ro:=ro) (n:=n) hd.1 h;have p:=Oper.wpIn_mono (λa w q=>zjx l i a w hd.2 q hK) h1;refine⟨p.1,?_⟩;have b:=p.2;revert b;generalize (o.semAt (rf ro).round a.eval).run P w=r;cases r with
  |ok x w'=>
   cases x with
   |enter f args=>exact λb=>⟨b.1,CallsIn.mono b.2 λe k c=>by cases e <;> first|exact c|exact c.elim|exact(Q7 c).elim⟩
   |round l f tmps assign body=>exact λb=>⟨b.1,RoundIn.mono b.2 λe k c=>by cases e <;> first|exact c|exact c.elim|exact(Q7 c).elim⟩
   |_=>exact λb=>b
  |halt x w'=>cases x <;> first|exact λb=>b|exact λb=>b.elim
  exact(Q7 h).elim;rw[if_neg m]at h ⊢;exact⟨λ_ _=>trivial,zjx l i _ _ hd.2 h hK⟩
theorem zxu{ro:Option Nat}{n:Nat}{P:Program}{md:Region.Mode}{ops:Array Oper}{K:Act->World->Prop}(c:∀(i:Nat) (o:Oper),ops[i]?=Td o->xu o=Ta):∀(fuel:Nat) (listed:Array Bool) (a:Act) (w:World),wpAny P md ops (zhf K) fuel listed a w->wpAnyIn (rf ro) n P md ops (zhf K) fuel listed a w
 |0,_,_,_,h=>h
 |fuel+1,listed,a,w,h=>by refine⟨h.1,λi hi=>?_⟩;have b:=h.2 i hi;unfold wpOp at b;unfold wpOpIn;split at b;rename_i e;rw[e];exact zxu c fuel _ _ _ b;rename_i o e;rw[e];simp only;by_cases f:Cc o (yielded ops a.tmps)=Ta;rw[if_pos f]at b ⊢;rcases b with b|⟨_,b⟩;exact Oper.wpIn_mono (λa w k=>zxu c fuel _ a w k) (qis (c i o e) b);exact(Q7 b).elim;rw[if_neg f]at b ⊢;exact⟨λ_ _=>trivial,zxu c fuel _ _ _ b⟩
def Xq(D:List Deferred)(a:Act):Act:={ a with defers:=a.defers++D }
theorem qc1{D:List Deferred}{K:Act->World->Prop}{R:Act->World->Prop}(h:o.wp P a w K (zhf R)):o.wp P (Xq D a) w (λk w1=>∃a0,k=Xq D a0/\K a0 w1) (zhf λk w1=>∃a0,k=Xq D a0/\R a0 w1):=by
 unfold Oper.wp at h ⊢;have b:(Xq D a).eval=a.eval:=rfl;rw[b];have c:∀d v,(Xq D a).put d v=Xq D (a.put d v):=λd v=>by cases d <;> rfl
 generalize (execOp a.eval o).run P w=r at *;cases r with
 |ok x w'=>
  cases x with
  |enter f args=>exact Calls.mono h λe i b=>by cases e with
    |returned v=>exact⟨_,c _ _,b⟩
    |panicked ch=>exact b
    |outgrown=>exact(Q7 b).elim
  |row row args=>exact Rows.mono h λv i b=>⟨_,c _ _,b⟩
  |value v=>exact⟨_,c _ _,h⟩
  |skip=>exact⟨_,c _ _,h⟩
  |defer d=>exact⟨(Act.put { a with defers:=d::a.defers } o.dst undef),(by cases o.dst <;> rfl),(show K (Act.put { a with defers:=d::a.defers } o.dst undef) w' from h)⟩
  |_=>exact h.elim
 |halt x w'=>cases x <;> first|exact h|exact h.elim
theorem zos{P:Program}{md:Region.Mode}{ops:Array Oper}{D:List Deferred}{K:Act->World->Prop}:∀(fuel:Nat) (listed:Array Bool) (a:Act) (w:World),wpAny P md ops (zhf K) fuel listed a w->wpAny P md ops (zhf λf w1=>∃a0,f=Xq D a0/\K a0 w1) fuel listed (Xq D a) w
 |0,_,a,_,h=>⟨h.1,a,rfl,h.2⟩
 |fuel+1,listed,a,w,h=>by
  refine⟨λk=>⟨a,rfl,h.1 k⟩,λi hi=>?_⟩;have b:=h.2 i hi;unfold wpOp at b ⊢;have l:yielded ops (Xq D a).tmps=yielded ops a.tmps:=rfl;split at b;exact zos fuel _ _ _ b;rename_i o p;rw[l];by_cases c:Cc o (yielded ops a.tmps)=Ta;rw[if_pos c]at b ⊢;rcases b with b|⟨_,b⟩;exact .inl (Oper.wp_mono (λf w1 ⟨a0,e,m⟩=>by rw[e];exact zos fuel _ a0 w1 m) (qc1 b));exact(Q7 b).elim;rw[if_neg c]at b ⊢;have n:(Xq D a).put o.dst undef=Xq D (a.put o.dst undef):=by cases o.dst <;> rfl
  rw[n];exact zos fuel _ _ _ b
def YX(P:Program)(l:Nat)(args:Array Value)(h:zb)(K:Value->zb->Prop):Prop:=
 ∀(m:Nat) (B:World) (d:Nat),∃fn tmps assign body,(Instr.yield l args).run P (mk B d h)=.ok (.round l fn tmps assign body) (mk B d h) /\
  RoundIn (rf Te) m P l fn tmps assign body (mk B d h) λe w'=>∃v b h',e=.returned v/\w'=mk B b h'/\K v h'
def qmb(o:Oper):Bool:=match o.op with
 |.call c=>match c.callee with
  |.value x=>!(zdi x)
  |_=>Tc
 |_=>Tc
def zsd:List Oper->Option (List Oper×Oper×List Oper)
 |[]=>Te
 |o::l=>bif qmb o then Td ([],o,l)else match zsd l with
  |some (pre,o',post)=>Td (o::pre,o',post)
  |none=>Te
theorem z6k{l:List Oper}:∀{pre b:List Oper} {o:Oper},zsd l=Td (pre,o,b)->l=pre++o::b:=by
 induction l with
 |nil=>intro pre b o h;cases h
 |cons x l k=>
  intro pre b o h;rw[zsd]at h;cases hd:qmb x with
  |true=>rw[hd,cond_true]at h;have h:=Az h;have h1:=congrArg Prod.fst h;have e:=congrArg (λq=>q.2.1) h;have c:=congrArg (λq=>q.2.2) h;simp only at h1 e c;rw[<-h1,<-e,<-c];rfl
  |false=>
   rw[hd,cond_false]at h;cases hs:zsd l with
   |none=>rw[hs]at h;cases h
   |some q=>obtain⟨i,m,f⟩:=q;rw[hs]at h;have h:=Az h;have h1:=congrArg Prod.fst h;have e:=congrArg (λq=>q.2.1) h;have c:=congrArg (λq=>q.2.2) h;simp only at h1 e c;rw[k hs,<-h1,<-e,<-c];rfl
def zxv(P:Program)(o:Oper)(e:Env)(h:zb)(K:Value->zb->Prop):Prop:=match o.op with
 |.call c=>match c.callee with
  |.value x=>match Xt e [] x with
   |some (.func (.yield l) A C)=>bif (bif (Nat.beq A.size 0)then(Nat.beq C.size 0)else Tc)then(bif known e [] c.args.toList then YX P l (c.args.map (rho e [])) h λv h'=>typed P o.type v λb=>K b h' else False)else False
   |_=>False
  |_=>False
 |_=>False
theorem zse{n m:Nat}{K:Value->zb->Prop}(H:zxv P o e h K)(k:Sat n e a)(B:World)(d:Nat){next:Act->World->Prop}{Q:Exit->Act->World->Prop}
  (w:∀v p h',K v h'->next (a.put o.dst v) (mk B p h')):o.wpIn (rf Te) m P a (mk B d h) next Q:=by
 unfold zxv at H;split at H;rename_i c D;split at H;rename_i x i;split at H;rename_i l A C z;obtain⟨hA,q,H⟩:A=#[]/\C=#[]/\(bif known e [] c.args.toList then YX P l (c.args.map (rho e [])) h λv h'=>typed P o.type v λu=>K u h' else False):=by
  cases h1:Nat.beq A.size 0 with
  |false=>rw[h1]at H;exact DD H
  |true=>
   cases f:Nat.beq C.size 0 with
   |false=>rw[h1,f]at H;exact DD H
   |true=>rw[h1,f]at H;exact⟨Array.eq_empty_of_size_eq_zero (Ak h1),Array.eq_empty_of_size_eq_zero (Ak f),H⟩
 subst hA;subst q;cases hk:known e [] c.args.toList with
 |false=>rw[hk]at H;exact DD H
 |true=>
  rw[hk]at H;simp only[cond_true]at H;obtain⟨fn,tmps,assign,body,h1,f⟩:=H (m-1) B d;have E:a.eval x=.func (.yield l) #[] #[]:=qn k (c:=[]) trivial z;have b:c.args.map a.eval=c.args.map (rho e []):=by apply Array.map_congr_left;intro y s;exact Jy k (c:=[]) trivial hk y (by simpa using s)
  have r:(o.semAt (rf Te).round a.eval).run P (mk B d h)=.ok (.round l fn tmps assign body) (mk B d h):=by show(execOp a.eval o).run P (mk B d h)=_;simp only[execOp,D,resolve,i,E,DX,Sem.run_bind,Sem.run_pure,Result.andThen_ok,invoke];rw[b];simpa using h1
  refine⟨λ_ _=>trivial,?_⟩;rw[r];refine⟨λi=>(by cases i),f.mono ?_⟩;rintro e' w' ⟨v,p,h',rfl,rfl,t⟩;exact w _ _ _ (xo t)
 exact DD H;exact DD H;exact DD H
def zvh(P:Program)(n:Nat)(f:List (Nat×Nat))(id:Nat)(ops:Array Oper)(b:Bool)(K:Env->zb->Prop)(e:Env)(h:zb):Prop:=
 match zsd ops.toList with
 |none=>regionF P n f id ops b K e h
 |some (pre,o,post)=>bif b then False else bif (pre.all xu&&post.all xu)then(match o.guard with
  |none=>bif jh n [] o.dst then wR P n ops (λc h1=>zxv P o c h1 λv i=>wR P n ops K post (putO c o.dst [] v) i) pre e h else False
  |some _=>False)else False
theorem zot(G:P.follows .mixedOrders=Ta){O:List (Nat×Nat)}{id:Nat}{ops:Array Oper}{c:Bool}{K:Env->zb->Prop} (H:zvh P n O id ops c K e h) (m:Nat) (B:World) (d:Nat) (E:Sat n e a) {Q:Exit->Act->World->Prop}
  (F:∀e' a' k h',Sat n e' a'->Same (wz ops.toList) a a'->K e' h'->Q .normal a' (mk B k h')):(Ek id ops c).wpIn (rf Te) m P Q a (mk B d h):=by
 unfold zvh at H;split at H;exact wpIn_wide.2 (zdp G H B d E F);rename_i pre o b t;have q:=z6k t;cases c with
 |true=>exact DD H
 |false=>
  simp only[cond_false]at H;cases hnd:(pre.all xu&&b.all xu)with
  |false=>rw[hnd]at H;exact DD H
  |true=>
   rw[hnd]at H;simp only[cond_true]at H;rw[Ap]at hnd;split at H;rename_i M;cases hd:jh n [] o.dst with
   |false=>rw[hd]at H;exact DD H
   |true=>
    rw[hd]at H;simp only[cond_true]at H;refine wpIn_region_list ?_;have A:∀x∈wz pre,x∈wz ops.toList:=λx p=>by rw[q,Qs];exact As _ p
    have r:∀i,o.dst=Td i->i∈wz ops.toList:=λi hi=>by rw[q,Qs];exact AC _ (by simp[wz,hi])
    have s:∀x∈wz b,x∈wz ops.toList:=λx p=>by rw[q,Qs];refine AC _ ?_;unfold wz;split;exact Ae _ p;exact p
    rw[q];refine zjx (K:=λf w1=>∃l u h1,w1=mk B u h1/\Sat n l f/\Same (wz ops.toList) a f/\zxv P o l h1 λv D=>wR P n ops K b (putO l o.dst [] v) D) pre (o::b) a _ hnd.1 (zdj B pre e h a d H E λe' a' k h' z C I=>⟨e',k,h',rfl,z,C.mono A,I⟩) ?_;rintro f w1 ⟨l,u,h1,rfl,s1,S,z⟩;unfold wpListIn;have y:Cc o (yielded ops f.tmps)=Ta:=by simp[Cc,M]
    rw[if_pos y];refine zse z s1 B u λv d2 D C=>?_;have s2:Sat n (putO l o.dst [] v) (f.put o.dst v):=s1.putO hd (λ_=>rfl) (λU=>absurd trivial U);rw[<-AQ b];refine zjx (K:=λa' w'=>Q .normal a' w') b [] _ _ hnd.2 (zdj B b _ _ _ _ C s2 λe' a' k h' J N L=>?_) λa w h=>h;exact F e' a' k h' J ((S.trans (Same.put f o.dst v r)).trans (N.mono s)) L
   exact DD H
def WI(P:Program)(n:Nat)(pl:Plan):Code->zb1->Env->zb->Prop
 |.skip,Q,e,h=>Q .normal e h
 |.ret,Q,e,h=>Q .ret e h
 |.exit id,Q,e,h=>Q (.exit id) e h
 |.label _,Q,e,h=>Q .normal e h
 |.goto l,Q,e,h=>Q (.goto l) e h
 |.region id ops draw,Q,e,h=>zvh P n pl.tails id ops draw (λe h=>Q .normal e h) e h
 |.seq x y,Q,e,h=>match z9p pl.joins (jy y)with
  |none=>WI P n pl x (ztz (λe h=>WI P n pl y Q e h) Q) e h
  |some J=>qg3 J (λe h=>WI P n pl y Q e h) (λK=>WI P n pl x (ztz K Q) e h) (Xz (Z9 x) e)
 |.cond c x y,Q,e,h=>match Xt e [] c with
  |some (.bool b)=>(b=Ta->WI P n pl x Q e h)/\(b=Tc->WI P n pl y Q e h)
  |_=>False
 |.block id x,Q,e,h=>WI P n pl x (zih id Q) e h
 |.loop x,Q,e,h=>match z9p pl.loops (jy x)with
  |some J=>qg4 J (λf e h=>WI P n pl x (ztz f Q) e h) (Xz (Z9 x) e) e h
  |none=>False
 |_,_,_,_=>False
theorem qbf(hm:P.follows .mixedOrders=Ta){pl:Plan}:∀(c:Code) (Q:zb1) (e:Env) (h:zb),WI P n pl c Q e h ->
  ∀(m:Nat) (B:World) (d:Nat) (a:Act),Sat n e a->c.wpIn (rf Te) m P (qg5 n B (Z9 c) a Q) a (mk B d h):=by
 intro c;induction c with
 |skip=>exact λQ e h H m B d a f=>wpIn_skip ⟨e,d,h,rfl,f,Same.refl _ _,H⟩
 |ret=>exact λQ e h H m B d a f=>wpIn_ret ⟨e,d,h,rfl,f,Same.refl _ _,H⟩
 |exit id=>exact λQ e h H m B d a f=>wpIn_exit ⟨e,d,h,rfl,f,Same.refl _ _,H⟩
 |label l=>exact λQ e h H m B d a f=>wpIn_label ⟨e,d,h,rfl,f,Same.refl _ _,H⟩
 |goto l=>exact λQ e h H m B d a f=>wpIn_goto ⟨e,d,h,rfl,f,Same.refl _ _,H⟩
 |region id ops ap=>exact λQ e h H m B d a f=>zot hm H m B d f λe' a' d' h' r t q3=>⟨e',d',h',rfl,r,t,q3⟩
 |seq x y D C=>
  intro Q e h H m B d a f;simp only[WI]at H;have N:∀i∈Z9 x,i∈Z9 (x.seq y):=λi hi=>As _ hi;have U:∀i∈Z9 y,i∈Z9 (x.seq y):=λi hi=>AC _ hi;split at H;refine wpIn_seq (wpIn_mono (D _ _ _ H m B d a f) ?_);rintro ex k w1 ⟨E,s,h1,rfl,s1,z,r⟩;cases ex with
  |normal=>refine wpIn_mono (C _ _ _ r m B s k s1) ?_;rintro ex a2 w2 ⟨u,d2,w,rfl,s2,A,t⟩;exact⟨u,d2,w,rfl,s2,(z.mono N).trans (A.mono U),t⟩
  |_=>exact⟨E,s,h1,rfl,s1,z.mono N,r⟩
  rename_i J hJ;have H':=H (mkC (we J) λvs=>λh=>WI P n pl y Q (Yl J vs++Xz (Z9 x) e) h) (zm9 λvs h M=>M);refine wpIn_seq (wpIn_mono (D _ _ _ H' m B d a f) ?_);rintro ex k w1 ⟨E,s,h1,rfl,s1,z,r⟩;cases ex with
  |normal=>obtain⟨vs,q,S,M,hk⟩:=zfi r;have af:=zm8 M;subst af;have V:Sat n (Yl J vs++Xz (Z9 x) e) k:=zdq f s1.defers s1.size z (jq s1 S);refine wpIn_mono (C _ _ _ hk m B s k V) ?_;rintro ex a2 w2 ⟨u,d2,w,rfl,s2,A,t⟩;exact⟨u,d2,w,rfl,s2,(z.mono N).trans (A.mono U),t⟩
  |_=>exact⟨E,s,h1,rfl,s1,z.mono N,r⟩
 |cond c x y D C=>intro Q e h H m B d a f;simp only[WI]at H;have N:∀i∈Z9 x,i∈Z9 (Ei c x y):=λi hi=>As _ hi;have U:∀i∈Z9 y,i∈Z9 (Ei c x y):=λi hi=>AC _ hi;split at H;rename_i b G;refine wpIn_cond_split (qn f (c:=[]) trivial G) (λah=>?_) (λab=>?_);refine wpIn_mono (D _ _ _ (H.1 ah) m B d a f) ?_;rintro ex a2 w2 ⟨u,d2,w,rfl,s2,A,t⟩;exact⟨u,d2,w,rfl,s2,A.mono N,t⟩;refine wpIn_mono (C _ _ _ (H.2 ab) m B d a f) ?_;rintro ex a2 w2 ⟨u,d2,w,rfl,s2,A,t⟩;exact⟨u,d2,w,rfl,s2,A.mono U,t⟩;exact H.elim
 |block id x ih=>
  intro Q e h H m B d a f;refine wpIn_block (wpIn_mono (ih _ _ _ H m B d a f) ?_);rintro ex k w1 ⟨E,s,h1,rfl,s1,z,r⟩;cases ex with
  |exit i=>simp only[zih]at r;simp only[Exit.inBlock];by_cases G:Nat.beq i id=Ta;rw[if_pos (Ak G)];simp only[G,cond_true]at r;exact⟨E,s,h1,rfl,s1,z,r⟩;rw[if_neg (λhe=>G (by rw[he];simp))];simp only[G,cond_false]at r;exact⟨E,s,h1,rfl,s1,z,r⟩
  |_=>exact⟨E,s,h1,rfl,s1,z,r⟩
 |loop x ih=>
  intro Q e h H m B d a f;simp only[WI]at H;split at H;rename_i J hJ;obtain⟨I,μ,h0,L⟩:=H;obtain⟨am,p0,aj,ai,an⟩:=zfi h0;let F:=zy2 (we J) I μ;let at_:Act->Option ((zb->Prop)×(zb->Nat)):=λk=>(zbe (λi=>Td (zy k i)) J).bind λvs=>zp8 (we J) vs F;refine wpIn_loop (λk w1=>∃s h1 vs p,w1=mk B s h1/\k.defers=[]/\k.tmps.size=n/\Same (Z9 x) a k/\zbe (λi=>Td (zy k i)) J=Td vs/\zp8 (we J) vs F=Td p/\p.1 h1) (λk w1=>match at_ k with|some p=>p.2 w1.heap|none=>0) ⟨d,h,am,p0,rfl,f.defers,f.size,Same.refl _ _,jq f aj,ai,an⟩ ?_;rintro k w1 ⟨s,h1,vs,p,rfl,ak,Z,o,S,hp,hI⟩;have s1:Sat n (Yl J vs++Xz (Z9 x) e) k:=zdq f ak Z o S;have G:=zig hp L h1 hI;refine wpIn_mono (ih _ _ _ G m B s k s1) ?_;rintro ex a2 w2 ⟨u,d2,w,rfl,s2,A,t⟩;cases ex with
  |normal=>
   obtain⟨Y,q,O,M,aa,ae⟩:=zfi t;refine⟨⟨d2,w,Y,q,rfl,s2.defers,s2.size,o.trans A,jq s2 O,M,aa⟩,?_⟩;have E:at_ k=Td p:=by simp only[at_,S,C2];exact hp
   have u:at_ a2=Td q:=by simp only[at_,jq s2 O,C2];exact M
   rw[E,u];exact ae
  |_=>exact⟨u,d2,w,rfl,s2,o.trans A,t⟩
  exact H.elim
 |_=>exact λQ e h H=>H.elim
def XCI(P:Program)(f:FuncId)(args:Array Value)(h:zb)(R:Value->zb->Prop):Prop:=
 ∀(m:Nat) (B:World) (d:Nat),CallsIn (rf Te) m P f args (mk B d h) λe w'=>∃v b h',e=.returned v/\w'=mk B b h'/\R v h'
theorem zjy(x:P.follows .mixedOrders=Ta)(pl:Plan)(vs:List Value){fn:Func}{rs:List ResultVar}(u:P.funcs[f]?=Td fn)(p:Qu fn=Ta)(r:fn.results.toList=rs)(s:fn.ntmps=n)
  (t:Nat.ble vs.length n=Ta) {R:Value->zb->Prop} (H:WI P n pl (codeOf fn) (qjp P rs R) (z1s 0 vs) h):XCI P f vs.toArray h R:=by
 have i:fn.body=Td (codeOf fn):=by unfold Qu at p;unfold codeOf;split at p;rename_i c y;rw[y];cases p
 intro m B d;subst s;refine callsIn_of_wp u i trivial ?_ rfl;have A:vs.length<=fn.ntmps:=Ca t;have z:Sat fn.ntmps (z1s 0 vs) { tmps:=vs.toArray++BN (fn.ntmps-vs.toArray.size) undef,defers:=[] }:=by
  refine⟨rfl,by simp;omega,?_⟩;refine za1 vs.toArray _ vs 0 λj v l=>?_;have o:j<vs.length:=by rcases A6 j vs.length with h|h;exact h;rw[BL h]at l;cases l
  simp only[AI,BM];rw[CU (by simpa using o)];simp[l]
 refine wpIn_mono (qbf x (codeOf fn) _ _ _ H m B d _ z) ?_;rintro ex a w ⟨D,b,h1,rfl,s1,C,k⟩;cases ex with
 |normal=>obtain⟨v,q,e⟩:=Qt s1 r k;exact⟨s1.defers,v,e B b,v,b,h1,rfl,rfl,q⟩
 |ret=>obtain⟨v,q,e⟩:=Qt s1 r k;exact⟨s1.defers,v,e B b,v,b,h1,rfl,rfl,q⟩
 |_=>exact k.elim
end
end Go.X
end
