/- A part of the proof: nothing is stated here for its own sake. -/
import Derived.Test.YtjohlemfgcmaoaaGreatDoorPmD
import Derived.Lib.AppendZerosOnto
import Derived.RangeFuncCalls
open _root_.Go.Addr renaming add->Ae
open _root_.Array renaming getD_eq_getD_getElem?->BC,getElem?_append_left->Cn,getElem?_eq_some_iff->Ad,getElem?_push->B6,getElem?_setIfInBounds_ne->AN,getElem?_toList->Bw,length_toList->Cs,push->Du,replicate->Bf,size->AZ,size_push->Al,size_setIfInBounds->A7
open _root_.Bool renaming and_eq_false_iff->Bo,and_eq_true->AK,eq_iff_iff->AB,false_eq_true->Bi,false_or->Dk,or_eq_false_iff->BG,or_eq_true->A4,true_and->Cf
open _root_.Go.Builtin renaming append_->AD
open _root_.Classical renaming byContradiction->CB
open _root_.Go.Code renaming cond->DV,region->DY
open _root_.Go.Deferred renaming ofValue->Dx
open _root_.False renaming elim->Dj
open _root_.Go.Instr renaming storeAt->Aj
open _root_.Int renaming toNat_natCast->Af
open _root_.Go.IntKind renaming wrap->Aa
open _root_.List renaming all_cons->DX,all_eq_true->Ba,append_assoc->Bj,append_nil->A8,cons_append->Br,drop_drop->BE,drop_eq_getElem_cons->Ay,drop_eq_nil_of_le->AR,drop_length->DC,drop_zero->BB,exists_cons_of_ne_nil->AX,ext_getElem?->Bc,getD_eq_getElem?_getD->Cp,getElem?_append_left->Bv,getElem?_append_right->A6,getElem?_drop->AE,getElem?_eq_getElem->Ak,getElem?_eq_none->BO,getElem?_eq_some_iff->Aw,getElem?_map->Cc,getElem?_modify->Bn,getElem?_take->AC,getElem_append_left->C5,getElem_append_right->CC,getElem_drop->Do,getElem_mem->AP,length->Cy,length_append->Ar,length_cons->AH,length_drop->As,length_eq_zero_iff->AU,length_map->AM,length_nil->CP,length_pos_iff->Bl,length_take->AO,map_append->CQ,map_cons->BZ,map_nil->D3,mem_append->Av,mem_append_left->Ao,mem_append_right->Au,mem_cons->Ai,mem_cons_of_mem->Ag,mem_flatMap->Be,mem_of_getElem?->Bb,mem_range->BL,mem_singleton->BK,nil_append->Ct,nodup_append->BH,range->BI,take_length->BD,take_of_length_le->Bh,take_succ_cons->Cd,take_succ_eq_append_getElem->AL,take_zero->DO
open _root_.List.cons renaming injEq->BP
open _root_.Nat renaming add_assoc->DI,add_mul->Ca,add_zero->CG,eq_of_beq_eq_true->Ah,le_of_ble_eq_true->BN,le_refl->Ac,lt_or_ge->AF,mul_comm->CJ,mul_le_mul_right->AJ,mul_one->Db,one_mul->Dr,sub_zero->CU,succ_mul->CV,zero_add->Az,zero_le->CK,zero_mul->DT
open _root_.Option renaming bind_some->CE,map_some->DZ
open _root_.Option.some renaming inj->Aq,injEq->Ab
open _root_.Go.Region renaming wanted->Bm
open _root_.UInt8 renaming ofNat->BF,toNat_inj->Cz
open _root_.Go.Utf8 renaming encode->Dc
open _root_.Go.Value renaming int->D4,string->Dh
open _root_.Go.Value.slice renaming injEq->A9
set_option linter.unusedVariables false
set_option maxRecDepth 100000
namespace Go.X
end Go.X
namespace Go.Proofs
end Go.Proofs
open Go Go.X Go.Proofs
section
namespace Go.X
open Go Go.Lib
section
variable {l:Bs}
def zo6(l:Bs):Prop:=∀c∈l,c.toNat<128
theorem Wx(cs:Bs):∀l:Bs,containsAny l cs=l.any λc=>cs.contains c
 |[]=>by simp[containsAny,indexAny]
 |c::l=>by
  have ih:=Wx cs l
  have aa:=indexAny_ge cs l
  rw[List.any_cons,<-ih]
  unfold containsAny
  rw[indexAny]
  by_cases hc:cs.contains c=true
  ·rw[if_pos hc,hc];simp
  ·have Z:cs.contains c=false:=by simpa using hc
   rw[if_neg hc,Z,Dk]
   by_cases h1:indexAny l cs=-1
   ·simp[h1]
   ·have hb:(indexAny l cs==-1)=false:=by rw[beq_eq_false_iff_ne];exact h1
    rw[hb,if_neg (by simp),AB,decide_eq_true_eq,decide_eq_true_eq];omega
theorem zwh:∀(l:Bs) (acc:Nat),l.all yd=true->acc*10 ^ l.length+zr l<10 ^ 18->parseUint10 acc l=.ok (acc*10 ^ l.length+zr l)
 |[],acc,_,_=>by simp[parseUint10,zr]
 |c::t,acc,hd,hl=>by
  rw[DX,AK]at hd
  have hc:48<=c.toNat/\c.toNat<=57:=by simpa[yd]using hd.1
  have e:zr (c::t)=(c.toNat-48)*10 ^ t.length+zr t:=by
   have:=zjw [c] t
   rw[List.singleton_append]at this
   rw[this];simp[zr]
  have e2:(acc*10+(c.toNat-48))*10 ^ t.length+zr t=acc*10 ^ (c::t).length+zr (c::t):=by
   rw[e,AH,Nat.pow_succ,Ca,Nat.mul_assoc,CJ 10 (10 ^ t.length)];omega
  have hp:1<=10 ^ t.length:=Nat.one_le_pow _ _ (by decide)
  have hb:acc*10+(c.toNat-48)<=acc*10 ^ (c::t).length+zr (c::t):=by
   rw[<-e2]
   calc acc*10+(c.toNat-48)=(acc*10+(c.toNat-48))*1:=by omega
    _<=(acc*10+(c.toNat-48))*10 ^ t.length:=Nat.mul_le_mul_left _ hp
    _<=_:=by omega
  rw[parseUint10,if_pos hc,if_neg (by omega),if_neg (by omega),zwh t _ hd.2 (by rw[e2];exact hl),e2]
theorem zo7:∀(l:Bs) (acc:Nat),l.all yd=false->∀v,parseUint10 acc l≠.ok v
 |[],acc,h,v=>by simp at h
 |c::t,acc,h,v=>by
  rw[parseUint10]
  by_cases hc:48<=c.toNat/\c.toNat<=57
  ·have hd:yd c=true:=by simp[yd,hc]
   rw[DX,hd,Cf]at h
   rw[if_pos hc]
   by_cases h1:1844674407370955162<=acc
   ·rw[if_pos h1];simp
   ·rw[if_neg h1]
    by_cases h2:18446744073709551616<=acc*10+(c.toNat-48)
    ·rw[if_pos h2];simp
    ·rw[if_neg h2];exact zo7 t _ h v
  ·rw[if_neg hc];simp
theorem z2o(hd:l.all yd=true)(aa:l≠[])(hl:l.length<=9):atoiAll l=.ok (zr l:Int):=by
 have hv:zr l<10 ^ 9:=Yo hl hd
 have hp:=zwh l 0 hd (by rw[DT];omega)
 rw[DT,Az]at hp
 obtain⟨c,t,rfl⟩:=AX aa
 have hc:48<=c.toNat/\c.toNat<=57:=by
  rw[DX,AK]at hd
  simpa[yd]using hd.1
 unfold atoiAll
 simp only
 rw[if_neg (by omega)]
 unfold parseMag
 rw[if_neg (by simp),hp]
 have Z:¬c.toNat=45:=by omega
 simp only[Z,not_false_eq_true,true_and,false_and,if_false]
 rw[if_neg (by omega)]
theorem z2p(hd:l.all yd=false)(hh:∀c,l.head?=some c->c.toNat≠43/\c.toNat≠45)(v:Int):atoiAll l≠.ok v:=by
 cases l with
 |nil=>simp at hd
 |cons c t=>
  have hc:=hh c rfl
  unfold atoiAll
  simp only
  rw[if_neg (by omega)]
  unfold parseMag
  rw[if_neg (by simp)]
  have:=zo7 (c::t) 0 hd
  cases hp:parseUint10 0 (c::t)with
  |ok u=>exact absurd hp (this u)
  |range=>simp
  |_=>simp
theorem z2q(h:¬zo6 l)(v:Int):atoiAll l≠.ok v:=by
 have Z:∀m:Bs,¬zo6 m->∀u,parseMag m≠.ok u:=by
  intro m hm u
  unfold parseMag
  split
  ·simp
  ·apply zo7
   rw[Bool.eq_false_iff]
   intro hd
   apply hm
   intro c hc
   rw[Ba]at hd
   have:=hd c hc
   simp[yd]at this;omega
 cases l with
 |nil=>exact absurd (λc hc=>by cases hc) h
 |cons c t=>
  unfold atoiAll
  simp only
  have hm:¬zo6 (if c.toNat=43\/c.toNat=45 then t else c::t):=by
   split
   ·rename_i hc
    intro ht
    apply h
    intro d hd
    rcases Ai.1 hd with rfl|hd
    ·omega
    ·exact ht d hd
   ·exact h
  have:=Z _ hm
  cases hp:parseMag (if c.toNat=43\/c.toNat=45 then t else c::t)with
  |ok u=>exact absurd hp (this u)
  |range=>simp
  |_=>simp
def zmq(l:Bs):Int×Bool:=if l.length<1\/9<l.length\/(1<l.length/\l.head?=some 48)then(0,false)else if l.all yd then((zr l:Int),true)else(0,false)
theorem zii(h:(zmq l).2=true):0<=(zmq l).1/\(zmq l).1<1000000000:=by
 unfold zmq at h ⊢
 split
 ·rename_i hc;rw[if_pos hc]at h;cases h
 ·rename_i hc
  rw[if_neg hc]at h
  split
  ·rename_i hd
   have:zr l<10 ^ 9:=Yo (by omega) hd
   simp only;omega
  ·rename_i hd;rw[if_neg hd]at h;cases h
end
end Go.X
end
section
namespace Go.X
section
theorem J3(gl:Fr)(s0:Bt)(Z:Bt)(R:Bool->Prop)
  (H:PC Tp gl 265 [Arg.mk .str s0,Arg.mk .str Z] [.int .i64] (λa:Int=>R (decide (a>=0)))):
  PC Tp gl 209 [Arg.mk .str s0,Arg.mk .str Z] [.bool] R:=
 PF ⟨[],[],[],[]⟩ [.tmp 4] 9 Tryz.func209 H
theorem za4(gl:Fr)(s0:Bt)(aa:Bt)(R:Int->Prop)
  (H:((aa.toList==(⟨#[]⟩:Bt).toList)=true->R (-1))/\((aa.toList==(⟨#[]⟩:Bt).toList)=false->(((aa.size:Int)==1)=true->(0<=(0:Int)/\(0:Int)<(aa.size:Int))/\∀a:Int->Prop,(∀b:Int,(PC Tp gl 269 [Arg.mk .str s0,Arg.mk (.int .i32) b] [.int .i64] (λc:Int=>R c))->a b)->((decide ((Aa .i32 (zb aa (0:Int).toNat))>=128))=true->a 65533)/\((decide ((Aa .i32 (zb aa (0:Int).toNat))>=128))=false->a (Aa .i32 (zb aa (0:Int).toNat))))/\(((aa.size:Int)==1)=false->∀d:Prop,((∃(e:(Bt×Nat)->Prop) (f:(Bt×Nat)->Nat),e (s0,0)/\∀Z:Bt×Nat,e Z->(((nxB Z.1 Z.2)=true->(nxB Z.1 Z.2)=true/\(nxB Z.1 Z.2)=true/\PC Tp gl 269 [Arg.mk .str aa,Arg.mk (.int .i32) (nxR Z.1 Z.2)] [.int .i64] (λg:Int=>(decide (g>=0)=true->R (Z.2:Int))/\(decide (g>=0)=false->(e (Z.1,nxP Z.1 Z.2)/\f (Z.1,nxP Z.1 Z.2)<f Z))))/\((nxB Z.1 Z.2)=false->R (-1))))->d)->PC Tp gl 293 [Arg.mk (.int .i64) (s0.size:Int)] [.bool] (λi:Bool=>(i=true->False)/\(i=false->d))))):
  PC Tp gl 265 [Arg.mk .str s0,Arg.mk .str aa] [.int .i64] R:=
 PF ⟨[],[],[(18,⟨[],[(45,[.dat .iter])],[],[1002880]⟩)],[(7,⟨[(5,.one (.dat (.int .i32)))],[],[],[100320]⟩),(17,⟨[],[],[],[]⟩)]⟩ [.tmp 4] 55 Tryz.func265 H
theorem Zj(gl:Fr)(s0:Bt)(r1:Int)(R:Int->Prop)
  (H:((bif (decide ((0:Int)<=r1))then(decide (r1<128))else false)=true->PC Tp gl 212 [Arg.mk .str s0,Arg.mk (.int .u8) (Aa .u8 r1)] [.int .i64] (λa:Int=>R a))/\((bif (decide ((0:Int)<=r1))then(decide (r1<128))else false)=false->((r1==65533)=true->∃(b:(Bt×Nat)->Prop) (c:(Bt×Nat)->Nat),b (s0,0)/\∀Z:Bt×Nat,b Z->(((nxB Z.1 Z.2)=true->(nxB Z.1 Z.2)=true/\(nxB Z.1 Z.2)=true/\(((nxR Z.1 Z.2:Int)==65533)=true->R (Z.2:Int))/\(((nxR Z.1 Z.2:Int)==65533)=false->(b (Z.1,nxP Z.1 Z.2)/\c (Z.1,nxP Z.1 Z.2)<c Z)))/\((nxB Z.1 Z.2)=false->R (-1))))/\((r1==65533)=false->PC Tp gl 300 [Arg.mk (.int .i32) r1] [.bool] (λd:Bool=>((!d)=true->R (-1))/\((!d)=false->False))))):
  PC Tp gl 269 [Arg.mk .str s0,Arg.mk (.int .i32) r1] [.int .i64] R:=
 PF ⟨[],[],[(38,⟨[],[(175,[.dat .iter])],[],[1011200]⟩)],[]⟩ [.tmp 4] 187 Tryz.func269 H
theorem Zq(gl:Fr)(Z:Int)(R:Bool->Prop)
  (H:R (decide (Z>8))):
  PC Tp gl 293 [Arg.mk (.int .i64) Z] [.bool] R:=
 PF ⟨[],[],[],[]⟩ [.tmp 2] 5 Tryz.func293 H
end
end Go.X
end
section
namespace Go.X
open Go Go.X Go.Proofs Go.RowKit
section
variable {gl:Fr} {R:Int -> Prop} {l:Bs}
theorem zgi{f:FuncId}{args:List Arg}{us:List Value}(aa:zd3 args=some us)(hR:∀n,R n)
  (H:∀w:World,Calls Tp f us.toArray w λe w'=>IR e/\Below w.heap.size w w'):PC Tp gl f args [.int .i64] R:=by
 intro h M vs hM ag ha
 rw[zb0 aa ha]
 refine XC.of_calls λB d=>(H (mk B d h)).mono ?_
 rintro e w' ⟨⟨n,rfl⟩,Z⟩
 have k:Keep h.size h w'.heap:=⟨Z.size,Z.block⟩
 exact⟨_,rfl,Z.os,Z.tape,Z.output,k,M,n,Fr.le.refl _,λ_ _=>rfl,ag.keep k,zvd _ _,hR n⟩
theorem zmr{r:Int}(hr:0<=r)(hR:∀n,R n):PC Tp gl 269 [Arg.mk .str (bl [43,45,95]),Arg.mk (.int .i32) r] [.int .i64] R:=by
 by_cases h1:r<128
 ·apply Zj
  have e:(bif decide ((0:Int)<=r)then decide (r<128)else false)=true:=by simp[hr,h1]
  rw[e]
  exact⟨λ_=>Wp (hR _),λhx=>by cases hx⟩
 ·by_cases h2:r=65533
  ·subst h2
   apply Zj
   refine⟨λ_=>Wp (hR _),λ_=>⟨λ_=>?_,λhx=>by cases hx⟩⟩
   refine⟨λq=>∃p:Nat,q=(bl [43,45,95],p),λq=>3-q.2,⟨0,rfl⟩,?_⟩
   rintro q ⟨p,rfl⟩
   simp only[zl8]
   refine⟨λhn=>⟨hn,hn,λ_=>hR _,λ_=>⟨⟨_,rfl⟩,?_⟩⟩,λ_=>hR _⟩
   have hp:p < [43,45,95].length:=by simpa using hn
   have Z:p<3:=hp
   rw[zia _ _ hp]
   have:=(xz (([43,45,95]:Bs).drop p)).1
   omega
  ·exact zgi (us:=[.string ⟨#[43,45,95]⟩,.int .i32 r]) rfl hR λw=>zo5 r w (by omega) h2
theorem zwi(w:World)(o1 o2:Obj):Below w.heap.size w ((w.alloc o1).alloc o2):=((Below.refl _ w).alloc (Ac _) o1).alloc (by show w.heap.size<=(w.heap.push o1).size;simp) o2
theorem zwj(l:Bs):(0:Int)<=((dec l).1:Int):=Int.natCast_nonneg _
theorem zwk(hl:l.length<=9){R:Bool->Prop}(h1:zo6 l->R (l.any λc=>[43,45,95].contains c))(h2:¬zo6 l->∀b,R b):PC Tp gl 209 [Arg.mk .str (bl l),Arg.mk .str (bl [43,45,95])] [.bool] R:=by
 have Z:∀(j:Nat) (b:UInt8),([43,45,95]:Bs)[j]?=some b->b.toNat<128:=by
  intro j b hb
  have:b∈([43,45,95]:Bs):=Bb hb
  simp at this
  rcases this with rfl|rfl|rfl <;> decide
 by_cases ha:zo6 l
 ·refine zg0 (s:=bl l) (c:=bl [43,45,95]) (by rw[zd];omega) (by rw[zd];decide) ?_ ?_ ?_
  ·rw[jj];exact λj b hb=>ha b (Bb hb)
  ·rw[jj];exact Z
  ·rw[jj,jj,Wx];exact h1 ha
 ·have hb:=h2 ha
  apply J3
  by_cases h8:l.length<=8
  ·apply za4
   have e1:((bl [43,45,95]).toList==(⟨#[]⟩:Bt).toList)=false:=by rw[z0f,jj];rfl
   have e2:((((bl [43,45,95]).size:Int))==1)=false:=by rw[zd];rfl
   rw[e1,e2]
   refine⟨λhx=>(by cases hx),λ_=>⟨λhx=>(by cases hx),λ_ K hK=>?_⟩⟩
   apply Zq
   have e3:decide (((bl l).size:Int)>8)=false:=by rw[zd];simp;omega
   rw[e3]
   refine⟨λhx=>(by cases hx),λ_=>hK ?_⟩
   refine⟨λq=>∃p:Nat,q=(bl l,p),λq=>l.length-q.2,⟨0,rfl⟩,?_⟩
   rintro q ⟨p,rfl⟩
   simp only[zl8]
   refine⟨λhn=>⟨hn,hn,?_⟩,λ_=>hb _⟩
   have hp:p<l.length:=by simpa using hn
   refine zmr (by rw[zqj];exact zwj _) λn=>⟨λ_=>hb _,λ_=>⟨⟨_,rfl⟩,?_⟩⟩
   rw[zia _ _ hp]
   have:=(xz (l.drop p)).1
   omega
  ·refine zgi (us:=[.string (bl l),.string (bl [43,45,95])]) rfl (λn=>hb _) λw=>?_
   have hz:=(zero_of_info (P:=Tp) (t:=169) (v:=.agg (Bf 256 (.bool false))) (n:=256) (by kernel_rfl)).1
   refine(Jo hz (bl l) (bl [43,45,95]) w (by rw[zd];decide) (by rw[zd];omega) (by rw[zd];omega) (by rw[zd];decide) Z).mono ?_
   rintro e w' ⟨rfl,rfl⟩
   exact⟨⟨_,rfl⟩,zwi w _ _⟩
theorem zwl:(bif (bif (l==[])then true else decide ((l.length:Int)>9))then true else(bif (!(l==[48]))then((((l[0]?).getD 0).toNat:Int)==48)else false))=decide (l.length<1\/9<l.length\/(1<l.length/\l.head?=some 48)):=by
 match l with
 |[]=>simp
 |[c]=>
  rw[AB,decide_eq_true_eq]
  by_cases hc:c=48
  ·subst hc;simp
  ·have:((c.toNat:Int)==48)=false:=by
    have:=zb9 (c:=c) (n:=48) 48 rfl
    unfold bne at this
    rw[<-Bool.not_not ((c.toNat:Int)==48),this];simp[hc]
   show(bif (bif ([c]==[])then true else decide ((([c]:Bs).length:Int)>9))then true else(bif (!([c]==[48]))then((c.toNat:Int)==48)else false))=true↔_
   rw[this];simp
 |c::d::t=>
  have e:((c.toNat:Int)==48)=(c==48):=by
   have:=zb9 (c:=c) (n:=48) 48 rfl
   unfold bne at this
   rw[<-Bool.not_not ((c.toNat:Int)==48),this,Bool.not_not]
  show(bif (bif ((c::d::t)==[])then true else decide (((c::d::t:Bs).length:Int)>9))then true else(bif (!((c::d::t)==[48]))then((c.toNat:Int)==48)else false))=_
  rw[e,AB,decide_eq_true_eq]
  have aa:¬(c::d::t:Bs).length<1:=by simp
  have Z:1<(c::d::t:Bs).length:=by simp
  have h1:((c::d::t:Bs)==[])=false:=rfl
  have h2:((c::d::t:Bs)==[48])=false:=by simp
  rw[h1,h2,cond_false,Bool.not_false,cond_true]
  generalize (c::d::t:Bs).length=n at *
  by_cases h9:9<n
  ·have:decide ((n:Int)>9)=true:=by simp;omega
   rw[this];simp[h9]
  ·have:decide ((n:Int)>9)=false:=by simp;omega
   rw[this,cond_false];simp[h9,aa,Z]
theorem zzc(h:l.any (λc=>[43,45,95].contains c)=false):∀c,l.head?=some c->c.toNat≠43/\c.toNat≠45:=by
 intro c hc
 rw[List.any_eq_false]at h
 have:=h c (List.mem_of_head? hc)
 constructor
 ·intro e
  have:c=43:=Cz.1 (by rw[e];rfl)
  subst this;exact absurd rfl ‹¬_›
 ·intro e
  have:c=45:=Cz.1 (by rw[e];rfl)
  subst this;exact absurd rfl ‹¬_›
theorem zms(h:l.all yd=true):zo6 l/\(l.any λc=>[43,45,95].contains c)=false:=by
 rw[Ba]at h
 constructor
 ·intro c hc
  have:=h c hc
  simp[yd]at this;omega
 ·rw[List.any_eq_false]
  intro c hc hm
  have h2:=h c hc
  simp[yd]at h2
  simp at hm
  rcases hm with rfl|rfl|rfl <;> revert h2 <;> decide
theorem zwm(hg:GL gl)(hl:l.length<=1048576){R:Int×Bool->Prop}(h:R (zmq l)):PC Tp gl 135 [Arg.mk .str (bl l)] [.int .i64,.bool] R:=by
 apply zec
 have af:∀s:Bs,((bl s).toList==(⟨#[48]⟩:Bt).toList)=(s==[48]):=λs=>by rw[show(⟨#[48]⟩:Bt)=bl [48]from rfl,z9q,jj]
 simp only[zd,zp,show(0:Int).toNat=0 from rfl,z0f,jj,af,zwl]
 refine⟨λhx=>⟨by omega,?_⟩,?_⟩
 ·simp at hx
  have:=Bl.2 hx.1.1
  omega
 unfold zmq at h
 by_cases Z:l.length<1\/9<l.length\/(1<l.length/\l.head?=some 48)
 ·rw[if_pos Z]at h
  rw[decide_eq_true Z]
  exact⟨λ_=>True,λhx=>(by cases hx),λr _=>⟨λ_=>h,λhx=>by cases hx⟩⟩
 ·rw[if_neg Z]at h
  rw[decide_eq_false Z]
  refine⟨λb=>(l.all yd=true->b=false)/\(l.all yd=false->b=false->∀v,Lib.atoiAll l≠.ok v),λ_=>?_,λb hb=>?_⟩
  ·refine zwk (by omega) (λha=>⟨λhd=>(zms hd).2,λhd hf=>z2p hd (zzc hf)⟩) (λab b=>⟨λhd=>absurd (zms hd).1 ab,λhd hf v=>z2q ab v⟩)
  ·obtain⟨ah,ae⟩:=hb rfl
   refine⟨λhx=>?_,λhx=>?_⟩
   ·have aa:b=true:=by simpa using hx
    cases hd:l.all yd with
    |true=>rw[ah hd]at aa;cases aa
    |false=>rw[hd,if_neg (by simp)]at h;exact h
   ·have ai:b=false:=by simpa using hx
    refine z1x hg.err (s:=bl l) (by rw[zd];omega) ?_
    rw[jj]
    unfold z1w
    cases hd:l.all yd with
    |true=>
     rw[z2o hd (by rintro rfl;simp at Z) (by omega)]
     rw[hd,if_pos rfl]at h
     exact⟨λhx=>(by cases hx),λ_=>h⟩
    |false=>
     rw[hd,if_neg (by simp)]at h
     have:=ae hd ai
     cases ha:Lib.atoiAll l with
     |ok v=>exact absurd ha (this v)
     |range=>exact⟨λ_=>h,λhx=>by cases hx⟩
     |_=>exact⟨λ_=>h,λhx=>by cases hx⟩
end
section
variable {gl:Fr} {l:Bs}
theorem zwn{gl M:Fr}(hg:zoh gl)(hM:Fr.le gl M){h:za}(ag:AgM M h){fn s:Bt}(hs:s.size<=281474976710656){b n:Int}{K:Value->za->Prop}(hK:∀t u h',Keep h.size h h'->K (.iface t u) h'):
  XC Tp 267 #[.string fn,.string s,.int .i64 b,.int .i64 n,.iface 287 (.int .i64 2)] h K:=by
 obtain⟨⟨cs,ev,e1,e2,e3⟩,_⟩:=hg
 refine XC.of_calls λB d=>(Yj fn s b n ev (mk B d h) hs (AgM.glob (w:=mk B d h) ag (hM _ _ e1) e2) e3).mono ?_
 rintro e w' ⟨N,rfl,h1,h2,Z⟩
 exact⟨_,rfl,Z.os,Z.tape,Z.output,hK _ _ _ ⟨Z.size,Z.block⟩⟩
theorem zex:∀{l:Bs} {c:UInt8} (n:Nat),c∈l->zca c=none->zef n l=none
 |x::l,c,n,hc,hv=>by
  show(match zca x with|some d=>zef (16*n+d) l|none=>none)=none
  rcases Ai.1 hc with rfl|hc
  ·rw[hv]
  ·cases zca x with
   |none=>rfl
   |some d=>exact zex _ hc hv
theorem zq2{c:UInt8}(h:c.toNat<48\/c=95\/128<=c.toNat):zca c=none:=by
 have h':c.toNat<48\/c.toNat=95\/128<=c.toNat:=by rcases h with h|rfl|h <;> simp[*]
 unfold zca
 rw[if_neg (by omega),if_neg (by omega),if_neg (by omega)]
theorem zmt(hg:GL gl)(hl:l.length=4){R:Int×Bool->Prop}(h1:∀n:Nat,zef 0 l=some n->R ((n:Int),true))(h2:zef 0 l=none->R (0,false)):
  PC Tp gl 329 [Arg.mk .str (bl l),Arg.mk (.int .i64) 16,Arg.mk (.int .i64) 32] [.int .u64,.err] R:=by
 intro h M vs hM ag ha
 match vs,ha with
 |[u1,u2,u3],⟨a1,a2,a3,_⟩=>
  obtain rfl:=xp a1
  obtain rfl:=qs a2
  obtain rfl:=qs a3
  apply PX.of
  apply Xo
  refine zo3 hl (λn h' e k=>?_) (λh' e k=>?_)
  ·exact⟨(n:Int),.nilIface,rfl,rfl,λhx=>(by cases hx),λ_=>⟨M,((n:Int),true),Later.same ag k,zl7 _ _,h1 n e⟩⟩
  ·refine⟨0,.iface _ _,rfl,rfl,λ_=>?_,λhx=>(by cases hx)⟩
   refine zwn hg.err hM (ag.keep k) (by rw[zd];omega) λt u h3 k3=>⟨_,rfl,M,(0,false),Later.same ag (k.trans k3 k.size),zoi _ _ _ _,h2 e⟩
theorem zwo(hg:GL gl)(hl:l.length<=1152921504606846976){R:Int×Bool->Prop}(h1:∀n:Nat,zeg l=some n->R ((n:Int),true))(h2:zeg l=none->∀v,R (v,false)):
  PC Tp gl 328 [Arg.mk .str (bl l)] [.int .i32,.bool] R:=by
 apply zkd
 simp only[zd,zt,show(0:Int).toNat=0 from rfl,show(4:Int).toNat=4 from rfl,BB,CU]
 by_cases h4:l.length<4
 ·have e:decide (((l.length:Nat):Int)<4)=true:=by rw[decide_eq_true_eq];omega
  have e9:zeg l=none:=by unfold zeg;rw[if_neg (by omega)]
  simp only[e]
  exact⟨λhx=>(by cases hx),λ_=>True,λhx=>(by cases hx),λr _=>⟨λ_=>h2 e9 0,λhx=>(by cases hx)⟩⟩
 ·have e:decide (((l.length:Nat):Int)<4)=false:=by rw[decide_eq_false_iff_not];omega
  simp only[e]
  have Z:zeg l=zef 0 (l.take 4):=by unfold zeg;rw[if_pos (by omega)]
  have ht:(l.take 4).length=4:=by rw[AO];omega
  refine⟨λ_=>⟨by omega,by omega,by omega⟩,λr=>r=true->zeg l=none,λ_=>?_,λr hr=>⟨λhx=>h2 (hr rfl hx) 0,λhx=>⟨⟨by omega,by omega,by omega⟩,?_⟩⟩⟩
  ·refine zwk (l:=l.take 4) (by omega) (λha hb=>?_) (λha b hb=>?_)
   ·obtain⟨c,hc,aa⟩:=List.any_eq_true.1 hb
    rw[Z]
    refine zex 0 hc (zq2 ?_)
    simp at aa
    rcases aa with rfl|rfl|rfl
    ·left;decide
    ·left;decide
    ·right;left;rfl
   ·rw[Z]
    have:∃c∈l.take 4,128<=c.toNat:=by
     refine CB λhn=>ha λc hc=>?_
     refine CB λh9=>hn ⟨c,hc,by omega⟩
    obtain⟨c,hc,aa⟩:=this
    exact zex 0 hc (zq2 (.inr (.inr aa)))
  ·refine zmt hg ht (λn e1=>?_) (λe1=>h2 (Z.trans e1) _)
   have hn:=zdf (Z.trans e1)
   have:=h1 n (Z.trans e1)
   rw[xh (by omega) (by omega)]
   exact this
end
section
variable {gl:Fr} {l:Bs} {n:Nat}
theorem zmu{s p:Bs}{R:Bool->Prop}(h:R (p.isPrefixOf s)):PC Tp gl 156 [Arg.mk .str (bl s),Arg.mk .str (bl p)] [.bool] R:=
 PC.of_scal rfl (λ_=>zqf _) (r:=p.isPrefixOf s) h λw hw=>by
  have:=zao (bl s) (bl p) w
  have e1:(bl s).data.toList=s:=jj s
  have e2:(bl p).data.toList=p:=jj p
  rw[e1,e2]at this
  exact this.mono λe w' ⟨h1,h2⟩=>⟨h1,h2 ▸ Below.refl _ _⟩
theorem z2r{a b:UInt8}(l:Bs):[a,b].isPrefixOf l=decide (l.take 2=[a,b]):=by
 match l with
 |[]=>rfl
 |[x]=>simp[List.isPrefixOf]
 |x::y::l=>
  simp only[List.isPrefixOf,Cd,DO,Bool.and_true,BP,and_true]
  rw[AB,AK,beq_iff_eq,beq_iff_eq,decide_eq_true_eq]
  constructor <;> (rintro⟨rfl,rfl⟩;exact⟨rfl,rfl⟩)
theorem zq3(h:zeg l=some n):4<=l.length:=by
 unfold zeg at h
 split at h
 ·assumption
 ·cases h
theorem zs8(hg:GL gl)(h2:2<=l.length)(hl:l.length<=1152921504606846976){R:Int×Int->Prop}(h:R (match z4h (l.drop 2)with|some (r,n)=>((r:Int),(n:Int))|none=>(0,0))):
  PC Tp gl 324 [Arg.mk .str (bl l)] [.int .i32,.int .i64] R:=by
 apply zej
 simp only[zd,zmd (show(2:Int)=((2:Nat):Int)from rfl),zmd (show(6:Int)=((6:Nat):Int)from rfl),zmd (show(8:Int)=((8:Nat):Int)from rfl)]
 refine⟨⟨by omega,by omega,by omega⟩,?_⟩
 unfold z4h at h
 refine zwo hg (by rw[As];omega) (λn e=>?_) (λe v=>?_)
 ·rw[e]at h
  have hn:=zdf e
  have h4:=zq3 e
  rw[As]at h4
  dsimp only at h
  intro K hK
  refine⟨λhx=>(by cases hx),λ_=>hK _ ?_⟩
  refine⟨λhx=>?_,λhx=>⟨λhy=>?_,λhy=>⟨⟨by omega,by omega,by omega⟩,?_⟩⟩⟩
  ·simp only[Bool.cond_eq_ite,Bool.if_false_right,AK,decide_eq_true_eq]at hx
   rw[if_pos (by omega)]at h
   exact h
  ·simp only[Bool.cond_eq_ite,Bool.if_false_right,Bo,decide_eq_false_iff_not,AK,Bool.if_true_left,A4,decide_eq_true_eq]at hx hy
   rw[if_neg (by omega),if_pos (by omega)]at h
   exact h
  ·simp only[Bool.cond_eq_ite,Bool.if_false_right,Bo,decide_eq_false_iff_not,AK,Bool.if_true_left,BG,decide_eq_true_eq]at hx hy
   rw[if_neg (by omega),if_neg (by omega)]at h
   rw[BE,BE]at h
   refine zmu ?_
   rw[z2r]
   refine⟨λhz=>?_,λhz=>⟨⟨by omega,?_,by omega⟩,?_⟩⟩
   ·rw[if_neg (by simpa using hz)]at h
    exact h
   ·have Z:(l.drop 6).take 2=[92,117]:=by simpa using hz
    have:=congrArg Cy Z
    simp only[AO,As,AH,CP]at this
    omega
   ·have Z:(l.drop 6).take 2=[92,117]:=by simpa using hz
    rw[if_pos Z]at h
    refine zwo hg (by rw[As];omega) (λm e2=>?_) (λe2 v=>?_)
    ·rw[show 2+6=8 from rfl,e2]at h
     have hm:=zdf e2
     dsimp only at h
     refine⟨λhw=>?_,λhw=>?_⟩
     ·simp only[Bool.cond_eq_ite,Bool.if_true_left,A4,decide_eq_true_eq,Bool.not_true,Bi,false_or]at hw
      rw[if_neg (show¬(56320<=m/\m<57344)by omega)]at h
      exact h
     ·simp only[Bool.cond_eq_ite,Bool.if_true_left,BG,decide_eq_false_iff_not,Bool.not_true,A4,Bi,decide_false,false_or,decide_eq_true_eq,Dk]at hw
      rw[if_pos (show 56320<=m/\m<57344 by omega)]at h
      dsimp only at h
      rw[xh (n:=(n:Int)-55296) (by omega) (by omega),xh (n:=((n:Int)-55296)*1024) (by omega) (by omega),xh (n:=65536+((n:Int)-55296)*1024) (by omega) (by omega),
       xh (n:=65536+((n:Int)-55296)*1024+(m:Int)) (by omega) (by omega),xh (by omega) (by omega)]
      have e5:(((65536+(n-55296)*1024+(m-56320):Nat):Int))=65536+((n:Int)-55296)*1024+(m:Int)-56320:=by omega
      rw[e5]at h
      exact h
    ·rw[show 2+6=8 from rfl,e2]at h
     exact⟨λ_=>h,λhw=>by simp at hw⟩
 ·rw[e]at h
  intro K hK
  exact⟨λ_=>hK _ ⟨λ_=>h,λhx=>by cases hx⟩,λhx=>by cases hx⟩
theorem u8i{c:UInt8}(hn:n<256):((c.toNat:Int)==(n:Int))=decide (c=BF n):=by
 rw[AB,beq_iff_eq,decide_eq_true_eq,u8n hn];omega
theorem zzd{c:UInt8}{R:Int×Bool->Prop}(h:R (match zxq c with|some r=>((r:Int),true)|none=>(0,false))):PC Tp gl 323 [Arg.mk (.int .u8) (c.toNat:Int)] [.int .i32,.bool] R:=by
 apply zg4
 have hc:=c.toNat_lt
 have q:∀n:Nat,n<256->((c.toNat:Int)==(n:Int))=decide (c=BF n):=λn hn=>u8i hn
 have ah:=q 34 (by omega);have af:=q 92 (by omega);have ai:=q 47 (by omega);have aj:=q 98 (by omega);have ab:=q 102 (by omega);have aa:=q 110 (by omega);have ae:=q 114 (by omega);have Z:=q 116 (by omega)
 simp only[Int.cast_ofNat_Int,show BF 34=34 from rfl,show BF 92=92 from rfl,show BF 47=47 from rfl,show BF 98=98 from rfl,show BF 102=102 from rfl,show BF 110=110 from rfl,show BF 114=114 from rfl,show BF 116=116 from rfl]at ah af ai aj ab aa ae Z
 rw[ah,af,ai,aj,ab,aa,ae,Z]
 unfold zxq at h
 intro K hK
 have yes:(c=34\/c=92\/c=47)->K true:=by
  intro h1
  apply hK
  rw[if_pos h1]at h
  rw[xh (by omega) (by omega)]
  exact⟨λ_=>h,λhx=>by cases hx⟩
 refine⟨λh1=>by rw[h1];exact yes (.inl (by simpa using h1)),λh1=>⟨λh2=>by rw[h2];exact yes (.inr (.inl (by simpa using h2))),λh2=>?_⟩⟩
 by_cases h3:c=47
 ·rw[decide_eq_true h3];exact yes (.inr (.inr h3))
 ·have hn:¬(c=34\/c=92\/c=47):=by
   rw[decide_eq_false_iff_not]at h1 h2
   rintro(h|h|h)
   ·exact h1 h
   ·exact h2 h
   ·exact h3 h
  rw[if_neg hn]at h
  rw[decide_eq_false h3]
  apply hK
  refine⟨λhx=>(by cases hx),λ_=>?_⟩
  by_cases a1:c=98
  ·rw[if_pos a1]at h;rw[decide_eq_true a1];exact⟨λ_=>h,λhx=>by cases hx⟩
  rw[if_neg a1]at h;rw[decide_eq_false a1];refine⟨λhx=>(by cases hx),λ_=>?_⟩
  by_cases a2:c=102
  ·rw[if_pos a2]at h;rw[decide_eq_true a2];exact⟨λ_=>h,λhx=>by cases hx⟩
  rw[if_neg a2]at h;rw[decide_eq_false a2];refine⟨λhx=>(by cases hx),λ_=>?_⟩
  by_cases a3:c=110
  ·rw[if_pos a3]at h;rw[decide_eq_true a3];exact⟨λ_=>h,λhx=>by cases hx⟩
  rw[if_neg a3]at h;rw[decide_eq_false a3];refine⟨λhx=>(by cases hx),λ_=>?_⟩
  by_cases a4:c=114
  ·rw[if_pos a4]at h;rw[decide_eq_true a4];exact⟨λ_=>h,λhx=>by cases hx⟩
  rw[if_neg a4]at h;rw[decide_eq_false a4];refine⟨λhx=>(by cases hx),λ_=>?_⟩
  by_cases a5:c=116
  ·rw[if_pos a5]at h;rw[decide_eq_true a5];exact⟨λ_=>h,λhx=>by cases hx⟩
  rw[if_neg a5]at h;rw[decide_eq_false a5];exact⟨λhx=>(by cases hx),λ_=>h⟩
end
section
variable {gl M:Fr} {l:Bs}
theorem zwp(hg:GL gl)(hl:l.length<=1152921504606846976){R:Int×Int->Prop}(h:R (match zy5 l with|some (r,n)=>((r:Int),(n:Int))|none=>(0,0))):
  PC Tp gl 315 [Arg.mk .str (bl l)] [.int .i32,.int .i64] R:=by
 apply zgh
 rw[zd]
 match l,hl,h with
 |[],_,h=>exact⟨λ_=>h,λhx=>by simp at hx⟩
 |[a],_,h=>exact⟨λ_=>h,λhx=>by simp at hx⟩
 |a::c::t,hl,h=>
  have Z:((a::c::t).length:Int)=t.length+2:=by simp;omega
  refine⟨λhx=>(by rw[decide_eq_true_eq]at hx;omega),λ_=>⟨⟨by omega,by omega⟩,?_⟩⟩
  have e1:zb (bl (a::c::t)) (1:Int).toNat=(c.toNat:Int):=by rw[zp];rfl
  rw[e1]
  refine zzd ?_
  unfold zy5 at h
  dsimp only at h
  cases e:zxq c with
  |some r=>
   rw[e]at h
   exact⟨λ_=>h,λhx=>(by cases hx)⟩
  |none=>
   rw[e]at h
   dsimp only at h
   refine⟨λhx=>(by cases hx),λ_=>⟨⟨by omega,by omega⟩,?_⟩⟩
   have e2:((c.toNat:Int)==117)=decide (c=117):=u8i (n:=117) (by omega)
   rw[e2]
   refine⟨λhx=>?_,λhx=>?_⟩
   ·rw[if_pos (by simpa using hx)]at h
    refine zs8 hg (by simp) hl ?_
    exact h
   ·rw[if_neg (by simpa using hx)]at h
    exact h
theorem z9s(h:l≠[]):Lib.decodeGo (bl l)=dec l:=by
 unfold Lib.decodeGo
 have hp:=Bl.2 h
 rw[if_neg (by rw[zd];omega),zqg,jj,BB]
theorem z2s(hg:GL gl)(Z:l≠[])(hl:l.length<=1152921504606846976){R:Int×Int->Prop}(h:R (match zas l with|some (r,n)=>((r:Int),(n:Int))|none=>(0,0))):
  PC Tp gl 291 [Arg.mk .str (bl l)] [.int .i32,.int .i64] R:=by
 apply zkc
 have hp:=Bl.2 Z
 rw[zd,zp,show(0:Int).toNat=0 from rfl,Z9 hp]
 refine⟨⟨by omega,by omega⟩,?_⟩
 have e2:((l[0].toNat:Int)==92)=decide (l[0]=92):=u8i (n:=92) (by omega)
 have hh:l.head?=some l[0]:=by cases l with
  |nil=>exact absurd rfl Z
  |cons a t=>rfl
 rw[e2]
 unfold zas at h
 rw[hh]at h
 refine⟨λhx=>?_,λhx=>?_⟩
 ·rw[if_pos (by rw[of_decide_eq_true hx])]at h
  exact zwp hg hl h
 ·rw[if_neg (by rw[Ab];exact of_decide_eq_false hx)]at h
  refine zl6 hg.tabs ?_
  rw[z9s Z]
  have eb:(bif (decide (((dec l).1:Int)<32))then true else(bif (((dec l).1:Int)==65533)then(((dec l).2:Int)==1)else false))=decide ((dec l).1<32\/zc9 (dec l)=true):=by
   rw[AB]
   unfold zc9
   simp only[Bool.cond_eq_ite,Bool.if_true_left,Bool.if_false_right,A4,AK,decide_eq_true_eq,beq_iff_eq]
   constructor
   ·rintro(h1|⟨h1,h2⟩)
    ·left;omega
    ·right;exact⟨by omega,by omega⟩
   ·rintro(h1|⟨h1,h2⟩)
    ·left;omega
    ·right;exact⟨by omega,by omega⟩
  rw[eb]
  refine⟨λhx=>?_,λhx=>?_⟩
  ·rw[if_pos (of_decide_eq_true hx)]at h;exact h
  ·rw[if_neg (of_decide_eq_false hx)]at h;exact h
theorem zq4(s:Bt)(i j:Int):zco M [.str,.int .i64,.int .i64] (s,i,j) (.tuple #[.string s,.int .i64 i,.int .i64 j]):=
 ⟨[_,_,_],⟨_,_,rfl,rdStr s,_,_,rfl,Wm _ i,_,rfl,Wm _ j⟩,rfl⟩
theorem zmv{k:IntKind}{r:Int×Int}{v:Value}(h:zco M [.int k,.int .i64] r v):v=.tuple #[.int k r.1,.int .i64 r.2]:=by
 obtain⟨vs,⟨v1,rest,rfl,hx,v2,rfl,hy⟩,rfl⟩:=h
 rw[qs hx,qs hy];rfl
set_option maxHeartbeats 1000000 in
theorem zq5(hg:GL gl){t:Bs}{a:Nat}(an:a<=1152921504606846976)(hl:t.length<=1099511627776){R:Bt×Int×Int->Prop}(hR:R (bl (qz t a).1,((qz t a).2.1:Int),(qz t a).2.2)):
  PC Tp gl 253 [Arg.mk .str (bl t),Arg.mk (.int .i64) (a:Int)] [.str,.int .i64,.int .i64] R:=by
 intro h M vs hM ag ha
 match vs,ha with
 |[u1,u2],⟨a1,a2,_⟩=>
  obtain rfl:=xp (s:=bl t) a1
  obtain rfl:=qs (i:=(a:Int)) a2
  apply PX.of
  apply zj7
  rw[zd,zp,Af]
  have aa:∀{k:Nat},k<t.length->(t.drop k).head?=some (t[k]?.getD 0):=λ {k} hk=>by
   rw[List.head?_drop,Ak hk];rfl
  have ai:∀k:Nat,(((t[k]?.getD 0).toNat:Int)==34)=decide (t[k]?.getD 0=34):=λk=>u8i (n:=34) (by omega)
  have aj:(((t[a]?.getD 0).toNat:Int) != 34)=!decide (t[a]?.getD 0=34):=by rw[bne,ai]
  rw[aj]
  refine⟨λhx=>?_,λhx=>?_,λhx=>?_⟩
  ·have:¬((a:Int)>=(t.length:Int)):=by simpa using hx
   exact⟨by omega,by omega⟩
  ·have hn:¬(t.drop a).head?=some 34:=by
    intro e
    have ab:a<t.length:=by
     rcases AF a t.length with h1|h1
     ·exact h1
     ·rw[AR h1]at e;cases e
    rw[aa ab]at e
    have e:=Aq e
    have hd:decide ((a:Int)>=(t.length:Int))=false:=by rw[decide_eq_false_iff_not];omega
    rw[hd,e]at hx
    simp at hx
   have e:qz t a=([],a,2):=by unfold qz;rw[if_neg hn]
   rw[e]at hR
   exact⟨M,(bl [],(a:Int),2),Later.refl ag,zq4 _ _ _,hR⟩
  ·have ab:a<t.length:=by
    rcases AF a t.length with h1|h1
    ·exact h1
    ·have hd:decide ((a:Int)>=(t.length:Int))=true:=by rw[decide_eq_true_eq];omega
     rw[hd]at hx;cases hx
   have hd:decide ((a:Int)>=(t.length:Int))=false:=by rw[decide_eq_false_iff_not];omega
   have hq:(t.drop a).head?=some 34:=by
    rw[aa ab]
    rw[hd]at hx
    congr 1
    simpa using hx
   have eA:qz t a=(let q:=zcb (t.drop (a+1));if q.2.2 then(q.1,a+1+q.2.1,0)else([],a+1+q.2.1,2)):=by unfold qz;rw[if_pos hq]
   rw[Qg ab (by omega)]
   intro h1
   have B1:Bld h1 h.size []:=Bld.new h
   have k1:Keep h.size h h1:=Keep.push _ _ (Ac _)
   clear_value h1
   refine⟨λi g=>∃(k:Nat) (out:Bs),i=(k:Int)/\k<=t.length/\out.length<=4*k/\Bld g h.size out/\Keep h.size h g/\qz t a=(let q:=zcb (t.drop k);if q.2.2 then(out++q.1,k+q.2.1,0)else([],k+q.2.1,2)),λi _=>t.length-i.toNat,⟨a+1,[],rfl,by omega,by simp,B1,k1,by rw[eA];rfl⟩,?_⟩
   rintro i g ⟨k,out,rfl,hk,ho,B,kg,er⟩
   simp only[Af]
   refine⟨λhx=>?_,λhx=>?_⟩
   ·have ae:k<t.length:=by rw[decide_eq_true_eq]at hx;omega
    have af:t.drop k≠[]:=by rw[<-Bl,As];omega
    refine⟨⟨by omega,by omega⟩,?_⟩
    rw[zp,ai]
    have Z:=zdg af
    rw[aa ae]at Z
    refine⟨λah=>?_,λah=>⟨⟨by omega,by omega,by omega⟩,?_⟩⟩
    ·rw[if_pos (by rw[of_decide_eq_true ah])]at Z
     rw[Z]at er
     refine zza B λh7 k7=>⟨_,rfl,M,(bl out,((k+1:Nat):Int),0),Later.same ag (kg.trans k7 (Ac _)),?_,?_⟩
     ·rw[Qg ae (by omega)];exact zq4 _ _ _
     ·rw[er]at hR
      simpa using hR
    ·rw[if_neg (by rw[Ab];exact of_decide_eq_false ah)]at Z
     have ex:(bl t).extract k t.length=bl (t.drop k):=zmd (n:=(k:Int)) rfl
     rw[ex]
     refine(z2s hg af (by rw[As];omega) (R:=λr=>r=(match zas (t.drop k)with|some (r,n)=>((r:Int),(n:Int))|none=>(0,0))) rfl).go hM (ag.keep kg) (yr (a:=Arg.mk .str _) (rdStr _) jq) λv h9 M9 r L hv hr=>?_
     obtain rfl:=zmv hv
     cases ep:zas (t.drop k)with
     |none=>
      rw[ep]at hr Z
      dsimp only at hr
      subst hr
      refine⟨_,_,rfl,λ_=>?_,λhz=>by cases hz⟩
      dsimp only at Z
      rw[Z]at er
      refine⟨M,(bl [],(k:Int),2),Later.same ag (kg.trans L.keep kg.size),zq4 _ _ _,?_⟩
      rw[er]at hR
      simpa using hR
     |some x=>
      obtain⟨c,n⟩:=x
      rw[ep]at hr Z
      dsimp only at hr
      subst hr
      obtain⟨n1,n2,n3,n4⟩:=Jn af ep
      rw[As]at n3
      dsimp only at Z
      refine⟨(c:Int),(n:Int),rfl,λhz=>?_,λ_=>?_⟩
      ·simp only[beq_iff_eq]at hz;omega
      refine zo1 (B.keep L.keep) (by omega) (by omega) (by omega) λap m ak am=>⟨_,_,rfl,?_,?_⟩
      ·refine⟨k+n,out++Lib.encodeRune (c:Int),?_,by omega,?_,ak,?_,?_⟩
       ·rw[w64 (by omega)];omega
       ·have h4:(Lib.encodeRune (c:Int)).length<=4:=by
         have:=(Lib.encodeRuneZ_length (c:Int)).2
         rw[Lib.encodeRune,AM];exact this
        rw[Ar];omega
       ·exact(kg.trans L.keep kg.size).trans am (Ac _)
       ·rw[er,Z,BE]
        dsimp only
        rw[Bj,DI]
      ·show t.length-(Aa .i64 ((k:Int)+(n:Int))).toNat<t.length-((k:Nat):Int).toNat
       rw[w64 (by omega)]
       omega
   ·have ae:k=t.length:=by rw[decide_eq_false_iff_not]at hx;omega
    rw[ae,DC,zmg]at er
    refine⟨M,(bl [],(t.length:Int),2),Later.same ag kg,zq4 _ _ _,?_⟩
    rw[er]at hR
    simpa using hR
end
section
variable {t:Bs} {gl:Fr}
def zze(t:Bs)(a:Int):Int×Int:=if a<0\/(t.length:Int)<a then(0,2)else((qz t a.toNat).2.1,(qz t a.toNat).2.2)
theorem zwq{R:Bt×Int×Int->Prop}(h:R (bl (Qt t).1,((Qt t).2.1:Int),(Qt t).2.2)):
  ((bif ((qz t 0).2.2==0)then(decide (((qz t 0).2.1:Int)<(t.length:Int)))else false)=true->R (bl [],((qz t 0).2.1:Int),2))/\((bif ((qz t 0).2.2==0)then(decide (((qz t 0).2.1:Int)<(t.length:Int)))else false)=false->R (bl (qz t 0).1,((qz t 0).2.1:Int),(qz t 0).2.2)):=by
 have e:(bif ((qz t 0).2.2==0)then(decide (((qz t 0).2.1:Int)<(t.length:Int)))else false)=decide ((qz t 0).2.2=0/\(qz t 0).2.1<t.length):=by
  rw[AB]
  simp only[Bool.cond_eq_ite,Bool.if_false_right,AK,decide_eq_true_eq,beq_iff_eq]
  omega
 rw[e]
 unfold Qt at h
 refine⟨λhx=>?_,λhx=>?_⟩
 ·rw[if_pos (of_decide_eq_true hx)]at h;exact h
 ·rw[if_neg (of_decide_eq_false hx)]at h;exact h
theorem zdn(hg:GL gl)(hl:t.length<=1099511627776){R:Bt×Int×Int->Prop}(h:R (bl (Qt t).1,((Qt t).2.1:Int),(Qt t).2.2)):
  PC Tp gl 196 [Arg.mk .str (bl t)] [.str,.int .i64,.int .i64] R:=by
 apply zei
 rw[zd]
 exact zq5 hg (a:=0) (by omega) hl (zwq h)
theorem z6k(hg:GL gl){a:Int}(hl:t.length<=1099511627776){R:Int×Int->Prop}(h:R (zze t a)):PC Tp gl 258 [Arg.mk .str (bl t),Arg.mk (.int .i64) a] [.int .i64,.int .i64] R:=by
 apply zmo
 rw[zd]
 have e:(bif (decide (a<0))then true else(decide (a>(t.length:Int))))=decide (a<0\/(t.length:Int)<a):=by
  rw[AB];simp only[Bool.cond_eq_ite,Bool.if_true_left,A4,decide_eq_true_eq]
 rw[e]
 unfold zze at h
 refine⟨λhx=>?_,λhx=>?_⟩
 ·rw[if_pos (of_decide_eq_true hx)]at h;exact h
 ·have hn:=of_decide_eq_false hx
  rw[if_neg hn]at h
  have ea:a=((a.toNat:Nat):Int):=by omega
  have:=zq5 hg (t:=t) (a:=a.toNat) (by omega) hl (R:=λZ=>R (Z.2.1,Z.2.2)) h
  rw[<-ea]at this
  exact this
theorem z9t{x:UInt8}:Aa .i64 ((x.toNat:Nat):Int)=(x.toNat:Int):=by
 have:=x.toNat_lt
 exact w64 (by omega)
set_option maxHeartbeats 1000000 in
theorem z0g{a:Nat}(ha:a<=2199023255552)(hl:t.length<=1099511627776){R:Int->Prop}(h:R (match zeg (t.drop a)with|some n=>(n:Int)|none=>-1)):PC Tp gl 262 [Arg.mk .str (bl t),Arg.mk (.int .i64) (a:Int)] [.int .i64] R:=by
 apply zdl
 rw[zd,w64 (n:=(t.length:Int)-4) (by omega)]
 refine⟨λhx=>?_,λhx=>?_⟩
 ·have hx:=of_decide_eq_true hx
  have e:zeg (t.drop a)=none:=by unfold zeg;rw[if_neg (by rw[As];omega)]
  rw[e]at h;exact h
 ·have hx:=of_decide_eq_false hx
  have h4:a+4<=t.length:=by omega
  have e4:zeg (t.drop a)=zef 0 ((t.drop a).take 4):=by unfold zeg;rw[if_pos (by rw[As];omega)]
  rw[w64 (n:=(a:Int)+4) (by omega)]
  refine⟨λn i=>∃j m:Nat,j<=4/\i=((a+j:Nat):Int)/\n=(m:Int)/\zef 0 ((t.drop a).take j)=some m,λn i=>a+4-i.toNat,⟨0,0,by omega,rfl,rfl,rfl⟩,?_⟩
  rintro n i ⟨j,m,hj,rfl,rfl,hm⟩
  have ai:m<65536:=by
   have:=zj0 hm
   have hp:((t.drop a).take j).length<=4:=by rw[AO];omega
   have:16 ^ ((t.drop a).take j).length<=16 ^ 4:=Nat.pow_le_pow_right (by omega) hp
   omega
  refine⟨λhc=>?_,λhc=>?_⟩
  ·have hc:=of_decide_eq_true hc
   have ab:j<4:=by omega
   have ah:a+j<t.length:=by omega
   rw[Af,zp,Z9 ah]
   generalize af:t[a+j]=c
   rw[z9t]
   have cl:=c.toNat_lt
   have aa:zef 0 ((t.drop a).take (j+1))=(zca c).map λd=>16*m+d:=by
    have hd:j<(t.drop a).length:=by rw[As];omega
    rw[AL hd,Jp,hm,Do,af]
    exact zq1 m c
   have step:∀d:Nat,d<16->zca c=some d->∀z:Int,z=((16*m+d:Nat):Int)->(∃Z ae:Nat,Z<=4/\Aa .i64 (((a+j:Nat):Int)+1)=((a+Z:Nat):Int)/\z=(ae:Int)/\zef 0 ((t.drop a).take Z)=some ae)/\a+4-(Aa .i64 (((a+j:Nat):Int)+1)).toNat<a+4-(((a+j:Nat):Int)).toNat:=by
    intro d hd hv z hz
    rw[hv]at aa
    rw[Qg (n:=a+4) (by omega) (by omega)]
    exact⟨⟨j+1,16*m+d,by omega,by omega,hz,aa⟩,by omega⟩
   refine⟨⟨by omega,by omega⟩,λe=>?_,λe=>⟨λe2=>?_,λe2=>⟨λe3=>?_,λe3=>?_⟩⟩⟩
   ·have e:48<=c.toNat/\c.toNat<=57:=by
     simp only[Bool.cond_eq_ite,Bool.if_false_right,AK,decide_eq_true_eq]at e;omega
    refine step (c.toNat-48) (by omega) (by unfold zca;rw[if_pos e]) _ ?_
    rw[w64 (n:=16*(m:Int)) (by omega),w64 (n:=16*(m:Int)+(c.toNat:Int)) (by omega),w64 (by omega)];omega
   ·have e:¬(48<=c.toNat/\c.toNat<=57):=by
     simp only[Bool.cond_eq_ite,Bool.if_false_right,Bo,decide_eq_false_iff_not,AK,decide_eq_true_eq]at e;omega
    have e2:97<=c.toNat/\c.toNat<=102:=by
     simp only[Bool.cond_eq_ite,Bool.if_false_right,AK,decide_eq_true_eq]at e2;omega
    refine step (c.toNat-87) (by omega) (by unfold zca;rw[if_neg e,if_pos e2]) _ ?_
    rw[w64 (n:=16*(m:Int)) (by omega),w64 (n:=16*(m:Int)+(c.toNat:Int)) (by omega),w64 (n:=16*(m:Int)+(c.toNat:Int)-97) (by omega),w64 (by omega)];omega
   ·have e:¬(48<=c.toNat/\c.toNat<=57):=by
     simp only[Bool.cond_eq_ite,Bool.if_false_right,Bo,decide_eq_false_iff_not,AK,decide_eq_true_eq]at e;omega
    have e2:¬(97<=c.toNat/\c.toNat<=102):=by
     simp only[Bool.cond_eq_ite,Bool.if_false_right,Bo,decide_eq_false_iff_not,AK,decide_eq_true_eq]at e2;omega
    have e3:65<=c.toNat/\c.toNat<=70:=by
     simp only[Bool.cond_eq_ite,Bool.if_false_right,AK,decide_eq_true_eq]at e3;omega
    refine step (c.toNat-55) (by omega) (by unfold zca;rw[if_neg e,if_neg e2,if_pos e3]) _ ?_
    rw[w64 (n:=16*(m:Int)) (by omega),w64 (n:=16*(m:Int)+(c.toNat:Int)) (by omega),w64 (n:=16*(m:Int)+(c.toNat:Int)-65) (by omega),w64 (by omega)];omega
   ·have e:¬(48<=c.toNat/\c.toNat<=57):=by
     simp only[Bool.cond_eq_ite,Bool.if_false_right,Bo,decide_eq_false_iff_not,AK,decide_eq_true_eq]at e;omega
    have e2:¬(97<=c.toNat/\c.toNat<=102):=by
     simp only[Bool.cond_eq_ite,Bool.if_false_right,Bo,decide_eq_false_iff_not,AK,decide_eq_true_eq]at e2;omega
    have e3:¬(65<=c.toNat/\c.toNat<=70):=by
     simp only[Bool.cond_eq_ite,Bool.if_false_right,Bo,decide_eq_false_iff_not,AK,decide_eq_true_eq]at e3;omega
    have hv:zca c=none:=by unfold zca;rw[if_neg e,if_neg e2,if_neg e3]
    have hb:zeg (t.drop a)=none:=by
     rw[e4]
     have hd:a+j<t.length:=ah
     refine zex 0 (c:=c) ?_ hv
     rw[<-af,<-Do (i:=a) (j:=j) (xs:=t) (h:=by rw[As];omega)]
     exact List.mem_take_iff_getElem.2 ⟨j,by rw[As];omega,rfl⟩
    rw[hb]at h;exact h
  ·have hc:=of_decide_eq_false hc
   have ab:j=4:=by omega
   subst ab
   rw[e4,hm]at h
   exact h
end
section
variable {n:Nat} {gl:Fr}
theorem z2t(h:n<55296\/(57344<=n/\n<=1114111)):Dc (n:Int)=bl (Lib.encodeRune (n:Int)):=by
 have hv:Utf8.valid (n:Int)=true:=by
  unfold Utf8.valid
  simp only[A4,AK,decide_eq_true_eq]
  omega
 unfold Dc Lib.encodeRune
 simp only[hv,if_true,Af]
 have tb:∀(z:Int) (k:Nat),z=(k:Int)->z.toNat.toUInt8=BF k:=λz k e=>by subst e;rfl
 by_cases h1:n<128
 ·rw[if_pos (by omega),Lib.encodeRuneZ_one (by omega) (by omega)]
  simp only[BZ,D3,tb (n:Int) n rfl]
 ·rw[if_neg (by omega)]
  by_cases h2:n<2048
  ·rw[if_pos (by omega),Lib.encodeRuneZ_two (by omega) (by omega)]
   simp only[BZ,D3,tb (192+(n:Int) / 64) (192+n / 64) (by omega),tb (128+(n:Int) % 64) (128+n % 64) (by omega)]
  ·rw[if_neg (by omega)]
   by_cases h3:n<65536
   ·rw[if_pos (by omega),Lib.encodeRuneZ_three (by omega)]
    simp only[BZ,D3,tb (224+(n:Int) / 4096) (224+n / 4096) (by omega),tb (128+(n:Int) / 64 % 64) (128+n / 64 % 64) (by omega),tb (128+(n:Int) % 64) (128+n % 64) (by omega)]
   ·rw[if_neg (by omega),Lib.encodeRuneZ_four (by omega) (by omega)]
    simp only[BZ,D3,tb (240+(n:Int) / 262144) (240+n / 262144) (by omega),tb (128+(n:Int) / 4096 % 64) (128+n / 4096 % 64) (by omega),tb (128+(n:Int) / 64 % 64) (128+n / 64 % 64) (by omega),tb (128+(n:Int) % 64) (128+n % 64) (by omega)]
theorem zwr(h:n<55296\/(57344<=n/\n<=1114111)){R:Bt->Prop}(hR:R (bl (Lib.encodeRune (n:Int)))):PC Tp gl 263 [Arg.mk (.int .i64) (n:Int)] [.str] R:=by
 apply zdm
 rw[xh (by omega) (by omega),z2t h]
 exact hR
def escF:Bs:=[34,92,47,98,102,110,114,116]
def escT:Bs:=[34,92,47,8,12,10,13,9]
theorem z2u:∀k:Fin 8,zxq (escF.getD k.val 0)=some (escT.getD k.val 0).toNat:=by decide
theorem z6l{c:UInt8}(h:∀j:Nat,j<8->escF.getD j 0≠c):zxq c=none:=by
 have q:∀j:Nat,j<8->c≠escF.getD j 0:=λj hj e=>h j hj e.symm
 have q0:=q 0 (by omega);have q1:=q 1 (by omega);have q2:=q 2 (by omega);have q3:=q 3 (by omega);have q4:=q 4 (by omega);have q5:=q 5 (by omega);have q6:=q 6 (by omega);have q7:=q 7 (by omega)
 simp only[escF,List.getD_cons_zero,List.getD_cons_succ]at q0 q1 q2 q3 q4 q5 q6 q7
 unfold zxq
 rw[if_neg (by rintro(h|h|h) <;> contradiction),if_neg q3,if_neg q4,if_neg q5,if_neg q6,if_neg q7]
theorem u8j{a b:UInt8}:((a.toNat:Int)==(b.toNat:Int))=decide (a=b):=by
 rw[AB,beq_iff_eq,decide_eq_true_eq,qa3];omega
set_option maxHeartbeats 1000000 in
theorem zs9{t:Bs}{a:Nat}(ha:a<t.length)(hl:t.length<=1099511627776){R:Bt×Int->Prop}(h:R (match zy5 (t.drop a)with|some (r,n)=>(bl (Lib.encodeRune (r:Int)),(n:Int))|none=>(bl [],0))):
  PC Tp gl 205 [Arg.mk .str (bl t),Arg.mk (.int .i64) (a:Int)] [.str,.int .i64] R:=by
 apply Xr
 have eF:(⟨#[34,92,47,98,102,110,114,116]⟩:Bt)=bl escF:=rfl
 have eT:(⟨#[34,92,47,8,12,10,13,9]⟩:Bt)=bl escT:=rfl
 rw[eF,eT]
 have lF:(escF.length:Int)=8:=rfl
 have lT:(escT.length:Int)=8:=rfl
 simp only[zd,lF,lT,w64 (n:=(a:Int)+1) (by omega),w64 (n:=(a:Int)+2) (by omega),w64 (n:=(a:Int)+6) (by omega),w64 (n:=(a:Int)+7) (by omega),w64 (n:=(a:Int)+8) (by omega)]
 refine⟨λhx=>?_,λhx=>?_⟩
 ·have hx:=of_decide_eq_true hx
  have e:t.drop a=[t[a]]:=by
   rw[Ay ha,AR (by omega)]
  rw[e]at h
  exact h
 have hx:=of_decide_eq_false hx
 have h1:a+1<t.length:=by omega
 have ed:t.drop a=t[a]::t[a+1]::t.drop (a+2):=by rw[Ay ha,Ay h1]
 rw[ed]at h
 unfold zy5 at h
 dsimp only at h
 have b1:zb (bl t) ((a:Int)+1).toNat=(t[a+1].toNat:Int):=by
  rw[zp,show((a:Int)+1).toNat=a+1 by omega,Z9 h1]
 rw[b1]
 generalize t[a+1]=c at h b1 ⊢
 refine⟨λi=>∃k:Nat,k<=8/\i=(k:Int)/\∀j,j<k->escF.getD j 0≠c,λi=>8-i.toNat,⟨0,by omega,rfl,λj hj=>by omega⟩,?_⟩
 rintro i ⟨k,hk,rfl,hn⟩
 refine⟨λhc=>?_,λhc=>?_⟩
 ·have hc:=of_decide_eq_true hc
  have Z:k<8:=by omega
  have b2:zb (bl escF) (k:Int).toNat=((escF.getD k 0).toNat:Int):=by rw[zp,Af,Cp]
  rw[b2,u8j,Qg (n:=8) Z (by omega)]
  refine⟨⟨by omega,by omega⟩,⟨by omega,by omega⟩,λhe=>⟨⟨by omega,by omega,by omega⟩,?_⟩,λhe=>⟨⟨k+1,by omega,rfl,λj hj=>?_⟩,by show 8-((k+1:Nat):Int).toNat<8-((k:Nat):Int).toNat;omega⟩⟩
  ·have he:=of_decide_eq_true he
   have ht:=z2u ⟨k,Z⟩
   dsimp only at ht
   rw[<-he]at ht
   rw[ht]at h
   dsimp only at h
   have ex:(bl escT).extract (k:Int).toNat ((k+1:Nat):Int).toNat=bl (Lib.encodeRune (((escT.getD k 0).toNat:Nat):Int)):=by
    rw[zt,Af,Af]
    have:∀k:Fin 8,(escT.drop k.val).take (k.val+1-k.val)=Lib.encodeRune (((escT.getD k.val 0).toNat:Nat):Int):=by decide
    rw[this ⟨k,Z⟩]
   rw[ex];exact h
  ·have he:=of_decide_eq_false he
   rcases AF j k with h9|h9
   ·exact hn j h9
   ·have:j=k:=by omega
    subst this
    exact λe=>he e.symm
 ·have hc:=of_decide_eq_false hc
  have Z:k=8:=by omega
  subst Z
  rw[z6l hn]at h
  dsimp only at h
  have ab:((c.toNat:Int) != 117)=!decide (c=117):=by rw[bne,show((c.toNat:Int)==117)=decide (c=117)from u8i (n:=117) (by omega)]
  rw[ab]
  refine⟨⟨by omega,by omega⟩,λhy=>?_,λhy=>?_⟩
  ·rw[if_neg (by simpa using hy)]at h;exact h
  rw[if_pos (by simpa using hy)]at h
  unfold z4h at h
  have s2:(a:Int)+2=((a+2:Nat):Int):=rfl
  have s8:(a:Int)+8=((a+8:Nat):Int):=rfl
  rw[s2]
  refine z0g (by omega) hl ?_
  cases e1:zeg (t.drop (a+2))with
  |none=>
   rw[e1]at h
   exact⟨λ_=>h,λhz=>by simp at hz⟩
  |some n=>
   rw[e1]at h
   have ah:=zdf e1
   have af:=zq3 e1
   rw[As]at af
   dsimp only at h ⊢
   refine⟨λhz=>?_,λhz=>⟨λhw=>?_,λhw=>?_⟩⟩
   ·simp only[Bool.cond_eq_ite,Bool.if_true_left,Bool.if_false_right,A4,AK,decide_eq_true_eq]at hz
    rw[if_pos (by omega)]at h;exact h
   ·simp only[Bool.cond_eq_ite,Bool.if_true_left,Bool.if_false_right,A4,BG,Bo,decide_eq_false_iff_not,decide_eq_true_eq]at hz hw
    rw[if_neg (by omega),if_pos (by omega)]at h
    exact zwr (by omega) h
   ·simp only[Bool.cond_eq_ite,Bool.if_true_left,Bool.if_false_right,A4,BG,Bo,decide_eq_false_iff_not,decide_eq_true_eq]at hz hw
    rw[if_neg (by omega),if_neg (by omega)]at h
    have gb:∀k,a+k<t.length->zb (bl t) ((a:Int)+(k:Int)).toNat=((t[a+k]?.getD 0).toNat:Int):=λk hk=>by rw[zp,show((a:Int)+(k:Int)).toNat=a+k by omega]
    have g6:=gb 6;have g7:=gb 7
    simp only[Int.cast_ofNat_Int]at g6 g7
    by_cases h7:a+7<t.length
    ·have d7:decide ((a:Int)+7>=(t.length:Int))=false:=by rw[decide_eq_false_iff_not];omega
     rw[d7,g6 (by omega),g7 h7]
     have ae:(((t[a+6]?.getD 0).toNat:Int) != 92)=!decide (t[a+6]?.getD 0=92):=by rw[bne,show(((t[a+6]?.getD 0).toNat:Int)==92)=decide (t[a+6]?.getD 0=92)from u8i (n:=92) (by omega)]
     have aa:(((t[a+7]?.getD 0).toNat:Int) != 117)=!decide (t[a+7]?.getD 0=117):=by rw[bne,show(((t[a+7]?.getD 0).toNat:Int)==117)=decide (t[a+7]?.getD 0=117)from u8i (n:=117) (by omega)]
     rw[ae,aa]
     have e2:((t.drop (a+2)).drop 4).take 2=[t[a+6]?.getD 0,t[a+7]?.getD 0]:=by
      rw[BE,show a+2+4=a+6 by omega,Ay (by omega),Ay (by omega),Z9 (by omega),Z9 h7];rfl
     rw[e2,BE]at h
     refine⟨λ_=>⟨by omega,by omega⟩,λ_=>⟨by omega,by omega⟩,λhv=>?_,λhv=>?_⟩
     ·rw[if_neg (by
       intro e3
       simp only[BP,and_true]at e3
       rw[e3.1,e3.2]at hv;simp at hv)]at h
      exact h
     ·have e3:t[a+6]?.getD 0=92/\t[a+7]?.getD 0=117:=by simpa using hv
      rw[if_pos (by rw[e3.1,e3.2])]at h
      rw[s8]
      refine z0g (by omega) hl ?_
      rw[show a+2+6=a+8 by omega]at h
      cases e4:zeg (t.drop (a+8))with
      |none=>rw[e4]at h;exact⟨λ_=>h,λhu=>by simp at hu⟩
      |some m=>
       rw[e4]at h
       have ai:=zdf e4
       dsimp only at h ⊢
       refine⟨λhu=>?_,λhu=>?_⟩
       ·simp only[Bool.cond_eq_ite,Bool.if_true_left,A4,decide_eq_true_eq]at hu
        rw[if_neg (by omega)]at h;exact h
       ·simp only[Bool.cond_eq_ite,Bool.if_true_left,BG,decide_eq_false_iff_not,A4,decide_eq_true_eq]at hu
        rw[if_pos (by omega)]at h
        rw[w64 (n:=(n:Int)-55296) (by omega),w64 (n:=1024*((n:Int)-55296)) (by omega),w64 (n:=65536+1024*((n:Int)-55296)) (by omega),w64 (n:=65536+1024*((n:Int)-55296)+(m:Int)) (by omega),w64 (by omega)]
        have e5:65536+1024*((n:Int)-55296)+(m:Int)-56320=((65536+(n-55296)*1024+(m-56320):Nat):Int):=by omega
        rw[e5]
        exact zwr (by omega) h
    ·have d7:decide ((a:Int)+7>=(t.length:Int))=true:=by rw[decide_eq_true_eq];omega
     rw[d7]
     have e2:((t.drop (a+2)).drop 4).take 2≠[92,117]:=by
      intro e
      have:=congrArg Cy e
      simp only[AO,As,AH,CP]at this
      omega
     rw[if_neg e2]at h
     exact⟨λhv=>(by cases hv),λhv=>(by cases hv),λ_=>h,λhv=>(by cases hv)⟩
end
section
variable {t:Bs} {k:Nat} {gl:Fr}
theorem z6m{c:UInt8}{l:Bs}(h:128<=c.toNat):128<=(dec (c::l)).1:=by
 unfold dec
 have e:((c::l).getD 0 0).toNat=c.toNat:=rfl
 rw[e]
 unfold Lib.decodeN
 have:=c.toNat_lt
 repeat' split
 all_goals (simp only[Utf8.runeError]at *;omega)
theorem head_drop(hk:k<t.length):(t.drop k).head?=some t[k]:=by
 rw[List.head?_drop,Ak hk]
theorem z2v(hk:k<t.length):t.drop k≠[]:=by rw[<-Bl,As];omega
theorem zws(hk:k<t.length):decide ((dec (t.drop k)).1<32\/zc9 (dec (t.drop k))=true)=(bif decide ((t[k].toNat:Int)<32)then true else !(!zc9 (dec (t.drop k)))):=by
 rw[Bool.not_not]
 have hd:t.drop k=t[k]::t.drop (k+1):=Ay hk
 rcases AF t[k].toNat 128 with h1|h1
 ·have e:dec (t.drop k)=(t[k].toNat,1):=by rw[hd];exact Yi h1
  have hb:zc9 (dec (t.drop k))=false:=by rw[hd];exact zh8 h1
  rw[hb,e,AB]
  cases hq:decide ((t[k].toNat:Int)<32)with
  |true=>have:=of_decide_eq_true hq;simp;omega
  |false=>have:=of_decide_eq_false hq;simp;omega
 ·have e:¬(dec (t.drop k)).1<32:=by rw[hd];have:=z6m (l:=t.drop (k+1)) h1;omega
  have e2:decide ((t[k].toNat:Int)<32)=false:=by rw[decide_eq_false_iff_not];omega
  rw[e2,AB]
  simp only[e,false_or,decide_eq_true_eq,cond_false]
set_option maxHeartbeats 1000000 in
theorem zq6{a:Nat}(aj:a<=1099511627776)(hl:t.length<=1099511627776){R:Bt×Int×Int->Prop}(hR:R (bl (qz t a).1,((qz t a).2.1:Int),(qz t a).2.2)):
  PC Tp gl 131 [Arg.mk .str (bl t),Arg.mk (.int .i64) (a:Int)] [.str,.int .i64,.int .i64] R:=by
 apply zck
 have e0:(⟨#[]⟩:Bt)=bl []:=rfl
 rw[zd,e0,Af]
 rcases AF a t.length with ab|af
 ·have hd:decide ((a:Int)>=(t.length:Int))=false:=by rw[decide_eq_false_iff_not];omega
  have ah:((zb (bl t) a) != 34)=!decide (t[a]=34):=by rw[zp,Z9 ab,bne,show((t[a].toNat:Int)==34)=decide (t[a]=34)from u8i (n:=34) (by omega)]
  rw[hd,ah]
  refine⟨λ_=>⟨by omega,by omega⟩,λhx=>?_,λhx=>?_⟩
  ·have:¬t[a]=34:=by simpa using hx
   have e:qz t a=([],a,2):=by unfold qz;rw[if_neg (by rw[head_drop ab,Ab];exact this)]
   rw[e]at hR;exact hR
  ·have ai:t[a]=34:=by simpa using hx
   have eA:qz t a=(let q:=zcb (t.drop (a+1));if q.2.2 then(q.1,a+1+q.2.1,0)else([],a+1+q.2.1,2)):=by unfold qz;rw[if_pos (by rw[head_drop ab,ai])]
   rw[Qg ab (by omega)]
   refine⟨λo i=>∃(k:Nat) (out:Bs),i=(k:Int)/\o=bl out/\k<=t.length/\out.length<=4*k/\qz t a=(let q:=zcb (t.drop k);if q.2.2 then(out++q.1,k+q.2.1,0)else([],k+q.2.1,2)),λ_ i=>t.length-i.toNat,⟨a+1,[],rfl,rfl,by omega,by simp,by rw[eA];rfl⟩,?_⟩
   rintro o i ⟨k,out,rfl,rfl,hk,ho,er⟩
   simp only[Af,zd]
   refine⟨λhx=>?_,λhx=>?_⟩
   ·have aa:k<t.length:=by have:=of_decide_eq_true hx;omega
    have ae:=z2v aa
    have Z:=zdg ae
    rw[head_drop aa]at Z
    have b0:zb (bl t) k=(t[k].toNat:Int):=by rw[zp,Z9 aa]
    simp only[b0,show((t[k].toNat:Int)==34)=decide (t[k]=34)from u8i (n:=34) (by omega),show((t[k].toNat:Int)==92)=decide (t[k]=92)from u8i (n:=92) (by omega)]
    refine⟨⟨by omega,by omega⟩,λh3=>?_,λh3=>⟨⟨by omega,by omega⟩,λh9=>?_,λh9=>?_⟩⟩
    ·rw[if_pos (by rw[of_decide_eq_true h3])]at Z
     rw[Z]at er
     rw[Qg aa (by omega)]
     rw[er]at hR
     simpa using hR
    ·rw[if_neg (by rw[Ab];exact of_decide_eq_false h3)]at Z
     have ep:zas (t.drop k)=zy5 (t.drop k):=by unfold zas;rw[if_pos (by rw[head_drop aa,of_decide_eq_true h9])]
     rw[ep]at Z
     refine zs9 aa hl ?_
     cases e1:zy5 (t.drop k)with
     |none=>
      rw[e1]at Z
      refine⟨λ_=>?_,λhz=>(by cases hz)⟩
      dsimp only at Z
      rw[Z]at er
      rw[er]at hR
      simpa using hR
     |some x=>
      obtain⟨c,n⟩:=x
      rw[e1]at Z
      obtain⟨n1,n2,n3,n4⟩:=zic e1
      rw[As]at n3
      have h4:(Lib.encodeRune (c:Int)).length<=4:=by
       have:=(Lib.encodeRuneZ_length (c:Int)).2
       rw[Lib.encodeRune,AM];exact this
      dsimp only at Z ⊢
      refine⟨λhz=>by simp only[beq_iff_eq]at hz;omega,λ_=>⟨zvt (by rw[zd];omega),?_⟩⟩
      rw[w64 (n:=(k:Int)+(n:Int)) (by omega)]
      refine⟨⟨k+n,out++Lib.encodeRune (c:Int),rfl,y0 _ _,by omega,by rw[Ar];omega,?_⟩,by omega⟩
      rw[er,Z,BE]
      dsimp only
      rw[Bj,DI]
    ·rw[if_neg (by rw[Ab];exact of_decide_eq_false h3)]at Z
     have ep:zas (t.drop k)=if(dec (t.drop k)).1<32\/zc9 (dec (t.drop k))=true then none else some (dec (t.drop k)):=by unfold zas;rw[if_neg (by rw[head_drop aa,Ab];exact of_decide_eq_false h9)]
     rw[ep]at Z
     refine z1v (a:=k) (by rw[zd];exact aa) (by rw[zd];omega) ?_
     have eg:zys (bl t) k=!zc9 (dec (t.drop k)):=by unfold zys;rw[jj]
     rw[eg,<-zws aa]
     refine⟨⟨by omega,by omega⟩,λhz=>?_,λhz=>?_⟩
     ·rw[if_pos (of_decide_eq_true hz)]at Z
      dsimp only at Z
      rw[Z]at er
      rw[er]at hR
      simpa using hR
     ·have hz:=of_decide_eq_false hz
      rw[if_neg hz]at Z
      refine zvh (by rw[zd];omega) ?_
      have en:zsp (bl t) (k:Int)=(((dec (t.drop k)).1:Int),((dec (t.drop k)).2:Int)):=by
       unfold zsp;rw[if_neg (by rw[zd];omega),jj,Af]
      rw[en]
      have d1:=xz (t.drop k)
      have d2:=zqh ae
      rw[As]at d2
      dsimp only at Z ⊢
      rw[w64 (n:=(k:Int)+((dec (t.drop k)).2:Int)) (by omega)]
      have ek:((k:Int)+((dec (t.drop k)).2:Int)).toNat=k+(dec (t.drop k)).2:=by omega
      have ex:(bl t).extract k (k+(dec (t.drop k)).2)=bl (Lib.encodeRune ((dec (t.drop k)).1:Int)):=by
       rw[zt,show k+(dec (t.drop k)).2-k=(dec (t.drop k)).2 by omega,z2a ae (by
        cases hb:zc9 (dec (t.drop k))with
        |false=>rfl
        |true=>exact absurd (.inr hb) hz)]
      rw[ek,ex]
      have h4:(Lib.encodeRune ((dec (t.drop k)).1:Int)).length<=4:=by
       have:=(Lib.encodeRuneZ_length ((dec (t.drop k)).1:Int)).2
       rw[Lib.encodeRune,AM];exact this
      refine⟨⟨by omega,by omega,by omega⟩,zvt (by rw[zd];omega),⟨k+(dec (t.drop k)).2,out++Lib.encodeRune ((dec (t.drop k)).1:Int),rfl,y0 _ _,by omega,by rw[Ar];omega,?_⟩,by omega⟩
      rw[er,Z,BE]
      dsimp only
      rw[Bj,DI]
   ·have aa:k=t.length:=by have:=of_decide_eq_false hx;omega
    rw[aa,DC,zmg]at er
    rw[er]at hR
    simpa using hR
 ·have hd:decide ((a:Int)>=(t.length:Int))=true:=by rw[decide_eq_true_eq];omega
  rw[hd]
  have e:qz t a=([],a,2):=by unfold qz;rw[if_neg (by rw[AR af];exact λh=>by cases h)]
  rw[e]at hR
  exact⟨λhx=>(by cases hx),λ_=>hR,λhx=>(by cases hx)⟩
theorem za5(hl:t.length<=1099511627776){R:Bt×Int×Int->Prop}(h:R (bl (Qt t).1,((Qt t).2.1:Int),(Qt t).2.2)):
  PC Tp gl 69 [Arg.mk .str (bl t)] [.str,.int .i64,.int .i64] R:=by
 apply Ww
 rw[zd]
 exact zq6 (a:=0) (by omega) hl (zwq h)
theorem z2w{a:Int}(hl:t.length<=1099511627776){R:Int×Int->Prop}(h:R (zze t a)):PC Tp gl 202 [Arg.mk .str (bl t),Arg.mk (.int .i64) a] [.int .i64,.int .i64] R:=by
 apply zdk
 rw[zd]
 have e:(bif (decide (a<0))then true else(decide (a>(t.length:Int))))=decide (a<0\/(t.length:Int)<a):=by
  rw[AB];simp only[Bool.cond_eq_ite,Bool.if_true_left,A4,decide_eq_true_eq]
 rw[e]
 unfold zze at h
 refine⟨λhx=>?_,λhx=>?_⟩
 ·rw[if_pos (of_decide_eq_true hx)]at h;exact h
 ·have hn:=of_decide_eq_false hx
  rw[if_neg hn]at h
  have ea:a=((a.toNat:Nat):Int):=by omega
  have:=zq6 (gl:=gl) (t:=t) (a:=a.toNat) (by omega) hl (R:=λZ=>R (Z.2.1,Z.2.2)) h
  rw[<-ea]at this
  exact this
end
end Go.X
end
section
namespace Go.X
open Go Go.RowKit
section
variable {n k rb:Nat} {h:za} {x:Tr}
def z6n(v:Tr)(k:Nat)(x:Tr):Tr:=.mk v.kind v.text v.keys (v.items.set k x)
theorem zgj{bf:Nat->List Nat}:((BI n).flatMap bf).Nodup↔(∀i,i<n->(bf i).Nodup)/\∀i j,i<j->j<n->∀x∈bf i,∀y∈bf j,x≠y:=by
 unfold List.Nodup
 rw[List.pairwise_flatMap,List.pairwise_iff_getElem]
 constructor
 ·rintro⟨h1,h2⟩
  refine⟨λi hi=>h1 i (by simpa using hi),λi j Z hj=>?_⟩
  have:=h2 i j (by simp;omega) (by simpa using hj) Z
  simpa using this
 ·rintro⟨h1,h2⟩
  refine⟨λi hi=>h1 i (by simpa using hi),λi j hi hj Z=>?_⟩
  simp at hi hj
  simpa using h2 i j Z hj
theorem zq7{cs:Array Value}{o n:Nat}(h:o+n<=cs.size):upd cs o (cut cs o n)=cs:=by
 have hl:(cut cs o n).length=n:=by unfold cut;simp;omega
 apply Array.ext'
 apply Bc
 intro q
 rw[zj4 (by rw[hl];exact h)]
 split
 ·rfl
 ·split
  ·rw[qi,if_pos (by omega)];congr 1;omega
  ·rfl
theorem OT.put1{v:Tr}{bs:List Nat}{cells:List Value}(H:OT h v bs cells)(hk:k<v.items.length):
  ∃(b:Nat) (cs:Array Value) (si:Sl) (bx:List Nat),cells[3]?=some (slV si)/\si.a=some ⟨b,0,none⟩/\si.len=v.items.length/\Blk h b cs/\v.items.length*4<=cs.size/\b∈bs/\OT h v.items[k] bx (cut cs (k*4) 4)/\b∉bx/\(∀c∈bx,c∈bs) /\
   ∀(h':za) (x':Tr) (aa:List Value) (b':List Nat),(∀c∈bs,c∉bx->c≠b->h'[c]?=h[c]?)->Blk h' b (upd cs (k*4) aa)->OT h' x' b' aa->(∀c∈b',c∈bx\/c∉bs)->∃bn,OT h' (z6n v k x') bn cells/\∀c∈bn,c∈bs\/c∈b':=by
 cases H with
 | @mk kd s ks xs sk si bk bb b cs bf hkk hn hz hi hd=>
  have hk:k<xs.length:=hk
  rcases hz with⟨h0,_⟩|⟨rfl,e1,hb,ap⟩
  ·rw[h0]at hk;simp at hk
  have aI:xs.length*4<=cs.size:=by have:=hn.2.2;omega
  rw[BH]at hd
  obtain⟨aB,ax,aj⟩:=hd
  rw[BH]at ax
  obtain⟨aJ,aH,aC⟩:=ax
  have nf:=zgj.1 aH
  have ah:∀i,i<xs.length->b∉bf i:=λi hi hm=>aC b (by simp) b (Be.2 ⟨i,by simpa using hi,hm⟩) rfl
  have ai:∀i,i<xs.length->∀c∈bf i,c∈bk++([b]++(BI xs.length).flatMap bf):=λi hi c hc=>by
   simp only[Av,Be,BL]
   exact .inr (.inr ⟨i,hi,hc⟩)
  refine⟨b,cs,si,bf k,rfl,e1,hn.1,hb,aI,by simp,hi k hk,ah k hk,ai k hk,λh' x' aa b' hf aE ho ak=>?_⟩
  have aA:aa.length=4:=ho.len
  have an:∀c∈b',∀i,i<xs.length->i≠k->c∉bf i:=λc hc i ab aF hm=>by
   rcases ak c hc with hx|hx
   ·rcases Nat.lt_or_gt_of_ne aF with ae|ae
    ·exact nf.2 i k ae hk c hm c hx rfl
    ·exact nf.2 k i ae ab c hx c hm rfl
   ·exact hx (ai i ab c hm)
  have au:b∉b':=λhm=>by
   rcases ak b hm with hx|hx
   ·exact ah k hk hx
   ·exact hx (by simp)
  have ay:∀c∈bk,c∉b':=λc hc hm=>by
   rcases ak c hm with hx|hx
   ·exact aj c hc c (by rw[Av];exact .inr (Be.2 ⟨k,by simpa using hk,hx⟩)) rfl
   ·exact hx (by simp[hc])
  have am:∀c∈bk,c≠b:=λc hc e=>aj c hc b (by simp) e
  have ar:∀c∈bk,∀i,i<xs.length->c∉bf i:=λc hc i ab hm=>aj c hc c (by rw[Av];exact .inr (Be.2 ⟨i,by simpa using ab,hm⟩)) rfl
  have af:(xs.set k x').length=xs.length:=by simp
  have hu:k*4+aa.length<=cs.size:=by omega
  refine⟨bk++([b]++(BI (xs.set k x').length).flatMap (λi=>if i=k then b' else bf i)),?_,λc hc=>?_⟩
  ·refine OT.mk (b:=b) (cs:=upd cs (k*4) aa) (hkk.frame λc hc=>hf c (by simp[hc]) (ar c hc k hk) (am c hc)) (by rw[af];exact hn) (.inr ⟨rfl,e1,aE,by rw[zcg hu];exact ap⟩) (λi hx=>?_) ?_
   ·rw[af]at hx
    by_cases Z:i=k
    ·subst Z
     rw[if_pos rfl]
     have:=z2h hu
     rw[aA]at this
     rw[this,List.getElem_set_self];exact ho
    ·rw[if_neg Z,List.getElem_set_ne (by omega),zih hu (by omega)]
     refine(hi i hx).frame λc hc=>hf c (ai i hx c hc) (λhm=>?_) (λe=>ah i hx (e ▸ hc))
     rcases Nat.lt_or_gt_of_ne Z with ae|ae
     ·exact nf.2 i k ae hk c hc c hm rfl
     ·exact nf.2 k i ae hx c hm c hc rfl
   ·rw[af,BH]
    refine⟨aB,?_,λx hx y hy=>?_⟩
    ·rw[BH]
     refine⟨by simp,zgj.2 ⟨λi ab=>?_,λi j aG hj x hx y hy e=>?_⟩,λx hx y hy=>?_⟩
     ·by_cases Z:i=k
      ·rw[if_pos Z];exact ho.nodup
      ·rw[if_neg Z];exact nf.1 i ab
     ·subst e
      by_cases Z:i=k
      ·rw[if_pos Z]at hx
       rw[if_neg (by omega)]at hy
       exact an x hx j hj (by omega) hy
      ·rw[if_neg Z]at hx
       by_cases az:j=k
       ·rw[if_pos az]at hy
        exact an x hy i (by omega) Z hx
       ·rw[if_neg az]at hy
        exact nf.2 i j aG hj x hx x hy rfl
     ·simp at hx;subst hx
      obtain⟨i,ab,hy⟩:=Be.1 hy
      simp at ab
      intro e;subst e
      by_cases Z:i=k
      ·rw[if_pos Z]at hy;exact au hy
      ·rw[if_neg Z]at hy;exact ah i ab hy
    ·intro e;subst e
     rw[Av]at hy
     rcases hy with hy|hy
     ·simp at hy;exact am x hx hy
     ·obtain⟨i,ab,hy⟩:=Be.1 hy
      simp at ab
      by_cases Z:i=k
      ·rw[if_pos Z]at hy;exact ay x hx hy
      ·rw[if_neg Z]at hy;exact ar x hx i ab hy
  ·rw[af,Av,Av]at hc
   rcases hc with hc|hc|hc
   ·exact .inl (by simp[hc])
   ·exact .inl (by simp at hc;simp[hc])
   ·obtain⟨i,ab,hc⟩:=Be.1 hc
    simp at ab
    by_cases Z:i=k
    ·rw[if_pos Z]at hc;exact .inr hc
    ·rw[if_neg Z]at hc;exact .inl (ai i ab c hc)
def Foc(h:za)(base rb:Nat)(p:Addr)(x:Tr)(T:Tr->Tr):Prop:=
 ∃(b o:Nat) (cs:Array Value) (bx:List Nat),p=⟨b,o,none⟩/\Blk h b cs/\o+4<=cs.size/\OT h x bx (cut cs o 4)/\b∉bx/\base<=b/\(∀c∈bx,base<=c) /\
  ∀(h':za) (x':Tr) (Z:List Value) (b':List Nat),(∀c,c≠b->c∉bx->c<h.size->h'[c]?=h[c]?)->Blk h' b (upd cs o Z)->OT h' x' b' Z->(∀c∈b',c∈bx\/h.size<=c) ->
   ∃cs' aa,Blk h' rb cs'/\cs'.size=4/\OT h' (T x') aa cs'.toList/\∀c∈aa,base<=c/\c≠rb
theorem Foc.step{base rb:Nat}{p:Addr}{T:Tr->Tr}(H:Foc h base rb p x T)(hk:k<x.items.length):
  ∃(si:Sl) (a:Addr),zc h (p.add 3)=some (slV si)/\si.a=some a/\si.len=x.items.length/\Foc h base rb (a.add (k*4)) x.items[k] (λy=>T (z6n x k y)):=by
 obtain⟨b,o,cs,bx,rfl,hb,ho,ot,ai,aF,ab,af⟩:=H
 obtain⟨b2,aA,si,ar,e3,ea,el,an,aG,ae,aC,ap,Z,ak⟩:=ot.put1 hk
 refine⟨si,⟨b2,0,none⟩,?_,ea,el,b2,k*4,aA,ar,by rw[qn,Az],an,by omega,aC,ap,ab b2 ae,λc hc=>ab c (Z c hc),λh' x' aa b' hf aB au am=>?_⟩
 ·rw[qn]
  refine hb.cell ?_
  rw[qi,if_pos (by omega)]at e3
  rw[<-Bw];exact e3
 ·have aE:b≠b2:=λe=>ai (e ▸ ae)
  obtain⟨bn,az,ah⟩:=ak h' x' aa b' (λc hc ay ax=>hf c ax ay (ot.lt c hc)) aB au (λc hc=>(am c hc).imp id λhx hm=>by have:=ot.lt c hm;omega)
  refine af h' (z6n x k x') (cut cs o 4) bn (λc hc aj af=>hf c (λe=>aj (e ▸ ae)) (λhm=>aj (Z c hm)) af) ?_ az λc hc=>?_
  ·rw[zq7 ho]
   exact hb.keep (hf b aE (λhm=>ai (Z b hm)) hb.lt)
  ·rcases ah c hc with hx|hx
   ·exact .inl hx
   ·rcases am c hx with hy|hy
    ·exact .inl (Z c hy)
    ·exact .inr hy
theorem Foc.put{base rb:Nat}{p:Addr}{T:Tr->Tr}(H:Foc h base rb p x T){h1:za}(k:Keep h.size h h1){w:Tr}{bw:List Nat}{cw:List Value}(ow:OT h1 w bw cw)(ab:∀c∈bw,h.size<=c):
  ∃(b o:Nat) (cs:Array Value),p=⟨b,o,none⟩/\base<=b/\b<h.size/\Blk h1 b cs/\o+4<=cs.size/\∀h2:za,Blk h2 b (upd cs o cw)->h2.size=h1.size->(∀j,j≠b->h2[j]?=h1[j]?) ->
   ∃cs' af,Blk h2 rb cs'/\cs'.size=4/\OT h2 (T w) af cs'.toList/\∀c∈af,base<=c/\c≠rb:=by
 obtain⟨b,o,cs,bx,rfl,hb,ho,ot,ak,aa,aj,Z⟩:=H
 have ai:=hb.lt
 refine⟨b,o,cs,rfl,aa,ai,hb.ofKeep k,ho,λh2 ah am ae=>?_⟩
 refine Z h2 w cw bw (λc hc _ Z=>(ae c hc).trans (k.get c Z)) ah (ow.frame λc hc=>ae c (λe=>by have:=ab c hc;omega)) λc hc=>.inr (ab c hc)
theorem Foc.keep{h h':za}{base rb:Nat}{p:Addr}{T:Tr->Tr}(H:Foc h base rb p x T)(k:Keep h.size h h'):Foc h' base rb p x T:=by
 obtain⟨b,o,cs,bx,rfl,hb,ho,ot,am,aa,ab,ah⟩:=H
 have hz:=k.size
 refine⟨b,o,cs,bx,rfl,hb.ofKeep k,ho,ot.frame λc hc=>k.get c (ot.lt c hc),am,aa,ab,λh2 x' Z b' hf aj af ai=>ah h2 x' Z b' (λc hc ae ak=>(hf c hc ae (by omega)).trans (k.get c ak)) aj af λc hc=>(ai c hc).imp id λhx=>by omega⟩
end
section
variable {h h':za} {v x:Tr} {sk si si' sk':Sl} {bk bb bk' D:List Nat} {b n i k rb:Nat} {cs cs':Array Value} {c cw:List Value} {α:Type} {ks':List Bt}
structure OTp (h:za) (v:Tr) (sk si:Sl) (bk bb:List Nat) (b:Nat) (cs:Array Value) (bf:Nat->List Nat):Prop where
 keys:OKeys h v.keys bk sk
 hn:si.len=v.items.length/\v.items.length<=140737488355328/\v.items.length<=si.cap
 hz:(v.items=[]/\bb=[]/\si.cap=0)\/(bb=[b]/\si.a=some ⟨b,0,none⟩/\Blk h b cs/\si.cap*4<=cs.size)
 hi:∀i (hx:i<v.items.length),OT h v.items[i] (bf i) (cut cs (i*4) 4)
 nk:bk.Nodup
 d1:∀c∈bk,c∉bb
 d2:∀c∈bk,∀i,i<v.items.length->c∉bf i
 d3:∀c∈bb,∀i,i<v.items.length->c∉bf i
 d4:∀i j,i<v.items.length->j<v.items.length->i≠j->∀c∈bf i,c∉bf j
def jz(v:Tr)(sk si:Sl):List Value:=[.int .i64 v.kind,.string v.text,slV sk,slV si]
theorem OTp.ot{bf:Nat->List Nat}(H:OTp h v sk si bk bb b cs bf):OT h v (bk++(bb++(BI v.items.length).flatMap bf)) (jz v sk si):=by
 obtain⟨k,s,ks,xs⟩:=v
 refine OT.mk (b:=b) (cs:=cs) H.keys H.hn H.hz H.hi ?_
 rw[BH]
 refine⟨H.nk,?_,λx hx y hy e=>?_⟩
 ·rw[BH]
  refine⟨?_,zgj.2 ⟨λi hi=>(H.hi i hi).nodup,λi j Z hj x hx y hy e=>?_⟩,λx hx y hy e=>?_⟩
  ·rcases H.hz with⟨_,e,_⟩|⟨e,_⟩
   ·rw[e];exact List.nodup_nil
   ·rw[e];simp
  ·subst e;exact H.d4 i j (Nat.lt_trans Z hj) hj (by omega) x hx hy
  ·subst e
   obtain⟨i,hi,hy⟩:=Be.1 hy
   exact H.d3 x hx i (by simpa using hi) hy
 ·subst e
  rcases Av.1 hy with hy|hy
  ·exact H.d1 x hx hy
  ·obtain⟨i,hi,hy⟩:=Be.1 hy
   exact H.d2 x hx i (by simpa using hi) hy
theorem OT.p{bs:List Nat}{cells:List Value}(H:OT h v bs cells):∃(sk si:Sl) (bk bb:List Nat) (b:Nat) (cs:Array Value) (bf:Nat->List Nat),cells=jz v sk si/\OTp h v sk si bk bb b cs bf/\bs=bk++(bb++(BI v.items.length).flatMap bf):=by
 cases H with
 | @mk kd s ks xs sk si bk bb b cs bf hk hn hz hi hd=>
  rw[BH]at hd
  obtain⟨ae,ab,aa⟩:=hd
  rw[BH]at ab
  obtain⟨aj,ai,af⟩:=ab
  have nf:=zgj.1 ai
  refine⟨sk,si,bk,bb,b,cs,bf,rfl,⟨hk,hn,hz,hi,ae,λc hc hm=>aa c hc c (Ao _ hm) rfl,λc hc i hi hm=>aa c hc c (Au _ (Be.2 ⟨i,by simpa using hi,hm⟩)) rfl,λc hc i hi hm=>af c hc c (Be.2 ⟨i,by simpa using hi,hm⟩) rfl,λi j hi hj ah c hc hm=>?_⟩,rfl⟩
  rcases Nat.lt_or_gt_of_ne ah with Z|Z
  ·exact nf.2 i j Z hj c hc c hm rfl
  ·exact nf.2 j i Z hi c hm c hc rfl
theorem zwt{bf:Nat->List Nat}{n c:Nat}:c∈bk++(bb++(BI n).flatMap bf)↔c∈bk\/c∈bb\/∃i,i<n/\c∈bf i:=by
 simp only[Av,Be,BL]
theorem Xf(h:i+4<=n):cut cs i 4=((cut cs 0 n).drop i).take 4:=by
 unfold cut
 rw[BB,List.drop_take,List.take_take,Nat.min_eq_left (by omega)]
theorem z2x{xs:List α}{w:α}(hk:k<=xs.length)(h:i<(xs.take k++w::xs.drop k).length):
  (i<k/\∃h':i<xs.length,(xs.take k++w::xs.drop k)[i]=xs[i])\/(i=k/\(xs.take k++w::xs.drop k)[i]=w)\/(k<i/\∃h':i-1<xs.length,(xs.take k++w::xs.drop k)[i]=xs[i-1]):=by
 have hl:(xs.take k).length=k:=by rw[AO];omega
 simp only[Ar,AH,hl,As]at h
 rcases Nat.lt_trichotomy i k with h1|h1|h1
 ·refine .inl ⟨h1,by omega,?_⟩
  rw[C5 (by rw[hl];exact h1),List.getElem_take]
 ·refine .inr (.inl ⟨h1,?_⟩)
  subst h1
  rw[CC (by rw[hl];exact Ac _)]
  simp[hl]
 ·refine .inr (.inr ⟨h1,by omega,?_⟩)
  rw[CC (by rw[hl];omega)]
  simp only[hl]
  have e:i-k=(i-1-k)+1:=by omega
  simp only[e,List.getElem_cons_succ,Do]
  congr 1;omega
theorem z2y(hc:c.length=n*4)(hw:cw.length=4)(hk:k<=n):
  (∀i,i<k->((c.take (k*4)++cw++c.drop (k*4)).drop (i*4)).take 4=(c.drop (i*4)).take 4)/\((c.take (k*4)++cw++c.drop (k*4)).drop (k*4)).take 4=cw/\∀i,k<i->((c.take (k*4)++cw++c.drop (k*4)).drop (i*4)).take 4=(c.drop ((i-1)*4)).take 4:=by
 have hl:(c.take (k*4)).length=k*4:=by rw[AO];omega
 refine⟨λi hi=>?_,?_,λi hi=>?_⟩
 ·apply Bc
  intro j
  rw[AC,AC]
  split
  ·rw[AE,AE,Bj,Bv (by rw[hl];omega),AC,if_pos (by omega)]
  ·rfl
 ·rw[Bj,List.drop_append,AR (by rw[hl];exact Ac _),Ct,hl,Nat.sub_self,BB,List.take_append,hw,Nat.sub_self,DO,A8,Bh (by omega)]
 ·rw[List.drop_append,AR (by rw[Ar,hl,hw];omega),Ct,Ar,hl,hw,BE]
  congr 2;omega
theorem OTp.ins{bf:Nat->List Nat}(H:OTp h v sk si bk bb b cs bf)(hk:k<=v.items.length){w:Tr}{bw:List Nat}(ow:OT h' w bw cw)
  (hf:∀i,i<v.items.length->∀c∈bf i,h'[c]?=h[c]?) {b':Nat} (e1:si'.a=some ⟨b',0,none⟩) (e2:Blk h' b' cs') (e3:si'.len=v.items.length+1) (e4:v.items.length+1<=si'.cap) (e5:si'.cap*4<=cs'.size) (e6:v.items.length+1<=140737488355328)
  (e7:cut cs' 0 ((v.items.length+1)*4)=(cut cs 0 (v.items.length*4)).take (k*4)++cw++(cut cs 0 (v.items.length*4)).drop (k*4)) (ak:∀i,i<v.items.length->b'∉bf i) (ai:b'∉bw) (hw:∀c∈bw,∀i,i<v.items.length->c∉bf i) (ok:OKeys h' ks' bk' sk') (nk:bk'.Nodup) (ah:b'∉bk') (ap:∀c∈bk',∀i,i<v.items.length->c∉bf i) (ar:∀c∈bk',c∉bw):
  OTp h' (.mk v.kind v.text ks' (v.items.take k++w::v.items.drop k)) sk' si' bk' [b'] b' cs' (λi=>if i<k then bf i else if i=k then bw else bf (i-1)):=by
 have Z:(v.items.take k++w::v.items.drop k).length=v.items.length+1:=by simp;omega
 have an:∀i (hx:i<v.items.length),(cut cs 0 (v.items.length*4)).length=v.items.length*4:=by
  intro i hx
  rcases H.hz with⟨h0,_⟩|⟨_,_,_,ay⟩
  ·rw[h0]at hx;simp at hx
  ·unfold cut;simp;have:=H.hn.2.2;omega
 have af:(cut cs 0 (v.items.length*4)).length=v.items.length*4:=by
  by_cases h0:0<v.items.length
  ·exact an 0 h0
  ·have:v.items.length=0:=by omega
   rw[this];unfold cut;simp
 have aj:cw.length=4:=ow.len
 obtain⟨c1,c2,c3⟩:=z2y af aj hk
 have ae:∀i,i<v.items.length+1->∀c,c∈(if i<k then bf i else if i=k then bw else bf (i-1))->(∃j,j<v.items.length/\c∈bf j)\/c∈bw:=by
  intro i hi c hc
  split at hc
  ·exact .inl ⟨i,by omega,hc⟩
  ·split at hc
   ·exact .inr hc
   ·exact .inl ⟨i-1,by omega,hc⟩
 refine⟨ok,⟨by show si'.len=(v.items.take k++w::v.items.drop k).length;rw[Z];exact e3,by show(v.items.take k++w::v.items.drop k).length<=_;rw[Z];exact e6,by show(v.items.take k++w::v.items.drop k).length<=_;rw[Z];exact e4⟩,.inr ⟨rfl,e1,e2,e5⟩,λi hx=>?_,nk,λc hc hm=>?_,λc hc i hi hm=>?_,λc hc i hi hm=>?_,λi j hi hj am c hc hm=>?_⟩
 ·have ab:i<(v.items.take k++w::v.items.drop k).length:=hx
  have au:i<v.items.length+1:=by rw[<-Z];exact ab
  rw[Xf (n:=(v.items.length+1)*4) (by omega),e7]
  show OT h' (v.items.take k++w::v.items.drop k)[i] _ _
  rcases z2x hk ab with⟨hi,h2,e⟩|⟨hi,e⟩|⟨hi,h2,e⟩
  ·rw[e,if_pos hi,c1 i hi,<-Xf (by omega)]
   exact(H.hi i h2).frame (hf i h2)
  ·subst hi
   rw[e,if_neg (by omega),if_pos rfl,c2];exact ow
  ·rw[e,if_neg (by omega),if_neg (by omega),c3 i hi,<-Xf (by omega)]
   exact(H.hi (i-1) h2).frame (hf (i-1) h2)
 ·simp at hm;subst hm;exact ah hc
 ·have aa:i<v.items.length+1:=by rw[<-Z];exact hi
  rcases ae i aa c hm with⟨j,hj,hm⟩|hm
  ·exact ap c hc j hj hm
  ·exact ar c hc hm
 ·have aa:i<v.items.length+1:=by rw[<-Z];exact hi
  simp at hc;subst hc
  rcases ae i aa c hm with⟨j,hj,hm⟩|hm
  ·exact ak j hj hm
  ·exact ai hm
 ·have aa:i<v.items.length+1:=by rw[<-Z];exact hi
  have ax:j<v.items.length+1:=by rw[<-Z];exact hj
  try simp only at hc hm
  split at hc
  ·split at hm
   ·exact H.d4 i j (by omega) (by omega) am c hc hm
   ·split at hm
    ·exact hw c hm i (by omega) hc
    ·exact H.d4 i (j-1) (by omega) (by omega) (by omega) c hc hm
  ·split at hc
   ·split at hm
    ·exact hw c hc j (by omega) hm
    ·split at hm
     ·omega
     ·exact hw c hc (j-1) (by omega) hm
   ·split at hm
    ·exact H.d4 (i-1) j (by omega) (by omega) (by omega) c hc hm
    ·split at hm
     ·exact hw c hm (i-1) (by omega) hc
     ·exact H.d4 (i-1) (j-1) (by omega) (by omega) (by omega) c hc hm
theorem z2z{xs:List α}(hk:k<xs.length)(h:i<(xs.take k++xs.drop (k+1)).length):
  (i<k/\∃h':i<xs.length,(xs.take k++xs.drop (k+1))[i]=xs[i])\/(k<=i/\∃h':i+1<xs.length,(xs.take k++xs.drop (k+1))[i]=xs[i+1]):=by
 have hl:(xs.take k).length=k:=by rw[AO];omega
 simp only[Ar,hl,As]at h
 rcases AF i k with h1|h1
 ·refine .inl ⟨h1,by omega,?_⟩
  rw[C5 (by rw[hl];exact h1),List.getElem_take]
 ·refine .inr ⟨h1,by omega,?_⟩
  rw[CC (by rw[hl];omega)]
  simp only[hl,Do]
  congr 1;omega
theorem z3a(hc:c.length=n*4)(hk:k<n):
  (∀i,i<k->((c.take (k*4)++c.drop ((k+1)*4)).drop (i*4)).take 4=(c.drop (i*4)).take 4)/\∀i,k<=i->((c.take (k*4)++c.drop ((k+1)*4)).drop (i*4)).take 4=(c.drop ((i+1)*4)).take 4:=by
 have hl:(c.take (k*4)).length=k*4:=by rw[AO];omega
 refine⟨λi hi=>?_,λi hi=>?_⟩
 ·apply Bc
  intro j
  rw[AC,AC]
  split
  ·rw[AE,AE,Bv (by rw[hl];omega),AC,if_pos (by omega)]
  ·rfl
 ·rw[List.drop_append,AR (by rw[hl];omega),Ct,hl,BE]
  congr 2;omega
theorem OTp.del{bf:Nat->List Nat}(H:OTp h v sk si bk bb b cs bf)(hk:k<v.items.length)
  (hf:∀i,i<v.items.length->∀c∈bf i,h'[c]?=h[c]?) (e1:si'.a=si.a) (e2:Blk h' b cs') (e3:si'.len+1=v.items.length) (e4:si'.cap=si.cap) (e5:cs'.size=cs.size)
  (e7:cut cs' 0 ((v.items.length-1)*4)=(cut cs 0 (v.items.length*4)).take (k*4)++(cut cs 0 (v.items.length*4)).drop ((k+1)*4)) (ok:OKeys h' ks' bk' sk') (aa:∀c∈bk',c∈bk) (nk:bk'.Nodup):
  OTp h' (.mk v.kind v.text ks' (v.items.take k++v.items.drop (k+1))) sk' si' bk' [b] b cs' (λi=>if i<k then bf i else bf (i+1)):=by
 have Z:(v.items.take k++v.items.drop (k+1)).length=v.items.length-1:=by simp;omega
 rcases H.hz with⟨h0,_⟩|⟨ak,ha,hb,aj⟩
 ·rw[h0]at hk;simp at hk
 obtain⟨n1,n2,n3⟩:=H.hn
 have ai:(cut cs 0 (v.items.length*4)).length=v.items.length*4:=by unfold cut;simp;omega
 obtain⟨c1,c2⟩:=z3a ai hk
 have ab:b∈bb:=by rw[ak];simp
 refine⟨ok,⟨by show si'.len=(v.items.take k++v.items.drop (k+1)).length;rw[Z];omega,by show(v.items.take k++v.items.drop (k+1)).length<=_;rw[Z];omega,by show(v.items.take k++v.items.drop (k+1)).length<=_;rw[Z];omega⟩,.inr ⟨rfl,by rw[e1];exact ha,e2,by rw[e4,e5];exact aj⟩,λi hx=>?_,nk,λc hc hm=>?_,λc hc i hi hm=>?_,λc hc i hi hm=>?_,λi j hi hj ah c hc hm=>?_⟩
 ·have ae:i<(v.items.take k++v.items.drop (k+1)).length:=hx
  have am:i<v.items.length-1:=by rw[<-Z];exact ae
  rw[Xf (n:=(v.items.length-1)*4) (by omega),e7]
  show OT h' (v.items.take k++v.items.drop (k+1))[i] _ _
  rcases z2z hk ae with⟨hi,h2,e⟩|⟨hi,h2,e⟩
  ·rw[e,if_pos hi,c1 i hi,<-Xf (by omega)]
   exact(H.hi i h2).frame (hf i h2)
  ·rw[e,if_neg (by omega),c2 i hi,<-Xf (by omega)]
   exact(H.hi (i+1) h2).frame (hf (i+1) h2)
 ·simp at hm;subst hm;exact H.d1 c (aa c hc) ab
 ·have af:i<v.items.length-1:=by rw[<-Z];exact hi
  try simp only at hm
  split at hm
  ·exact H.d2 c (aa c hc) i (by omega) hm
  ·exact H.d2 c (aa c hc) (i+1) (by omega) hm
 ·have af:i<v.items.length-1:=by rw[<-Z];exact hi
  simp at hc;subst hc
  try simp only at hm
  split at hm
  ·exact H.d3 c ab i (by omega) hm
  ·exact H.d3 c ab (i+1) (by omega) hm
 ·have af:i<v.items.length-1:=by rw[<-Z];exact hi
  have an:j<v.items.length-1:=by rw[<-Z];exact hj
  try simp only at hc hm
  split at hc
  ·split at hm
   ·exact H.d4 i j (by omega) (by omega) ah c hc hm
   ·exact H.d4 i (j+1) (by omega) (by omega) (by omega) c hc hm
  ·split at hm
   ·exact H.d4 (i+1) j (by omega) (by omega) (by omega) c hc hm
   ·exact H.d4 (i+1) (j+1) (by omega) (by omega) (by omega) c hc hm
structure Doc (h:za) (rb:Nat) (v:Tr) (D:List Nat):Prop where
 ex:∃cs:Array Value,Blk h rb cs/\cs.size=4/\OT h v D cs.toList
 no:rb∉D
def Plc(h:za)(D:List Nat)(rb:Nat)(p:Addr)(x:Tr)(T:Tr->Tr):Prop:=
 ∃(b o:Nat) (cs:Array Value) (bx:List Nat),p=⟨b,o,none⟩/\Blk h b cs/\o+4<=cs.size/\OT h x bx (cut cs o 4)/\b∉bx/\(b=rb\/b∈D)/\(∀c∈bx,c∈D)/\rb∉D/\(∀c∈D,c<h.size) /\
  ∀(h':za) (x':Tr) (Z:List Value) (b':List Nat),(∀c,c≠b->c∉bx->(c=rb\/c∈D)->h'[c]?=h[c]?)->Blk h' b (upd cs o Z)->OT h' x' b' Z->(∀c∈b',c∈bx\/(c≠rb/\c∉D)) ->
   ∃D',Doc h' rb (T x') D'/\∀c∈D',c∈D\/c∈b'
theorem Plc.step{p:Addr}{T:Tr->Tr}(H:Plc h D rb p x T)(hk:k<x.items.length):
  ∃(si:Sl) (a:Addr),zc h (p.add 3)=some (slV si)/\si.a=some a/\si.len=x.items.length/\Plc h D rb (a.add (k*4)) x.items[k] (λy=>T (z6n x k y)):=by
 obtain⟨b,o,cs,bx,rfl,hb,ho,ot,aj,ai,Z,aF,aG,ah⟩:=H
 obtain⟨b2,aC,si,au,e3,ea,el,ap,aJ,af,aH,ar,aa,am⟩:=ot.put1 hk
 refine⟨si,⟨b2,0,none⟩,?_,ea,el,b2,k*4,aC,au,by rw[qn,Az],ap,by omega,aH,ar,.inr (Z b2 af),λc hc=>Z c (aa c hc),aF,aG,λh' x' ab b' hf aE ax an=>?_⟩
 ·rw[qn]
  refine hb.cell ?_
  rw[qi,if_pos (by omega)]at e3
  rw[<-Bw];exact e3
 ·have aI:b≠b2:=λe=>aj (e ▸ af)
  obtain⟨bn,aA,ae⟩:=am h' x' ab b' (λc hc az ay=>hf c ay az (.inr (Z c hc))) aE ax (λc hc=>(an c hc).imp id λhx hm=>hx.2 (Z c hm))
  obtain⟨D',hD,aB⟩:=ah h' (z6n x k x') (cut cs o 4) bn (λc hc ak ah=>hf c (λe=>ak (e ▸ af)) (λhm=>ak (aa c hm)) ah) (by
   rw[zq7 ho]
   exact hb.keep (hf b aI (λhm=>aj (aa b hm)) ai)) aA λc hc=>by
    rcases ae c hc with hx|hx
    ·exact .inl hx
    ·rcases an c hx with hy|hy
     ·exact .inl (aa c hy)
     ·exact .inr hy
  refine⟨D',hD,λc hc=>?_⟩
  rcases aB c hc with hx|hx
  ·exact .inl hx
  ·rcases ae c hx with hy|hy
   ·exact .inl (Z c hy)
   ·exact .inr hy
theorem Plc.keep{p:Addr}{T:Tr->Tr}(H:Plc h D rb p x T)(k:∀c,c=rb\/c∈D->h'[c]?=h[c]?)(hs:h.size<=h'.size):Plc h' D rb p x T:=by
 obtain⟨b,o,cs,bx,rfl,hb,ho,ot,am,Z,ab,ak,an,ah⟩:=H
 refine⟨b,o,cs,bx,rfl,hb.keep (k b Z),ho,ot.frame λc hc=>k c (.inr (ab c hc)),am,Z,ab,ak,λc hc=>by have:=an c hc;omega,λh2 x' aa b' hf aj af ai=>ah h2 x' aa b' (λc hc ae hl=>(hf c hc ae hl).trans (k c hl)) aj af ai⟩
theorem Doc.keep(H:Doc h rb v D)(k:∀c,c=rb\/c∈D->h'[c]?=h[c]?):Doc h' rb v D:=by
 obtain⟨⟨cs,hb,aa,ot⟩,Z⟩:=H
 exact⟨⟨cs,hb.keep (k rb (.inl rfl)),aa,ot.frame λc hc=>k c (.inr hc)⟩,Z⟩
theorem Doc.lt(H:Doc h rb v D):∀c,c=rb\/c∈D->c<h.size:=by
 obtain⟨⟨cs,hb,aa,ot⟩,Z⟩:=H
 rintro c (rfl|hc)
 ·exact hb.lt
 ·exact ot.lt c hc
end
section
variable {cs:Array Value} {o n b:Nat} {h:za}
theorem za6(h:o+n<=cs.size):(cut cs o n).length=n:=by unfold cut;simp;omega
theorem zwu(H:Blk h b cs):Arr h.size h (some ⟨b,o,none⟩) (cut cs o n):=by
 refine .inr ⟨b,o,rfl,H.lt,λi v hv=>H.cell ?_⟩
 rw[qi]at hv
 split at hv
 ·rw[<-Bw];exact hv
 ·cases hv
theorem zwv{P:Program}(H:Blk h b cs){vs:List Value}(hl:o+vs.length<=cs.size)(h1:∀u∈vs,u.oneCell'=true)(B:World)(d:Nat):
  ∃h',(storeCells ⟨b,o,none⟩ vs 0).run P (mk B d h)=.ok () (mk B d h')/\Blk h' b (upd cs o vs)/\h'.size=h.size/\∀j,j≠b->h'[j]?=h[j]?:=by
 obtain⟨T,e⟩:=H
 obtain⟨h',r1,r2,r3,r4⟩:=zll (P:=P) e hl h1 B d
 exact⟨h',r1,⟨T,r2⟩,r3,r4⟩
end
section
variable {cs:Array Value} {vs:List Value}
structure RowO (h:za) (s:Sl) (b:Nat) (cs:Array Value) (sz:Nat):Prop where
 le:s.len<=s.cap
 at_:(s.len=0/\s.cap=0)\/(s.a=some ⟨b,0,none⟩/\Blk h b cs/\s.cap*sz<=cs.size)
structure RowN (h h':za) (s':Sl) (b b':Nat) (cs':Array Value) (sz n:Nat) (cells:List Value):Prop where
 a:s'.a=some ⟨b',0,none⟩
 len:s'.len=n
 cap:n<=s'.cap
 blk:Blk h' b' cs'
 size:s'.cap*sz<=cs'.size
 cut:cut cs' 0 (n*sz)=cells
 new:b'=b\/h.size<=b'
 grow:h.size<=h'.size
 old:∀j,j<h.size->j≠b'->h'[j]?=h[j]?
theorem z3b{n m:Nat}(hl:n+vs.length<=cs.size)(hm:m=n+vs.length):cut (upd cs n vs) 0 m=cut cs 0 n++vs:=by
 subst hm
 have Z:(cut cs 0 n).length=n:=za6 (by omega)
 apply Bc
 intro q
 rw[qi]
 split
 ·rename_i hq
  rw[Az,zj4 hl]
  split
  ·rename_i h1
   rw[Bv (by rw[Z];exact h1),qi,if_pos h1,Az]
  ·rename_i h1
   rw[A6 (by rw[Z];omega),Z]
 ·rename_i hq
  rw[BO]
  rw[Ar,Z];omega
theorem zke{P:Program}{t e:TypeId}{z:Value}{sz bytes:Nat}(T:ElemT P t e z sz bytes){ty:TypeId}{h:za}{s:Sl}{b:Nat}(H:RowO h s b cs sz){bv cv:Nat}(hv:Blk h bv vs.toArray)(aa:vs.length=sz)(h1:∀u∈vs,u.oneCell'=true)(hb:(s.len+1)*bytes<=140737488355328)(hm:s.len+1<=140737488355328){K:Value->za->Prop}
  (hK:∀(s':Sl) (h':za) (b':Nat) (cs':Array Value),RowN h h' s' b b' cs' sz (s.len+1) (cut cs 0 (s.len*sz)++vs)->K (.slice s'.a s'.len s'.cap) h'):
  XRun P (AD #[t,t] ty #[.slice s.a s.len s.cap,.slice (some ⟨bv,0,none⟩) 1 cv]) h K:=by
 intro B d
 have ae:Arr h.size h (some ⟨bv,0,none⟩) vs:=by
  have:=zwu hv (o:=0) (n:=vs.length)
  rw[show cut vs.toArray 0 vs.length=vs by unfold cut;simp]at this
  exact this
 have hS:∀B d,Src P sz t (.slice (some ⟨bv,0,none⟩) 1 cv) 1 vs (mk B d h):=λB d=>zlk (P:=P) (s:=⟨some ⟨bv,0,none⟩,1,cv⟩) ae (by simp[aa]) T.pos h1 T.slice B d
 have m0:(s.len+1)*sz=s.len*sz+sz:=CV _ _
 by_cases hr:s.len+1<=s.cap
 ·rcases H.at_ with⟨_,h0⟩|⟨ha,ab,hc⟩
  ·omega
  have m1:(s.len+1)*sz<=s.cap*sz:=AJ _ hr
  obtain⟨h',r1,r2,r3,r4⟩:=zwv (P:=P) ab (o:=s.len*sz) (vs:=vs) (by rw[aa];omega) h1 B d
  have af:=Z4 (P:=P) (ty:=ty) T (s:=s) (h':=h') (hS B d) hr (λp hp=>by
   rw[ha]at hp
   cases hp
   rw[qn,Az];exact r1) (λhn=>by rw[ha]at hn;cases hn)
  refine⟨_,d,h',af,hK ⟨s.a,s.len+1,s.cap⟩ h' b _ ⟨ha,rfl,hr,r2,by rw[zcg (by rw[aa];omega)];exact hc,z3b (by rw[aa];omega) (by rw[aa];exact m0),.inl rfl,by omega,λj hj ah=>r4 j ah⟩⟩
 ·have Z:Arr h.size h s.a (cut cs 0 (s.len*sz))/\(cut cs 0 (s.len*sz)).length=s.len*sz:=by
   rcases H.at_ with⟨h0,_⟩|⟨ha,ab,hc⟩
   ·rw[h0,DT];exact⟨.inl (by unfold cut;simp),by unfold cut;simp⟩
   ·have m1:s.len*sz<=s.cap*sz:=AJ _ H.le
    rw[ha];exact⟨zwu ab,za6 (by omega)⟩
  obtain⟨c,blk,q1,q2,q3,q4,q5⟩:=Y9 (P:=P) (ty:=ty) (base:=0) T Z.2 (λB d=>Z3 Z.1 Z.2 T.pos B d) hS hb hm (CK _) (by omega) B d
  refine⟨_,d+1,_,q1,hK ⟨some ⟨h.size,0,none⟩,s.len+1,c⟩ _ h.size blk ⟨rfl,rfl,q2,Blk.new _ _ _,by rw[q4];exact Ac _,by unfold cut;rw[BB];exact q5,.inr (Ac _),by simp,λj hj ah=>by rw[B6,if_neg (by omega)]⟩⟩
end
end Go.X
end
section
namespace Go.X
section
variable {lo:Nat} {h h':za} {M M':Fr} {s:Sl} {bs:List Nat}
def ORow(lo:Nat)(h:za)(M:Fr)(T:Ty)(xs:List (El T))(s:Sl)(bs:List Nat):Prop:=
 (xs=[]/\s.len=0/\s.cap=0/\bs=[])\/∃(b:Nat) (cs:Array Value),bs=[b]/\s.a=some ⟨b,0,none⟩/\s.len=xs.length/\s.len<=s.cap/\Blk h b cs/\s.cap*sz T<=cs.size/\lo<=b/\M b=none/\∀i (hi:i<xs.length),Rd M T xs[i] (cut cs (i*sz T) (sz T))
theorem ORow.nil{T:Ty}:ORow lo h M T [] ⟨none,0,0⟩ []:=.inl ⟨rfl,rfl,rfl,rfl⟩
theorem ORow.len{T:Ty}{xs:List (El T)}(H:ORow lo h M T xs s bs):s.len=xs.length:=by
 rcases H with⟨rfl,h1,_⟩|⟨b,cs,_,_,h1,_⟩
 ·exact h1
 ·exact h1
theorem ORow.own{T:Ty}{xs:List (El T)}(H:ORow lo h M T xs s bs):∀c∈bs,lo<=c/\c<h.size/\M c=none:=by
 rcases H with⟨_,_,_,rfl⟩|⟨b,cs,rfl,_,_,_,e,_,h1,h2,_⟩
 ·intro c hc;cases hc
 ·intro c hc
  rw[BK.1 hc]
  exact⟨h1,e.lt,h2⟩
theorem ORow.frame{T:Ty}{xs:List (El T)}(H:ORow lo h M T xs s bs)(f:∀c∈bs,h'[c]?=h[c]?)(le:Fr.le M M')(no:∀c∈bs,M' c=none):ORow lo h' M' T xs s bs:=by
 rcases H with H|⟨b,cs,rfl,h1,h2,h3,h4,h5,h6,h7,h8⟩
 ·exact .inl H
 ·refine .inr ⟨b,cs,rfl,h1,h2,h3,?_,h5,h6,no b (by simp),λi hi=>Rd.mono le (h8 i hi)⟩
  unfold Blk at h4 ⊢
  rw[f b (by simp)];exact h4
theorem ORow.call{T:Ty}{xs:List (El T)}(H:ORow lo h M T xs s bs)(L:Later h M h' M'):ORow lo h' M' T xs s bs:=by
 refine H.frame (λc hc=>L.keep.get c (H.own c hc).2.1) L.le λc hc=>?_
 rw[L.old c (H.own c hc).2.1];exact(H.own c hc).2.2
theorem ORow.rd{T:Ty}{xs:List (El T)}{bs all:List Nat}(H:ORow lo h M T xs s bs)(ag:AgM M h)(ha:∀c∈bs,c∈all)(hn:xs.length<=1000000):Rd (MxL M h all) (.row T) xs [slV s]:=by
 rcases H with⟨rfl,h1,h2,rfl⟩|⟨b,cs,rfl,h1,h2,h3,h4,h5,h6,h7,h8⟩
 ·refine⟨_,rfl,s.a,s.cap,?_,⟨by simp,by simp⟩,.inl rfl⟩
  show slV s=_
  unfold slV;rw[h1];rfl
 ·refine⟨_,rfl,s.a,s.cap,?_,⟨by omega,by omega⟩,?_⟩
  ·unfold slV;rw[h2]
  ·by_cases he:xs=[]
   ·exact .inl he
   ·refine .inr ⟨b,0,cs,h1,MxL.at (ha b (by simp)) h4,λi hi=>?_⟩
    rw[Az]
    exact Rd.mono (zch ag all) (h8 i hi)
theorem ORow.app{t e:TypeId}{z:Value}{bytes:Nat}{T:Ty}(E:ElemT Tp t e z (sz T) bytes)(an:bytes<=1000){ty:TypeId}{xs:List (El T)}(ag:AgM M h)(H:ORow lo h M T xs s bs)(az:lo<=h.size){bv cv:Nat}{vs:List Value}{x:El T}(hv:Blk h bv vs.toArray)(hx:Rd M T x vs)(hn:xs.length<=1000000){K:Value->za->Prop}
  (hK:∀(s':Sl) (h':za) (ah:List Nat),ORow lo h' M T (xs++[x]) s' ah->h.size<=h'.size->(∀c∈ah,c∈bs\/h.size<=c)->(∀j,j<h.size->j∉bs->h'[j]?=h[j]?)->K (.slice s'.a s'.len s'.cap) h'):
  XRun Tp (AD #[t,t] ty #[.slice s.a s.len s.cap,.slice (some ⟨bv,0,none⟩) 1 cv]) h K:=by
 have ak:vs.length=sz T:=Rd.len hx
 have h1:∀u∈vs,u.oneCell'=true:=Rd.one hx
 have ab:=H.len
 have ap:∀c,h.size<=c->M c=none:=by
  intro c hc
  cases e:M c with
  |none=>rfl
  |some cs=>have:=ag.lt e;omega
 obtain⟨b,cs,Z,hb,aj⟩:∃b cs,RowO h s b cs (sz T)/\((bs=[b]/\lo<=b/\M b=none)\/(b=h.size/\bs=[]))/\∀i (hi:i<xs.length),i*sz T+sz T<=cs.size/\Rd M T xs[i] (cut cs (i*sz T) (sz T)):=by
  rcases H with⟨rfl,e1,e2,rfl⟩|⟨b,cs,rfl,e1,e2,e3,e4,e5,e6,e7,e8⟩
  ·exact⟨h.size,#[],⟨by omega,.inl ⟨e1,e2⟩⟩,.inr ⟨rfl,rfl⟩,λi hi=>by simp at hi⟩
  ·refine⟨b,cs,⟨e3,.inr ⟨e1,e4,e5⟩⟩,.inl ⟨rfl,e6,e7⟩,λi hi=>⟨?_,e8 i hi⟩⟩
   have:(i+1)*sz T<=s.cap*sz T:=AJ _ (by omega)
   rw[CV]at this;omega
 have ai:(s.len+1)*bytes<=140737488355328:=by
  have:(s.len+1)*bytes<=1000001*1000:=Nat.mul_le_mul (by omega) an
  omega
 refine zke E Z hv ak h1 ai (by omega) λs' h' b' cs' N=>?_
 have aa:(b'∈bs/\lo<=b'/\M b'=none)\/h.size<=b':=by
  rcases N.new with e|e
  ·rcases hb with⟨q1,q2,q3⟩|⟨q1,_⟩
   ·subst e;exact .inl ⟨by rw[q1];simp,q2,q3⟩
   ·exact .inr (by omega)
  ·exact .inr e
 refine hK s' h' [b'] (.inr ⟨b',cs',rfl,N.a,by rw[N.len,Ar,ab];rfl,by rw[N.len];exact N.cap,N.blk,N.size,?_,?_,λi hi=>?_⟩) N.grow (λc hc=>?_) λj hj hn=>N.old j hj λe=>?_
 ·rcases aa with q|q
  ·exact q.2.1
  ·omega
 ·rcases aa with q|q
  ·exact q.2.2
  ·exact ap b' q
 ·have ae:=N.cut
  have ay:i<xs.length+1:=by simpa using hi
  have hm:(i+1)*sz T<=(s.len+1)*sz T:=AJ _ (by omega)
  have aA:(i+1)*sz T=i*sz T+sz T:=CV _ _
  have ax:(s.len+1)*sz T=s.len*sz T+sz T:=CV _ _
  have key:∀q,q<sz T->(cut cs' (i*sz T) (sz T))[q]?=(cut cs 0 (s.len*sz T)++vs)[i*sz T+q]?:=by
   intro q hq
   rw[qi,if_pos hq,<-ae,qi,if_pos (by omega),Az]
  by_cases af:i<xs.length
  ·rw[C5 af]
   obtain⟨g1,g2⟩:=aj i af
   have aB:(i+1)*sz T<=s.len*sz T:=AJ _ (by omega)
   have e:cut cs' (i*sz T) (sz T)=cut cs (i*sz T) (sz T):=by
    apply Bc
    intro q
    by_cases hq:q<sz T
    ·rw[key q hq,Bv ?_,qi,qi,if_pos hq,if_pos (by omega),Az]
     have am:s.len*sz T<=cs.size:=by
      rcases Z.at_ with⟨q1,q2⟩|⟨_,_,q3⟩
      ·omega
      ·have:s.len*sz T<=s.cap*sz T:=AJ _ Z.le
       omega
     rw[za6 (by omega)];omega
    ·rw[qi,qi,if_neg hq,if_neg hq]
   rw[e];exact g2
  ·have ar:i=xs.length:=by omega
   subst ar
   rw[CC (Ac _)]
   have au:(cut cs 0 (s.len*sz T)).length=xs.length*sz T:=by
    rcases Z.at_ with⟨q1,q2⟩|⟨_,_,q3⟩
    ·have:xs.length=0:=by omega
     rw[q1,this];unfold cut;simp
    ·have:s.len*sz T<=s.cap*sz T:=AJ _ Z.le
     rw[za6 (by omega),ab]
   have e:cut cs' (xs.length*sz T) (sz T)=vs:=by
    apply Bc
    intro q
    by_cases hq:q<sz T
    ·rw[key q hq,A6 (by omega),au]
     congr 1;omega
    ·rw[qi,if_neg hq,BO (by omega)]
   rw[e]
   simpa using hx
 ·rw[BK.1 hc]
  rcases aa with q|q
  ·exact .inl q.1
  ·exact .inr q
 ·rcases aa with q|q
  ·exact hn (by rw[e];exact q.1)
  ·omega
end
end Go.X
end
section
namespace Go.X
open Go Go.X Go.Proofs Go.RowKit
section
variable {cs:Array Value} {o n q z b bv cv lo c:Nat} {l:List Value} {g g':za} {t e ty:TypeId} {zv v:Value} {K:Value -> za -> Prop} {M:Fr}
abbrev tSp:Ty:=.pair (.int .i64) (.int .i64)
abbrev tNd:Ty:=.pair (.int .i64) (.pair tSp (.pair tSp (.pair (.row (.int .i64)) (.row tSp))))
structure Ax where
 ks:Sl
 kb:List Nat
 ps:Sl
 pb:List Nat
def ax0:Ax:=⟨⟨none,0,0⟩,[],⟨none,0,0⟩,[]⟩
def ndC(p:Nd×Ax):List Value:=[.int .i64 p.1.1,.int .i64 p.1.2.1.1,.int .i64 p.1.2.1.2,.int .i64 p.1.2.2.1.1,.int .i64 p.1.2.2.1.2,slV p.2.ks,slV p.2.ps]
structure CR (g:za) (z:Nat) (els:List (List Value)) (sl:Sl) (b:Nat) (cs:Array Value):Prop where
 ro:RowO g sl b cs z
 ln:sl.len=els.length
 el:∀(i:Nat) (e:List Value),els[i]?=some e->(i+1)*z<=cs.size/\cut cs (i*z) z=e
theorem zo8(hl:l.length=n)(h:∀q,q<n->cs.toList[o+q]?=l[q]?):cut cs o n=l:=by
 apply Bc
 intro q
 rw[qi]
 split
 ·rename_i hq;exact h q hq
 ·rename_i hq;rw[BO (by omega)]
theorem zq8(h:cut cs o n=l)(hq:q<n):cs.toList[o+q]?=l[q]?:=by rw[<-h,qi,if_pos hq]
theorem CR.blk{els:List (List Value)}{sl:Sl}(H:CR g z els sl b cs)(hn:els≠[]):sl.a=some ⟨b,0,none⟩/\Blk g b cs:=by
 rcases H.ro.at_ with⟨h1,_⟩|⟨h1,h2,_⟩
 ·have:=H.ln;rw[h1]at this;exact absurd (AU.1 this.symm) hn
 ·exact⟨h1,h2⟩
theorem CR.frame{els:List (List Value)}{sl:Sl}(H:CR g z els sl b cs)(f:els≠[]\/sl.cap≠0->g'[b]?=g[b]?):CR g' z els sl b cs:=by
 refine⟨⟨H.ro.le,?_⟩,H.ln,H.el⟩
 rcases H.ro.at_ with h1|⟨h1,h2,h3⟩
 ·exact .inl h1
 ·by_cases hc:sl.cap=0
  ·exact .inl ⟨by have:=H.ro.le;omega,hc⟩
  ·exact .inr ⟨h1,h2.keep (f (.inr hc)),h3⟩
theorem CR.app{bytes z:Nat}(E:ElemT Tp t e zv z bytes)(am:bytes<=1000){els:List (List Value)}{sl:Sl}(H:CR g z els sl b cs){vs:List Value}(hv:Blk g bv vs.toArray)(af:vs.length=z)(h1:∀u∈vs,u.oneCell'=true)(hn:els.length<=1000000)
  (hK:∀(s':Sl) (g':za) (b':Nat) (cs':Array Value),CR g' z (els++[vs]) s' b' cs'->g.size<=g'.size->((b'=b/\¬(sl.len=0/\sl.cap=0))\/g.size<=b')->b'<g'.size->(∀j,j<g.size->j≠b'->g'[j]?=g[j]?)->K (.slice s'.a s'.len s'.cap) g'):
  XRun Tp (AD #[t,t] ty #[.slice sl.a sl.len sl.cap,.slice (some ⟨bv,0,none⟩) 1 cv]) g K:=by
 have Z:=H.ln
 have ai:(sl.len+1)*bytes<=140737488355328:=by
  have:(sl.len+1)*bytes<=1000001*1000:=Nat.mul_le_mul (by omega) am
  omega
 obtain⟨b0,aa,an,aj,ae⟩:∃b0 aa,RowO g sl b0 aa z/\((b0=b/\¬(sl.len=0/\sl.cap=0))\/g.size<=b0)/\(∀(i:Nat) (e:List Value),els[i]?=some e->(i+1)*z<=aa.size/\cut aa (i*z) z=e):=by
  by_cases h0:sl.len=0/\sl.cap=0
  ·have he:els=[]:=AU.1 (by omega)
   exact⟨g.size,#[],⟨H.ro.le,.inl h0⟩,.inr (Ac _),λi e hi=>by rw[he]at hi;cases hi⟩
  ·exact⟨b,cs,H.ro,.inl ⟨rfl,h0⟩,H.el⟩
 refine zke E an hv af h1 ai (by omega) λs' g' b' cs' N=>hK s' g' b' cs' ⟨⟨by rw[N.len];exact N.cap,.inr ⟨N.a,N.blk,N.size⟩⟩,by rw[N.len,Ar,Z];rfl,λi e hi=>?_⟩ N.grow ?_ N.blk.lt N.old
 ·have au:i<els.length+1:=by
   have:=(Aw.1 hi).1
   rw[Ar]at this;exact this
  have hm:(i+1)*z<=(sl.len+1)*z:=AJ _ (by omega)
  have az:(sl.len+1)*z<=s'.cap*z:=AJ _ N.cap
  have ay:(i+1)*z=i*z+z:=CV _ _
  have ax:(sl.len+1)*z=sl.len*z+z:=CV _ _
  have:=N.size
  refine⟨by omega,?_⟩
  have ah:=N.cut
  have key:∀q,i*z+q<(sl.len+1)*z->cs'.toList[i*z+q]?=(cut aa 0 (sl.len*z)++vs)[i*z+q]?:=λq hq=>by rw[<-ah,qi,if_pos hq,Az]
  have ab:(cut aa 0 (sl.len*z)).length=sl.len*z:=by
   by_cases h0:els=[]
   ·have:sl.len=0:=by rw[Z,h0];rfl
    rw[this,DT];unfold cut;simp
   ·have hl:els.length-1<els.length:=by have:=Bl.2 h0;omega
    have:=(ae (els.length-1) _ (Ak hl)).1
    rw[show els.length-1+1=els.length by omega,<-Z]at this
    exact za6 (by omega)
  by_cases ap:i<els.length
  ·rw[Bv ap]at hi
   obtain⟨q1,q2⟩:=ae i e hi
   have ar:(i+1)*z<=sl.len*z:=AJ _ (by omega)
   refine zo8 (by rw[<-q2];exact za6 (by omega)) λq hq=>?_
   rw[key q (by omega),Bv (by rw[ab];omega),qi,if_pos (by omega),Az]
   exact zq8 q2 hq
  ·have ak:i=els.length:=by omega
   subst ak
   rw[A6 (Ac _),Nat.sub_self]at hi
   cases hi
   refine zo8 af λq hq=>?_
   have e1:els.length*z=sl.len*z:=by rw[Z]
   rw[key q (by omega),A6 (by rw[ab];omega),ab]
   congr 1;omega
 ·rcases N.new with e|e
  ·rcases aj with q|q
   ·exact .inl ⟨e.trans q.1,q.2⟩
   ·exact .inr (by omega)
  ·exact .inr e
theorem CR.set{els:List (List Value)}{sl:Sl}(H:CR g z els sl b cs)(hn:n<els.length)(hq:q<z)(B:Blk g' b (cs.setIfInBounds (n*z+q) v)):CR g' z (els.modify n (·.set q v)) sl b (cs.setIfInBounds (n*z+q) v):=by
 have ae:els≠[]:=λh=>by rw[h]at hn;simp at hn
 have h1:=(H.blk ae).1
 refine⟨⟨H.ro.le,?_⟩,by rw[List.length_modify];exact H.ln,λi e hi=>?_⟩
 ·rcases H.ro.at_ with⟨h2,_⟩|⟨h2,_,h3⟩
  ·have:=H.ln;omega
  ·exact .inr ⟨h2,B,by rw[A7];exact h3⟩
 ·rw[Bn]at hi
  cases hx:els[i]? with
  |none=>rw[hx]at hi;cases hi
  |some x=>
   rw[hx]at hi
   obtain⟨q1,q2⟩:=H.el i x hx
   have af:(i+1)*z=i*z+z:=CV _ _
   have ab:x.length=z:=by rw[<-q2];exact za6 (by omega)
   rw[A7]
   refine⟨q1,?_⟩
   have hi:(if n=i then x.set q v else x)=e:=by simpa using hi
   rw[<-hi]
   refine zo8 (by split <;> simp[ab]) λr hr=>?_
   rw[Array.toList_setIfInBounds,List.getElem?_set]
   by_cases Z:n=i
   ·subst Z
    rw[if_pos rfl,List.getElem?_set]
    by_cases aa:q=r
    ·subst aa
     rw[if_pos rfl,if_pos rfl,if_pos (by rw[Cs];omega),if_pos (by omega)]
    ·rw[if_neg (by omega),if_neg aa];exact zq8 q2 hr
   ·rw[if_neg Z,if_neg ?_]
    ·exact zq8 q2 hr
    ·intro he
     rcases Nat.lt_or_gt_of_ne Z with h|h
     ·have:(n+1)*z<=i*z:=AJ _ h
      rw[CV]at this;omega
     ·have:(i+1)*z<=n*z:=AJ _ h
      omega
abbrev NA:=List (Nd×Ax)
def axO(p:Nd×Ax)(c:Nat):Prop:=c∈p.2.kb\/c∈p.2.pb
def nsO(na:NA)(sl:Sl)(b c:Nat):Prop:=(sl.cap≠0/\c=b)\/∃p∈na,axO p c
structure NdI (lo:Nat) (g:za) (M:Fr) (p:Nd×Ax):Prop where
 kk:ORow lo g M (.int .i64) p.1.2.2.2.1 p.2.ks p.2.kb
 pp:ORow lo g M tSp p.1.2.2.2.2 p.2.ps p.2.pb
 dd:∀c∈p.2.kb,c∉p.2.pb
structure NS (lo:Nat) (g:za) (M:Fr) (na:NA) (sl:Sl) (b:Nat) (cs:Array Value):Prop where
 cr:CR g 7 (na.map ndC) sl b cs
 lb:sl.cap≠0->lo<=b/\b<g.size/\M b=none
 nd:∀p∈na,NdI lo g M p
 dj:∀(i j:Nat) (p p':Nd×Ax) (c:Nat),na[i]?=some p->na[j]?=some p'->axO p c->axO p' c->i=j
 nb:∀p∈na,¬axO p b
theorem NS.len{na:NA}{sl:Sl}(H:NS lo g M na sl b cs):sl.len=na.length:=by rw[H.cr.ln,AM]
theorem NdI.own{p:Nd×Ax}(H:NdI lo g M p)(h:axO p c):lo<=c/\c<g.size/\M c=none:=by
 rcases h with h|h
 ·exact H.kk.own c h
 ·exact H.pp.own c h
theorem NS.own{na:NA}{sl:Sl}(H:NS lo g M na sl b cs)(h:nsO na sl b c):lo<=c/\c<g.size/\M c=none:=by
 rcases h with⟨h1,rfl⟩|⟨p,hp,h⟩
 ·exact H.lb h1
 ·exact(H.nd p hp).own h
theorem NdI.frame{p:Nd×Ax}(H:NdI lo g M p)(f:∀c,axO p c->g'[c]?=g[c]?):NdI lo g' M p:=
 ⟨H.kk.frame (λc hc=>f c (.inl hc)) (Fr.le.refl _) λc hc=>(H.kk.own c hc).2.2,H.pp.frame (λc hc=>f c (.inr hc)) (Fr.le.refl _) λc hc=>(H.pp.own c hc).2.2,H.dd⟩
theorem NS.frame{na:NA}{sl:Sl}(H:NS lo g M na sl b cs)(hz:g.size<=g'.size)(f:∀c,nsO na sl b c->g'[c]?=g[c]?):NS lo g' M na sl b cs:=by
 refine⟨H.cr.frame λh=>f b (.inl ⟨?_,rfl⟩),λh=>by have:=H.lb h;exact⟨this.1,by omega,this.2.2⟩,λp hp=>(H.nd p hp).frame λc hc=>f c (.inr ⟨p,hp,hc⟩),H.dj,H.nb⟩
 rcases h with h|h
 ·have:=H.cr.ln
  have h2:=H.cr.ro.le
  have:=Bl.2 h
  omega
 ·exact h
theorem NS.nil:NS lo g M [] ⟨none,0,0⟩ b cs:=
 ⟨⟨⟨Ac _,.inl ⟨rfl,rfl⟩⟩,rfl,λi e h=>(by cases h)⟩,λh=>absurd rfl h,λp hp=>(by cases hp),λi j p p' c h=>(by cases h),λp hp=>(by cases hp)⟩
theorem zo9(p:Nd×Ax):∀u∈ndC p,u.oneCell'=true:=by
 intro u hu
 unfold ndC slV at hu
 simp at hu
 rcases hu with rfl|rfl|rfl|rfl|rfl|rfl|rfl <;> rfl
theorem NS.push{bytes:Nat}(E:ElemT Tp t e zv 7 bytes)(aj:bytes<=1000)(ag:AgM M g)(an:lo<=g.size){na:NA}{sl:Sl}(H:NS lo g M na sl b cs){x:Nd}(ai:x.2.2.2.1=[])(am:x.2.2.2.2=[])(hv:Blk g bv (ndC (x,ax0)).toArray)(hn:na.length<=1000000)
  (hK:∀(s':Sl) (g':za) (b':Nat) (cs':Array Value),NS lo g' M (na++[(x,ax0)]) s' b' cs'->g.size<=g'.size->(∀c,nsO (na++[(x,ax0)]) s' b' c->nsO na sl b c\/g.size<=c)->(∀j,j<g.size->¬nsO na sl b j->g'[j]?=g[j]?)->K (.slice s'.a s'.len s'.cap) g'):
  XRun Tp (AD #[t,t] ty #[.slice sl.a sl.len sl.cap,.slice (some ⟨bv,0,none⟩) 1 cv]) g K:=by
 have ak:∀c,g.size<=c->M c=none:=by
  intro c hc
  cases e:M c with
  |none=>rfl
  |some cs=>have:=ag.lt e;omega
 refine CR.app E aj H.cr hv rfl (zo9 _) (by rw[AM];exact hn) λs' g' b' cs' C z1 af ab fr=>?_
 have aa:nsO na sl b b'\/g.size<=b':=by
  rcases af with⟨e1,e2⟩|e1
  ·exact .inl (.inl ⟨by have:=H.cr.ro.le;omega,e1⟩)
  ·exact .inr e1
 have ah:∀p∈na,¬axO p b':=λp hp hc=>by
  rcases af with⟨e1,_⟩|e1
  ·rw[e1]at hc;exact H.nb p hp hc
  ·have:=((H.nd p hp).own hc).2.1;omega
 have Z:∀c,¬axO (x,ax0) c:=λc hc=>by
  rcases hc with hc|hc <;> exact absurd hc (by simp[ax0])
 have mem:∀p∈na++[(x,ax0)],p∈na\/p=(x,ax0):=λp hp=>by simpa using hp
 refine hK s' g' b' cs' ⟨by rw[CQ];exact C,λ_=>?_,λp hp=>?_,?_,λp hp=>?_⟩ z1 (λc hc=>?_) (λj hj hn=>fr j hj λe=>?_)
 ·rcases aa with h|h
  ·have:=H.own h;exact⟨this.1,ab,this.2.2⟩
  ·exact⟨by omega,ab,ak b' h⟩
 ·rcases mem p hp with hp|rfl
  ·exact(H.nd p hp).frame λc hc=>fr c ((H.nd p hp).own hc).2.1 λe=>ah p hp (e ▸ hc)
  ·refine⟨?_,?_,λc hc=>by simp[ax0]at hc⟩
   ·show ORow lo g' M (.int .i64) x.2.2.2.1 _ _;rw[ai];exact .nil
   ·show ORow lo g' M tSp x.2.2.2.2 _ _;rw[am];exact .nil
 ·intro i j p p' c hi hj hc ae
  have q:∀(i:Nat) (p:Nd×Ax),(na++[(x,ax0)])[i]?=some p->axO p c->na[i]?=some p:=λi p hi hc=>by
   rw[List.getElem?_append]at hi
   split at hi
   ·exact hi
   ·have:=Bb hi
    rw[BK]at this
    subst this
    exact absurd hc (Z c)
  exact H.dj i j p p' c (q i p hi hc) (q j p' hj ae) hc ae
 ·rcases mem p hp with hp|rfl
  ·exact ah p hp
  ·exact Z _
 ·rcases hc with⟨_,rfl⟩|⟨p,hp,hc⟩
  ·exact aa
  ·rcases mem p hp with hp|rfl
   ·exact .inl (.inr ⟨p,hp,hc⟩)
   ·exact absurd hc (Z c)
 ·subst e
  rcases aa with h|h
  ·exact hn h
  ·omega
theorem NS.upd{na:NA}{sl:Sl}(H:NS lo g M na sl b cs)(hn:n<na.length){f:Nd×Ax->Nd×Ax}(hq:q<7)(B:Blk g' b (cs.setIfInBounds (n*7+q) v))(hz:g.size<=g'.size)(hc:ndC (f na[n])=(ndC na[n]).set q v)(hI:NdI lo g' M (f na[n]))(ho:∀c,axO (f na[n]) c->axO na[n] c\/g.size<=c)(fr:∀j,j<g.size->j≠b->¬axO na[n] j->g'[j]?=g[j]?):
  NS lo g' M (na.modify n f) sl b (cs.setIfInBounds (n*7+q) v)/\∀c,nsO (na.modify n f) sl b c->nsO na sl b c\/g.size<=c:=by
 have Z:na[n]?=some na[n]:=Ak hn
 have mem:∀p∈na.modify n f,p=f na[n]\/∃j,j≠n/\na[j]?=some p:=λp hp=>by
  obtain⟨j,hj⟩:=List.mem_iff_getElem?.1 hp
  rw[Bn]at hj
  by_cases e:n=j
  ·subst e;rw[Z]at hj;left;simpa using hj.symm
  ·right;refine⟨j,λh=>e h.symm,?_⟩
   simpa[e]using hj
 have af:sl.cap≠0:=by have:=H.len;have:=H.cr.ro.le;omega
 have ae:=H.lb af
 refine⟨⟨?_,λh=>⟨ae.1,by omega,ae.2.2⟩,λp hp=>?_,?_,λp hp=>?_⟩,λc h=>?_⟩
 ·have:=H.cr.set (n:=n) (q:=q) (v:=v) (by rw[AM];exact hn) hq B
  have e:(na.modify n f).map ndC=(na.map ndC).modify n (·.set q v):=by
   apply Bc
   intro i
   rw[Cc,Bn,Bn,Cc]
   by_cases e:n=i
   ·subst e;rw[Z];simp[hc]
   ·simp[e]
  rw[e];exact this
 ·rcases mem p hp with rfl|⟨j,hj,aa⟩
  ·exact hI
  ·have ab:=Bb aa
   exact(H.nd p ab).frame λc hc=>fr c ((H.nd p ab).own hc).2.1 (λe=>H.nb p ab (e ▸ hc)) λh=>hj (H.dj j n p _ c aa Z hc h)
 ·intro i j p p' c hi hj hc ah
  have q:∀(i:Nat) (p:Nd×Ax),(na.modify n f)[i]?=some p->axO p c->∃p0,na[i]?=some p0/\((axO p0 c)\/(i=n/\g.size<=c)):=λi p hi hc=>by
   rw[Bn]at hi
   by_cases e:n=i
   ·subst e
    rw[Z]at hi
    have:f na[n]=p:=by simpa using hi
    subst this
    rcases ho c hc with h|h
    ·exact⟨_,Z,.inl h⟩
    ·exact⟨_,Z,.inr ⟨rfl,h⟩⟩
   ·exact⟨p,by simpa[e]using hi,.inl hc⟩
  obtain⟨p0,a1,a2⟩:=q i p hi hc
  obtain⟨p1,b1,b2⟩:=q j p' hj ah
  rcases a2 with a2|⟨a2,a3⟩
  ·rcases b2 with b2|⟨b2,b3⟩
   ·exact H.dj i j p0 p1 c a1 b1 a2 b2
   ·have:=((H.nd p0 (Bb a1)).own a2).2.1;omega
  ·rcases b2 with b2|⟨b2,b3⟩
   ·have:=((H.nd p1 (Bb b1)).own b2).2.1;omega
   ·omega
 ·rcases mem p hp with rfl|⟨j,hj,aa⟩
  ·intro hc
   rcases ho b hc with h|h
   ·exact H.nb _ (Bb Z) h
   ·omega
  ·exact H.nb p (Bb aa)
 ·rcases h with⟨h1,h2⟩|⟨p,hp,h⟩
  ·exact .inl (.inl ⟨h1,h2⟩)
  ·rcases mem p hp with rfl|⟨j,hj,aa⟩
   ·rcases ho c h with h|h
    ·exact .inl (.inr ⟨_,Bb Z,h⟩)
    ·exact .inr h
   ·exact .inl (.inr ⟨p,Bb aa,h⟩)
end
section
variable {t:Bs} {gl:Fr}
abbrev zng:Ty:=.pair .str (.row tNd)
theorem slice_form{p:Sp}{R:Bt->Prop}(h:R (bl (zw t p))):
  ((bif (bif (decide ((p.1:Int)<0))then true else(decide ((p.1:Int)>p.2)))then true else(decide ((p.2:Int)>((bl t).size:Int))))=true->R (⟨#[]⟩:Bt)) /\
  ((bif (bif (decide ((p.1:Int)<0))then true else(decide ((p.1:Int)>p.2)))then true else(decide ((p.2:Int)>((bl t).size:Int))))=false->(0<=(p.1:Int)/\(p.1:Int)<=p.2/\(p.2:Int)<=((bl t).size:Int))/\R ((bl t).extract (p.1:Int).toNat (p.2:Int).toNat)):=by
 rw[zd]
 have e:(bif (bif (decide ((p.1:Int)<0))then true else(decide ((p.1:Int)>p.2)))then true else(decide ((p.2:Int)>(t.length:Int))))=decide (p.1<0\/p.2<p.1\/(t.length:Int)<p.2):=by
  rw[AB]
  simp only[Bool.cond_eq_ite,Bool.if_true_left,A4,decide_eq_true_eq]
  omega
 rw[e]
 unfold zw at h
 refine⟨λhx=>?_,λhx=>?_⟩
 ·rw[if_pos (of_decide_eq_true hx)]at h;exact h
 ·have hx:=of_decide_eq_false hx
  rw[if_neg hx]at h
  refine⟨by omega,?_⟩
  rw[zt];exact h
theorem zq9{nodes:List Nd}{p:Sp}{R:Bt->Prop}(h:R (bl (zw t p))):PC Tp gl 31 [Arg.mk zng (bl t,nodes),Arg.mk tSp p] [.str] R:=by
 apply zj9
 exact slice_form h
theorem zww{nodes:List Nd}{p:Sp}{R:Bt->Prop}(h:R (bl (zw t p))):PC Tp gl 66 [Arg.mk zng (bl t,nodes),Arg.mk tSp p] [.str] R:=by
 apply za2
 exact slice_form h
theorem zwx(hg:GL gl)(ht:t.length<=65536){nodes:List Nd}{k:Nat}{x:Nd}(hx:nodes[k]?=some x){R:Bt->Prop}(h:R (bl (zs2 t x))):PC Tp gl 112 [Arg.mk zng (bl t,nodes),Arg.mk (.int .i64) (k:Int)] [.str] R:=by
 apply zoy
 refine⟨x,⟨by omega,by rw[Af];exact hx⟩,?_⟩
 refine zq9 (p:=x.2.2.1) ?_
 have:=Yr t x.2.2.1
 exact zdn hg (by omega) h
theorem zzf(hg:GL gl){k:Int}(ht:t.length<=65536){R:Bt->Prop}(h:R (bl (Jz k t))):PC Tp gl 111 [Arg.mk (.int .i64) k,Arg.mk .str (bl t)] [.str] R:=by
 apply zmn
 unfold Jz at h
 refine⟨λh1=>?_,λh1=>⟨λh2=>?_,λh2=>⟨λh3=>?_,λh3=>?_⟩⟩⟩
 ·rw[if_pos (by simpa using h1)]at h;exact h
 ·rw[if_neg (by simpa using h1),if_pos (by simpa using h2)]at h
  exact zju (by omega) (zvu hg.pow (Wr t (by omega)) h)
 ·rw[if_neg (by simpa using h1),if_neg (by simpa using h2),if_pos (by simpa using h3)]at h
  exact zdn hg (by omega) h
 ·rw[if_neg (by simpa using h1),if_neg (by simpa using h2),if_neg (by simpa using h3)]at h;exact h
end
end Go.X
end
section
namespace Go.X
section
variable {h:za} {sk si:Sl} {bk bb:List Nat} {b bv cv:Nat} {cs:Array Value} {K:Value -> za -> Prop}
theorem OTp.row{v:Tr}{bf:Nat->List Nat}(H:OTp h v sk si bk bb b cs bf){h':za}(k:∀c∈bb,h'[c]?=h[c]?):RowO h' si b cs 4:=by
 refine⟨by have:=H.hn;omega,?_⟩
 rcases H.hz with⟨h0,_,h2⟩|⟨Z,ha,hb,hc⟩
 ·exact .inl ⟨by rw[H.hn.1,h0];rfl,h2⟩
 ·exact .inr ⟨ha,hb.keep (k b (by rw[Z];simp)),hc⟩
theorem zta(x:Tr)(sk si:Sl):∀u∈jz x sk si,u.oneCell'=true:=by
 intro u hu
 simp[jz]at hu
 rcases hu with rfl|rfl|rfl|rfl <;> simp[Value.oneCell',slV]
theorem z3c{ks:List Bt}(H:OKeys h ks bk sk){s:Bt}(hv:Blk h bv #[.string s])(hn:ks.length<=1048576)
  (hK:∀(sk':Sl) (h':za) (kb:Nat),OKeys h' (ks++[s]) [kb] sk'->(kb∈bk\/h.size<=kb)->h.size<=h'.size->(∀c,c<h.size->c∉bk->h'[c]?=h[c]?)->K (.slice sk'.a sk'.len sk'.cap) h'):
  XRun Tp (AD #[23,23] 23 #[.slice sk.a sk.len sk.cap,.slice (some ⟨bv,0,none⟩) 1 cv]) h K:=by
 obtain⟨l1,l2,l3,l4⟩:=H
 obtain⟨b,cs,aa,hb,Z⟩:∃b cs,RowO h sk b cs 1/\(b∈bk\/h.size<=b)/\cut cs 0 (sk.len*1)=ks.map Dh:=by
  rcases l4 with⟨rfl,rfl,h0⟩|⟨b,cs,rfl,e1,e2,e3,e4⟩
  ·refine⟨h.size,#[],⟨by omega,.inl ⟨l1,h0⟩⟩,.inr (Ac _),?_⟩
   rw[l1];rfl
  ·exact⟨b,cs,⟨by omega,.inr ⟨e1,e2,by omega⟩⟩,.inl (by simp),by rw[l1,Db];exact e4⟩
 have ab:∀c∈bk,c<h.size:=by
  intro c hc
  rcases l4 with⟨_,rfl,_⟩|⟨b,cs,rfl,_,e2,_⟩
  ·cases hc
  ·simp at hc;subst hc;exact e2.lt
 refine zke (vs:=[.string s]) z2i aa hv rfl (λu hu=>by simp at hu;subst hu;simp[Value.oneCell']) (by omega) (by omega) λs' h' b' cs' N=>?_
 rw[Z]at N
 have hl:(ks++[s]).length=sk.len+1:=by simp[l1]
 refine hK s' h' b' ⟨by rw[hl];exact N.len,by rw[hl];omega,by rw[hl];exact N.cap,.inr ⟨b',cs',rfl,N.a,N.blk,by have:=N.size;omega,?_⟩⟩ ?_ N.grow λc hc hn=>N.old c hc λe=>?_
 ·rw[hl]
  have:=N.cut
  rw[Db]at this
  rw[this];simp
 ·rcases N.new with e|e
  ·rw[e];exact hb
  ·exact .inr e
 ·rcases N.new with e2|e2
  ·rcases hb with e3|e3
   ·exact hn (by rw[e,e2];exact e3)
   ·omega
  ·omega
theorem zzg{g h:za}{x:Tr}{bf:Nat->List Nat}(H:OTp g x sk si bk bb b cs bf)(kb:∀c∈bb,h[c]?=g[c]?){w:Tr}{wk wi:Sl}(hv:Blk h bv (jz w wk wi).toArray)(hn:x.items.length<=1000000000)
  (hK:∀(si':Sl) (h':za) (b':Nat) (cs':Array Value),si'.a=some ⟨b',0,none⟩->si'.len=x.items.length+1->x.items.length+1<=si'.cap->Blk h' b' cs'->si'.cap*4<=cs'.size->cut cs' 0 ((x.items.length+1)*4)=cut cs 0 (x.items.length*4)++jz w wk wi ->
   ((b'=b/\b∈bb)\/h.size<=b')->h.size<=h'.size->(∀c,c<h.size->c∉bb->h'[c]?=h[c]?)->K (.slice si'.a si'.len si'.cap) h'):
  XRun Tp (AD #[24,24] 24 #[.slice si.a si.len si.cap,.slice (some ⟨bv,0,none⟩) 1 cv]) h K:=by
 have Z:=H.hn.1
 obtain⟨b0,ab,af⟩:∃b0,RowO h si b0 cs 4/\((b0=b/\b∈bb)\/b0=h.size):=by
  have aa:=OTp.row H (h':=h) kb
  rcases H.hz with⟨h0,_,h2⟩|⟨ah,_⟩
  ·exact⟨h.size,⟨aa.le,.inl ⟨by rw[Z,h0];rfl,h2⟩⟩,.inr rfl⟩
  ·exact⟨b,aa,.inl ⟨rfl,by rw[ah];simp⟩⟩
 refine zke (vs:=jz w wk wi) zy9 ab hv rfl (zta w wk wi) (by omega) (by omega) λs' h' b' cs' N=>?_
 rw[Z]at N
 have ae:(b'=b/\b∈bb)\/h.size<=b':=by
  rcases N.new with e|e
  ·rcases af with⟨e2,hm⟩|e2
   ·exact .inl ⟨by rw[e,e2],hm⟩
   ·exact .inr (by omega)
  ·exact .inr e
 refine hK s' h' b' cs' N.a N.len N.cap N.blk N.size N.cut ae N.grow λc hc hn=>N.old c hc λe=>?_
 rcases ae with⟨e2,hm⟩|e2
 ·exact hn (by rw[e,e2];exact hm)
 ·omega
end
section
variable {g':za} {s:Bt} {bv cv:Nat} {K:za -> Prop}
structure BT (lo hi:Nat) (g:za) (b0:Nat) (v:Tr) (sk si:Sl) (bk bb:List Nat) (b:Nat) (cs:Array Value) (bf:Nat->List Nat):Prop where
 box:Blk g b0 (jz v sk si).toArray
 p:OTp g v sk si bk bb b cs bf
 ok:∀c∈bk,lo<=c/\c<hi/\c≠b0
 ob:∀c∈bb,lo<=c/\c<hi/\c≠b0
 oi:∀i,i<v.items.length->∀c∈bf i,lo<=c/\c<hi/\c≠b0
 lb:lo<=b0
 hg:hi<=g.size
def Own(lo hi:Nat)(g:za)(b0:Nat)(v:Tr)(sk si:Sl):Prop:=∃(bk bb:List Nat) (b:Nat) (cs:Array Value) (bf:Nat->List Nat),BT lo hi g b0 v sk si bk bb b cs bf
section
variable {lo hi : Nat} {g : za} {b0 : Nat} {v : Tr} {sk si : Sl}
theorem Own.box(H:Own lo hi g b0 v sk si):Blk g b0 (jz v sk si).toArray:=by
 obtain⟨bk,bb,b,cs,bf,B⟩:=H;exact B.box
theorem Own.low(H:Own lo hi g b0 v sk si):lo<=b0:=by
 obtain⟨bk,bb,b,cs,bf,B⟩:=H;exact B.lb
theorem BT.move{bk bb:List Nat}{b:Nat}{cs:Array Value}{bf:Nat->List Nat}(B:BT lo hi g b0 v sk si bk bb b cs bf)(f:∀c,c∈bk\/c∈bb\/(∃i,i<v.items.length/\c∈bf i)->g'[c]?=g[c]?):OTp g' v sk si bk bb b cs bf:=
 ⟨B.p.keys.frame λc hc=>f c (.inl hc),B.p.hn,by
  rcases B.p.hz with h|⟨h1,h2,h3,h4⟩
  ·exact .inl h
  ·exact .inr ⟨h1,h2,h3.keep (f b (.inr (.inl (by rw[h1];simp)))),h4⟩,λi hi=>(B.p.hi i hi).frame λc hc=>f c (.inr (.inr ⟨i,hi,hc⟩)),B.p.nk,B.p.d1,B.p.d2,B.p.d3,B.p.d4⟩
theorem Own.keep(H:Own lo hi g b0 v sk si)(k:Keep g.size g g'):Own lo hi g' b0 v sk si:=by
 obtain⟨bk,bb,b,cs,bf,B⟩:=H
 have hz:=k.size
 have hg:=B.hg
 refine⟨bk,bb,b,cs,bf,B.box.ofKeep k,B.move λc hc=>k.get c ?_,B.ok,B.ob,B.oi,B.lb,by omega⟩
 rcases hc with hc|hc|⟨i,hi,hc⟩
 ·have:=(B.ok c hc).2.1;omega
 ·have:=(B.ob c hc).2.1;omega
 ·have:=(B.oi i hi c hc).2.1;omega
theorem Own.ot(H:Own lo hi g b0 v sk si):∃bs:List Nat,OT g v bs (jz v sk si)/\∀c∈bs,lo<=c/\c≠b0:=by
 obtain⟨bk,bb,b,cs,bf,B⟩:=H
 refine⟨_,B.p.ot,λc hc=>?_⟩
 rcases zwt.1 hc with h|h|⟨i,hi,h⟩
 ·exact⟨(B.ok c h).1,(B.ok c h).2.2⟩
 ·exact⟨(B.ob c h).1,(B.ob c h).2.2⟩
 ·exact⟨(B.oi i hi c h).1,(B.oi i hi c h).2.2⟩
theorem Own.new{k:Int}(B:Blk g b0 (jz (.mk k s [] []) ⟨none,0,0⟩ ⟨none,0,0⟩).toArray)(h:lo<=b0)(hh:hi<=g.size):Own lo hi g b0 (.mk k s [] []) ⟨none,0,0⟩ ⟨none,0,0⟩:=
 ⟨[],[],0,#[],λ_=>[],B,⟨⟨rfl,CK _,CK _,.inl ⟨rfl,rfl,rfl⟩⟩,⟨rfl,CK _,CK _⟩,.inl ⟨rfl,rfl,rfl⟩,λi hi=>absurd hi (Nat.not_lt_zero i),List.nodup_nil,λc hc=>(by cases hc),λc hc=>(by cases hc),λc hc=>(by cases hc),λi j hi=>absurd hi (Nat.not_lt_zero i)⟩,λc hc=>(by cases hc),λc hc=>(by cases hc),λi hi=>absurd hi (Nat.not_lt_zero i),h,hh⟩
theorem qa7:qf Tp 23=true:=by kernel_rfl
theorem qa8:qw Tp 23=1:=by kernel_rfl
theorem qa9:qf Tp 24=true:=by kernel_rfl
theorem qba:qw Tp 24=1:=by kernel_rfl
theorem Own.key(H:Own lo hi g b0 v sk si)(ak:lo<=g.size)(hn:v.keys.length<=1048576)(hv:Blk g bv #[.string s])
  (hK:∀(g':za) (s':Sl),Own lo g'.size g' b0 (.mk v.kind v.text (v.keys++[s]) v.items) s' si->Keep lo g g'->g.size<=g'.size->K g'):
  XRun Tp (AD #[23,23] 23 #[.slice sk.a sk.len sk.cap,.slice (some ⟨bv,0,none⟩) 1 cv]) g (λw g1=>∃x:Sl,w=.slice x.a x.len x.cap/\XRunU Tp (Aj 23 (.pointer (some ⟨b0,2,none⟩)) (.slice x.a x.len x.cap)) g1 K):=by
 obtain⟨bk,bb,b,cs,bf,B⟩:=H
 refine z3c B.p.keys hv hn λs' g1 kb ko kn z1 f1=>⟨s',rfl,?_⟩
 have aj:=B.box.lt
 have hg:=B.hg
 have ab:∀c∈bk,lo<=c/\c<g.size/\c≠b0:=λc hc=>by have:=B.ok c hc;exact⟨this.1,by omega,this.2.2⟩
 have aa:∀c∈bb,lo<=c/\c<g.size/\c≠b0:=λc hc=>by have:=B.ob c hc;exact⟨this.1,by omega,this.2.2⟩
 have Z:∀i,i<v.items.length->∀c∈bf i,lo<=c/\c<g.size/\c≠b0:=λi hi c hc=>by have:=B.oi i hi c hc;exact⟨this.1,by omega,this.2.2⟩
 have ai:b0∉bk:=λh=>(ab b0 h).2.2 rfl
 refine yy qa7 qa8 (B.box.keep (f1 b0 aj ai)) (by show 2<4;omega) rfl λg2 u1 u2 u3=>?_
 have am:kb<g1.size:=by
  obtain⟨_,_,_,h|⟨b',cs',e,_,h,_⟩⟩:=ko
  ·exact absurd h.1 (by simp)
  ·rw[BP]at e;rw[e.1];exact h.lt
 have af:lo<=kb/\kb≠b0:=by
  rcases kn with h|h
  ·exact⟨(ab kb h).1,(ab kb h).2.2⟩
  ·exact⟨by omega,by omega⟩
 have ae:∀c,c<g.size->c∉bk->c≠kb:=λc hc hn e=>by
  subst e
  rcases kn with h|h
  ·exact hn h
  ·omega
 have fr:∀c,c<g.size->c∉bk->c≠b0->g2[c]?=g[c]?:=λc hc hn h0=>(u3 c h0).trans (f1 c hc hn)
 have ah:∀i,i<v.items.length->∀c∈bf i,c∉bk:=λi hi c hc h=>B.p.d2 c h i hi hc
 refine hK g2 s' ⟨[kb],bb,b,cs,bf,u1,⟨ko.frame λc hc=>u3 c ?_,B.p.hn,?_,λi hi=>(B.p.hi i hi).frame λc hc=>fr c (Z i hi c hc).2.1 (ah i hi c hc) (Z i hi c hc).2.2,by simp,λc hc=>?_,λc hc i hi hm=>?_,B.p.d3,B.p.d4⟩,λc hc=>?_,λc hc=>?_,λi hi c hc=>?_,B.lb,Ac _⟩ ⟨by omega,λj hj=>fr j (by omega) (λh=>?_) ?_⟩ (by omega)
 ·rw[BK.1 hc];exact af.2
 ·rcases B.p.hz with h|⟨h1,h2,h3,h4⟩
  ·exact .inl h
  ·have hm:b∈bb:=by rw[h1];simp
   exact .inr ⟨h1,h2,h3.keep (fr b (aa b hm).2.1 (λh=>B.p.d1 b h hm) (aa b hm).2.2),h4⟩
 ·rw[BK.1 hc]
  intro hm
  exact ae kb (aa kb hm).2.1 (λh=>B.p.d1 kb h hm) rfl
 ·rw[BK.1 hc]at hm
  exact ae kb (Z i hi kb hm).2.1 (ah i hi kb hm) rfl
 ·rw[BK.1 hc];exact⟨af.1,by omega,af.2⟩
 ·have:=aa c hc;exact⟨this.1,by omega,this.2.2⟩
 ·have:=Z i hi c hc;exact⟨this.1,by omega,this.2.2⟩
 ·have:=(ab j h).1;omega
 ·have:=B.lb;omega
theorem Own.item(H:Own lo hi g b0 v sk si)(an:lo<=g.size)(hn:v.items.length<=1000000){w:Tr}{wk wi:Sl}(hv:Blk g bv (jz w wk wi).toArray){bw:List Nat}(ow:OT g w bw (jz w wk wi))(ap:bv∉bw)(hw:∀c∈bw,lo<=c/\c≠b0/\hi<=c)
  (hK:∀(g':za) (s':Sl),Own lo g'.size g' b0 (.mk v.kind v.text v.keys (v.items++[w])) sk s'->Keep lo g g'->g.size<=g'.size->K g'):
  XRun Tp (AD #[24,24] 24 #[.slice si.a si.len si.cap,.slice (some ⟨bv,0,none⟩) 1 cv]) g (λu g1=>∃x:Sl,u=.slice x.a x.len x.cap/\XRunU Tp (Aj 24 (.pointer (some ⟨b0,3,none⟩)) (.slice x.a x.len x.cap)) g1 K):=by
 obtain⟨bk,bb,b,cs,bf,B⟩:=H
 refine zzg B.p (λc hc=>rfl) hv (by omega) λs' g1 b' cs' e1 e2 e3 e4 e5 e6 aj z1 f1=>⟨s',rfl,?_⟩
 have am:=B.box.lt
 have hg:=B.hg
 have ab:∀c∈bk,lo<=c/\c<g.size/\c≠b0:=λc hc=>by have:=B.ok c hc;exact⟨this.1,by omega,this.2.2⟩
 have af:∀c∈bb,lo<=c/\c<g.size/\c≠b0:=λc hc=>by have:=B.ob c hc;exact⟨this.1,by omega,this.2.2⟩
 have aa:∀i,i<v.items.length->∀c∈bf i,lo<=c/\c<g.size/\c≠b0:=λi hi c hc=>by have:=B.oi i hi c hc;exact⟨this.1,by omega,this.2.2⟩
 have ae:∀c∈bw,c∉bk/\c∉bb/\∀i,i<v.items.length->c∉bf i:=λc hc=>by
  have h1:=(hw c hc).2.2
  exact⟨λh=>by have:=(B.ok c h).2.1;omega,λh=>by have:=(B.ob c h).2.1;omega,λi hi h=>by have:=(B.oi i hi c h).2.1;omega⟩
 have ai:b0∉bb:=λh=>(B.ob b0 h).2.2 rfl
 refine yy qa9 qba (B.box.keep (f1 b0 am ai)) (by show 3<4;omega) rfl λg2 u1 u2 u3=>?_
 have Z:lo<=b'/\b'≠b0:=by
  rcases aj with⟨h,hm⟩|h
  ·rw[h];exact⟨(af b hm).1,(af b hm).2.2⟩
  ·exact⟨by omega,by omega⟩
 have ah:∀c,c<g.size->c∉bb->c≠b':=λc hc hn e=>by
  subst e
  rcases aj with⟨h,hm⟩|h
  ·rw[h]at hn;exact hn hm
  ·omega
 have fr:∀c,c<g.size->c∉bb->c≠b0->g2[c]?=g[c]?:=λc hc hn h0=>(u3 c h0).trans (f1 c hc hn)
 have ak:∀i,i<v.items.length->∀c∈bf i,c∉bb:=λi hi c hc h=>B.p.d3 c h i hi hc
 have N:=OTp.ins (h':=g2) B.p (k:=v.items.length) (Ac _) (w:=w) (bw:=bw) (cw:=jz w wk wi) (ow.frame λc hc=>fr c (ow.lt c hc) (ae c hc).2.1 (hw c hc).2.1)
  (λi hi c hc=>fr c (aa i hi c hc).2.1 (ak i hi c hc) (aa i hi c hc).2.2) e1 (e4.keep (u3 b' Z.2)) e2 e3 e5 (by omega)
  (by
   have hl:(cut cs 0 (v.items.length*4)).length<=v.items.length*4:=by unfold cut;rw[AO];omega
   rw[e6,Bh hl,AR hl,A8])
  (λi hi hm=>ah b' (aa i hi b' hm).2.1 (ak i hi b' hm) rfl) (λhm=>ah b' (ow.lt b' hm) (ae b' hm).2.1 rfl) (λc hc i hi=>(ae c hc).2.2 i hi)
  (B.p.keys.frame λc hc=>fr c (ab c hc).2.1 (B.p.d1 c hc) (ab c hc).2.2) B.p.nk (λhm=>ah b' (ab b' hm).2.1 (B.p.d1 b' hm) rfl) (λc hc i hi=>B.p.d2 c hc i hi) (λc hc hm=>(ae c hm).1 hc)
 rw[BD,DC]at N
 refine hK g2 s' ⟨bk,[b'],b',cs',_,u1,N,λc hc=>?_,λc hc=>?_,λi hi c hc=>?_,B.lb,Ac _⟩ ⟨by omega,λj hj=>fr j (by omega) (λh=>?_) ?_⟩ (by omega)
 ·have:=ab c hc;exact⟨this.1,by omega,this.2.2⟩
 ·rw[BK.1 hc];exact⟨Z.1,by have:=e4.lt;omega,Z.2⟩
 ·have hc:c∈(if i<v.items.length then bf i else if i=v.items.length then bw else bf (i-1)):=hc
  have hi:i<v.items.length+1:=by
   have:(v.items++[w]).length=v.items.length+1:=by simp
   rw[<-this];exact hi
  split at hc
  ·rename_i h;have:=aa i h c hc;exact⟨this.1,by omega,this.2.2⟩
  ·rw[if_pos (by omega)]at hc
   have:=ow.lt c hc
   exact⟨(hw c hc).1,by omega,(hw c hc).2.1⟩
 ·have:=(af j h).1;omega
 ·have:=B.lb;omega
end
end
end Go.X
end
section
namespace Go.X
open Go Go.X Go.Proofs Go.RowKit
section
variable {h:za} {l:Bs} {K:Value -> za -> Prop} {lo:Nat}
theorem za7{c:UInt8}(hK:K (.int .i64 (Lib.indexByte l c)) h):XC Tp 212 #[.string (bl l),.int .u8 (c.toNat:Int)] h K:=by
 refine XC.of_calls λB d=>(jb (bl l) (c.toNat:Int) (mk B d h)).mono ?_
 rintro e w' ⟨rfl,rfl⟩
 refine⟨_,rfl,rfl,rfl,rfl,?_⟩
 have e1:(bl l).data.toList=l:=jj l
 rw[e1,z5t];exact hK
def zwy(F:FuncId)(A C:Array Value)(lo:Nat)(p:UInt8->Bool)(h0:za):Prop:=
 qa Tp F=true/\∀(c:UInt8) (h:za) (K:Value->za->Prop),Keep lo h0 h->(∀h',Keep lo h h'->K (.bool (p c)) h')->XC Tp F (A++#[.int .u8 (c.toNat:Int)]++C) h K
theorem z3d{F:FuncId}{A C:Array Value}{p:UInt8->Bool}(H:zwy F A C lo p h)(hl:l.length<=1152921504606846976)(hK:∀h',Keep lo h h'->K (.int .i64 (Zh p l:Int)) h'):
  XC Tp 256 #[.string (bl l),.func (.func F) A C] h K:=by
 obtain⟨hF,H⟩:=H
 apply zs6
 rw[zd]
 refine⟨λi g=>∃k:Nat,i=(k:Int)/\k<=l.length/\Keep lo h g/\∀j (hj:j<k) (aa:j<l.length),p l[j]=true,λi _=>l.length-i.toNat,⟨0,rfl,by omega,Keep.refl _ _,λj hj=>by omega⟩,?_⟩
 rintro i g ⟨k,rfl,hk,kg,hp⟩
 refine⟨λhx=>?_,λhx=>?_⟩
 ·have Z:k<l.length:=by have:=of_decide_eq_true hx;omega
  refine⟨⟨by omega,by omega⟩,hF,?_⟩
  rw[zp,Af,Z9 Z]
  refine H _ _ _ kg λh' k'=>⟨_,rfl,λhz=>?_,λhz=>?_⟩
  ·have e:Zh p l=k:=zgc hk (λj hj=>hp j hj (by omega)) (λ_=>by simpa using hz)
   rw[<-e];exact hK h' (kg.trans k' (Ac _))
  ·rw[Qg Z (by omega)]
   refine⟨⟨k+1,rfl,by omega,kg.trans k' (Ac _),λj hj aa=>?_⟩,by show l.length-((k+1:Nat):Int).toNat<l.length-((k:Nat):Int).toNat;omega⟩
   rcases AF j k with h9|h9
   ·exact hp j h9 aa
   ·have:j=k:=by omega
    subst this
    simpa using hz
 ·have Z:k=l.length:=by have:=of_decide_eq_false hx;omega
  have e:Zh p l=l.length:=zgc (Ac _) (λj hj=>hp j (by omega) hj) (λhh=>absurd hh (by omega))
  rw[<-e];exact hK g kg
theorem zgk{b:Nat}(hb:Blk h b #[.string (bl l)])(Z:b<lo):zwy 292 #[] #[.pointer (some ⟨b,0,none⟩)] lo (jk l) h:=by
 refine⟨by kernel_rfl,λc g K kg hK=>?_⟩
 show XC Tp 292 #[.int .u8 (c.toNat:Int),.pointer (some ⟨b,0,none⟩)] g K
 apply zg2
 have aa:Blk g b #[.string (bl l)]:=by
  obtain⟨T,e⟩:=hb
  exact⟨T,by rw[kg.get b Z];exact e⟩
 refine⟨bl l,aa.cell rfl,za7 ⟨_,rfl,?_⟩⟩
 have e:decide (Lib.indexByte l c>=0)=jk l c:=by
  unfold jk
  rw[AB,decide_eq_true_eq,decide_eq_true_eq]
  exact(Zn c l).2
 rw[e];exact hK g (Keep.refl _ _)
theorem zpa{gl M:Fr}(hM:Fr.le gl M)(ag:AgM M h):zwy 259 #[] #[] h.size (jk y7) h:=by
 refine⟨by kernel_rfl,λc g K kg hK=>?_⟩
 have e:(bif decide ((c.toNat:Int)>=97)then decide ((c.toNat:Int)<=122)else false)=jk y7 c:=by
  have Z:(BI 256).all (λn=>(bif decide ((n:Int)>=97)then decide ((n:Int)<=122)else false)==jk y7 (BF n))=true:=by kernel_rfl
  have:=Ba.1 Z c.toNat (BL.2 c.toNat_lt)
  rw[beq_iff_eq,UInt8.ofNat_toNat]at this
  exact this
 refine(PC.px (gl:=gl) (args:=[Arg.mk (.int .u8) (c.toNat:Int)]) (rt:=[.bool]) (R:=λb=>b=jk y7 c) ?_ hM (ag.keep kg) (yr (a:=Arg.mk (.int .u8) _) (Wm _ _) jq)).go λv h' M' r L hv hr=>?_
 ·apply zmp;exact e
 ·obtain rfl:=zz5 hv
  rw[hr]
  exact hK h' (L.keep.mono kg.size)
end
section
variable {K:Value -> za -> Prop} {h:za} {a e:Int} {M:Fr} {v:Value}
theorem z9u:qf Tp 90=true:=by kernel_rfl
theorem z9v:qw Tp 90=3:=by kernel_rfl
abbrev zkp(k f t:Int):List Value:=[.int .i64 k,.int .i64 f,.int .i64 t]
theorem zwz{g:za}{b:Nat}{x y z p q r:Int}(B:Blk g b (zkp x y z).toArray){K:za->Prop}(hK:∀g',(∀j,j≠b->g'[j]?=g[j]?)->g'.size=g.size->Blk g' b (zkp p q r).toArray->K g'):
  XRunU Tp (Aj 90 (.pointer (some ⟨b,0,none⟩)) (.agg #[.int .i64 p,.int .i64 q,.int .i64 r])) g K:=by
 refine Jv (vs:=zkp p q r) z9u B rfl z9v (Ac 3) (λu hu=>?_) λg' q1 q2 q3=>hK g' q3 q2 q1
 simp at hu
 rcases hu with rfl|rfl|rfl <;> rfl
theorem zw0{c:Nat}{a k t:Int}(hc:Blk h c #[.int .i64 a])(hK:∀h',Keep h.size h h'->K (.tuple #[.agg #[.int .i64 k,.int .i64 a,.int .i64 t],.int .i64 0]) h'):
  XC Tp 254 #[.int .i64 k,.int .i64 t,.pointer (some ⟨c,0,none⟩)] h K:=by
 apply zj8
 intro h1
 have k1:Keep h.size h h1:=Keep.push _ _ (Ac _)
 have B1:Blk h1 h.size (zkp 0 0 0).toArray:=Blk.new _ _ _
 have Z:Blk h1 c #[.int .i64 a]:=hc.ofKeep k1
 refine⟨a,Z.cell rfl,zwz B1 λg' q1 q2 q3=>⟨k,a,t,q3.ld,hK g' (k1.trans ⟨by omega,λi hi=>q1 i (by omega)⟩ (Ac _))⟩⟩
theorem z9w{x:Int×Int×Int}(h:zco M [.pair (.int .i64) (.pair (.int .i64) (.int .i64)),.int .i64] (x,e) v):v=.tuple #[.agg #[.int .i64 x.1,.int .i64 x.2.1,.int .i64 x.2.2],.int .i64 e]:=by
 obtain⟨vs,⟨v1,rest,rfl,hx,v2,rfl,hy⟩,rfl⟩:=h
 rw[qs hy]
 unfold RdV at hx
 simp only[zlj,if_true]at hx
 obtain⟨cs,rfl,c1,c2,rfl,e1,c3,c4,rfl,e3,e4⟩:=hx
 have e1:c1=[.int .i64 x.1]:=e1
 have e3:c3=[.int .i64 x.2.1]:=e3
 have e4:c4=[.int .i64 x.2.2]:=e4
 subst e1 e3 e4
 rfl
theorem zw1{gl M:Fr}(hM:Fr.le gl M)(ag:AgM M h)(hK:∀h',Keep h.size h h'->K (.tuple #[.agg #[.int .i64 0,.int .i64 a,.int .i64 a],.int .i64 e]) h'):
  XC Tp 255 #[.int .i64 a,.int .i64 e] h K:=by
 refine(PC.px (gl:=gl) (args:=[Arg.mk (.int .i64) a,Arg.mk (.int .i64) e]) (rt:=[.pair (.int .i64) (.pair (.int .i64) (.int .i64)),.int .i64]) (R:=λr=>r=((0,(a,a)),e)) ?_ hM ag (yr (a:=Arg.mk (.int .i64) _) (Wm _ _) (yr (a:=Arg.mk (.int .i64) _) (Wm _ _) jq))).go λv h' M' r L hv hr=>?_
 ·apply zkb;rfl
 ·subst hr
  rw[z9w hv]
  exact hK h' L.keep
theorem zw2{l:Bs}(hK:∀h',Keep h.size h h'->h'.size=h.size+1->Blk h' h.size #[.string (bl l)]->K (.func (.func 292) #[] #[.pointer (some ⟨h.size,0,none⟩)]) h'):
  XC Tp 257 #[.string (bl l)] h K:=by
 apply zml
 intro h1
 exact hK h1 (Keep.push _ _ (Ac _)) (Al _) (Blk.new _ _ _)
def zmw(s:Bs)(a:Nat):Value:=if(Jx s a).2.2=0 then .tuple #[.agg #[.int .i64 (Jx s a).1,.int .i64 (a:Int),.int .i64 ((Jx s a).2.1:Int)],.int .i64 0]else .tuple #[.agg #[.int .i64 0,.int .i64 ((Jx s a).2.1:Int),.int .i64 ((Jx s a).2.1:Int)],.int .i64 (Jx s a).2.2]
theorem qam{x:Bool×Bt×Int}(h:zco M [.pair .bool (.pair .str (.int .i64)),.int .i64] (x,e) v):v=.tuple #[.agg #[.bool x.1,.string x.2.1,.int .i64 x.2.2],.int .i64 e]:=by
 obtain⟨vs,⟨v1,rest,rfl,hx,v2,rfl,hy⟩,rfl⟩:=h
 rw[qs hy]
 unfold RdV at hx
 simp only[zlj,if_true]at hx
 obtain⟨cs,rfl,c1,c2,rfl,e1,c3,c4,rfl,e3,e4⟩:=hx
 have e1:c1=[.bool x.1]:=e1
 have e3:c3=[.string x.2.1]:=e3
 have e4:c4=[.int .i64 x.2.2]:=e4
 subst e1 e3 e4
 rfl
end
section
variable {gl:Fr} {s:Bs} {a t:Nat} {k:Int}
theorem z6o(l:Bs)(c:UInt8):decide (Lib.indexByte l c>=0)=jk l c:=by
 unfold jk
 rw[AB,decide_eq_true_eq,decide_eq_true_eq]
 exact(Zn c l).2
theorem zzh:(BI 256).all (λn=>(bif ((n:Int)==45)then true else(bif decide ((n:Int)>=48)then decide ((n:Int)<=57)else false))==jk zmh (BF n))=true:=by kernel_rfl
theorem z3e(c:UInt8):(bif ((c.toNat:Int)==45)then true else(bif decide ((c.toNat:Int)>=48)then decide ((c.toNat:Int)<=57)else false))=jk zmh c:=by
 have:=Ba.1 zzh c.toNat (BL.2 c.toNat_lt)
 rw[beq_iff_eq,UInt8.ofNat_toNat]at this
 exact this
theorem zzi{R:Int->Prop}(h:R (Yq s)):PC Tp gl 260 [Arg.mk .str (bl s)] [.int .i64] R:=by
 apply zoz
 have e:∀l:Bs,((bl s:Bt).toList==((⟨l.toArray⟩:Bt):Bt).toList)=decide (s=l):=λl=>zb5 s l
 have e1:=e [116,114,117,101];have e2:=e [102,97,108,115,101];have e3:=e [110,117,108,108]
 rw[e1,e2,e3]
 unfold Yq at h
 refine⟨λhx=>?_,λhx=>⟨λhy=>?_,λhy=>⟨λhz=>?_,λhz=>?_⟩⟩⟩
 ·rw[if_pos (of_decide_eq_true hx)]at h;exact h
 ·rw[if_neg (of_decide_eq_false hx),if_pos (of_decide_eq_true hy)]at h;exact h
 ·rw[if_neg (of_decide_eq_false hx),if_neg (of_decide_eq_false hy),if_pos (of_decide_eq_true hz)]at h;exact h
 ·rw[if_neg (of_decide_eq_false hx),if_neg (of_decide_eq_false hy),if_neg (of_decide_eq_false hz)]at h;exact h
theorem zmx{c:UInt8}{t:Bs}(h:s.drop a=c::t):Jx s a=
  if c∈signB then(2+Lib.indexByte signB c,a+1,0)
  else if c∈Ws then(1,a+Zh (jk Ws) (s.drop a),0)
  else if c=34 then(if(qz s a).2.2=0 then(8,(qz s a).2.1,0)else(0,(qz s a).2.1,(qz s a).2.2))
  else if c∈zmh then(if(zo ((s.drop a).take (Zh (jk zd6) (s.drop a)))).2=0 then(9,a+Zh (jk zd6) (s.drop a),0)else(0,a,(zo ((s.drop a).take (Zh (jk zd6) (s.drop a)))).2))
  else if Yq ((s.drop a).take (Zh (jk y7) (s.drop a)))=0 then(0,a,2)else(Yq ((s.drop a).take (Zh (jk y7) (s.drop a))),a+Zh (jk y7) (s.drop a),0):=by
 unfold Jx;rw[h]
theorem zcl(h:Jx s a=(k,t,0)):zmw s a=.tuple #[.agg #[.int .i64 k,.int .i64 (a:Int),.int .i64 (t:Int)],.int .i64 0]:=by unfold zmw;rw[h];rfl
theorem zey{k e:Int}(h:Jx s a=(k,t,e))(he:¬e=0):zmw s a=.tuple #[.agg #[.int .i64 0,.int .i64 (t:Int),.int .i64 (t:Int)],.int .i64 e]:=by unfold zmw;rw[h,if_neg he]
set_option maxHeartbeats 2000000 in
theorem z6p{gl M:Fr}(hg:GL gl)(hM:Fr.le gl M){h:za}(ag:AgM M h)(hs:s.length<=65536)(ha:a<s.length){K:Value->za->Prop}(hK:∀h',Keep h.size h h'->K (zmw s a) h'):
  XC Tp 198 #[.string (bl s),.int .i64 (a:Int)] h K:=by
 have hd:s.drop a=s[a]::s.drop (a+1):=Ay ha
 have ax:s.drop a≠[]:=by rw[hd];exact List.cons_ne_nil _ _
 have ay:(s.drop a).length=s.length-a:=As
 have eV:=zmx hd
 generalize hc:s[a]=c at eV hd
 apply zow
 intro h1 h2
 have z1:h1.size=h.size+1:=Al _
 have z2:h2.size=h1.size+1:=Al _
 have k1:Keep h.size h h1:=Keep.push _ _ (Ac _)
 have k2:Keep h1.size h1 h2:=Keep.push _ _ (Ac _)
 have ak:Keep h.size h h2:=k1.trans k2 (by omega)
 have B0:Blk h2 h.size #[.int .i64 (a:Int)]:=(Blk.new h #[.int .i64 (a:Int)] 3).ofKeep k2
 have B1:Blk h2 h1.size (zkp 0 0 0).toArray:=Blk.new _ _ _
 clear_value h1 h2
 have ae:AgM M h2:=ag.keep ak
 have done:∀(k f t e:Int) (g:za),Keep h2.size h2 g->.tuple #[.agg #[.int .i64 k,.int .i64 f,.int .i64 t],.int .i64 e]=zmw s a ->
   XRunU Tp (Aj 90 (.pointer (some ⟨h1.size,0,none⟩)) (.agg #[.int .i64 k,.int .i64 f,.int .i64 t])) g (λg'=>∃r1 r2 r3:Int,zf g' ⟨h1.size,0,none⟩ 0 [.int .i64 r1,.int .i64 r2,.int .i64 r3]/\K (.tuple #[.agg #[.int .i64 r1,.int .i64 r2,.int .i64 r3],.int .i64 e]) g'):=by
  intro k f t e g kg he
  refine zwz (B1.ofKeep kg) λg' q1 q2 q3=>⟨k,f,t,q3.ld,?_⟩
  rw[he]
  have hz:=kg.size
  exact hK g' ((ak.trans kg (by omega)).trans (c:=g') (m:=h.size) ⟨by omega,λi hi=>q1 i (by omega)⟩ (Ac _))
 have ex:(bl s).extract (a:Int).toNat (s.length:Int).toNat=bl (s.drop a):=zmd (n:=(a:Int)) rfl
 have b0:zb (bl (s.drop a)) (0:Int).toNat=(c.toNat:Int):=by rw[zp,hd];rfl
 rw[zd]
 refine⟨(a:Int),B0.cell rfl,?_⟩
 rw[ex,zd,b0]
 refine⟨⟨by omega,by omega,by omega⟩,⟨by omega,by omega⟩,?_⟩
 have bs:(⟨#[123,125,91,93,44,58]⟩:Bt)=bl signB:=rfl
 have bb:(⟨#[32,9,10,13]⟩:Bt)=bl Ws:=rfl
 have bn:(⟨#[45,43,46,48,49,50,51,52,53,54,55,56,57,101,69]⟩:Bt)=bl zd6:=rfl
 rw[bs,bb,bn]
 have af:∀n:Nat,n<=s.length->Aa .i64 ((a:Int)+(n:Int))=((a+n:Nat):Int):=λn hn=>by rw[w64 (by omega)];omega
 refine za7 ⟨_,rfl,?_⟩
 rw[z6o]
 refine⟨λhx=>?_,λhx=>?_⟩
 ·have hx:=of_decide_eq_true hx
  rw[if_pos hx]at eV
  have hr:0<=Lib.indexByte signB c/\Lib.indexByte signB c<6:=by
   have:∀c∈signB,0<=Lib.indexByte signB c/\Lib.indexByte signB c<6:=by decide
   exact this c hx
  refine⟨(a:Int),B0.cell rfl,by kernel_rfl,?_⟩
  refine zw0 B0 λg kg=>⟨_,_,_,_,rfl,done _ _ _ _ g kg ?_⟩
  rw[zcl eV,w64 (n:=2+Lib.indexByte signB c) (by omega),show Aa .i64 ((a:Int)+1)=((a+1:Nat):Int)from af 1 (by omega)]
 have hx:=of_decide_eq_false hx
 rw[if_neg hx]at eV
 refine za7 ⟨_,rfl,?_⟩
 rw[z6o]
 have aj:=λp=>zor p (s.drop a)
 refine⟨λhy=>?_,λhy=>?_⟩
 ·have hy:=of_decide_eq_true hy
  rw[if_pos hy]at eV
  refine⟨(a:Int),B0.cell rfl,zw2 λg kg zg Bg=>⟨_,rfl,kg.get h.size (by omega),?_⟩⟩
  refine z3d (lo:=g.size) (zgk Bg (by omega)) (by omega) λg2 Z=>⟨_,rfl,?_,by kernel_rfl,?_⟩
  ·rw[Z.get h.size (by omega)];exact kg.get h.size (by omega)
  have k3:Keep h2.size h2 g2:=kg.trans Z (by omega)
  refine zw0 (B0.ofKeep k3) λg3 au=>⟨_,_,_,_,rfl,done _ _ _ _ g3 (k3.trans au k3.size) ?_⟩
  have:=aj (jk Ws)
  rw[zcl eV,af _ (by omega)]
 have hy:=of_decide_eq_false hy
 rw[if_neg hy]at eV
 rw[show((c.toNat:Int)==34)=decide (c=34)from u8i (n:=34) (by omega),z3e]
 refine⟨λhz=>?_,λhz=>⟨λhw=>?_,λhw=>?_⟩⟩
 ·have hz:=of_decide_eq_true hz
  rw[if_pos hz]at eV
  refine⟨(a:Int),B0.cell rfl,?_⟩
  refine((z6k hg (t:=s) (a:=(a:Int)) (by omega) (R:=λr=>r=zze s (a:Int)) rfl).px hM ae (yr (a:=Arg.mk .str _) (rdStr _) (yr (a:=Arg.mk (.int .i64) _) (Wm _ _) jq))).go λv g M' r L hv hr=>?_
  have he:zze s (a:Int)=(((qz s a).2.1:Int),(qz s a).2.2):=by
   unfold zze;rw[if_neg (by omega),Af]
  rw[he]at hr
  subst hr
  rw[zmv hv]
  refine⟨_,_,rfl,λaa=>⟨by kernel_rfl,?_⟩,λaa=>⟨by kernel_rfl,?_⟩⟩
  ·refine zw1 hM (ae.keep L.keep) λg2 Z=>⟨_,_,_,_,rfl,done _ _ _ _ g2 (L.keep.trans Z L.keep.size) ?_⟩
   have hn:¬(qz s a).2.2=0:=by simpa using aa
   rw[if_neg hn]at eV
   rw[zey eV hn]
  ·refine zw0 (B0.ofKeep L.keep) λg2 Z=>⟨_,_,_,_,rfl,done _ _ _ _ g2 (L.keep.trans Z L.keep.size) ?_⟩
   have hn:(qz s a).2.2=0:=by simpa using aa
   rw[if_pos hn]at eV
   rw[zcl eV]
 ·have hz:=of_decide_eq_false hz
  have hw:=of_decide_eq_true hw
  rw[if_neg hz,if_pos hw]at eV
  refine⟨(a:Int),B0.cell rfl,zw2 λg kg zg Bg=>⟨_,rfl,kg.get h.size (by omega),?_⟩⟩
  have ap:=aj (jk zd6)
  refine z3d (lo:=g.size) (zgk Bg (by omega)) (by omega) λg2 Z=>⟨_,rfl,?_,?_⟩
  ·rw[Z.get h.size (by omega)];exact kg.get h.size (by omega)
  have k3:Keep h2.size h2 g2:=kg.trans Z (by omega)
  rw[af _ (by omega)]
  have ai:(bl s).extract (a:Int).toNat ((a+Zh (jk zd6) (s.drop a):Nat):Int).toNat=bl ((s.drop a).take (Zh (jk zd6) (s.drop a))):=by
   rw[Af,Af,zt,show a+Zh (jk zd6) (s.drop a)-a=Zh (jk zd6) (s.drop a)by omega]
  refine⟨(a:Int),(B0.ofKeep k3).cell rfl,⟨by omega,by omega,by omega⟩,?_⟩
  rw[ai]
  refine((zju (gl:=gl) (s:=(s.drop a).take (Zh (jk zd6) (s.drop a))) (by rw[AO];omega) (R:=λr=>r=(nmB (zo ((s.drop a).take (Zh (jk zd6) (s.drop a)))).1,(zo ((s.drop a).take (Zh (jk zd6) (s.drop a)))).2)) rfl).px hM (ae.keep k3) (yr (a:=Arg.mk .str _) (rdStr _) jq)).go λv g3 M' r L hv hr=>?_
  subst hr
  rw[qam hv]
  generalize hq:(s.drop a).take (Zh (jk zd6) (s.drop a))=w at eV
  refine⟨_,_,_,_,rfl,?_⟩
  intro ah
  have an:Keep g3.size g3 ah:=Keep.push _ _ (Ac _)
  have ar:Blk ah g3.size #[.bool false,.string ⟨#[]⟩,.int .i64 0]:=Blk.new _ _ _
  have k4:Keep h2.size h2 ah:=(k3.trans L.keep k3.size).trans an (by have:=L.keep.size;have:=k3.size;omega)
  clear_value ah
  refine Jv (vs:=[.bool (nmB (zo w).1).1,.string (nmB (zo w).1).2.1,.int .i64 (nmB (zo w).1).2.2]) (by kernel_rfl) ar rfl (by kernel_rfl) (Ac 3) (λu hu=>?_) λam q1 q2 q3=>?_
  ·simp at hu
   rcases hu with rfl|rfl|rfl <;> rfl
  have k5:Keep h2.size h2 am:=k4.trans ⟨by omega,λi hi=>q3 i (by have:=L.keep.size;have:=k3.size;omega)⟩ (Ac _)
  refine⟨λaa=>⟨(a:Int),(B0.ofKeep k5).cell rfl,by kernel_rfl,?_⟩,λaa=>⟨by kernel_rfl,?_⟩⟩
  ·refine zw1 hM (ae.keep k5) λg4 ab=>⟨_,_,_,_,rfl,done _ _ _ _ g4 (k5.trans ab k5.size) ?_⟩
   have hn:¬(zo w).2=0:=by simpa using aa
   rw[if_neg hn]at eV
   rw[zey eV hn]
  ·refine zw0 (B0.ofKeep k5) λg4 ab=>⟨_,_,_,_,rfl,done _ _ _ _ g4 (k5.trans ab k5.size) ?_⟩
   have hn:(zo w).2=0:=by simpa using aa
   rw[if_pos hn]at eV
   rw[zcl eV]
 ·have hz:=of_decide_eq_false hz
  have hw:=of_decide_eq_false hw
  rw[if_neg hz,if_neg hw]at eV
  have ap:=aj (jk y7)
  refine z3d (lo:=h2.size) (zpa hM ae) (by omega) λg2 Z=>⟨_,rfl,⟨by omega,by omega,by omega⟩,?_⟩
  have ai:(bl (s.drop a)).extract (0:Int).toNat ((Zh (jk y7) (s.drop a):Nat):Int).toNat=bl ((s.drop a).take (Zh (jk y7) (s.drop a))):=by
   rw[Af,zt];rfl
  rw[ai]
  refine((zzi (gl:=gl) (s:=(s.drop a).take (Zh (jk y7) (s.drop a))) (R:=λr=>r=Yq ((s.drop a).take (Zh (jk y7) (s.drop a)))) rfl).px hM (ae.keep Z) (yr (a:=Arg.mk .str _) (rdStr _) jq)).go λv g3 M' r L hv hr=>?_
  subst hr
  rw[z8b hv]
  generalize hq:(s.drop a).take (Zh (jk y7) (s.drop a))=w at eV
  have k5:Keep h2.size h2 g3:=Z.trans L.keep Z.size
  refine⟨_,rfl,λaa=>⟨(a:Int),(B0.ofKeep k5).cell rfl,by kernel_rfl,?_⟩,λaa=>⟨(a:Int),(B0.ofKeep k5).cell rfl,by kernel_rfl,?_⟩⟩
  ·refine zw0 (B0.ofKeep k5) λg4 ab=>⟨_,_,_,_,rfl,done _ _ _ _ g4 (k5.trans ab k5.size) ?_⟩
   have hn:¬Yq w=0:=by simpa using aa
   rw[if_neg hn]at eV
   rw[zcl eV,af _ (by omega)]
  ·refine zw1 hM (ae.keep k5) λg4 ab=>⟨_,_,_,_,rfl,done _ _ _ _ g4 (k5.trans ab k5.size) ?_⟩
   have hn:Yq w=0:=by simpa using aa
   rw[if_pos hn]at eV
   rw[zey eV (by decide)]
end
end Go.X
end
section
namespace Go.X
open Go Go.Code
section
variable {ro:Option Nat} {n:Nat} {P:Program} {f:FuncId} {args:Array Value} {w:World} {o:Oper} {a:Act} {e:Env} {h:za}
abbrev rf(ro:Option Nat):Fence:={ Fence.wide with round:=ro }
def zek(K:Act->World->Prop):Exit->Act->World->Prop
 |.normal,a,w=>K a w
 |_,_,_=>False
theorem Qc{K:Act->World->Prop}:¬LetsOut (zek K):=λ⟨_,_,h⟩=>h
theorem zzj{R:Ending->World->Prop}(h:Calls P f args w R):CallsIn (rf ro) n P f args w R:=by
 have h1:CallsIn Fence.wide n P f args w R:=callsIn_wide.2 h
 exact h1
theorem z3f{row:String}{R:Value->World->Prop}(h:Rows P row args w R):RowsIn (rf ro) n P row args w R:=by
 have h1:RowsIn Fence.wide n P row args w R:=λc cs _=>let ⟨v,w',r,s⟩:=h c cs;⟨v,w',r,stepsIn_wide.2 s⟩
 exact h1
def wy(o:Oper):Bool:=match o.op with
 |.defer _=>false
 |_=>true
theorem zpb(h:wy o=true):∀c,o.op≠.defer c:=by
 intro c e
 unfold wy at h
 rw[e]at h;cases h
theorem z6q(hd:wy o=true){K:Act->World->Prop}{Q:Exit->Act->World->Prop}(h:o.wp P a w K Q):o.wpIn (rf ro) n P a w K Q:=by
 refine⟨λ_ _=>trivial,?_⟩
 rw[Oper.semAt_eq _ _ _ (zpb hd)]
 unfold Oper.wp at h
 generalize (execOp a.eval o).run P w=r at *
 cases r with
 |ok x w'=>
  cases x with
  |enter f args=>exact⟨λhx=>(by cases hx),zzj h⟩
  |row row args=>exact⟨λhx=>(by cases hx),z3f h⟩
  |value v=>exact h
  |skip=>exact h
  |defer d=>exact h
  |_=>exact h.elim
 |halt x w'=>cases x <;> first|exact h|exact h.elim
theorem zgl{ro:Option Nat}{n:Nat}{P:Program}{ops:Array Oper}{K:Act->World->Prop}{Q:Exit->Act->World->Prop}: ∀(l l2:List Oper) (a:Act) (w:World),l.all wy=true->wpList P ops (zek K) l a w->(∀a w,K a w->wpListIn (rf ro) n P ops Q l2 a w)->wpListIn (rf ro) n P ops Q (l++l2) a w
 |[],l2,a,w,_,h,hK=>hK a w h
 |o::l,l2,a,w,hd,h,hK=>by
  rw[DX,AK]at hd
  rw[Br]
  unfold wpListIn
  unfold wpList at h
  by_cases hw:Bm o (yielded ops a.tmps)=true
  ·rw[if_pos hw]at h ⊢
   rcases h with h|⟨_,h⟩
   ·have h1:=z6q (ro:=ro) (n:=n) hd.1 h
    have h2:=Oper.wpIn_mono (λa w hq=>zgl l l2 a w hd.2 hq hK) h1
    refine⟨h2.1,?_⟩
    have h3:=h2.2
    revert h3
    generalize (o.semAt (rf ro).round a.eval).run P w=r
    cases r with
    |ok x w'=>
     cases x with
     |enter f args=>exact λh3=>⟨h3.1,CallsIn.mono h3.2 λe Z he=>by cases e <;> first|exact he|exact he.elim|exact(Qc he).elim⟩
     |round l f tmps assign body=>exact λh3=>⟨h3.1,RoundIn.mono h3.2 λe Z he=>by cases e <;> first|exact he|exact he.elim|exact(Qc he).elim⟩
     |_=>exact λh3=>h3
    |halt x w'=>cases x <;> first|exact λh3=>h3|exact λh3=>h3.elim
   ·exact(Qc h).elim
  ·rw[if_neg hw]at h ⊢
   exact⟨λ_ _=>trivial,zgl l l2 _ _ hd.2 h hK⟩
theorem zra{ro:Option Nat}{n:Nat}{P:Program}{md:Region.Mode}{ops:Array Oper}{K:Act->World->Prop}(hd:∀(i:Nat) (o:Oper),ops[i]?=some o->wy o=true):∀(Z:Nat) (listed:Array Bool) (a:Act) (w:World),wpAny P md ops (zek K) Z listed a w->wpAnyIn (rf ro) n P md ops (zek K) Z listed a w
 |0,_,_,_,h=>h
 |Z+1,listed,a,w,h=>by
  refine⟨h.1,λi hi=>?_⟩
  have h2:=h.2 i hi
  unfold wpOp at h2
  unfold wpOpIn
  split at h2
  ·rename_i ho
   rw[ho];exact zra hd Z _ _ _ h2
  ·rename_i o ho
   rw[ho]
   simp only
   by_cases hw:Bm o (yielded ops a.tmps)=true
   ·rw[if_pos hw]at h2 ⊢
    rcases h2 with h2|⟨_,h2⟩
    ·exact Oper.wpIn_mono (λa w hq=>zra hd Z _ a w hq) (z6q (hd i o ho) h2)
    ·exact(Qc h2).elim
   ·rw[if_neg hw]at h2 ⊢
    exact⟨λ_ _=>trivial,zra hd Z _ _ _ h2⟩
def J5(D:List Deferred)(a:Act):Act:={ a with defers:=a.defers++D }
theorem z0h{D:List Deferred}{K:Act->World->Prop}{R:Act->World->Prop}(h:o.wp P a w K (zek R)):o.wp P (J5 D a) w (λa1 w1=>∃a0,a1=J5 D a0/\K a0 w1) (zek λa1 w1=>∃a0,a1=J5 D a0/\R a0 w1):=by
 unfold Oper.wp at h ⊢
 have he:(J5 D a).eval=a.eval:=rfl
 rw[he]
 have hp:∀d v,(J5 D a).put d v=J5 D (a.put d v):=λd v=>by cases d <;> rfl
 generalize (execOp a.eval o).run P w=r at *
 cases r with
 |ok x w'=>
  cases x with
  |enter f args=>exact Calls.mono h λe Z he=>by cases e with
    |returned v=>exact⟨_,hp _ _,he⟩
    |panicked ch=>exact he
    |outgrown=>exact(Qc he).elim
  |row row args=>exact Rows.mono h λv Z he=>⟨_,hp _ _,he⟩
  |value v=>exact⟨_,hp _ _,h⟩
  |skip=>exact⟨_,hp _ _,h⟩
  |defer d=>exact⟨(Act.put { a with defers:=d::a.defers } o.dst undef),(by cases o.dst <;> rfl),(show K (Act.put { a with defers:=d::a.defers } o.dst undef) w' from h)⟩
  |_=>exact h.elim
 |halt x w'=>cases x <;> first|exact h|exact h.elim
theorem zkf{P:Program}{md:Region.Mode}{ops:Array Oper}{D:List Deferred}{K:Act->World->Prop}:∀(Z:Nat) (listed:Array Bool) (a:Act) (w:World),wpAny P md ops (zek K) Z listed a w->wpAny P md ops (zek λa1 w1=>∃a0,a1=J5 D a0/\K a0 w1) Z listed (J5 D a) w
 |0,_,a,_,h=>⟨h.1,a,rfl,h.2⟩
 |Z+1,listed,a,w,h=>by
  refine⟨λhn=>⟨a,rfl,h.1 hn⟩,λi hi=>?_⟩
  have h2:=h.2 i hi
  unfold wpOp at h2 ⊢
  have hy:yielded ops (J5 D a).tmps=yielded ops a.tmps:=rfl
  split at h2
  ·exact zkf Z _ _ _ h2
  ·rename_i o ho
   rw[hy]
   by_cases hw:Bm o (yielded ops a.tmps)=true
   ·rw[if_pos hw]at h2 ⊢
    rcases h2 with h2|⟨_,h2⟩
    ·exact .inl (Oper.wp_mono (λa1 w1 ⟨a0,e,hq⟩=>by rw[e];exact zkf Z _ a0 w1 hq) (z0h h2))
    ·exact(Qc h2).elim
   ·rw[if_neg hw]at h2 ⊢
    have hp:(J5 D a).put o.dst undef=J5 D (a.put o.dst undef):=by cases o.dst <;> rfl
    rw[hp]
    exact zkf Z _ _ _ h2
def YX(P:Program)(l:Nat)(args:Array Value)(h:za)(K:Value->za->Prop):Prop:=
 ∀(m:Nat) (B:World) (d:Nat),∃fn tmps assign body,(Instr.yield l args).run P (mk B d h)=.ok (.round l fn tmps assign body) (mk B d h) /\
  RoundIn (rf none) m P l fn tmps assign body (mk B d h) λe w'=>∃v d' h',e=.returned v/\w'=mk B d' h'/\K v h'
def qan(o:Oper):Bool:=match o.op with
 |.call c=>match c.callee with
  |.value x=>!(Yv x)
  |_=>false
 |_=>false
def zmy:List Oper->Option (List Oper×Oper×List Oper)
 |[]=>none
 |o::l=>bif qan o then some ([],o,l)else match zmy l with
  |some (pre,o',post)=>some (o::pre,o',post)
  |none=>none
theorem zw3{l:List Oper}:∀{pre Z:List Oper} {o:Oper},zmy l=some (pre,o,Z)->l=pre++o::Z:=by
 induction l with
 |nil=>intro pre Z o h;cases h
 |cons x l ih=>
  intro pre Z o h
  rw[zmy]at h
  cases hd:qan x with
  |true=>
   rw[hd,cond_true]at h
   have h:=Aq h
   have h1:=congrArg Prod.fst h
   have h2:=congrArg (λq=>q.2.1) h
   have h3:=congrArg (λq=>q.2.2) h
   simp only at h1 h2 h3
   rw[<-h1,<-h2,<-h3];rfl
  |false=>
   rw[hd,cond_false]at h
   cases hs:zmy l with
   |none=>rw[hs]at h;cases h
   |some q=>
    obtain⟨ab,o',aa⟩:=q
    rw[hs]at h
    have h:=Aq h
    have h1:=congrArg Prod.fst h
    have h2:=congrArg (λq=>q.2.1) h
    have h3:=congrArg (λq=>q.2.2) h
    simp only at h1 h2 h3
    rw[ih hs,<-h1,<-h2,<-h3];rfl
def zrb(P:Program)(o:Oper)(e:Env)(h:za)(K:Value->za->Prop):Prop:=match o.op with
 |.call c=>match c.callee with
  |.value x=>match Yu e [] x with
   |some (.func (.yield l) A C)=>bif (bif (Nat.beq A.size 0)then(Nat.beq C.size 0)else false)then(bif known e [] c.args.toList then YX P l (c.args.map (rho e [])) h λv h'=>typed P o.type v λv'=>K v' h' else False)else False
   |_=>False
  |_=>False
 |_=>False
theorem zmz{n m:Nat}{K:Value->za->Prop}(H:zrb P o e h K)(hs:Sat n e a)(B:World)(d:Nat){next:Act->World->Prop}{Q:Exit->Act->World->Prop}
  (hn:∀v d' h',K v h'->next (a.put o.dst v) (mk B d' h')):o.wpIn (rf none) m P a (mk B d h) next Q:=by
 unfold zrb at H
 split at H
 ·rename_i c ho
  split at H
  ·rename_i x hx
   split at H
   ·rename_i l A C hl
    obtain⟨hA,hC,H⟩:A=#[]/\C=#[]/\(bif known e [] c.args.toList then YX P l (c.args.map (rho e [])) h λv h'=>typed P o.type v λv'=>K v' h' else False):=by
     cases h1:Nat.beq A.size 0 with
     |false=>rw[h1]at H;exact Dj H
     |true=>
      cases h2:Nat.beq C.size 0 with
      |false=>rw[h1,h2]at H;exact Dj H
      |true=>rw[h1,h2]at H;exact⟨Array.eq_empty_of_size_eq_zero (Ah h1),Array.eq_empty_of_size_eq_zero (Ah h2),H⟩
    subst hA;subst hC
    cases hk:known e [] c.args.toList with
    |false=>rw[hk]at H;exact Dj H
    |true=>
     rw[hk]at H
     simp only[cond_true]at H
     obtain⟨fn,tmps,assign,body,h1,h2⟩:=H (m-1) B d
     have hv:a.eval x=.func (.yield l) #[] #[]:=yb hs (c:=[]) trivial hl
     have Z:c.args.map a.eval=c.args.map (rho e []):=by
      apply Array.map_congr_left
      intro y hy
      exact j8 hs (c:=[]) trivial hk y (by simpa using hy)
     have hr:(o.semAt (rf none).round a.eval).run P (mk B d h)=.ok (.round l fn tmps assign body) (mk B d h):=by
      show(execOp a.eval o).run P (mk B d h)=_
      simp only[execOp,ho,resolve,hx,hv,Dx,Sem.run_bind,Sem.run_pure,Result.andThen_ok,invoke]
      rw[Z]
      simpa using h1
     refine⟨λ_ _=>trivial,?_⟩
     rw[hr]
     refine⟨λhx=>(by cases hx),h2.mono ?_⟩
     rintro e' w' ⟨v,d',h',rfl,rfl,h3⟩
     exact hn _ _ _ (wq h3)
   ·exact Dj H
  ·exact Dj H
 ·exact Dj H
def zpc(P:Program)(n:Nat)(tl:List (Nat×Nat))(id:Nat)(ops:Array Oper)(Z:Bool)(K:Env->za->Prop)(e:Env)(h:za):Prop:=
 match zmy ops.toList with
 |none=>regionF P n tl id ops Z K e h
 |some (pre,o,post)=>bif Z then False else bif (pre.all wy&&post.all wy)then(match o.guard with
  |none=>bif qk n [] o.dst then wR P n ops (λe1 h1=>zrb P o e1 h1 λv h2=>wR P n ops K post (putO e1 o.dst [] v) h2) pre e h else False
  |some _=>False)else False
theorem zkg(hm:P.follows .mixedOrders=true){tl:List (Nat×Nat)}{id:Nat}{ops:Array Oper}{aa:Bool}{K:Env->za->Prop}
  (H:zpc P n tl id ops aa K e h) (m:Nat) (B:World) (d:Nat) (hs:Sat n e a) {Q:Exit->Act->World->Prop}
  (hQ:∀e' a' d' h',Sat n e' a'->Same (yn ops.toList) a a'->K e' h'->Q .normal a' (mk B d' h')):(DY id ops aa).wpIn (rf none) m P Q a (mk B d h):=by
 unfold zpc at H
 split at H
 ·exact wpIn_wide.2 (zbi hm H B d hs hQ)
 ·rename_i pre o Z af
  have hl:=zw3 af
  cases aa with
  |true=>exact Dj H
  |false=>
   simp only[cond_false]at H
   cases hnd:(pre.all wy&&Z.all wy)with
   |false=>rw[hnd]at H;exact Dj H
   |true=>
    rw[hnd]at H
    simp only[cond_true]at H
    rw[AK]at hnd
    split at H
    ·rename_i hg
     cases hd:qk n [] o.dst with
     |false=>rw[hd]at H;exact Dj H
     |true=>
      rw[hd]at H
      simp only[cond_true]at H
      refine wpIn_region_list ?_
      have ah:∀x∈yn pre,x∈yn ops.toList:=λx hx=>by rw[hl,xf];exact Ao _ hx
      have ab:∀i,o.dst=some i->i∈yn ops.toList:=λi hi=>by rw[hl,xf];exact Au _ (by simp[yn,hi])
      have ai:∀x∈yn Z,x∈yn ops.toList:=λx hx=>by
       rw[hl,xf]
       refine Au _ ?_
       unfold yn
       split
       ·exact Ag _ hx
       ·exact hx
      rw[hl]
      refine zgl (K:=λa1 w1=>∃e1 d1 h1,w1=mk B d1 h1/\Sat n e1 a1/\Same (yn ops.toList) a a1/\zrb P o e1 h1 λv h2=>wR P n ops K Z (putO e1 o.dst [] v) h2) pre (o::Z) a _ hnd.1 (W0 B pre e h a d H hs λe' a' d' h' q1 q2 q3=>⟨e',d',h',rfl,q1,q2.mono ah,q3⟩) ?_
      rintro a1 w1 ⟨e1,d1,h1,rfl,s1,m1,q1⟩
      unfold wpListIn
      have ae:Bm o (yielded ops a1.tmps)=true:=by simp[Bm,hg]
      rw[if_pos ae]
      refine zmz q1 s1 B d1 λv d2 h2 q2=>?_
      have s2:Sat n (putO e1 o.dst [] v) (a1.put o.dst v):=s1.putO hd (λ_=>rfl) (λhv=>absurd trivial hv)
      rw[<-A8 Z]
      refine zgl (K:=λa' w'=>Q .normal a' w') Z [] _ _ hnd.2 (W0 B Z _ _ _ _ q2 s2 λe' a' d' h' r1 r2 r3=>?_) λa w h=>h
      exact hQ e' a' d' h' r1 ((m1.trans (Same.put a1 o.dst v ab)).trans (r2.mono ai)) r3
    ·exact Dj H
def WI(P:Program)(n:Nat)(pl:Plan):Code->X5->Env->za->Prop
 |.skip,Q,e,h=>Q .normal e h
 |.ret,Q,e,h=>Q .ret e h
 |.exit id,Q,e,h=>Q (.exit id) e h
 |.label _,Q,e,h=>Q .normal e h
 |.goto l,Q,e,h=>Q (.goto l) e h
 |.region id ops draw,Q,e,h=>zpc P n pl.tails id ops draw (λe h=>Q .normal e h) e h
 |.seq x y,Q,e,h=>match zx1 pl.joins (jh y)with
  |none=>WI P n pl x (znr (λe h=>WI P n pl y Q e h) Q) e h
  |some J=>z4s J (λe h=>WI P n pl y Q e h) (λK=>WI P n pl x (znr K Q) e h) (Wd (Zg x) e)
 |.cond c x y,Q,e,h=>match Yu e [] c with
  |some (.bool b)=>(b=true->WI P n pl x Q e h)/\(b=false->WI P n pl y Q e h)
  |_=>False
 |.block id x,Q,e,h=>WI P n pl x (zfi id Q) e h
 |.loop x,Q,e,h=>match zx1 pl.loops (jh x)with
  |some J=>z4t J (λQn e h=>WI P n pl x (znr Qn Q) e h) (Wd (Zg x) e) e h
  |none=>False
 |_,_,_,_=>False
theorem zzk(hm:P.follows .mixedOrders=true){pl:Plan}:∀(c:Code) (Q:X5) (e:Env) (h:za),WI P n pl c Q e h ->
  ∀(m:Nat) (B:World) (d:Nat) (a:Act),Sat n e a->c.wpIn (rf none) m P (z4u n B (Zg c) a Q) a (mk B d h):=by
 intro c
 induction c with
 |skip=>exact λQ e h H m B d a hs=>wpIn_skip ⟨e,d,h,rfl,hs,Same.refl _ _,H⟩
 |ret=>exact λQ e h H m B d a hs=>wpIn_ret ⟨e,d,h,rfl,hs,Same.refl _ _,H⟩
 |exit id=>exact λQ e h H m B d a hs=>wpIn_exit ⟨e,d,h,rfl,hs,Same.refl _ _,H⟩
 |label l=>exact λQ e h H m B d a hs=>wpIn_label ⟨e,d,h,rfl,hs,Same.refl _ _,H⟩
 |goto l=>exact λQ e h H m B d a hs=>wpIn_goto ⟨e,d,h,rfl,hs,Same.refl _ _,H⟩
 |region id ops aB=>
  exact λQ e h H m B d a hs=>zkg hm H m B d hs λe' a' d' h' q1 q2 q3=>⟨e',d',h',rfl,q1,q2,q3⟩
 |seq x y aa ab=>
  intro Q e h H m B d a hs
  simp only[WI]at H
  have hl:∀i∈Zg x,i∈Zg (x.seq y):=λi hi=>Ao _ hi
  have hr:∀i∈Zg y,i∈Zg (x.seq y):=λi hi=>Au _ hi
  split at H
  ·refine wpIn_seq (wpIn_mono (aa _ _ _ H m B d a hs) ?_)
   rintro ex a1 w1 ⟨e1,d1,h1,rfl,s1,m1,q1⟩
   cases ex with
   |normal=>
    refine wpIn_mono (ab _ _ _ q1 m B d1 a1 s1) ?_
    rintro ex a2 w2 ⟨e2,d2,h2,rfl,s2,m2,q2⟩
    exact⟨e2,d2,h2,rfl,s2,(m1.mono hl).trans (m2.mono hr),q2⟩
   |_=>exact⟨e1,d1,h1,rfl,s1,m1.mono hl,q1⟩
  ·rename_i J hJ
   have H':=H (mkC (js J) λvs=>λh=>WI P n pl y Q (Qo J vs++Wd (Zg x) e) h) (zi3 λvs h hq=>hq)
   refine wpIn_seq (wpIn_mono (aa _ _ _ H' m B d a hs) ?_)
   rintro ex a1 w1 ⟨e1,d1,h1,rfl,s1,m1,q1⟩
   cases ex with
   |normal=>
    obtain⟨vs,q,hv,hq,hk⟩:=zcv q1
    have az:=zi2 hq
    subst az
    have ar:Sat n (Qo J vs++Wd (Zg x) e) a1:=zbj hs s1.defers s1.size m1 (jf s1 hv)
    refine wpIn_mono (ab _ _ _ hk m B d1 a1 ar) ?_
    rintro ex a2 w2 ⟨e2,d2,h2,rfl,s2,m2,q2⟩
    exact⟨e2,d2,h2,rfl,s2,(m1.mono hl).trans (m2.mono hr),q2⟩
   |_=>exact⟨e1,d1,h1,rfl,s1,m1.mono hl,q1⟩
 |cond c x y aa ab=>
  intro Q e h H m B d a hs
  simp only[WI]at H
  have hl:∀i∈Zg x,i∈Zg (DV c x y):=λi hi=>Ao _ hi
  have hr:∀i∈Zg y,i∈Zg (DV c x y):=λi hi=>Au _ hi
  split at H
  ·rename_i b hb
   refine wpIn_cond_split (yb hs (c:=[]) trivial hb) (λay=>?_) (λap=>?_)
   ·refine wpIn_mono (aa _ _ _ (H.1 ay) m B d a hs) ?_
    rintro ex a2 w2 ⟨e2,d2,h2,rfl,s2,m2,q2⟩
    exact⟨e2,d2,h2,rfl,s2,m2.mono hl,q2⟩
   ·refine wpIn_mono (ab _ _ _ (H.2 ap) m B d a hs) ?_
    rintro ex a2 w2 ⟨e2,d2,h2,rfl,s2,m2,q2⟩
    exact⟨e2,d2,h2,rfl,s2,m2.mono hr,q2⟩
  ·exact H.elim
 |block id x ih=>
  intro Q e h H m B d a hs
  refine wpIn_block (wpIn_mono (ih _ _ _ H m B d a hs) ?_)
  rintro ex a1 w1 ⟨e1,d1,h1,rfl,s1,m1,q1⟩
  cases ex with
  |exit i=>
   simp only[zfi]at q1
   simp only[Exit.inBlock]
   by_cases hb:Nat.beq i id=true
   ·rw[if_pos (Ah hb)]
    simp only[hb,cond_true]at q1
    exact⟨e1,d1,h1,rfl,s1,m1,q1⟩
   ·rw[if_neg (λhe=>hb (by rw[he];simp))]
    simp only[hb,cond_false]at q1
    exact⟨e1,d1,h1,rfl,s1,m1,q1⟩
  |_=>exact⟨e1,d1,h1,rfl,s1,m1,q1⟩
 |loop x ih=>
  intro Q e h H m B d a hs
  simp only[WI]at H
  split at H
  ·rename_i J hJ
   obtain⟨I,μ,h0,ae⟩:=H
   obtain⟨ai,p0,ak,au,aA⟩:=zcv h0
   let F:=zrt (js J) I μ
   let at_:Act->Option ((za->Prop)×(za->Nat)):=λa1=>(Xg (λi=>some (zm a1 i)) J).bind λvs=>zk1 (js J) vs F
   refine wpIn_loop (λa1 w1=>∃d1 h1 vs p,w1=mk B d1 h1/\a1.defers=[]/\a1.tmps.size=n/\Same (Zg x) a a1/\Xg (λi=>some (zm a1 i)) J=some vs/\zk1 (js J) vs F=some p/\p.1 h1)
    (λa1 w1=>match at_ a1 with|some p=>p.2 w1.heap|none=>0) ⟨d,h,ai,p0,rfl,hs.defers,hs.size,Same.refl _ _,jf hs ak,au,aA⟩ ?_
   rintro a1 w1 ⟨d1,h1,vs,p,rfl,ah,an,Z,hv,hp,hI⟩
   have s1:Sat n (Qo J vs++Wd (Zg x) e) a1:=zbj hs ah an Z hv
   have hb:=zfh hp ae h1 hI
   refine wpIn_mono (ih _ _ _ hb m B d1 a1 s1) ?_
   rintro ex a2 w2 ⟨e2,d2,h2,rfl,s2,m2,q2⟩
   cases ex with
   |normal=>
    obtain⟨ax,q,af,hq,am,aj⟩:=zcv q2
    refine⟨⟨d2,h2,ax,q,rfl,s2.defers,s2.size,Z.trans m2,jf s2 af,hq,am⟩,?_⟩
    have e1:at_ a1=some p:=by simp only[at_,hv,CE];exact hp
    have e2:at_ a2=some q:=by simp only[at_,jf s2 af,CE];exact hq
    rw[e1,e2]
    exact aj
   |_=>exact⟨e2,d2,h2,rfl,s2,Z.trans m2,q2⟩
  ·exact H.elim
 |_=>exact λQ e h H=>H.elim
def XCI(P:Program)(f:FuncId)(args:Array Value)(h:za)(R:Value->za->Prop):Prop:=
 ∀(m:Nat) (B:World) (d:Nat),CallsIn (rf none) m P f args (mk B d h) λe w'=>∃v d' h',e=.returned v/\w'=mk B d' h'/\R v h'
theorem zpd(hm:P.follows .mixedOrders=true)(pl:Plan)(vs:List Value){fn:Func}{rs:List ResultVar}(hf:P.funcs[f]?=some fn)(hb:Z0 fn=true)(hr:fn.results.toList=rs)(hn:fn.ntmps=n)
  (hz:Nat.ble vs.length n=true) {R:Value->za->Prop} (H:WI P n pl (codeOf fn) (z7s P rs R) (zt5 0 vs) h):XCI P f vs.toArray h R:=by
 have aa:fn.body=some (codeOf fn):=by
  unfold Z0 at hb
  unfold codeOf
  split at hb
  ·rename_i c hc;rw[hc]
  ·cases hb
 intro m B d
 subst hn
 refine callsIn_of_wp hf aa trivial ?_ rfl
 have ab:vs.length<=fn.ntmps:=BN hz
 have hs:Sat fn.ntmps (zt5 0 vs) { tmps:=vs.toArray++Bf (fn.ntmps-vs.toArray.size) undef,defers:=[] }:=by
  refine⟨rfl,by simp;omega,?_⟩
  refine W7 vs.toArray _ vs 0 λj v hj=>?_
  have Z:j<vs.length:=by
   rcases AF j vs.length with h|h
   ·exact h
   ·rw[BO h]at hj;cases hj
  simp only[Az,BC]
  rw[Cn (by simpa using Z)]
  simp[hj]
 refine wpIn_mono (zzk hm (codeOf fn) _ _ _ H m B d _ hs) ?_
 rintro ex a w ⟨e1,d1,h1,rfl,s1,m1,q1⟩
 cases ex with
 |normal=>
  obtain⟨v,hv,hq⟩:=Zz s1 hr q1
  exact⟨s1.defers,v,hq B d1,v,d1,h1,rfl,rfl,hv⟩
 |ret=>
  obtain⟨v,hv,hq⟩:=Zz s1 hr q1
  exact⟨s1.defers,v,hq B d1,v,d1,h1,rfl,rfl,hv⟩
 |_=>exact q1.elim
end
end Go.X
end
section
namespace Go.X
section
variable {P:Program} {n m id:Nat} {ro:Option Nat} {e:Env} {h:za} {a:Act}
theorem zkh{P:Program}{ops:Array Oper}{D:List Deferred}{K:Act->World->Prop}:∀(l:List Oper) (a:Act) (w:World),wpList P ops (zek K) l a w->wpList P ops (zek λa1 w1=>∃a0,a1=J5 D a0/\K a0 w1) l (J5 D a) w
 |[],a,w,h=>⟨a,rfl,h⟩
 |o::l,a,w,h=>by
  unfold wpList at h ⊢
  have hy:yielded ops (J5 D a).tmps=yielded ops a.tmps:=rfl
  rw[hy]
  by_cases hw:Bm o (yielded ops a.tmps)=true
  ·rw[if_pos hw]at h ⊢
   rcases h with h|⟨_,h⟩
   ·exact .inl (Oper.wp_mono (λa1 w1 ⟨a0,e,hq⟩=>by rw[e];exact zkh l a0 w1 hq) (z0h h))
   ·exact(Qc h).elim
  ·rw[if_neg hw]at h ⊢
   have hp:(J5 D a).put o.dst undef=J5 D (a.put o.dst undef):=by cases o.dst <;> rfl
   rw[hp]
   exact zkh l _ w h
def z8f(P:Program)(n:Nat)(ops:Array Oper)(Z:Bool)(K:Env->za->Prop)(e:Env)(h:za):Prop:=
 bif ops.toList.all wy then(bif Z then(bif zgq ops then wI P n h true ops (λe'=>wB7 P n ops h K true (hvL ops).length [] (hvL ops) e' h) (Qm [] (Qw ops [] ops.size) ops.size) e else False)else wR P n ops K ops.toList e h)else False
theorem zij(hm:P.follows .mixedOrders=true){D:List Deferred}{ops:Array Oper}{Z:Bool}{K:Env->za->Prop}(H:z8f P n ops Z K e h)(B:World)(d:Nat)(hs:Sat n e a){Q:Exit->Act->World->Prop}
  (hQ:∀e' a' d' h',Sat n e' a'->K e' h'->Q .normal (J5 D a') (mk B d' h')):(DY id ops Z).wpIn (rf ro) m P Q (J5 D a) (mk B d h):=by
 unfold z8f at H
 cases hd:ops.toList.all wy with
 |false=>rw[hd]at H;exact H.elim
 |true=>
  rw[hd,cond_true]at H
  have aa:∀a1 w1,(∃a0,a1=J5 D a0/\∃e' d' h',w1=mk B d' h'/\Sat n e' a0/\K e' h')->Q .normal a1 w1:=by
   rintro a1 w1 ⟨a0,rfl,e',d',h',rfl,q1,q2⟩;exact hQ e' a0 d' h' q1 q2
  cases Z with
  |false=>
   refine wpIn_region_list ?_
   rw[<-A8 ops.toList]
   exact zgl _ [] _ _ hd (zkh (K:=λa0 w1=>∃e' d' h',w1=mk B d' h'/\Sat n e' a0/\K e' h') _ _ _ (W0 B _ _ _ _ _ H hs λe' a' d' h' q1 q2 q3=>⟨e',d',h',rfl,q1,q3⟩)) aa
  |true=>
   rw[cond_true]at H
   cases hB:zgq ops with
   |false=>rw[hB]at H;exact H.elim
   |true=>
    rw[hB]at H
    have h0:wpAny P .any ops (zek λa0 w1=>∃e' d' h',w1=mk B d' h'/\Sat n e' a0/\K e' h') ops.size (Bf ops.size false) a (mk B (d+1) h):=
     zcu B hB H hs (λe' a' d' h' q1 q2 q3=>⟨e',d',h',rfl,q1,q3⟩) (d+1)
    refine wpIn_mono (wpIn_region_any (Q:=zek λa1 w1=>∃a0,a1=J5 D a0/\∃e' d' h',w1=mk B d' h'/\Sat n e' a0/\K e' h') hm (zra (λi o ho=>?_) _ _ _ _ (zkf _ _ _ _ h0))) λx a' w' hx=>?_
    ·rw[Ba]at hd
     obtain⟨ab,e⟩:=Ad.1 ho
     exact hd o (by rw[<-e];simp)
    ·cases x with
     |normal=>exact aa _ _ hx
     |_=>exact hx.elim
def WG(P:Program)(n:Nat):Code->X5->Env->za->Prop
 |.skip,Q,e,h=>Q .normal e h
 |.ret,Q,e,h=>Q .ret e h
 |.exit id,Q,e,h=>Q (.exit id) e h
 |.region _ ops draw,Q,e,h=>z8f P n ops draw (λe h=>Q .normal e h) e h
 |.seq x y,Q,e,h=>WG P n x (znr (λe h=>WG P n y Q e h) Q) e h
 |.cond c x y,Q,e,h=>match Yu e [] c with
  |some (.bool b)=>(b=true->WG P n x Q e h)/\(b=false->WG P n y Q e h)
  |_=>False
 |.block id x,Q,e,h=>WG P n x (zfi id Q) e h
 |_,_,_,_=>False
def z3g(n:Nat)(B:World)(D:List Deferred)(Q:X5):Exit->Act->World->Prop:=
 λx a w=>∃e d h a0,a=J5 D a0/\w=mk B d h/\Sat n e a0/\Q x e h
theorem z6r{B:World}{D:List Deferred}{Q:X5}:∀ex a w,z3g n B D (zfi id Q) ex a w->Exit.inBlock id (z3g n B D Q) ex a w:=by
 rintro ex a1 w1 ⟨e1,d1,h1,a0,rfl,rfl,s1,q1⟩
 cases ex with
 |exit i=>
  simp only[zfi]at q1
  simp only[Exit.inBlock]
  by_cases hb:Nat.beq i id=true
  ·rw[if_pos (Ah hb)]
   simp only[hb,cond_true]at q1
   exact⟨e1,d1,h1,a0,rfl,rfl,s1,q1⟩
  ·rw[if_neg (λhe=>hb (by rw[he];simp))]
   simp only[hb,cond_false]at q1
   exact⟨e1,d1,h1,a0,rfl,rfl,s1,q1⟩
 |_=>exact⟨e1,d1,h1,a0,rfl,rfl,s1,q1⟩
theorem zrc(hm:P.follows .mixedOrders=true){D:List Deferred}:∀(c:Code) (Q:X5) (e:Env) (h:za),WG P n c Q e h ->
  ∀(B:World) (d:Nat) (a:Act),Sat n e a->c.wpIn (rf ro) m P (z3g n B D Q) (J5 D a) (mk B d h):=by
 intro c
 induction c with
 |skip=>exact λQ e h H B d a hs=>wpIn_skip ⟨e,d,h,a,rfl,rfl,hs,H⟩
 |ret=>exact λQ e h H B d a hs=>wpIn_ret ⟨e,d,h,a,rfl,rfl,hs,H⟩
 |exit id=>exact λQ e h H B d a hs=>wpIn_exit ⟨e,d,h,a,rfl,rfl,hs,H⟩
 |region id ops af=>exact λQ e h H B d a hs=>zij hm H B d hs λe' a' d' h' q1 q2=>⟨e',d',h',a',rfl,rfl,q1,q2⟩
 |seq x y Z aa=>
  intro Q e h H B d a hs
  refine wpIn_seq (wpIn_mono (Z _ _ _ H B d a hs) ?_)
  rintro ex a1 w1 ⟨e1,d1,h1,a0,rfl,rfl,s1,q1⟩
  cases ex with
  |normal=>exact aa _ _ _ q1 B d1 a0 s1
  |_=>exact⟨e1,d1,h1,a0,rfl,rfl,s1,q1⟩
 |cond c x y Z aa=>
  intro Q e h H B d a hs
  simp only[WG]at H
  split at H
  ·rename_i b hb
   have hc:(J5 D a).eval c=.bool b:=yb hs (c:=[]) trivial hb
   exact wpIn_cond_split hc (λab=>Z _ _ _ (H.1 ab) B d a hs) (λae=>aa _ _ _ (H.2 ae) B d a hs)
  ·exact H.elim
 |block id x ih=>
  intro Q e h H B d a hs
  exact wpIn_block (wpIn_mono (ih _ _ _ H B d a hs) z6r)
 |_=>exact λQ e h H=>H.elim
abbrev ztl:=LoopState->Option Code->Loop
def qbb(rec:ztl)(l:Nat)(K:Value->za->Prop):X5
 |.normal,_,h=>h[l]?=some (.loop (rec .busy none))/\K (.bool true) (h.setIfInBounds l (.loop (rec .ready none)))
 |.ret,_,h=>h[l]?=some (.loop (rec .busy none))/\K (.bool false) (h.setIfInBounds l (.loop (rec .done (some .ret))))
 |_,_,_=>False
def zgm(P:Program)(n:Nat)(Z bd:Code)(rec:ztl)(l:Nat)(K:Value->za->Prop)(e:Env)(h:za):Prop:=
 WG P n Z (λx e1 h1=>match x with
  |.normal=>h1[l]?=some (.loop (rec .ready none))/\WG P n bd (qbb rec l K) e1 (h1.setIfInBounds l (.loop (rec .busy none)))
  |_=>False) e h
theorem zrd(a:Act):J5 [] a=a:=by unfold J5;rw[A8]
theorem z6s(hm:P.follows .mixedOrders=true){n l p1 p2:Nat}{ab bd:Code}{fn:FuncId}{D:Nat}(ak:qk n [] (some p1)=true)(am:qk n [] (some p2)=true)
  {rec:ztl} (Z:rec=λst pe=>{ state:=st,pending:=pe,fn:=fn,tmps:=a.tmps,params:=#[p1,p2],assign:=ab,body:=bd,defers:=D })
  {v1 v2:Value} (hs:Sat n e a) (hl:h[l]?=some (.loop (rec .ready none))) {K:Value->za->Prop}
  (H:zgm P n ab bd rec l K (putO (putO e (some p1) [] v1) (some p2) [] v2) h):YX P l #[v1,v2] h K:=by
 intro m B d
 have ai:(mk B d h).heap[l]?=some (.loop (rec .ready none)):=hl
 have hy:=run_yield (P:=P) (w:=mk B d h) (args:=#[v1,v2]) ai (by rw[Z];rfl)
 refine⟨_,_,_,_,hy,?_⟩
 rw[Z]at hy ⊢
 have s2:Sat n (putO (putO e (some p1) [] v1) (some p2) [] v2) ((a.put (some p1) v1).put (some p2) v2):=(hs.putO ak (λ_=>rfl) (λhv=>absurd trivial hv)).putO am (λ_=>rfl) (λhv=>absurd trivial hv)
 have ha:((a.put (some p1) v1).put (some p2) v2)={ tmps:=(a.tmps.setIfInBounds p1 v1).setIfInBounds p2 v2,defers:=[] }:=by
  have:=hs.defers
  cases a;simp only at this;subst this;rfl
 have key:RoundIn (rf none) m P l fn ((a.tmps.setIfInBounds p1 v1).setIfInBounds p2 v2) ab bd (mk B d h) (λe w'=>∃v d' h',e=.returned v/\w'=mk B d' h'/\K v h'):=by
  refine roundIn_of_wpIn (F:=rf none) trivial ?_
  have hF:(rf none).inRound l=rf (some l):=rfl
  rw[hF,<-ha,<-zrd ((a.put (some p1) v1).put (some p2) v2)]
  refine wpIn_mono (zrc hm ab _ _ _ H B d _ s2) ?_
  rintro ex a1 w1 ⟨e1,d1,h1,a0,rfl,rfl,s1,q1⟩
  cases ex with
  |normal=>
   obtain⟨k3,k4⟩:=q1
   have aj:(mk B d1 h1).heap[l]?=some (.loop (rec .ready none)):=k3
   have hb:=run_beginRound (P:=P) aj (by rw[Z])
   refine⟨_,hb,?_⟩
   have af:({ rec .ready none with state:=.busy }:Loop)=rec .busy none:=by rw[Z]
   rw[af]
   refine wpIn_mono (zrc hm bd _ _ _ k4 B d1 a0 s1) ?_
   rintro ex a2 w2 ⟨e2,d2,h2,a3,rfl,rfl,s3,q2⟩
   cases ex with
   |normal=>
    obtain⟨k6,k7⟩:=q2
    have ae:(mk B d2 h2).heap[l]?=some (.loop (rec .busy none)):=k6
    have aa:=run_endRound (P:=P) none ae
    refine⟨_,_,aa,.bool true,d2,h2.setIfInBounds l (.loop (rec .ready none)),rfl,?_,k7⟩
    have ah:({ rec .busy none with state:=if(none:Option Code).isNone then .ready else .done,pending:=none }:Loop)=rec .ready none:=by rw[Z];rfl
    rw[ah];rfl
   |ret=>
    obtain⟨k6,k7⟩:=q2
    have ae:(mk B d2 h2).heap[l]?=some (.loop (rec .busy none)):=k6
    have aa:=run_endRound (P:=P) (some .ret) ae
    refine⟨_,_,aa,.bool false,d2,h2.setIfInBounds l (.loop (rec .done (some .ret))),rfl,?_,k7⟩
    have ah:({ rec .busy none with state:=if(some Code.ret:Option Code).isNone then .ready else .done,pending:=some .ret }:Loop)=rec .done (some .ret):=by rw[Z];rfl
    rw[ah];rfl
   |_=>exact q2.elim
  |_=>exact q1.elim
 show RoundIn (rf none) m P l fn (Array.foldl (λ(t:Array Value) (x:Tmp×Value)=>t.setIfInBounds x.1 x.2) a.tmps (#[p1,p2].zip #[v1,v2])) _ _ _ _
 have zs:Array.foldl (λ(t:Array Value) (x:Tmp×Value)=>t.setIfInBounds x.1 x.2) a.tmps (#[p1,p2].zip #[v1,v2])=(a.tmps.setIfInBounds p1 v1).setIfInBounds p2 v2:=by simp
 rw[zs]
 exact key
def rfA:Code->Code
 |.rangeFunc _ _ x _=>x
 |.seq x y=>match rfA x with
  |.skip=>rfA y
  |c=>c
 |.block _ x=>rfA x
 |_=>.skip
def rfB:Code->Code
 |.rangeFunc _ _ _ y=>y
 |.seq x y=>match rfB x with
  |.skip=>rfB y
  |c=>c
 |.block _ x=>rfB x
 |_=>.skip
def marks(ds:List Nat):List Deferred:=ds.map λb=>{ target:=.collected b,args:=#[] }
abbrev zki:=Exit->List Nat->Env->za->Prop
def z9x(K:List Nat->Env->za->Prop)(Q:zki):zki
 |.normal,ds,e,h=>K ds e h
 |x,ds,e,h=>Q x ds e h
def z0i(id:Nat)(Q:zki):zki
 |.exit i,ds,e,h=>bif Nat.beq i id then Q .normal ds e h else Q (.exit i) ds e h
 |x,ds,e,h=>Q x ds e h
def zw4(rec:ztl)(l:Nat)(N R:za->Prop)(h:za):Prop:=
 (h[l]?=some (.loop (rec .ready none))/\N (h.setIfInBounds l (.loop (rec .exhausted none))))\/(h[l]?=some (.loop (rec .done (some .ret)))/\R (h.setIfInBounds l (.loop (rec .exhausted (some .ret)))))
def z0j(P:Program)(n:Nat)(p1 p2:Nat)(Z bd:Code)(v:Value)(Q:zki)(ds:List Nat)(e:Env)(h:za):Prop:=
 bif qk n [] (some p1)&&qk n [] (some p2)then(∃g lb,v=.func (.func g) #[] lb/\qa P g=true/\∀rec:ztl,
  (∀{v1 v2:Value} {h2:za} {K:Value->za->Prop},h2[h.size+1]?=some (.loop (rec .ready none))->zgm P n Z bd rec (h.size+1) K (putO (putO e (some p1) [] v1) (some p2) [] v2) h2->YX P (h.size+1) #[v1,v2] h2 K) ->
  XCI P g (#[.func (.yield (h.size+1)) #[] #[]]++lb) ((h.push (.deferred (some []))).push (.loop (rec .ready none))) λ_ h5=>zw4 rec (h.size+1) (λh6=>Q .normal (h.size::ds) e h6) (λh6=>Q .ret (h.size::ds) e h6) h5)else False
def WD(P:Program)(n:Nat):Code->zki->List Nat->Env->za->Prop
 |.skip,Q,ds,e,h=>Q .normal ds e h
 |.ret,Q,ds,e,h=>Q .ret ds e h
 |.exit id,Q,ds,e,h=>Q (.exit id) ds e h
 |.region _ ops draw,Q,ds,e,h=>z8f P n ops draw (λe h=>Q .normal ds e h) e h
 |.seq x y,Q,ds,e,h=>WD P n x (z9x (λds e h=>WD P n y Q ds e h) Q) ds e h
 |.cond c x y,Q,ds,e,h=>match Yu e [] c with
  |some (.bool b)=>(b=true->WD P n x Q ds e h)/\(b=false->WD P n y Q ds e h)
  |_=>False
 |.block id x,Q,ds,e,h=>WD P n x (z0i id Q) ds e h
 |.rangeFunc g ps asg bd,Q,ds,e,h=>match Yu e [] g,ps.toList with
  |some v,[p1,p2]=>z0j P n p1 p2 asg bd v Q ds e h
  |_,_=>False
 |_,_,_,_,_=>False
def z9y(n:Nat)(B:World)(Q:zki):Exit->Act->World->Prop:=
 λx a w=>∃ds e d h a0,a=J5 (marks ds) a0/\w=mk B d h/\Sat n e a0/\Q x ds e h
theorem zzl(hm:P.follows .mixedOrders=true)(ap:1<=m):∀(c:Code) (Q:zki) (ds:List Nat) (e:Env) (h:za),WD P n c Q ds e h ->
  ∀(B:World) (d:Nat) (a:Act),Sat n e a->c.wpIn (rf none) m P (z9y n B Q) (J5 (marks ds) a) (mk B d h):=by
 intro c
 induction c with
 |skip=>exact λQ ds e h H B d a hs=>wpIn_skip ⟨ds,e,d,h,a,rfl,rfl,hs,H⟩
 |ret=>exact λQ ds e h H B d a hs=>wpIn_ret ⟨ds,e,d,h,a,rfl,rfl,hs,H⟩
 |exit id=>exact λQ ds e h H B d a hs=>wpIn_exit ⟨ds,e,d,h,a,rfl,rfl,hs,H⟩
 |region id ops az=>exact λQ ds e h H B d a hs=>zij hm H B d hs λe' a' d' h' q1 q2=>⟨ds,e',d',h',a',rfl,rfl,q1,q2⟩
 |seq x y ae ah=>
  intro Q ds e h H B d a hs
  refine wpIn_seq (wpIn_mono (ae _ _ _ _ H B d a hs) ?_)
  rintro ex a1 w1 ⟨aa,e1,d1,h1,a0,rfl,rfl,s1,q1⟩
  cases ex with
  |normal=>exact ah _ _ _ _ q1 B d1 a0 s1
  |_=>exact⟨aa,e1,d1,h1,a0,rfl,rfl,s1,q1⟩
 |cond c x y ae ah=>
  intro Q ds e h H B d a hs
  simp only[WD]at H
  split at H
  ·rename_i b hb
   have hc:(J5 (marks ds) a).eval c=.bool b:=yb hs (c:=[]) trivial hb
   exact wpIn_cond_split hc (λax=>ae _ _ _ _ (H.1 ax) B d a hs) (λar=>ah _ _ _ _ (H.2 ar) B d a hs)
  ·exact H.elim
 |block id x ih=>
  intro Q ds e h H B d a hs
  refine wpIn_block (wpIn_mono (ih _ _ _ _ H B d a hs) ?_)
  rintro ex a1 w1 ⟨aa,e1,d1,h1,a0,rfl,rfl,s1,q1⟩
  cases ex with
  |exit i=>
   simp only[z0i]at q1
   simp only[Exit.inBlock]
   by_cases hb:Nat.beq i id=true
   ·rw[if_pos (Ah hb)]
    simp only[hb,cond_true]at q1
    exact⟨aa,e1,d1,h1,a0,rfl,rfl,s1,q1⟩
   ·rw[if_neg (λhe=>hb (by rw[he];simp))]
    simp only[hb,cond_false]at q1
    exact⟨aa,e1,d1,h1,a0,rfl,rfl,s1,q1⟩
  |_=>exact⟨aa,e1,d1,h1,a0,rfl,rfl,s1,q1⟩
 |rangeFunc g ps ay bd aA aB=>
  intro Q ds e h H B d a hs
  simp only[WD]at H
  split at H
  ·rename_i v p1 p2 hv au
   have ai:ps=#[p1,p2]:=by rw[<-Array.toList_inj];exact au
   subst ai
   unfold z0j at H
   cases hok:(qk n [] (some p1)&&qk n [] (some p2))with
   |false=>rw[hok]at H;exact H.elim
   |true=>
    rw[hok]at H
    rw[AK]at hok
    obtain⟨gf,lb,rfl,hg,HR⟩:=H
    have hc:(J5 (marks ds) a).eval g=.func (.func gf) #[] lb:=yb hs (c:=[]) trivial hv
    refine wpIn_rangeFunc λak _=>?_
    obtain⟨rec,Z⟩:∃rec:ztl,rec=λst pe=>{ state:=st,pending:=pe,fn:=ak,tmps:=a.tmps,params:=#[p1,p2],assign:=ay,body:=bd,defers:=h.size }:=⟨_,rfl⟩
    have am:=HR rec (λ {v1 v2 h2 K} hl an=>z6s hm hok.1 hok.2 Z hs hl an)
    refine⟨h.size+1,[{ target:=.collected h.size,args:=#[] }],mk B d ((h.push (.deferred (some []))).push (.loop (rec .ready none))),{ target:=.fn (.func gf) lb,args:=#[.func (.yield (h.size+1)) #[] #[]] },mk B d ((h.push (.deferred (some []))).push (.loop (rec .ready none))),gf,
     #[.func (.yield (h.size+1)) #[] #[]]++lb,mk B d ((h.push (.deferred (some []))).push (.loop (rec .ready none))),?_,?_,λ_ _=>trivial,?_,λ_=>ap,?_⟩
    ·rw[Z];exact run_enterLoop_outer _ _ _ _ _
    ·simp only[resolve,hc]
     simp[go_sem,Dx]
    ·simp only[invoke]
     exact Wa hg _ _
    ·have ha:({ J5 (marks ds) a with defers:=[{ target:=.collected h.size,args:=#[] }]++(J5 (marks ds) a).defers }:Act)=J5 (marks (h.size::ds)) a:=by
      unfold J5 marks;simp only[hs.defers];rfl
     rw[ha]
     refine CallsIn.mono (am (m-1) B d) ?_
     rintro e' w' ⟨v,d5,h5,rfl,rfl,aj⟩
     rcases aj with⟨af,hN⟩|⟨af,hR⟩
     ·have ab:(mk B d5 h5).heap[h.size+1]?=some (.loop (rec .ready none)):=af
      have he:=run_endLoop (P:=P) ab (by rw[Z];intro hx;cases hx)
      have e1:({ rec .ready none with state:=.exhausted }:Loop)=rec .exhausted none:=by rw[Z]
      have e2:(rec .ready none).pending=none:=by rw[Z]
      rw[e1,e2]at he
      exact⟨none,_,he,_,e,d5,_,a,rfl,rfl,hs,hN⟩
     ·have ab:(mk B d5 h5).heap[h.size+1]?=some (.loop (rec .done (some .ret))):=af
      have he:=run_endLoop (P:=P) ab (by rw[Z];intro hx;cases hx)
      have e1:({ rec .done (some .ret)with state:=.exhausted }:Loop)=rec .exhausted (some .ret):=by rw[Z]
      have e2:(rec .done (some .ret)).pending=some .ret:=by rw[Z]
      rw[e1,e2]at he
      exact⟨some .ret,_,he,wpIn_ret ⟨_,e,d5,_,a,rfl,rfl,hs,hR⟩⟩
  ·exact H.elim
 |_=>exact λQ ds e h H=>H.elim
def takeD:List Nat->(za->Prop)->za->Prop
 |[],K,h=>K h
 |b::ds,K,h=>h[b]?=some (.deferred (some []))/\takeD ds K (h.setIfInBounds b (.deferred none))
def qbc(P:Program)(rs:List ResultVar)(R:Value->za->Prop):zki
 |.normal,ds,e,h=>takeD ds (λh'=>zt6 P h' e rs λvs=>R (zfj vs) h') h
 |.ret,ds,e,h=>takeD ds (λh'=>zt6 P h' e rs λvs=>R (zfj vs) h') h
 |_,_,_,_=>False
theorem za8{P:Program}{fn:Func}{n:Nat}{rs:List ResultVar}(hr:fn.results.toList=rs){e:Env}{a:Act}(hs:Sat n e a){B:World}{R:Value->za->Prop}{D:Nat}:∀(ds:List Nat) (d:Nat) (h:za),takeD ds (λh'=>zt6 P h' e rs λvs=>R (zfj vs) h') h ->
  LeavesInM Fence.wide D P fn a.tmps (λe w'=>∃v d' h',e=.returned v/\w'=mk B d' h'/\R v h') (marks ds) .returning (mk B d h)
 |[],d,h,H=>by
  obtain⟨v,hv,hq⟩:=Zz hs hr H
  exact⟨v,hq B d,v,d,h,rfl,rfl,hv⟩
 |b::ds,d,h,⟨h1,H⟩=>by
  have Z:(mk B d h).heap[b]?=some (.deferred (some [])):=h1
  exact⟨by simp,.inl ⟨_,_,rfl,run_takeDeferred (P:=P) Z,za8 hr hs ds d _ H⟩⟩
theorem zpe(hm:P.follows .mixedOrders=true)(vs:List Value){f:FuncId}{fn:Func}{rs:List ResultVar}(hf:P.funcs[f]?=some fn)(hb:Z0 fn=true)(hr:fn.results.toList=rs)(hn:fn.ntmps=n)(hz:Nat.ble vs.length n=true){R:Value->za->Prop}{F:Prop}(H:F)(ef:F=WD P n (codeOf fn) (qbc P rs R) [] (zt5 0 vs) h):XC P f vs.toArray h R:=by
 have Z:fn.body=some (codeOf fn):=by
  unfold Z0 at hb
  unfold codeOf
  split at hb
  ·rename_i c hc;rw[hc]
  ·cases hb
 intro B d
 refine callsIn_wide.1 (callsIn_of_wp_marks (F:=Fence.wide) (n:=1) hf Z trivial ?_ rfl)
 subst hn
 have ab:vs.length<=fn.ntmps:=BN hz
 have hs:Sat fn.ntmps (zt5 0 vs) { tmps:=vs.toArray++Bf (fn.ntmps-vs.toArray.size) undef,defers:=[] }:=by
  refine⟨rfl,by simp;omega,?_⟩
  refine W7 vs.toArray _ vs 0 λj v hj=>?_
  have aa:j<vs.length:=by
   rcases AF j vs.length with h|h
   ·exact h
   ·rw[BO h]at hj;cases hj
  simp only[Az,BC]
  rw[Cn (by simpa using aa)]
  simp[hj]
 have:=zzl hm (m:=1) (by omega) (codeOf fn) _ [] _ _ (ef ▸ H) B d _ hs
 rw[show marks []=[]from rfl,zrd]at this
 refine wpIn_mono this ?_
 rintro ex a w ⟨ds,e1,d1,h1,a0,rfl,rfl,s1,q1⟩
 have hd:(J5 (marks ds) a0).defers=marks ds:=by unfold J5;rw[s1.defers];rfl
 have ht:(J5 (marks ds) a0).tmps=a0.tmps:=rfl
 cases ex with
 |normal=>show LeavesInM _ _ _ _ _ _ _ _ _;rw[hd,ht];exact za8 hr s1 ds d1 h1 q1
 |ret=>show LeavesInM _ _ _ _ _ _ _ _ _;rw[hd,ht];exact za8 hr s1 ds d1 h1 q1
 |_=>exact q1.elim
end
section
theorem zm0(aa:Nat)(c1:Addr)(h:za)(R:Value->za->Prop)
  (H:∃az:Bt,zc h c1=some (.string az)/\((decide ((((az).size:Int):Int)>65536))=true->YX Tp aa #[.agg #[.int .i64 0,.int .i64 0,.int .i64 0],.int .i64 3] h (λaI aJ=>∃aC:Bool,aI=.bool aC/\R (.tuple #[]) aJ))/\((decide ((((az).size:Int):Int)>65536))=false->∃(aB:Int->za->Prop) (aH:Int->za->Nat),aB 0 h/\∀ab:Int,∀ay:za,aB ab ay->(∃ah:Bt,zc ay c1=some (.string ah)/\((decide ((ab:Int)<((ah).size:Int)))=true->∃an:Bt,zc ay c1=some (.string an)/\XC Tp 198 #[.string an,.int .i64 ab] ay (λaE ai=>∃ax:Int,∃aj:Int,∃ar:Int,∃Z:Int,aE=.tuple #[.agg #[.int .i64 ax,.int .i64 aj,.int .i64 ar],.int .i64 Z]/\let aG:za:=Du ai (.cells #[.int .i64 0,.int .i64 0,.int .i64 0] 90);XRunU Tp (Aj 90 (.pointer (some ⟨AZ ai,0,none⟩)) (.agg #[.int .i64 ax,.int .i64 aj,.int .i64 ar])) aG (λaA=>∃au:Int,∃ap:Int,∃ak:Int,zf aA ⟨AZ ai,0,none⟩ 0 [.int .i64 au,.int .i64 ap,.int .i64 ak]/\YX Tp aa #[.agg #[.int .i64 au,.int .i64 ap,.int .i64 ak],.int .i64 Z] aA (λaF am=>∃af:Bool,aF=.bool af/\((bif (!af)then true else((Z:Int) != 0))=true->R (.tuple #[]) am)/\((bif (!af)then true else((Z:Int) != 0))=false->∃ae:Int,zc am (Ae (Ae ⟨AZ ai,0,none⟩ 1) 1)=some (.int .i64 ae)/\(aB ae am/\aH ae am<aH ab ay))))))/\((decide ((ab:Int)<((ah).size:Int)))=false->R (.tuple #[]) ay)))):
  XCI Tp 197 #[.func (.yield aa) #[] #[],.pointer (some c1)] h R:=
 zpd Tryz.mixed ⟨[],[(3,[(3,.one (.int .i64))])],[]⟩ [.func (.yield aa) #[] #[],.pointer (some c1)] (rs:=[]) (n:=34) Tryz.func197 (by kernel_rfl) (by kernel_rfl) (by kernel_rfl) (by kernel_rfl) (Eq.mp (by kernel_rfl) H)
theorem zkj(s0:Bt)(h:za)(R:Value->za->Prop)
  (H:let aj:za:=Du h (.cells #[.slice none 0 0] 83);let am:za:=Du aj (.cells #[.int .i64 0] 3);let aE:za:=Du am (.cells #[.int .i64 0] 27);let aJ:za:=Du aE (.cells #[.slice none 0 0] 83);XC Tp 113 #[.string s0] aJ (λaI aa=>∃ap:Value,aI=ap/\∃(ak:FuncId) (an:Array Value),ap=.func (.func ak) #[] an/\qa Tp ak=true/\∀ah:ztl,(∀{au aA:Value} {aC:za} {ay:Value->za->Prop},aC[(AZ aa+1)]?=some (.loop (ah .ready none))->zgm Tp 25 (rfA (codeOf Tryz.f60)) (rfB (codeOf Tryz.f60)) ah (AZ aa+1) ay (putO (putO [(9,[],ap),(8,[],.string s0),(5,[],.pointer (some ⟨AZ aE,0,none⟩)),(4,[],.pointer (some ⟨AZ am,0,none⟩)),(3,[],.pointer (some ⟨AZ aj,0,none⟩)),(2,[],.pointer (some ⟨AZ h,0,none⟩)),(0,[],.string s0)] (some 10) [] au) (some 11) [] aA) aC->YX Tp (AZ aa+1) #[au,aA] aC ay)->XCI Tp ak (#[.func (.yield (AZ aa+1)) #[] #[]]++an) (Du (Du aa (.deferred (some []))) (.loop (ah .ready none))) λ_ aF=>zw4 ah (AZ aa+1) (λab=>∃Z:Sl,zc ab ⟨AZ aE,0,none⟩=some (.slice Z.a Z.len Z.cap)/\XRunU Tp (Aj 83 (.pointer (some ⟨AZ h,0,none⟩)) (.slice Z.a Z.len Z.cap)) ab (λaH=>XRunU Tp (Aj 3 (.pointer (some ⟨AZ aj,0,none⟩)) (.int .i64 ((s0).size:Int))) aH (λaG=>XRunU Tp (Aj 27 (.pointer (some ⟨AZ am,0,none⟩)) (.int .i64 0)) aG (λai=>(ai)[AZ aa]?=some (.deferred (some []))/\∃ae:Sl,zc (Array.setIfInBounds ai (AZ aa) (.deferred none)) ⟨AZ h,0,none⟩=some (.slice ae.a ae.len ae.cap)/\∃az:Int,zc (Array.setIfInBounds ai (AZ aa) (.deferred none)) ⟨AZ aj,0,none⟩=some (.int .i64 az)/\∃aB:Int,zc (Array.setIfInBounds ai (AZ aa) (.deferred none)) ⟨AZ am,0,none⟩=some (.int .i64 aB)/\R (.tuple #[.slice ae.a ae.len ae.cap,.int .i64 az,.int .i64 aB]) (Array.setIfInBounds ai (AZ aa) (.deferred none)))))) (λab=>(ab)[AZ aa]?=some (.deferred (some []))/\∃af:Sl,zc (Array.setIfInBounds ab (AZ aa) (.deferred none)) ⟨AZ h,0,none⟩=some (.slice af.a af.len af.cap)/\∃ar:Int,zc (Array.setIfInBounds ab (AZ aa) (.deferred none)) ⟨AZ aj,0,none⟩=some (.int .i64 ar)/\∃ax:Int,zc (Array.setIfInBounds ab (AZ aa) (.deferred none)) ⟨AZ am,0,none⟩=some (.int .i64 ax)/\R (.tuple #[.slice af.a af.len af.cap,.int .i64 ar,.int .i64 ax]) (Array.setIfInBounds ab (AZ aa) (.deferred none))) aF)):
  XC Tp 60 #[.string s0] h R:=
 zpe Tryz.mixed [.string s0] (rs:=[.cell 2 83,.cell 3 3,.cell 4 27]) (n:=25) Tryz.func60 (by kernel_rfl) (by kernel_rfl) (by kernel_rfl) (by kernel_rfl) H (by kernel_rfl)
theorem zcm(x9:Value)(x8:Value)(x5:Addr)(x4:Addr)(x3:Addr)(x2:Addr)(x0:Value)(am:Int)(ak:Int)(aj:Int)(an:Int)(rec:ztl)(l:Nat)(K:Value->za->Prop)(h:za)
  (H:let aC:za:=Du h (.cells #[.int .i64 0,.int .i64 0,.int .i64 0] 90);XRunU Tp (Aj 90 (.pointer (some ⟨AZ h,0,none⟩)) (.agg #[.int .i64 am,.int .i64 ak,.int .i64 aj])) aC (λar=>(ar)[l]?=some (.loop (rec .ready none))/\let ab:za:=Array.setIfInBounds ar l (.loop (rec .busy none));(((an:Int) != 0)=true->∃af:Int,zc ab (Ae (Ae ⟨AZ h,0,none⟩ 1) 0)=some (.int .i64 af)/\XRunU Tp (Aj 83 (.pointer (some x2)) (.slice none 0 0)) ab (λax=>(ax)[((Ae (Ae ⟨AZ h,0,none⟩ 1) 0):Addr).block]?=(ab)[((Ae (Ae ⟨AZ h,0,none⟩ 1) 0):Addr).block]?/\XRunU Tp (Aj 3 (.pointer (some x3)) (.int .i64 af)) ax (λaB=>XRunU Tp (Aj 27 (.pointer (some x4)) (.int .i64 an)) aB (λau=>(au)[l]?=some (.loop (rec .busy none))/\K (.bool false) (Array.setIfInBounds au l (.loop (rec .done (some .ret))))))))/\(((an:Int) != 0)=false->∃Z:Sl,zc ab x5=some (.slice Z.a Z.len Z.cap)/\∃ae:Int,∃ai:Int,∃ah:Int,zf ab ⟨AZ h,0,none⟩ 0 [.int .i64 ae,.int .i64 ai,.int .i64 ah]/\let aA:za:=Du ab (.cells #[.int .i64 ae,.int .i64 ai,.int .i64 ah] 90);XRun Tp (AD #[83,83] 83 #[.slice Z.a Z.len Z.cap,.slice (some ⟨AZ ab,0,none⟩) 1 1]) aA (λaz ay=>∃aa:Sl,az=.slice aa.a aa.len aa.cap/\XRunU Tp (Aj 83 (.pointer (some x5)) (.slice aa.a aa.len aa.cap)) ay (λap=>(ap)[l]?=some (.loop (rec .busy none))/\K (.bool true) (Array.setIfInBounds ap l (.loop (rec .ready none)))))))):
  zgm Tp 25 (rfA (codeOf Tryz.f60)) (rfB (codeOf Tryz.f60)) rec l K [(11,[],.int .i64 an),(10,[],.agg #[.int .i64 am,.int .i64 ak,.int .i64 aj]),(9,[],x9),(8,[],x8),(5,[],.pointer (some x5)),(4,[],.pointer (some x4)),(3,[],.pointer (some x3)),(2,[],.pointer (some x2)),(0,[],x0)] h:=
 Eq.mp (by kernel_rfl) H
end
end Go.X
end
section
namespace Go.X
open Go Go.X Go.Proofs Go.RowKit
section
variable {g:za} {i:Nat} {k f t:Int} {x9 x8 x0:Value} {K:Value -> za -> Prop}
abbrev tTk:Ty:=.pair (.int .i64) (.pair (.int .i64) (.int .i64))
theorem zw5:ElemT Tp 83 90 (.agg #[.int .i64 0,.int .i64 0,.int .i64 0]) (sz tTk) 24:=⟨by kernel_rfl,⟨Tryz.t90,by kernel_rfl,by kernel_rfl,by kernel_rfl,by kernel_rfl⟩,rfl,by decide⟩
theorem z3h:qf Tp 83=true:=by kernel_rfl
theorem z3i:qw Tp 83=1:=by kernel_rfl
theorem z6t:qf Tp 3=true:=by kernel_rfl
theorem z6u:qw Tp 3=1:=by kernel_rfl
theorem z6v:qf Tp 27=true:=by kernel_rfl
theorem z6w:qw Tp 27=1:=by kernel_rfl
theorem zw6{M:Fr}(k f t:Int):Rd M tTk (k,(f,t)) (zkp k f t):=⟨[.int .i64 k],[.int .i64 f,.int .i64 t],rfl,rfl,[.int .i64 f],[.int .i64 t],rfl,rfl,rfl⟩
structure TkS (h:za) (M:Fr) (b2 b3 b4 b5 bc D l:Nat) (rec:ztl) (s:Bs) (out:List Tk) (sl:Sl) (bs:List Nat) (g:za):Prop where
 keep:Keep h.size h g
 c:Blk g bc #[.string (bl s)]
 d:g[D]?=some (.deferred (some []))
 rc:g[l]?=some (.loop (rec .ready none))
 r2:Blk g b2 #[.slice none 0 0]
 r3:Blk g b3 #[.int .i64 0]
 r4:Blk g b4 #[.int .i64 0]
 r5:Blk g b5 #[slV sl]
 o:ORow (l+1) g M tTk out sl bs
structure Apart (h:za) (b2 b3 b4 b5 bc D l:Nat):Prop where
 lo:h.size<=b2
 a3:b2<b3
 a4:b3<b4
 a5:b4<b5
 ac:b5<bc
 aD:bc<D
 al:l=D+1
theorem yl{i j:Nat}{o:Obj}(h:j≠i):(g.setIfInBounds i o)[j]?=g[j]?:=AN (Ne.symm h)
theorem set_self{o:Obj}(h:i<g.size):(g.setIfInBounds i o)[i]?=some o:=Array.getElem?_setIfInBounds_self_of_lt h
theorem Blk.fr{g g':za}{b:Nat}{cs:Array Value}(H:Blk g b cs)(e:g'[b]?=g[b]?):Blk g' b cs:=H.keep e
theorem lt_of_some{o:Obj}(h:g[i]?=some o):i<g.size:=(Ad.1 h).1
section
variable {h : za} {M : Fr} {b2 b3 b4 b5 bc D l : Nat} {rec : ztl} {s : Bs} {out : List Tk} {sl : Sl} {bs : List Nat} {g : za}
set_option maxRecDepth 100000 in
set_option maxHeartbeats 1000000 in
theorem TkS.round(A:Apart h b2 b3 b4 b5 bc D l)(ag:AgM M h)(S:TkS h M b2 b3 b4 b5 bc D l rec s out sl bs g)(hn:out.length<=100000)
  (hK:∀g' aE ai,TkS h M b2 b3 b4 b5 bc D l rec s (out++[(k,(f,t))]) aE ai g'->g.size<=g'.size->(∀j,j<g.size->j≠b5->j≠l->j∉bs->g'[j]?=g[j]?)->K (.bool true) g'):
  zgm Tp 25 (rfA (codeOf Tryz.f60)) (rfB (codeOf Tryz.f60)) rec l K [(11,[],.int .i64 0),(10,[],.agg #[.int .i64 k,.int .i64 f,.int .i64 t]),(9,[],x9),(8,[],x8),(5,[],.pointer (some ⟨b5,0,none⟩)),(4,[],.pointer (some ⟨b4,0,none⟩)),(3,[],.pointer (some ⟨b3,0,none⟩)),(2,[],.pointer (some ⟨b2,0,none⟩)),(0,[],x0)] g:=by
 apply zcm
 intro ab
 have aA:Keep g.size g ab:=Keep.push _ _ (Ac _)
 have aJ:ab.size=g.size+1:=Al _
 have aC:Blk ab g.size (zkp 0 0 0).toArray:=Blk.new _ _ _
 clear_value ab
 have ll:=lt_of_some S.rc
 have:=A.lo;have:=A.a3;have:=A.a4;have:=A.a5;have:=A.ac;have:=A.aD;have:=A.al
 refine zwz aC λaj q1 q2 q3=>?_
 have ap:∀j,j<g.size->aj[j]?=g[j]?:=λj hj=>by rw[q1 j (by omega)];exact aA.get j hj
 refine⟨by rw[ap l ll];exact S.rc,?_⟩
 intro Z
 have ae:∀j,j≠l->Z[j]?=aj[j]?:=λj hj=>yl hj
 have aI:Z[l]?=some (.loop (rec .busy none)):=set_self (by omega)
 have aO:Z.size=aj.size:=A7
 clear_value Z
 refine⟨λhx=>by simp at hx,λ_=>?_⟩
 have B5:Blk Z b5 #[slV sl]:=S.r5.keep (by rw[ae b5 (by omega),ap b5 (by omega)])
 have Bt:Blk Z g.size (zkp k f t).toArray:=q3.keep (ae g.size (by omega))
 refine⟨sl,B5.cell rfl,k,f,t,Bt.ld,?_⟩
 intro aa
 have ak:Keep Z.size Z aa:=Keep.push _ _ (Ac _)
 have aM:aa.size=Z.size+1:=Al _
 have aB:Blk aa Z.size (zkp k f t).toArray:=Blk.new _ _ _
 clear_value aa
 have am:∀j,j<g.size->j≠l->aa[j]?=g[j]?:=λj hj hl=>by rw[ak.get j (by omega),ae j hl,ap j hj]
 have ay:AgM M aa:=λb c e=>by
  obtain⟨T,m,e'⟩:=(ag.keep S.keep) b c e
  have hb:=ag.lt e
  exact⟨T,m,by rw[am b (by have:=S.keep.size;omega) (by omega)];exact e'⟩
 have aG:ORow (l+1) aa M tTk out sl bs:=S.o.frame (λc hc=>by
  have:=S.o.own c hc
  exact am c this.2.1 (by omega)) (Fr.le.refl _) (λc hc=>(S.o.own c hc).2.2)
 refine ORow.app zw5 (by omega) ay aG (by omega) aB (zw6 k f t) (by omega) λs' aF ai af aN aL ar=>⟨s',rfl,?_⟩
 have an:∀c∈bs,l+1<=c:=λc hc=>(S.o.own c hc).1
 have aH:Blk aF b5 #[slV sl]:=B5.keep (by
  rw[ar b5 (by omega) (λhm=>by have:=an _ hm;omega)]
  exact ak.get b5 (by omega))
 refine yy z3h z3i aH (by show 0<1;omega) rfl λah u1 u3 u2=>?_
 have au:∀j,j<g.size->j≠l->j≠b5->j∉bs->ah[j]?=g[j]?:=λj hj hl h5 hm=>by rw[u2 j h5,ar j (by omega) hm,am j hj hl]
 have az:ah[l]?=some (.loop (rec .busy none)):=by
  rw[u2 l (by omega),ar l (by omega) (λhm=>by have:=an _ hm;omega),ak.get l (by omega)];exact aI
 refine⟨az,hK _ s' ai ?_ ?_ ?_⟩
 ·have ax:=lt_of_some az
  have bx:∀j,j<l->j≠b5->(ah.setIfInBounds l (.loop (rec .ready none)))[j]?=g[j]?:=λj hj h5=>by
   rw[yl (by omega)]
   exact au j (by omega) (by omega) h5 (λhm=>by have:=an _ hm;omega)
  refine⟨S.keep.trans ⟨?_,λj hj=>bx j (by omega) (by omega)⟩ (Ac _),S.c.keep (bx bc (by omega) (by omega)),(bx D (by omega) (by omega)).trans S.d,set_self ax,S.r2.keep (bx b2 (by omega) (by omega)),S.r3.keep (bx b3 (by omega) (by omega)),S.r4.keep (bx b4 (by omega) (by omega)),?_,?_⟩
  ·rw[A7]
   have:=S.keep.size;omega
  ·exact Blk.keep u1 (yl (by omega))
  ·refine af.frame (λc hc=>?_) (Fr.le.refl _) (λc hc=>(af.own c hc).2.2)
   have:=(af.own c hc).1
   rw[yl (by omega),u2 c (by omega)]
 ·rw[A7];omega
 ·intro j hj h5 hl hm
  rw[yl hl];exact au j hj hl h5 hm
set_option maxRecDepth 100000 in
set_option maxHeartbeats 1000000 in
theorem TkS.err(A:Apart h b2 b3 b4 b5 bc D l)(S:TkS h M b2 b3 b4 b5 bc D l rec s out sl bs g){k f t e:Int}(he:¬e=0)
  (hK:∀g',Keep h.size h g'->g'[D]?=some (.deferred (some []))->g'[l]?=some (.loop (rec .done (some .ret)))->Blk g' b2 #[.slice none 0 0]->Blk g' b3 #[.int .i64 f]->Blk g' b4 #[.int .i64 e]->K (.bool false) g'):
  zgm Tp 25 (rfA (codeOf Tryz.f60)) (rfB (codeOf Tryz.f60)) rec l K [(11,[],.int .i64 e),(10,[],.agg #[.int .i64 k,.int .i64 f,.int .i64 t]),(9,[],x9),(8,[],x8),(5,[],.pointer (some ⟨b5,0,none⟩)),(4,[],.pointer (some ⟨b4,0,none⟩)),(3,[],.pointer (some ⟨b3,0,none⟩)),(2,[],.pointer (some ⟨b2,0,none⟩)),(0,[],x0)] g:=by
 apply zcm
 intro ab
 have aj:Keep g.size g ab:=Keep.push _ _ (Ac _)
 have ap:ab.size=g.size+1:=Al _
 have ak:Blk ab g.size (zkp 0 0 0).toArray:=Blk.new _ _ _
 clear_value ab
 have ll:=lt_of_some S.rc
 have:=A.lo;have:=A.a3;have:=A.a4;have:=A.a5;have:=A.ac;have:=A.aD;have:=A.al
 refine zwz ak λae q1 q2 q3=>?_
 have ai:∀j,j<g.size->ae[j]?=g[j]?:=λj hj=>by rw[q1 j (by omega)];exact aj.get j hj
 refine⟨by rw[ai l ll];exact S.rc,?_⟩
 intro aa
 have ah:∀j,j≠l->aa[j]?=ae[j]?:=λj hj=>yl hj
 have am:aa[l]?=some (.loop (rec .busy none)):=set_self (by omega)
 have ax:aa.size=ae.size:=A7
 clear_value aa
 refine⟨λ_=>?_,λhx=>by simp[he]at hx⟩
 have Bt:Blk aa g.size (zkp k f t).toArray:=q3.keep (ah g.size (by omega))
 have Z:∀j,j<g.size->j≠l->aa[j]?=g[j]?:=λj hj hl=>(ah j hl).trans (ai j hj)
 refine⟨f,?_,?_⟩
 ·rw[zi,zi];exact Bt.cell rfl
 refine yy z3h z3i (S.r2.keep (Z b2 (by omega) (by omega))) (by show 0<1;omega) rfl λau u1 u3 u2=>⟨?_,?_⟩
 ·rw[zi,zi];exact u2 g.size (by omega)
 refine yy z6t z6u (S.r3.keep ((u2 b3 (by omega)).trans (Z b3 (by omega) (by omega)))) (by show 0<1;omega) rfl λar v1 v3 v2=>?_
 refine yy z6v z6w (S.r4.keep ((v2 b4 (by omega)).trans ((u2 b4 (by omega)).trans (Z b4 (by omega) (by omega))))) (by show 0<1;omega) rfl λan w1 w3 w2=>?_
 have af:an[l]?=some (.loop (rec .busy none)):=by rw[w2 l (by omega),v2 l (by omega),u2 l (by omega)];exact am
 refine⟨af,hK _ ?_ ?_ (set_self (lt_of_some af)) ?_ ?_ ?_⟩
 ·refine S.keep.trans ⟨by rw[A7];have:=S.keep.size;omega,λj hj=>?_⟩ (Ac _)
  rw[yl (by omega),w2 j (by omega),v2 j (by omega),u2 j (by omega)]
  exact Z j (by have:=S.keep.size;omega) (by omega)
 ·rw[yl (by omega),w2 D (by omega),v2 D (by omega),u2 D (by omega),Z D (by omega) (by omega)];exact S.d
 ·exact Blk.keep u1 (by rw[yl (by omega),w2 b2 (by omega),v2 b2 (by omega)])
 ·exact Blk.keep v1 (by rw[yl (by omega),w2 b3 (by omega)])
 ·exact Blk.keep w1 (yl (by omega))
end
end
section
variable {M:Fr} {s:Bs} {g g':za} {k last a e lf:Int} {O:Nat -> Prop} {lo bp b c:Nat} {rs:Sl} {cs:Array Value}
theorem z3j{t:Ty}{x:El t}{xs:List (El t)}{s:Sl}(h:Rd M (.row t) (x::xs) [slV s]):Rd M (.row t) xs [slV ⟨zpl s.a (sz t) 1 s.cap,s.len-1,s.cap-1⟩]:=by
 obtain⟨h1,h2,h3⟩:=rowLen h
 rw[AH]at h1 h2 h3
 refine⟨_,rfl,zpl s.a (sz t) 1 s.cap,s.cap-1,?_,⟨by omega,by omega⟩,?_⟩
 ·show slV _=_
  unfold slV;rw[h1];rfl
 ·by_cases he:xs=[]
  ·exact .inl he
  ·have hp:=Bl.2 he
   obtain⟨b,o,cs,e1,e2,e3⟩:∃b o cs,s.a=some ⟨b,o,none⟩/\M b=some cs/\∀i (hi:i<(x::xs).length),Rd M t (x::xs)[i] (cut cs (o+i*sz t) (sz t)):=by
    obtain⟨w,e,a,c,q,hn,hx⟩:=h
    simp only[BP,and_true]at e
    subst e
    simp only[slV,A9]at q
    rcases hx with hx|⟨b,o,cs,e1,e2,e3⟩
    ·cases hx
    ·exact⟨b,o,cs,by rw[q.1,e1],e2,e3⟩
   refine .inr ⟨b,o+sz t,cs,?_,e2,λi hi=>?_⟩
   ·unfold zpl
    rw[if_neg (by omega),e1,DZ,zi,Dr]
   ·have:=e3 (i+1) (by simp;omega)
    rw[List.getElem_cons_succ]at this
    rw[show o+sz t+i*sz t=o+(i+1)*sz t by rw[CV];omega]
    exact this
theorem ztb(ag:AgM M g){xs:List Tk}{s:Sl}(H:Rd M (.row tTk) xs [slV s]){k:Nat}(hk:k<xs.length):∃b o,s.a=some ⟨b,o,none⟩/\zc g ⟨b,o+k*3,none⟩=some (.int .i64 xs[k].1)/\zc g ⟨b,o+k*3+1,none⟩=some (.int .i64 xs[k].2.1)/\zc g ⟨b,o+k*3+2,none⟩=some (.int .i64 xs[k].2.2):=by
 obtain⟨b,o,cs,e1,e2,e3⟩:=Go.X.rowAt H hk
 refine⟨b,o,e1,?_⟩
 obtain⟨c1,c2,e,h1,c3,c4,h2,h3,h4⟩:=e3
 have h1:c1=[.int .i64 xs[k].1]:=h1
 have h3:c3=[.int .i64 xs[k].2.1]:=h3
 have h4:c4=[.int .i64 xs[k].2.2]:=h4
 subst h1 h3 h4 h2
 have e:cut cs (o+k*3) 3=zkp xs[k].1 xs[k].2.1 xs[k].2.2:=e
 have L:=zyq (vs:=zkp xs[k].1 xs[k].2.1 xs[k].2.2) (o:=o+k*3) (i:=0) ag e2 (by rw[CG];exact e)
 obtain⟨l1,l2,l3,_⟩:=L
 rw[zi]at l1 l2 l3
 exact⟨l1,l2,l3⟩
def ppC(s:Bs)(rs:Sl)(lf last:Int)(sl:Sl)(a e:Int):List Value:=[.string (bl s),slV rs,.int .i64 lf,.int .i64 last,slV sl,.int .i64 a,.int .i64 e]
def ppO(bp:Nat)(na:NA)(sl:Sl)(b c:Nat):Prop:=c=bp\/nsO na sl b c
structure PW (lo:Nat) (g:za) (M:Fr) (bp:Nat) (s:Bs) (rest:List Tk) (last a e:Int) (rs:Sl) (lf:Int) (na:NA) (sl:Sl) (b:Nat) (cs:Array Value):Prop where
 blk:Blk g bp (ppC s rs lf last sl a e).toArray
 rd:Rd M (.row tTk) rest [slV rs]
 ns:NS lo g M na sl b cs
 ag:AgM M g
 bl:lo<=bp/\M bp=none
 nb:¬nsO na sl b bp
def PaS(lo:Nat)(g:za)(M:Fr)(bp:Nat)(s:Bs)(st:PSt)(a e:Int)(O:Nat->Prop):Prop:=
 ∃(rs:Sl) (lf:Int) (na:NA) (sl:Sl) (b:Nat) (cs:Array Value),PW lo g M bp s st.rest st.last a e rs lf na sl b cs/\na.map (·.1)=st.nodes/\O=ppO bp na sl b
structure Stp (g:za) (O:Nat->Prop) (g':za) (O':Nat->Prop):Prop where
 le:g.size<=g'.size
 sub:∀c,O' c->O c\/g.size<=c
 fr:∀j,j<g.size->¬O j->g'[j]?=g[j]?
theorem Stp.refl(g:za)(O:Nat->Prop):Stp g O g O:=⟨Ac _,λc h=>.inl h,λj _ _=>rfl⟩
theorem Stp.trans{g g' aa:za}{O O' Z:Nat->Prop}(a:Stp g O g' O')(b:Stp g' O' aa Z):Stp g O aa Z:=by
 have:=a.le;have:=b.le
 refine⟨by omega,λc h=>?_,λj hj hn=>?_⟩
 ·rcases b.sub c h with h|h
  ·exact a.sub c h
  ·exact .inr (by omega)
 ·rw[b.fr j (by omega) (λh=>?_)]
  ·exact a.fr j hj hn
  ·rcases a.sub j h with h|h
   ·exact hn h
   ·omega
theorem Stp.keep(k:Keep g.size g g'):Stp g O g' O:=⟨k.size,λc h=>.inl h,λj hj _=>k.get j hj⟩
theorem PW.own{rest:List Tk}{na:NA}{sl:Sl}(H:PW lo g M bp s rest last a e rs lf na sl b cs)(h:ppO bp na sl b c):lo<=c/\c<g.size/\M c=none:=by
 rcases h with rfl|h
 ·exact⟨H.bl.1,H.blk.lt,H.bl.2⟩
 ·exact H.ns.own h
theorem PaS.own{st:PSt}(H:PaS lo g M bp s st a e O)(h:O c):lo<=c/\c<g.size/\M c=none:=by
 obtain⟨rs,lf,na,sl,b,cs,W,_,rfl⟩:=H
 exact W.own h
theorem zg5(ag:AgM M g)(f:∀j,j<g.size->M j≠none->g'[j]?=g[j]?):AgM M g':=λb c e=>by
 obtain⟨T,m,e'⟩:=ag b c e
 exact⟨T,m,by rw[f b (ag.lt e) (by rw[e];simp)];exact e'⟩
theorem PaS.frame{st:PSt}(H:PaS lo g M bp s st a e O)(hz:g.size<=g'.size)(f:∀c,c<g.size->(O c\/M c≠none)->g'[c]?=g[c]?):PaS lo g' M bp s st a e O:=by
 obtain⟨rs,lf,na,sl,b,cs,W,h1,rfl⟩:=H
 refine⟨rs,lf,na,sl,b,cs,⟨W.blk.keep (f bp W.blk.lt (.inl (.inl rfl))),W.rd,W.ns.frame hz λc hc=>f c (W.ns.own hc).2.1 (.inl (.inr hc)),zg5 W.ag λj hj hm=>f j hj (.inr hm),W.bl,W.nb⟩,h1,rfl⟩
theorem PaS.keep{st:PSt}(H:PaS lo g M bp s st a e O)(k:Keep g.size g g'):PaS lo g' M bp s st a e O:=H.frame k.size λc hc _=>k.get c hc
theorem PaS.ag{st:PSt}(H:PaS lo g M bp s st a e O):AgM M g:=by
 obtain⟨rs,lf,na,sl,b,cs,W,_,_⟩:=H;exact W.ag
theorem PW.put{rest rest':List Tk}{last last' a a' e e':Int}{rs rs':Sl}{lf lf':Int}{na:NA}{sl:Sl}(H:PW lo g M bp s rest last a e rs lf na sl b cs)(B:Blk g' bp (ppC s rs' lf' last' sl a' e').toArray)(r:Rd M (.row tTk) rest' [slV rs'])(hz:g'.size=g.size)(f:∀j,j≠bp->g'[j]?=g[j]?):PW lo g' M bp s rest' last' a' e' rs' lf' na sl b cs:=
 ⟨B,r,H.ns.frame (by omega) λc hc=>f c λh=>H.nb (h ▸ hc),zg5 H.ag λj _ hm=>f j λh=>hm (h ▸ H.bl.2),H.bl,H.nb⟩
section
variable {lo : Nat} {g : za} {M : Fr} {bp : Nat} {s : Bs} {st : PSt} {a e : Int} {O : Nat -> Prop} {K : Value -> za -> Prop}
theorem zkk(H:PaS lo g M bp s st a e O)(hK:K (.int .i64 st.kind) g):XC Tp 115 #[.pointer (some ⟨bp,0,none⟩)] g K:=by
 obtain⟨rs,lf,na,sl,b,cs,W,h1,rfl⟩:=H
 apply zax
 have hl:=(rowLen W.rd).1
 refine⟨_,rfl,rs,by rw[zi];exact W.blk.cell rfl,λhx=>?_,λhx=>⟨_,rfl,rs,by rw[zi];exact W.blk.cell rfl,?_⟩⟩
 ·have hx:rs.len=0:=by simpa using hx
  have:st.rest=[]:=AU.1 (by omega)
  unfold PSt.kind at hK
  rw[this]at hK;exact hK
 ·have hx:rs.len≠0:=by simpa using hx
  cases hr:st.rest with
  |nil=>rw[hr]at hl;exact absurd hl hx
  |cons t r=>
   have rd:=W.rd
   rw[hr]at rd
   obtain⟨tb,o,e1,e2,e3,e4⟩:=ztb W.ag rd (k:=0) (by simp)
   refine⟨_,⟨e1,by omega,by omega⟩,t.1,?_,?_⟩
   ·rw[zi,zi];exact e2
   ·unfold PSt.kind at hK;rw[hr]at hK;exact hK
theorem zw7(H:PaS lo g M bp s st a e O)(hK:K (.int .i64 (st.here s.length)) g):XC Tp 121 #[.pointer (some ⟨bp,0,none⟩)] g K:=by
 obtain⟨rs,lf,na,sl,b,cs,W,h1,rfl⟩:=H
 apply za1
 have hl:=(rowLen W.rd).1
 refine⟨_,rfl,rs,by rw[zi];exact W.blk.cell rfl,λhx=>?_,λhx=>⟨_,rfl,rs,by rw[zi];exact W.blk.cell rfl,?_⟩⟩
 ·have hx:rs.len=0:=by simpa using hx
  have:st.rest=[]:=AU.1 (by omega)
  unfold PSt.here at hK
  rw[this]at hK
  refine⟨_,rfl,bl s,by rw[zi];exact W.blk.cell rfl,?_⟩
  rw[zd];exact hK
 ·have hx:rs.len≠0:=by simpa using hx
  cases hr:st.rest with
  |nil=>rw[hr]at hl;exact absurd hl hx
  |cons t r=>
   have rd:=W.rd
   rw[hr]at rd
   obtain⟨tb,o,e1,e2,e3,e4⟩:=ztb W.ag rd (k:=0) (by simp)
   refine⟨_,⟨e1,by omega,by omega⟩,t.2.1,?_,?_⟩
   ·rw[zi,zi,zi];exact e3
   ·unfold PSt.here at hK;rw[hr]at hK;exact hK
theorem zm1:qf Tp 3=true:=by kernel_rfl
theorem zm2:qw Tp 3=1:=by kernel_rfl
theorem z6x:qf Tp 27=true:=by kernel_rfl
theorem z6y:qw Tp 27=1:=by kernel_rfl
theorem z3k:qf Tp 58=true:=by kernel_rfl
theorem z3l:qw Tp 58=2:=by kernel_rfl
theorem z3m:qf Tp 83=true:=by kernel_rfl
theorem z3n:qw Tp 83=1:=by kernel_rfl
theorem Stp.same(hz:g'.size=g.size)(hb:O bp)(f:∀j,j≠bp->g'[j]?=g[j]?):Stp g O g' O:=⟨by omega,λc h=>.inl h,λj hj hn=>f j λe=>hn (e ▸ hb)⟩
theorem Jq(H:PaS lo g M bp s st a e O){x:Int}(hK:∀g',PaS lo g' M bp s st (st.here s.length) x O->Stp g O g' O->K (.bool false) g'):XC Tp 62 #[.pointer (some ⟨bp,0,none⟩),.int .i64 x] g K:=by
 apply zaw
 refine zw7 H ⟨_,rfl,_,rfl,?_⟩
 obtain⟨rs,lf,na,sl,b,cs,W,h1,rfl⟩:=H
 rw[zi]
 refine yy zm1 zm2 W.blk (by show 5<7;omega) rfl λg1 u1 u2 u3=>⟨_,rfl,?_⟩
 rw[zi]
 refine yy z6x z6y u1 (by show 6<7;omega) rfl λg2 v1 v2 v3=>?_
 have f:∀j,j≠bp->g2[j]?=g[j]?:=λj hj=>(v3 j hj).trans (u3 j hj)
 exact hK g2 ⟨rs,lf,na,sl,b,cs,W.put (rest':=st.rest) (last':=st.last) (a':=st.here s.length) (e':=x) (rs':=rs) (lf':=lf) v1 W.rd (by omega) f,h1,rfl⟩ (Stp.same (by omega) (.inl rfl) f)
theorem zpf(H:PaS lo g M bp s st a e O)(hr:st.rest≠[])(hK:∀g',PaS lo g' M bp s st.skip a e O->Stp g O g' O->K (.tuple #[]) g'):XC Tp 116 #[.pointer (some ⟨bp,0,none⟩)] g K:=by
 apply zay
 obtain⟨rs,lf,na,sl,b,cs,W,h1,rfl⟩:=H
 obtain⟨hl,_,hc⟩:=rowLen W.rd
 obtain⟨t,r,er⟩:=AX hr
 have rd:=W.rd
 rw[er]at rd hl hc
 rw[AH]at hl hc
 obtain⟨tb,o,e1,e2,e3,e4⟩:=ztb W.ag rd (k:=0) (by simp)
 refine⟨_,rfl,rs,by rw[zi];exact W.blk.cell rfl,_,⟨e1,by omega,by omega⟩,t.2.1,t.2.2,?_,_,rfl,rs,by rw[zi];exact W.blk.cell rfl,.inl rfl,⟨by omega,by omega,by omega,by omega⟩,_,rfl,?_⟩
 ·rw[zi,zi]
  exact⟨by rw[zi];exact e3,by rw[zi];exact e4,trivial⟩
 rw[zi]
 refine Jv (vs:=[.int .i64 t.2.1,.int .i64 t.2.2]) z3k W.blk rfl z3l (by show 2+2<=7;omega) (λu hu=>?_) λg1 u1 u2 u3=>⟨_,rfl,?_⟩
 ·simp at hu;rcases hu with rfl|rfl <;> rfl
 rw[zi]
 refine yy z3m z3n u1 (by rw[zcg (by show 2+2<=7;omega)];show 1<7;omega) rfl λg2 v1 v2 v3=>?_
 have f:∀j,j≠bp->g2[j]?=g[j]?:=λj hj=>(v3 j hj).trans (u3 j hj)
 have Z:=z3j rd
 rw[Af,Af]at v1
 have v1:Blk g2 bp (ppC s ⟨zpl rs.a (sz tTk) 1 rs.cap,rs.len-1,rs.cap-1⟩ t.2.1 t.2.2 sl a e).toArray:=v1
 have es:st.skip=⟨r,t.2.2,st.nodes⟩:=by unfold PSt.skip;rw[er]
 rw[es]at hK
 exact hK g2 ⟨_,t.2.1,na,sl,b,cs,W.put v1 Z (by omega) f,h1,rfl⟩ (Stp.same (by omega) (.inl rfl) f)
theorem PSt.ne_of_kind{st:PSt}(h:st.kind=k)(hk:k≠0):st.rest≠[]:=λe=>by
 unfold PSt.kind at h;rw[e]at h;exact hk h.symm
theorem zez(H:PaS lo g M bp s st a e O)(hk:k≠0)(hY:st.kind=k->∀g',PaS lo g' M bp s st.skip a e O->Stp g O g' O->K (.bool true) g')(hN:st.kind≠k->K (.bool false) g):XC Tp 199 #[.pointer (some ⟨bp,0,none⟩),.int .i64 k] g K:=by
 apply Xn
 refine zkk H ⟨_,rfl,λhx=>hN (by simpa using hx),λhx=>?_⟩
 have hx:st.kind=k:=by simpa using hx
 exact zpf H (PSt.ne_of_kind hx hk) λg' p q=>⟨rfl,hY hx g' p q⟩
end
end
section
variable {M:Fr} {g:za} {s:Sl} {k b f:Nat} {t:Bs}
theorem z3o(ag:AgM M g){xs:List Int}(H:Rd M (.row (.int .i64)) xs [slV s])(hk:k<xs.length):∃b o,s.a=some ⟨b,o,none⟩/\zc g ⟨b,o+k*1,none⟩=some (.int .i64 xs[k]):=by
 obtain⟨b,o,cs,e1,e2,e3⟩:=Go.X.rowAt H hk
 exact⟨b,o,e1,zve ag e2 e3⟩
theorem z9z(ag:AgM M g){xs:List Nd}(H:Rd M (.row tNd) xs [slV s])(hk:k<xs.length):∃(b o:Nat) (ks ps:Sl),s.a=some ⟨b,o,none⟩/\zf g ⟨b,o+k*7,none⟩ 0 [.int .i64 xs[k].1,.int .i64 xs[k].2.1.1,.int .i64 xs[k].2.1.2,.int .i64 xs[k].2.2.1.1,.int .i64 xs[k].2.2.1.2,slV ks,slV ps]/\Rd M (.row (.int .i64)) xs[k].2.2.2.1 [slV ks]:=by
 obtain⟨b,o,cs,e1,e2,e3⟩:=Go.X.rowAt H hk
 obtain⟨c1,r1,q1,a1,c2,r2,q2,⟨d1,d2,q3,a2,a3⟩,c3,r3,q4,⟨d3,d4,q5,a4,a5⟩,c4,c5,q6,a6,a7⟩:=e3
 have a1:c1=[.int .i64 xs[k].1]:=a1
 have a2:d1=[.int .i64 xs[k].2.1.1]:=a2
 have a3:d2=[.int .i64 xs[k].2.1.2]:=a3
 have a4:d3=[.int .i64 xs[k].2.2.1.1]:=a4
 have a5:d4=[.int .i64 xs[k].2.2.1.2]:=a5
 obtain⟨ks,rfl⟩:∃ks:Sl,c4=[slV ks]:=by
  obtain⟨w,e,a,c,q,_⟩:=a6
  exact⟨⟨a,_,c⟩,by rw[e,q];rfl⟩
 obtain⟨ps,rfl⟩:∃ps:Sl,c5=[slV ps]:=by
  obtain⟨w,e,a,c,q,_⟩:=a7
  exact⟨⟨a,_,c⟩,by rw[e,q];rfl⟩
 subst a1 a2 a3 a4 a5 q3 q5 q6 q4 q2
 refine⟨b,o,ks,ps,e1,?_,a6⟩
 exact zyq (o:=o+k*7) (i:=0) ag e2 (by rw[CG];exact q1)
theorem qao:qf Tp 62=true:=by kernel_rfl
theorem qap:qw Tp 62=7:=by kernel_rfl
theorem z94:qf Tp 26=true:=by kernel_rfl
theorem z96:qw Tp 26=4:=by kernel_rfl
theorem Zf{x y z w:Value}(B:Blk g b #[x,y,z,w]){k:Int}{s:Bt}{sk si:Sl}{K:za->Prop}(hK:∀g',(∀j,j≠b->g'[j]?=g[j]?)->g'.size=g.size->Blk g' b #[.int .i64 k,.string s,slV sk,slV si]->K g'):
  XRunU Tp (Aj 26 (.pointer (some ⟨b,0,none⟩)) (.agg #[.int .i64 k,.string s,slV sk,slV si])) g K:=by
 refine Jv (vs:=[.int .i64 k,.string s,slV sk,slV si]) z94 B rfl z96 (Ac _) (λu hu=>?_) λg' q1 q2 q3=>hK g' q3 q2 q1
 simp at hu;rcases hu with rfl|rfl|rfl|rfl <;> rfl
def wz(t:Bs)(nodes:List Nd)(f:Nat)(x:Nd)(n:Nat):Tr:=.mk x.1 (bl (Jz x.1 (zw t x.2.1))) (if x.1=6 then(x.2.2.2.1.take n).map λc=>bl (zgg t nodes c)else []) ((x.2.2.2.1.take n).map λc=>xm t nodes f c.toNat)
theorem zm3{nodes:List Nd}{x:Nd}(hx:nodes[k]?=some x):wz t nodes f x x.2.2.2.1.length=xm t nodes (f+1) k:=by
 unfold wz;rw[xm,hx,BD]
theorem zik{nodes:List Nd}{x:Nd}{n:Nat}(hn:n<x.2.2.2.1.length):wz t nodes f x (n+1)=.mk x.1 (bl (Jz x.1 (zw t x.2.1))) (if x.1=6 then(wz t nodes f x n).keys++[bl (zgg t nodes x.2.2.2.1[n])]else(wz t nodes f x n).keys) ((wz t nodes f x n).items++[xm t nodes f x.2.2.2.1[n].toNat]):=by
 unfold wz
 rw[AL hn,CQ,CQ]
 by_cases h6:x.1=6
 ·simp only[h6,if_true];rfl
 ·simp only[h6,if_false];rfl
section
variable {t : Bs} {nodes : List Nd} {lvs : List Nat} {gl : Fr}
theorem ztc{u v:Value}(B:Blk g b #[u,v]):zf g ⟨b,0,none⟩ 0 [u,v]:=B.ld (cs:=[u,v])
def qaq(F:FuncId)(t:Bs)(nodes:List Nd)(gl:Fr)(k:Nat)(Z:List Value)(v:Tr):Prop:=
 ∀(h:za) (M:Fr) (ds:Sl),Fr.le gl M->AgM M h->Rd M (.row tNd) nodes [slV ds]->∀(K:Value->za->Prop),(∀(h':za) (bs:List Nat) (sk si:Sl),Keep h.size h h'->OT h' v bs (jz v sk si)->(∀b∈bs,h.size<=b)->K (.agg #[.int .i64 v.kind,.string v.text,slV sk,slV si]) h') ->
  XC Tp F ([Value.agg #[.string (bl t),slV ds],D4 .i64 (k:Int)]++Z).toArray h K
set_option maxRecDepth 100000 in
set_option maxHeartbeats 4000000 in
theorem zw8(hg:GL gl)(ht:t.length<=65536)(G:GoodN lvs nodes)(bE:∀x∈nodes,x.2.2.2.1.length<=200000):∀(f k l:Nat) (L:Int),lvs[k]?=some l->33-l<=f->1<=L->L<=(l:Int)->qaq 59 t nodes gl k [.int .i64 L] (xm t nodes f k)
 |0,k,l,L,hl,hf,_,_=>by have:=G.lv k l hl;omega
 |f+1,k,l,L,hl,hf,hL1,hL2=>by
  intro h M ds hM ag rd K hK
  have a8:k<nodes.length:=by have:=(Aw.1 hl).1;have:=G.len;omega
  have hx:nodes[k]?=some nodes[k]:=Ak a8
  have cG:=G.lv k l hl
  have aQ:=G.kid k l nodes[k] hx hl
  have b8:=bE _ (AP a8)
  generalize cp:nodes[k]=x at hx aQ b8
  have cT:=(rowLen rd).1
  show XC Tp _ #[.agg #[.string (bl t),slV ds],.int .i64 (k:Int),.int .i64 L] h K
  apply zmk
  intro h1 h2
  have k1:Keep h.size h h1:=Keep.push _ _ (Ac _)
  have k2:Keep h1.size h1 h2:=Keep.push _ _ (Ac _)
  have z1:h1.size=h.size+1:=Al _
  have z2:h2.size=h1.size+1:=Al _
  have D1:Blk h1 h.size #[.string (bl t),slV ds]:=Blk.new _ _ _
  have R2:Blk h2 h1.size #[.int .i64 0,.string ⟨#[]⟩,.slice none 0 0,.slice none 0 0]:=Blk.new _ _ _
  clear_value h1 h2
  have bo:Keep h.size h h2:=k1.trans (c:=h2) (m:=h.size) ⟨k2.size,λj hj=>k2.get j (by omega)⟩ (Ac _)
  have D2:=D1.keep (k2.get h.size (by omega))
  have cz:=ag.keep bo
  obtain⟨nb,no,ks,ps,e1,e2,e3⟩:=z9z cz rd a8
  rw[cp]at e2 e3
  have cB:=(rowLen e3).1
  refine⟨ds,by rw[zi];exact D2.cell rfl,_,⟨e1,by omega,by omega⟩,x.1,x.2.1.1,x.2.1.2,x.2.2.1.1,x.2.2.1.2,ks,ps,?_,?_⟩
  ·rw[zi,Af];exact e2
  intro aV
  have cn:Keep h2.size h2 aV:=Keep.push _ _ (Ac _)
  have cM:aV.size=h2.size+1:=Al _
  have cg:Blk aV h2.size #[.int .i64 0,.int .i64 0,.int .i64 0,.int .i64 0,.int .i64 0,.slice none 0 0,.slice none 0 0]:=Blk.new _ _ _
  clear_value aV
  refine Jv (vs:=ndC (x,⟨ks,[],ps,[]⟩)) qao cg rfl qap (Ac _) (zo9 _) λZ ai cF cq=>?_
  have ai:Blk Z h2.size #[.int .i64 x.1,.int .i64 x.2.1.1,.int .i64 x.2.1.2,.int .i64 x.2.2.1.1,.int .i64 x.2.2.1.2,slV ks,slV ps]:=ai
  have az:Keep h2.size h2 Z:=⟨by omega,λj hj=>(cq j (by omega)).trans (cn.get j hj)⟩
  have aP:Keep h.size h Z:=bo.trans (c:=Z) (m:=h.size) ⟨az.size,λj hj=>az.get j (by omega)⟩ (Ac _)
  have bj:=D2.keep (az.get h.size (by omega))
  have cy:=R2.keep (az.get h1.size (by omega))
  intro bM bH
  have bS:∀(vb:Nat) (aL:za),Z.size<=vb->Keep Z.size Z aL->Blk aL vb #[.int .i64 x.1,.string (bl (Jz x.1 (zw t x.2.1))),.slice none 0 0,.slice none 0 0]->bM ⟨vb,0,none⟩ aL:=by
   intro vb aL bY bL bI
   refine bH ⟨vb,0,none⟩ aL ?_
   have cc:=ai.keep (bL.get h2.size (by omega))
   have cj:=bI.lt
   refine⟨ks,by rw[zi];exact cc.cell rfl,λi ae=>∃(n:Nat) (sk si:Sl),i=(n:Int)/\n<=x.2.2.2.1.length/\Own Z.size ae.size ae vb (wz t nodes f x n) sk si/\Keep Z.size Z ae,λi _=>x.2.2.2.1.length-i.toNat,⟨0,⟨none,0,0⟩,⟨none,0,0⟩,rfl,by omega,?_,bL⟩,?_⟩
   ·have e0:wz t nodes f x 0=.mk x.1 (bl (Jz x.1 (zw t x.2.1))) [] []:=by unfold wz;simp
    rw[e0]
    exact Own.new bI bY (Ac _)
   rintro i ae ⟨n,sk,si,rfl,hn,ar,aj⟩
   have bP:=ai.keep (aj.get h2.size (by omega))
   have bJ:=bj.keep (aj.get h.size (by omega))
   have bV:=cy.keep (aj.get h1.size (by omega))
   have a7:Keep h.size h ae:=aP.trans (c:=ae) (m:=h.size) ⟨aj.size,λj hj=>aj.get j (by omega)⟩ (Ac _)
   have a6:=ag.keep a7
   have cJ:=aj.size
   refine⟨λaH=>?_,λco=>?_⟩
   ·have aH:n<x.2.2.2.1.length:=by have:=of_decide_eq_true aH;omega
    obtain⟨j,ej,cY,ba⟩:=aQ _ (AP aH)
    have hj:j<nodes.length:=by have:=(Aw.1 ba).1;have:=G.len;omega
    have c7:=G.lv j (l+1) ba
    obtain⟨ib,io,f1,f2⟩:=z3o a6 e3 aH
    rw[ej]at f2
    refine⟨ks,by rw[zi];exact bP.cell rfl,_,⟨f1,by omega,by omega⟩,(j:Int),by rw[zi,Af];exact f2,ds,λ_=>by rw[zi];exact bJ.cell rfl,?_⟩
    have hc:(bif (bif (decide ((j:Int)<0))then true else(decide ((j:Int)>=((ds.len:Nat):Int))))then true else(decide (L>32)))=false:=by
     rw[decide_eq_false (by omega),cond_false,decide_eq_false (by omega),cond_false,decide_eq_false (by omega)]
    rw[hc]
    refine⟨λh=>(by cases h),λ_=>?_⟩
    intro cm bq
    have bG:nodes[j]?=some nodes[j]:=Ak hj
    have bT:zgg t nodes x.2.2.2.1[n]=zs2 t nodes[j]:=by unfold zgg;rw[ej,Af,bG]
    have aE:=zik (t:=t) (nodes:=nodes) (f:=f) aH
    rw[bT,ej,Af]at aE
    have body:∀(ab:za) (ks':List Bt) (sk':Sl),ks'=(if x.1=6 then(wz t nodes f x n).keys++[bl (zs2 t nodes[j])]else(wz t nodes f x n).keys)->Own Z.size ab.size ab vb (.mk x.1 (bl (Jz x.1 (zw t x.2.1))) ks' (wz t nodes f x n).items) sk' si->Keep Z.size Z ab->cm ab:=by
     intro ab ks' sk' cu bg aI
     refine bq ab ?_
     have cV:=aI.size
     have bZ:=bj.keep (aI.get h.size (by omega))
     have bB:Keep h.size h ab:=aP.trans (c:=ab) (m:=h.size) ⟨aI.size,λj hj=>aI.get j (by omega)⟩ (Ac _)
     have aJ:=bg.box.lt
     refine⟨si,by rw[zi];exact bg.box.cell rfl,bl t,ds,ztc bZ,?_⟩
     rw[w64 (by omega)]
     refine zw8 hg ht G bE f j (l+1) (L+1) ba (by omega) (by omega) (by omega) ab M ds hM (ag.keep bB) rd _ λaU bw wk wi aT ow be=>⟨_,_,_,_,rfl,?_⟩
     have cQ:=aT.size
     refine⟨by rw[zi];exact aT.get vb aJ,?_⟩
     intro am
     have aY:Keep aU.size aU am:=Keep.push _ _ (Ac _)
     have cL:am.size=aU.size+1:=Al _
     have ca:Blk am aU.size (jz (xm t nodes f j) wk wi).toArray:=Blk.new _ _ _
     clear_value am
     refine⟨by rw[zi];exact(aY.get vb (by omega)).trans (aT.get vb aJ),?_⟩
     have ax:Keep ab.size ab am:=aT.trans (c:=am) (m:=ab.size) ⟨aY.size,λj hj=>aY.get j (by omega)⟩ (Ac _)
     have bn:Keep Z.size Z am:=aI.trans (c:=am) (m:=Z.size) ⟨ax.size,λj hj=>ax.get j (by omega)⟩ (Ac _)
     have bQ:(wz t nodes f x n).items.length<=1000000:=by unfold wz;simp;omega
     rw[zi]
     refine Own.item (bg.keep ax) (by omega) bQ ca (ow.frame λc hc=>aY.get c (ow.lt c hc)) (λhm=>by have:=ow.lt _ hm;omega) (λc hc=>⟨by have:=be c hc;omega,by have:=be c hc;omega,be c hc⟩) λg' s2 O' k' z'=>⟨⟨n+1,sk',s2,by rw[w64 (by omega)];omega,by omega,?_,bn.trans (c:=g') (m:=Z.size) k' (Ac _)⟩,?_⟩
     ·rw[aE,<-cu];exact O'
     ·show x.2.2.2.1.length-(Aa .i64 ((n:Int)+1)).toNat<x.2.2.2.1.length-(n:Int).toNat
      rw[w64 (by omega)];omega
    refine⟨x.1,by rw[zi];exact bP.cell rfl,λh6=>?_,λh6=>?_⟩
    ·have h6:x.1=6:=by simpa using h6
     have aG:=ar.box.lt
     refine⟨sk,by rw[zi];exact ar.box.cell rfl,bl t,ds,ztc bJ,?_⟩
     refine(zwx hg ht (nodes:=nodes) (k:=j) bG (R:=λr=>r=bl (zs2 t nodes[j])) rfl).go hM a6 (yr (a:=Arg.mk zng _) ⟨[.string (bl t),slV ds],rfl,[.string (bl t)],[slV ds],rfl,rfl,rd⟩ (yr (a:=Arg.mk (.int .i64) _) (Wm _ _) jq)) λv aS M' r Lt hv hr=>⟨r,z5p hv,?_⟩
     subst hr
     have a1:=Lt.keep
     have cP:=a1.size
     refine⟨by rw[zi];exact a1.get vb aG,?_⟩
     intro an
     have bh:Keep aS.size aS an:=Keep.push _ _ (Ac _)
     have cO:an.size=aS.size+1:=Al _
     have cA:Blk an aS.size #[.string (bl (zs2 t nodes[j]))]:=Blk.new _ _ _
     clear_value an
     refine⟨by rw[zi];exact(bh.get vb (by omega)).trans (a1.get vb aG),?_⟩
     have au:Keep ae.size ae an:=a1.trans (c:=an) (m:=ae.size) ⟨bh.size,λj hj=>bh.get j (by omega)⟩ (Ac _)
     have bz:Keep Z.size Z an:=aj.trans (c:=an) (m:=Z.size) ⟨au.size,λj hj=>au.get j (by omega)⟩ (Ac _)
     have bC:(wz t nodes f x n).keys.length<=1048576:=by unfold wz;simp[h6];omega
     rw[zi]
     refine Own.key (ar.keep au) (by omega) bC cA λg' s2 O' k' z'=>body g' _ s2 (by rw[if_pos h6]) O' (bz.trans (c:=g') (m:=Z.size) k' (Ac _))
    ·have h6:¬x.1=6:=by simpa using h6
     exact body ae (wz t nodes f x n).keys sk (by rw[if_neg h6]) ar aj
   ·have ck:n=x.2.2.2.1.length:=by have:=of_decide_eq_false co;omega
    subst ck
    have eN:=zm3 (t:=t) (f:=f) hx
    rw[eN]at ar
    refine⟨_,_,sk,si,ar.box.ld (cs:=jz _ sk si),?_⟩
    refine Zf bV λg2 f2 z2 B2=>⟨_,_,sk,si,B2.ld (cs:=[_,_,slV sk,slV si]),?_⟩
    obtain⟨bs,ot,bD⟩:=ar.ot
    refine hK g2 bs sk si (a7.trans (c:=g2) (m:=h.size) ⟨by omega,λj hj=>f2 j (by omega)⟩ (Ac _)) (ot.frame λc hc=>f2 c (by have:=(bD c hc).1;omega)) λc hc=>by have:=(bD c hc).1;omega
  have cZ:=Yr t x.2.1
  have bO:∀{g:za} {Q:Value->za->Prop},AgM M g->(∀g',Keep g.size g g'->Q (.string (bl (zw t x.2.1))) g')->XC Tp 31 #[.agg #[.string (bl t),slV ds],.agg #[.int .i64 x.2.1.1,.int .i64 x.2.1.2]] g Q:=λ {g Q} agg hQ=>by
   refine(zq9 (gl:=gl) (t:=t) (nodes:=nodes) (p:=x.2.1) (R:=λr=>r=bl (zw t x.2.1)) rfl).go hM agg (yr (a:=Arg.mk zng _) ⟨[.string (bl t),slV ds],rfl,[.string (bl t)],[slV ds],rfl,rfl,rd⟩ (yr (a:=Arg.mk tSp _) ⟨[.int .i64 x.2.1.1,.int .i64 x.2.1.2],rfl,_,_,rfl,rfl,rfl⟩ jq)) λv g' M' r L hv hr=>?_
   subst hr
   rw[z5p hv]
   exact hQ g' L.keep
  have bm:∀{g:za} {Q:Value->za->Prop},AgM M g->(∀g',Keep g.size g g'->Q (.string (bl (Jz x.1 (zw t x.2.1)))) g')->XC Tp 111 #[.int .i64 x.1,.string (bl (zw t x.2.1))] g Q:=λ {g Q} agg hQ=>by
   refine(zzf hg (k:=x.1) (t:=zw t x.2.1) (by omega) (R:=λr=>r=bl (Jz x.1 (zw t x.2.1))) rfl).go hM agg (yr (a:=Arg.mk (.int .i64) _) (Wm _ _) (yr (a:=Arg.mk .str _) (rdStr _) jq)) λv g' M' r L hv hr=>?_
   subst hr
   rw[z5p hv]
   exact hQ g' L.keep
  have ak:=ag.keep aP
  have af:∀(hh hA:za),Keep Z.size Z hh->Keep hh.size hh hA->Blk hA hh.size #[.int .i64 0,.string ⟨#[]⟩,.slice none 0 0,.slice none 0 0]->XRunU Tp (Aj 26 (.pointer (some ⟨hh.size,0,none⟩)) (.agg #[.int .i64 x.1,.string (bl (Jz x.1 (zw t x.2.1))),.slice none 0 0,.slice none 0 0])) hA (λg=>bM ⟨hh.size,0,none⟩ g):=λhh hA kh kA BA=>
   Zf (sk:=⟨none,0,0⟩) (si:=⟨none,0,0⟩) BA λg2 f2 z2 B2=>bS hh.size g2 kh.size (kh.trans (c:=g2) (m:=Z.size) ⟨by have:=kh.size;have:=kA.size;omega,λj hj=>by have:=kh.size;rw[f2 j (by omega)];exact kA.get j (by omega)⟩ (Ac _)) B2
  have hX:∀{g:za},Keep Z.size Z g->g[h2.size]?=Z[h2.size]?:=λk=>k.get h2.size (by omega)
  refine⟨x.1,by rw[zi];exact ai.cell rfl,x.1,by rw[zi];exact ai.cell rfl,bl t,ds,ztc bj,x.2.1.1,x.2.1.2,?_,bO ak λaM aa=>⟨_,rfl,by rw[zi];exact hX aa,by rw[zi];exact hX aa,bm (ak.keep aa) λah aB=>⟨_,rfl,?_,?_,?_⟩,?_⟩,?_⟩
  ·rw[zi];exact⟨by rw[zi];exact ai.cell rfl,by rw[zi];exact ai.cell rfl,trivial⟩
  ·rw[zi]
   exact hX (aa.trans (c:=ah) (m:=Z.size) ⟨aB.size,λj hj=>aB.get j (by have:=aa.size;omega)⟩ (Ac _))
  ·intro b9
   have kk:Keep Z.size Z ah:=aa.trans (c:=ah) (m:=Z.size) ⟨aB.size,λj hj=>aB.get j (by have:=aa.size;omega)⟩ (Ac _)
   exact af ah b9 kk (Keep.push _ _ (Ac _)) (Blk.new _ _ _)
  ·intro bF
   have kk:Keep Z.size Z ah:=aa.trans (c:=ah) (m:=Z.size) ⟨aB.size,λj hj=>aB.get j (by have:=aa.size;omega)⟩ (Ac _)
   have bu:Keep ah.size ah bF:=Keep.push _ _ (Ac _)
   refine⟨by rw[zi];exact(bu.get h2.size (by have:=kk.size;omega)).trans (hX kk),?_⟩
   exact af ah bF kk bu (Blk.new _ _ _)
  ·intro aC
   have bi:Keep aM.size aM aC:=Keep.push _ _ (Ac _)
   have cE:aC.size=aM.size+1:=Al _
   have cd:Blk aC aM.size #[.int .i64 0,.string ⟨#[]⟩,.slice none 0 0,.slice none 0 0]:=Blk.new _ _ _
   clear_value aC
   have cC:=aa.size
   have aA:Keep Z.size Z aC:=aa.trans (c:=aC) (m:=Z.size) ⟨bi.size,λj hj=>bi.get j (by omega)⟩ (Ac _)
   refine⟨by rw[zi];exact hX aA,by rw[zi];exact hX aA,bm (ak.keep aA) λbr aN=>⟨_,rfl,?_,?_⟩⟩
   ·rw[zi]
    exact hX (aA.trans (c:=br) (m:=Z.size) ⟨aN.size,λj hj=>aN.get j (by omega)⟩ (Ac _))
   ·exact af aM br aa ⟨by have:=aN.size;omega,λj hj=>by rw[aN.get j (by omega)];exact bi.get j hj⟩ (cd.keep (aN.get _ (by omega)))
  ·intro aZ
   have ap:Keep Z.size Z aZ:=Keep.push _ _ (Ac _)
   have cH:aZ.size=Z.size+1:=Al _
   have cb:Blk aZ Z.size #[.int .i64 0,.string ⟨#[]⟩,.slice none 0 0,.slice none 0 0]:=Blk.new _ _ _
   clear_value aZ
   refine⟨by rw[zi];exact hX ap,ap.get h.size (by omega),by rw[zi];exact hX ap,by rw[zi];exact hX ap,bO (ak.keep ap) λbU aF=>⟨_,rfl,?_⟩⟩
   have c8:=aF.size
   have ay:Keep Z.size Z bU:=ap.trans (c:=bU) (m:=Z.size) ⟨aF.size,λj hj=>aF.get j (by omega)⟩ (Ac _)
   refine⟨by rw[zi];exact hX ay,by rw[zi];exact hX ay,bm (ak.keep ay) λbA aO=>⟨_,rfl,?_,?_⟩⟩
   ·rw[zi]
    exact hX (ay.trans (c:=bA) (m:=Z.size) ⟨aO.size,λj hj=>aO.get j (by omega)⟩ (Ac _))
   ·exact af Z bA (Keep.refl _ _) ⟨by have:=aO.size;omega,λj hj=>by rw[aO.get j (by omega),aF.get j (by omega)];exact ap.get j hj⟩ ((cb.keep (aF.get _ (by omega))).keep (aO.get _ (by omega)))
end
end
section
theorem qbd:qf Tp 9=true:=by kernel_rfl
theorem qbe:qw Tp 9=1:=by kernel_rfl
theorem z98:qf Tp 46=true:=by kernel_rfl
theorem z99:qw Tp 46=3:=by kernel_rfl
section
variable {t : Bs} {nodes : List Nd} {lvs : List Nat} {gl : Fr}
set_option maxRecDepth 100000 in
set_option maxHeartbeats 4000000 in
theorem zw9(hg:GL gl)(ht:t.length<=65536)(G:GoodN lvs nodes)(bu:∀x∈nodes,x.2.2.2.1.length<=200000):∀(f k l:Nat),lvs[k]?=some l->33-l<=f->qaq 22 t nodes gl k [] (xm t nodes f k)
 |0,k,l,hl,hf=>by have:=G.lv k l hl;omega
 |f+1,k,l,hl,hf=>by
  intro h M ds hM ag rd K hK
  have a1:k<nodes.length:=by have:=(Aw.1 hl).1;have:=G.len;omega
  have hx:nodes[k]?=some nodes[k]:=Ak a1
  have cZ:=G.lv k l hl
  have aI:=G.kid k l nodes[k] hx hl
  have cd:=bu _ (AP a1)
  generalize cz:nodes[k]=x at hx aI cd
  have dt:=(rowLen rd).1
  show XC Tp _ #[.agg #[.string (bl t),slV ds],.int .i64 (k:Int)] h K
  apply zcj
  intro h1 h2
  have k1:Keep h.size h h1:=Keep.push _ _ (Ac _)
  have k2:Keep h1.size h1 h2:=Keep.push _ _ (Ac _)
  have z1:h1.size=h.size+1:=Al _
  have z2:h2.size=h1.size+1:=Al _
  have D1:Blk h1 h.size #[.string (bl t),slV ds]:=Blk.new _ _ _
  have R2:Blk h2 h1.size #[.int .i64 0,.string ⟨#[]⟩,.slice none 0 0,.slice none 0 0]:=Blk.new _ _ _
  clear_value h1 h2
  have bA:Keep h.size h h2:=k1.trans (c:=h2) (m:=h.size) ⟨k2.size,λj hj=>k2.get j (by omega)⟩ (Ac _)
  have D2:=D1.keep (k2.get h.size (by omega))
  have cP:=ag.keep bA
  obtain⟨nb,no,ks,ps,e1,e2,e3⟩:=z9z cP rd a1
  rw[cz]at e2 e3
  have cT:=(rowLen e3).1
  refine⟨ds,by rw[zi];exact D2.cell rfl,_,⟨e1,by omega,by omega⟩,x.1,x.2.1.1,x.2.1.2,x.2.2.1.1,x.2.2.1.2,ks,ps,?_,?_⟩
  ·rw[zi,Af];exact e2
  intro aP
  have cu:Keep h2.size h2 aP:=Keep.push _ _ (Ac _)
  have dB:aP.size=h2.size+1:=Al _
  have cG:Blk aP h2.size #[.int .i64 0,.int .i64 0,.int .i64 0,.int .i64 0,.int .i64 0,.slice none 0 0,.slice none 0 0]:=Blk.new _ _ _
  clear_value aP
  refine Jv (vs:=ndC (x,⟨ks,[],ps,[]⟩)) qao cG rfl qap (Ac _) (zo9 _) λZ ah cY cE=>?_
  have ah:Blk Z h2.size #[.int .i64 x.1,.int .i64 x.2.1.1,.int .i64 x.2.1.2,.int .i64 x.2.2.1.1,.int .i64 x.2.2.1.2,slV ks,slV ps]:=ah
  have au:Keep h2.size h2 Z:=⟨by omega,λj hj=>(cE j (by omega)).trans (cu.get j hj)⟩
  have aH:Keep h.size h Z:=bA.trans (c:=Z) (m:=h.size) ⟨au.size,λj hj=>au.get j (by omega)⟩ (Ac _)
  have ba:=D2.keep (au.get h.size (by omega))
  have cJ:=R2.keep (au.get h1.size (by omega))
  have aU:=ag.keep aH
  have cO:=Yr t x.2.1
  have bM:∀(p:Sp) {g:za} {Q:Value->za->Prop},AgM M g->(∀g',Keep g.size g g'->Q (.string (bl (zw t p))) g')->XC Tp 66 #[.agg #[.string (bl t),slV ds],.agg #[.int .i64 p.1,.int .i64 p.2]] g Q:=λp {g Q} agg hQ=>by
   refine(zww (gl:=gl) (t:=t) (nodes:=nodes) (p:=p) (R:=λr=>r=bl (zw t p)) rfl).go hM agg (yr (a:=Arg.mk zng _) ⟨[.string (bl t),slV ds],rfl,[.string (bl t)],[slV ds],rfl,rfl,rd⟩ (yr (a:=Arg.mk tSp _) ⟨[.int .i64 p.1,.int .i64 p.2],rfl,_,_,rfl,rfl,rfl⟩ jq)) λv g' M' r L hv hr=>?_
   subst hr
   rw[z5p hv]
   exact hQ g' L.keep
  refine⟨bl t,ds,ztc ba,x.2.1.1,x.2.1.2,?_,bM x.2.1 aU λae bo=>⟨_,rfl,x.1,?_,?_⟩⟩
  ·rw[zi];exact⟨by rw[zi];exact ah.cell rfl,by rw[zi];exact ah.cell rfl,trivial⟩
  ·rw[zi];exact(ah.keep (bo.get h2.size (by omega))).cell rfl
  intro aQ
  have cL:Keep ae.size ae aQ:=Keep.push _ _ (Ac _)
  have dy:aQ.size=ae.size+1:=Al _
  have ca:Blk aQ ae.size #[.int .i64 0,.string ⟨#[]⟩,.slice none 0 0,.slice none 0 0]:=Blk.new _ _ _
  clear_value aQ
  have df:=bo.size
  refine Zf (k:=x.1) (s:=⟨#[]⟩) (sk:=⟨none,0,0⟩) (si:=⟨none,0,0⟩) ca λaf cC dm aL=>?_
  have aJ:Keep Z.size Z af:=⟨by omega,λj hj=>by rw[cC j (by omega),cL.get j (by omega),bo.get j hj]⟩
  intro bL bD
  have aY:∀(vb:Nat) (aG:za),vb=ae.size->Z.size<=vb->Keep Z.size Z aG->Blk aG vb #[.int .i64 x.1,.string (bl (Jz x.1 (zw t x.2.1))),.slice none 0 0,.slice none 0 0]->bL aG:=by
   intro vb aG bJ bY bH bF
   refine bD aG ?_
   rw[<-bJ]
   have dq:=ah.keep (bH.get h2.size (by omega))
   have b8:=bF.lt
   refine⟨λi aa=>∃(n:Nat) (sk si:Sl),i=(n:Int)/\n<=x.2.2.2.1.length/\Own Z.size aa.size aa vb (wz t nodes f x n) sk si/\Keep Z.size Z aa,λi _=>x.2.2.2.1.length-i.toNat,⟨0,⟨none,0,0⟩,⟨none,0,0⟩,rfl,by omega,?_,bH⟩,?_⟩
   ·have e0:wz t nodes f x 0=.mk x.1 (bl (Jz x.1 (zw t x.2.1))) [] []:=by unfold wz;simp
    rw[e0]
    exact Own.new bF bY (Ac _)
   rintro i aa ⟨n,sk,si,rfl,hn,ap,ak⟩
   have bn:=ah.keep (ak.get h2.size (by omega))
   have bG:=ba.keep (ak.get h.size (by omega))
   have bU:=cJ.keep (ak.get h1.size (by omega))
   have aT:Keep h.size h aa:=aH.trans (c:=aa) (m:=h.size) ⟨ak.size,λj hj=>ak.get j (by omega)⟩ (Ac _)
   have ax:=ag.keep aT
   have dv:=ak.size
   refine⟨ks,by rw[zi];exact bn.cell rfl,λaz=>?_,λcy=>?_⟩
   ·have az:n<x.2.2.2.1.length:=by have:=of_decide_eq_true az;omega
    obtain⟨j,ej,dw,a6⟩:=aI _ (AP az)
    have hj:j<nodes.length:=by have:=(Aw.1 a6).1;have:=G.len;omega
    have dA:=G.lv j (l+1) a6
    obtain⟨ib,io,f1,f2⟩:=z3o ax e3 az
    rw[ej]at f2
    intro co bC
    have cj:nodes[j]?=some nodes[j]:=Ak hj
    have bS:zgg t nodes x.2.2.2.1[n]=zs2 t nodes[j]:=by unfold zgg;rw[ej,Af,cj]
    have aC:=zik (t:=t) (nodes:=nodes) (f:=f) az
    rw[bS,ej,Af]at aC
    have body:∀(ab:za) (ks':List Bt) (sk':Sl),ks'=(if x.1=6 then(wz t nodes f x n).keys++[bl (zs2 t nodes[j])]else(wz t nodes f x n).keys)->Own Z.size ab.size ab vb (.mk x.1 (bl (Jz x.1 (zw t x.2.1))) ks' (wz t nodes f x n).items) sk' si->Keep Z.size Z ab->co ab:=by
     intro ab ks' sk' cH bg aA
     refine bC ab ?_
     have du:=aA.size
     have b9:=ba.keep (aA.get h.size (by omega))
     have aV:Keep h.size h ab:=aH.trans (c:=ab) (m:=h.size) ⟨aA.size,λj hj=>aA.get j (by omega)⟩ (Ac _)
     have aF:=bg.box.lt
     have bV:=ah.keep (aA.get h2.size (by omega))
     obtain⟨dl,dC,g1,g2⟩:=z3o (ag.keep aV) e3 az
     rw[ej]at g2
     refine⟨si,by rw[zi];exact bg.box.cell rfl,bl t,ds,ztc b9,ks,by rw[zi];exact bV.cell rfl,_,⟨g1,by omega,by omega⟩,(j:Int),by rw[zi,Af];exact g2,?_⟩
     refine zw9 hg ht G bu f j (l+1) a6 (by omega) ab M ds hM (ag.keep aV) rd _ λaO bw wk wi aN ow be=>⟨_,_,_,_,rfl,?_⟩
     have dr:=aN.size
     refine⟨by rw[zi];exact aN.get vb aF,?_⟩
     intro aj
     have aM:Keep aO.size aO aj:=Keep.push _ _ (Ac _)
     have dx:aj.size=aO.size+1:=Al _
     have cg:Blk aj aO.size (jz (xm t nodes f j) wk wi).toArray:=Blk.new _ _ _
     clear_value aj
     refine⟨by rw[zi];exact(aM.get vb (by omega)).trans (aN.get vb aF),?_⟩
     have an:Keep ab.size ab aj:=aN.trans (c:=aj) (m:=ab.size) ⟨aM.size,λj hj=>aM.get j (by omega)⟩ (Ac _)
     have bz:Keep Z.size Z aj:=aA.trans (c:=aj) (m:=Z.size) ⟨an.size,λj hj=>an.get j (by omega)⟩ (Ac _)
     have bP:(wz t nodes f x n).items.length<=1000000:=by unfold wz;simp;omega
     rw[zi]
     refine Own.item (bg.keep an) (by omega) bP cg (ow.frame λc hc=>aM.get c (ow.lt c hc)) (λhm=>by have:=ow.lt _ hm;omega) (λc hc=>⟨by have:=be c hc;omega,by have:=be c hc;omega,be c hc⟩) λg' s2 O' k' z'=>⟨⟨n+1,sk',s2,by rw[w64 (by omega)];omega,by omega,?_,bz.trans (c:=g') (m:=Z.size) k' (Ac _)⟩,?_⟩
     ·rw[aC,<-cH];exact O'
     ·show x.2.2.2.1.length-(Aa .i64 ((n:Int)+1)).toNat<x.2.2.2.1.length-(n:Int).toNat
      rw[w64 (by omega)];omega
    refine⟨x.1,by rw[zi];exact bn.cell rfl,λh6=>?_,λh6=>?_⟩
    ·have h6:x.1=6:=by simpa using h6
     have cq:=ap.box.lt
     obtain⟨dD,c7,c8,da,g1,g2,_⟩:=z9z ax rd hj
     obtain⟨_,_,_,g3,g4,_⟩:=g2
     rw[zi]at g3 g4
     refine⟨bl t,ds,ztc bG,ds,by rw[zi];exact bG.cell rfl,ks,by rw[zi];exact bn.cell rfl,_,⟨f1,by omega,by omega⟩,(j:Int),by rw[zi,Af];exact f2,_,⟨g1,by omega,by omega⟩,nodes[j].2.2.1.1,nodes[j].2.2.1.2,?_,?_⟩
     ·rw[zi,zi,Af]
      exact⟨by rw[zi];exact g3,by rw[zi];exact g4,trivial⟩
     refine bM nodes[j].2.2.1 ax λdh aZ=>⟨_,rfl,?_⟩
     have db:=aZ.size
     have:=Yr t nodes[j].2.2.1
     refine(za5 (gl:=gl) (t:=zw t nodes[j].2.2.1) (by omega) (R:=λr=>r=(bl (Qt (zw t nodes[j].2.2.1)).1,((Qt (zw t nodes[j].2.2.1)).2.1:Int),(Qt (zw t nodes[j].2.2.1)).2.2)) rfl).go hM (ax.keep aZ) (yr (a:=Arg.mk .str _) (rdStr _) jq) λv ay M' r Lt hv hr=>?_
     subst hr
     obtain⟨vs,⟨v1,rest,rfl,a8,v2,bj,rfl,bm,v3,rfl,bh⟩,rfl⟩:=hv
     rw[xp a8,qs bm,qs bh]
     have bi:Keep aa.size aa ay:=aZ.trans (c:=ay) (m:=aa.size) ⟨Lt.keep.size,λj hj=>Lt.keep.get j (by omega)⟩ (Ac _)
     have di:=bi.size
     have cM:=ap.keep bi
     refine⟨_,_,_,rfl,sk,by rw[zi];exact cM.box.cell rfl,?_⟩
     intro am
     have bQ:Keep ay.size ay am:=Keep.push _ _ (Ac _)
     have de:am.size=ay.size+1:=Al _
     have cQ:Blk am ay.size #[.string (bl (zs2 t nodes[j]))]:=Blk.new _ _ _
     clear_value am
     have ar:Keep aa.size aa am:=bi.trans (c:=am) (m:=aa.size) ⟨bQ.size,λj hj=>bQ.get j (by omega)⟩ (Ac _)
     have bI:Keep Z.size Z am:=ak.trans (c:=am) (m:=Z.size) ⟨ar.size,λj hj=>ar.get j (by omega)⟩ (Ac _)
     have bO:(wz t nodes f x n).keys.length<=1048576:=by unfold wz;simp[h6];omega
     rw[zi]
     refine Own.key (ap.keep ar) (by omega) bO cQ λg' s2 O' k' z'=>body g' _ s2 (by rw[if_pos h6]) O' (bI.trans (c:=g') (m:=Z.size) k' (Ac _))
    ·have h6:¬x.1=6:=by simpa using h6
     exact body aa (wz t nodes f x n).keys sk (by rw[if_neg h6]) ap ak
   ·have cn:n=x.2.2.2.1.length:=by have:=of_decide_eq_false cy;omega
    subst cn
    have eN:=zm3 (t:=t) (f:=f) hx
    rw[eN]at ap
    refine⟨_,_,sk,si,ap.box.ld (cs:=jz _ sk si),?_⟩
    refine Zf bU λg2 f2 z2 B2=>⟨_,_,sk,si,B2.ld (cs:=[_,_,slV sk,slV si]),?_⟩
    obtain⟨bs,ot,bq⟩:=ap.ot
    refine hK g2 bs sk si (aT.trans (c:=g2) (m:=h.size) ⟨by omega,λj hj=>f2 j (by omega)⟩ (Ac _)) (ot.frame λc hc=>f2 c (by have:=(bq c hc).1;omega)) λc hc=>by have:=(bq c hc).1;omega
  have aL:Blk af ae.size #[.int .i64 x.1,.string ⟨#[]⟩,.slice none 0 0,.slice none 0 0]:=aL
  have cB:=ah.keep (aJ.get h2.size (by omega))
  have aE:=aU.keep aJ
  have a7:∀(ai:za) (u:Bt),Keep af.size af ai->u=bl (Jz x.1 (zw t x.2.1))->XRunU Tp (Aj 9 (.pointer (some ⟨ae.size,1,none⟩)) (.string u)) ai (λg=>bL g):=λai u aB hu=>by
   subst hu
   have cF:=aB.size
   refine yy qbd qbe (aL.keep (aB.get ae.size (by omega))) (by show 1<4;omega) rfl λg u1 u2 u3=>aY ae.size g rfl (by omega) ⟨by omega,λj hj=>by rw[u3 j (by omega),aB.get j (by omega)];exact aJ.get j hj⟩ u1
  have cO:=Yr t x.2.1
  have eT:Jz x.1 (zw t x.2.1)=if x.1=2 then zw t x.2.1 else if x.1=3 then Ym (zo (zw t x.2.1)).1 else if x.1=4 then(Qt (zw t x.2.1)).1 else []:=rfl
  refine⟨x.1,by rw[zi];exact cB.cell rfl,λq2=>?_,λq2=>⟨λq3=>?_,λq3=>⟨λq4=>?_,λq4=>?_⟩⟩⟩
  ·have q2:x.1=2:=by simpa using q2
   rw[zi]
   exact a7 af _ (Keep.refl _ _) (by rw[eT,if_pos q2])
  ·have q2:¬x.1=2:=by simpa using q2
   have q3:x.1=3:=by simpa using q3
   refine(zgb (gl:=gl) (s:=zw t x.2.1) (by omega) (R:=λr=>r=(nmB (zo (zw t x.2.1)).1,(zo (zw t x.2.1)).2)) rfl).go hM aE (yr (a:=Arg.mk .str _) (rdStr _) jq) λv ai M' r Lt hv hr=>?_
   subst hr
   have bT:=Wr (zw t x.2.1) (by omega)
   refine⟨_,_,_,_,qam hv,?_⟩
   intro aS
   have aB:=Lt.keep
   have bZ:Keep ai.size ai aS:=Keep.push _ _ (Ac _)
   have dz:aS.size=ai.size+1:=Al _
   have cm:Blk aS ai.size #[.bool false,.string ⟨#[]⟩,.int .i64 0]:=Blk.new _ _ _
   clear_value aS
   refine Jv (vs:=[.bool (nmB (zo (zw t x.2.1)).1).1,.string (nmB (zo (zw t x.2.1)).1).2.1,.int .i64 (nmB (zo (zw t x.2.1)).1).2.2]) z98 cm rfl z99 (Ac _) (λu hu=>?_) λck cb cV cc=>⟨_,_,_,cb.ld (cs:=[_,_,_]),?_⟩
   ·simp at hu;rcases hu with rfl|rfl|rfl <;> rfl
   have cF:=aB.size
   have br:Keep af.size af ck:=⟨by omega,λj hj=>by rw[cc j (by omega),bZ.get j (by omega),aB.get j hj]⟩
   refine(zsw (gl:=gl) (n:=(zo (zw t x.2.1)).1) bT (R:=λr=>r=bl (Ym (zo (zw t x.2.1)).1)) rfl).go hM (aE.keep br) (yr (a:=Arg.mk tN _) ⟨[_,_,_],rfl,[_],[_,_],rfl,rfl,[_],[_],rfl,rfl,rfl⟩ jq) λv2 bB M2 r2 L2 cA cp=>⟨r2,z5p cA,?_⟩
   subst cp
   rw[zi]
   exact a7 bB _ (br.trans (c:=bB) (m:=af.size) ⟨L2.keep.size,λj hj=>L2.keep.get j (by omega)⟩ (Ac _)) (by rw[eT,if_neg q2,if_pos q3])
  ·have q2:¬x.1=2:=by simpa using q2
   have q3:¬x.1=3:=by simpa using q3
   have q4:x.1=4:=by simpa using q4
   refine(za5 (gl:=gl) (t:=zw t x.2.1) (by omega) (R:=λr=>r=(bl (Qt (zw t x.2.1)).1,((Qt (zw t x.2.1)).2.1:Int),(Qt (zw t x.2.1)).2.2)) rfl).go hM aE (yr (a:=Arg.mk .str _) (rdStr _) jq) λv bE M' r Lt hv hr=>?_
   subst hr
   obtain⟨vs,⟨v1,rest,rfl,a8,v2,bj,rfl,bm,v3,rfl,bh⟩,rfl⟩:=hv
   rw[xp a8,qs bm,qs bh]
   refine⟨_,_,_,rfl,?_⟩
   rw[zi]
   exact a7 bE _ Lt.keep (by rw[eT,if_neg q2,if_neg q3,if_pos q4])
  ·have q2:¬x.1=2:=by simpa using q2
   have q3:¬x.1=3:=by simpa using q3
   have q4:¬x.1=4:=by simpa using q4
   refine aY ae.size af rfl (by omega) aJ ?_
   have:Jz x.1 (zw t x.2.1)=[]:=by rw[eT,if_neg q2,if_neg q3,if_neg q4]
   rw[this]
   exact aL
end
end
section
variable {n bv cv:Nat} {t el ty:TypeId} {zv:Value} {ks:Sl} {K:Value -> za -> Prop}
theorem NS.cell{lo:Nat}{g:za}{M:Fr}{na:NA}{sl:Sl}{b:Nat}{cs:Array Value}(H:NS lo g M na sl b cs)(hn:n<na.length):sl.a=some ⟨b,0,none⟩/\Blk g b cs/\sl.cap≠0/\n*7+7<=cs.size/\∀(q:Nat) (v:Value),q<7->(ndC na[n])[q]?=some v->zc g ⟨b,n*7+q,none⟩=some v:=by
 have Z:na.map ndC≠[]:=λh=>by rw[List.map_eq_nil_iff]at h;rw[h]at hn;simp at hn
 obtain⟨h1,h2⟩:=H.cr.blk Z
 obtain⟨h3,h4⟩:=H.cr.el n (ndC na[n]) (by rw[Cc,Ak hn];rfl)
 refine⟨h1,h2,by have:=H.len;have:=H.cr.ro.le;omega,by omega,λq v hq hv=>h2.cell ?_⟩
 have:=zq8 h4 hq
 rw[hv]at this
 rw[<-this,Bw]
def axK(k:Int)(s':Sl)(Z:List Nat)(p:Nd×Ax):Nd×Ax:=((p.1.1,p.1.2.1,p.1.2.2.1,p.1.2.2.2.1++[k],p.1.2.2.2.2),⟨s',Z,p.2.ps,p.2.pb⟩)
def axP(k:Sp)(s':Sl)(Z:List Nat)(p:Nd×Ax):Nd×Ax:=((p.1.1,p.1.2.1,p.1.2.2.1,p.1.2.2.2.1,p.1.2.2.2.2++[k]),⟨p.2.ks,p.2.kb,s',Z⟩)
def axT(t:Int)(p:Nd×Ax):Nd×Ax:=(z4i t p.1,p.2)
theorem xn{f:Nd×Ax->Nd×Ax}{f':Nd->Nd}(h:∀p,(f p).1=f' p.1)(na:NA)(n:Nat):(na.modify n f).map (·.1)=(na.map (·.1)).modify n f':=by
 apply Bc
 intro i
 rw[Cc,Bn,Bn,Cc]
 cases na[i]? with
 |none=>rfl
 |some p=>by_cases e:n=i <;> simp[e,h]
structure NSt (lo:Nat) (g:za) (M:Fr) (na:NA) (sl:Sl) (b:Nat) (g':za) (na':NA) (cs':Array Value):Prop where
 ns:NS lo g' M na' sl b cs'
 le:g.size<=g'.size
 sub:∀c,nsO na' sl b c->nsO na sl b c\/g.size<=c
 fr:∀j,j<g.size->¬nsO na sl b j->g'[j]?=g[j]?
section
variable {lo : Nat} {g : za} {M : Fr} {na : NA} {sl : Sl} {b : Nat} {cs : Array Value}
theorem NS.addK{bytes:Nat}(E:ElemT Tp t el zv (sz (.int .i64)) bytes)(ai:bytes<=1000)(ag:AgM M g)(aj:lo<=g.size)(H:NS lo g M na sl b cs)(hn:n<na.length){k:Int}(hv:Blk g bv #[.int .i64 k])(hb:na[n].1.2.2.2.1.length<=1000000)(ak:na[n].2.ks=ks)
  (hK:∀(s':Sl) (g1:za) (Z:List Nat),Blk g1 b cs->g.size<=g1.size->(∀j,j<g.size->¬nsO na sl b j->g1[j]?=g[j]?)->(∀g2:za,Blk g2 b (cs.setIfInBounds (n*7+5) (slV s'))->g2.size=g1.size->(∀j,j≠b->g2[j]?=g1[j]?)->NSt lo g M na sl b g2 (na.modify n (axK k s' Z)) (cs.setIfInBounds (n*7+5) (slV s')))->K (.slice s'.a s'.len s'.cap) g1):
  XRun Tp (AD #[t,t] ty #[.slice ks.a ks.len ks.cap,.slice (some ⟨bv,0,none⟩) 1 cv]) g K:=by
 subst ak
 obtain⟨h1,h2,h3,h4,h5⟩:=H.cell hn
 have hm:=AP hn
 have I:=H.nd _ hm
 have ah:=(H.lb h3).2.1
 refine ORow.app E ai ag I.kk aj hv rfl hb λs' g1 Z o1 z1 c1 f1=>?_
 have ab:b∉na[n].2.kb:=λh=>H.nb _ hm (.inl h)
 have ae:b∉Z:=λh=>by
  rcases c1 b h with h|h
  ·exact ab h
  ·omega
 refine hK s' g1 Z (h2.keep (f1 b ah ab)) z1 (λj hj aa=>f1 j hj λh=>aa (.inr ⟨_,hm,.inl h⟩)) λg2 B2 z2 f2=>?_
 have af:∀j,j<g.size->j≠b->¬axO na[n] j->g2[j]?=g[j]?:=λj hj h1 h2=>by rw[f2 j h1,f1 j hj λh=>h2 (.inl h)]
 have q1:NdI lo g2 M (axK k s' Z na[n]):=by
  refine⟨?_,?_,?_⟩
  ·exact o1.frame (λc hc=>f2 c λe=>ae (e ▸ hc)) (Fr.le.refl _) λc hc=>(o1.own c hc).2.2
  ·exact I.pp.frame (λc hc=>by have:=(I.pp.own c hc).2.1;rw[f2 c λe=>H.nb _ hm (.inr (e ▸ hc))];exact f1 c this λh=>I.dd c h hc) (Fr.le.refl _) λc hc=>(I.pp.own c hc).2.2
  ·intro c hc hp
   rcases c1 c hc with h|h
   ·exact I.dd c h hp
   ·have:=(I.pp.own c hp).2.1;omega
 have q2:∀c,axO (axK k s' Z na[n]) c->axO na[n] c\/g.size<=c:=by
  intro c hc
  rcases hc with hc|hc
  ·rcases c1 c hc with h|h
   ·exact .inl (.inl h)
   ·exact .inr h
  ·exact .inl (.inr hc)
 obtain⟨N,ow⟩:=H.upd hn (f:=axK k s' Z) (q:=5) (v:=slV s') (by omega) B2 (by omega) rfl q1 q2 af
 exact⟨N,by omega,ow,λj hj aa=>af j hj (λe=>aa (.inl ⟨h3,e⟩)) λh=>aa (.inr ⟨_,hm,h⟩)⟩
theorem NS.addP{bytes:Nat}(E:ElemT Tp t el zv (sz tSp) bytes)(ai:bytes<=1000)(ag:AgM M g)(aj:lo<=g.size)(H:NS lo g M na sl b cs)(hn:n<na.length){k:Sp}(hv:Blk g bv #[.int .i64 k.1,.int .i64 k.2])(hb:na[n].1.2.2.2.2.length<=1000000)(ak:na[n].2.ps=ks)
  (hK:∀(s':Sl) (g1:za) (Z:List Nat),Blk g1 b cs->g.size<=g1.size->(∀j,j<g.size->¬nsO na sl b j->g1[j]?=g[j]?)->(∀g2:za,Blk g2 b (cs.setIfInBounds (n*7+6) (slV s'))->g2.size=g1.size->(∀j,j≠b->g2[j]?=g1[j]?)->NSt lo g M na sl b g2 (na.modify n (axP k s' Z)) (cs.setIfInBounds (n*7+6) (slV s')))->K (.slice s'.a s'.len s'.cap) g1):
  XRun Tp (AD #[t,t] ty #[.slice ks.a ks.len ks.cap,.slice (some ⟨bv,0,none⟩) 1 cv]) g K:=by
 subst ak
 obtain⟨h1,h2,h3,h4,h5⟩:=H.cell hn
 have hm:=AP hn
 have I:=H.nd _ hm
 have ah:=(H.lb h3).2.1
 refine ORow.app E ai ag I.pp aj hv ⟨_,_,rfl,rfl,rfl⟩ hb λs' g1 Z o1 z1 c1 f1=>?_
 have ab:b∉na[n].2.pb:=λh=>H.nb _ hm (.inr h)
 have ae:b∉Z:=λh=>by
  rcases c1 b h with h|h
  ·exact ab h
  ·omega
 refine hK s' g1 Z (h2.keep (f1 b ah ab)) z1 (λj hj aa=>f1 j hj λh=>aa (.inr ⟨_,hm,.inr h⟩)) λg2 B2 z2 f2=>?_
 have af:∀j,j<g.size->j≠b->¬axO na[n] j->g2[j]?=g[j]?:=λj hj h1 h2=>by rw[f2 j h1,f1 j hj λh=>h2 (.inr h)]
 have q1:NdI lo g2 M (axP k s' Z na[n]):=by
  refine⟨?_,?_,?_⟩
  ·exact I.kk.frame (λc hc=>by have:=(I.kk.own c hc).2.1;rw[f2 c λe=>H.nb _ hm (.inl (e ▸ hc))];exact f1 c this λh=>I.dd c hc h) (Fr.le.refl _) λc hc=>(I.kk.own c hc).2.2
  ·exact o1.frame (λc hc=>f2 c λe=>ae (e ▸ hc)) (Fr.le.refl _) λc hc=>(o1.own c hc).2.2
  ·intro c hp hc
   rcases c1 c hc with h|h
   ·exact I.dd c hp h
   ·have:=(I.kk.own c hp).2.1;omega
 have q2:∀c,axO (axP k s' Z na[n]) c->axO na[n] c\/g.size<=c:=by
  intro c hc
  rcases hc with hc|hc
  ·exact .inl (.inl hc)
  ·rcases c1 c hc with h|h
   ·exact .inl (.inr h)
   ·exact .inr h
 obtain⟨N,ow⟩:=H.upd hn (f:=axP k s' Z) (q:=6) (v:=slV s') (by omega) B2 (by omega) rfl q1 q2 af
 exact⟨N,by omega,ow,λj hj aa=>af j hj (λe=>aa (.inl ⟨h3,e⟩)) λh=>aa (.inr ⟨_,hm,h⟩)⟩
theorem NS.toB(H:NS lo g M na sl b cs)(hn:n<na.length){x:Int}{g2:za}(B2:Blk g2 b (cs.setIfInBounds (n*7+2) (.int .i64 x)))(z2:g2.size=g.size)(f2:∀j,j≠b->g2[j]?=g[j]?):NSt lo g M na sl b g2 (na.modify n (axT x)) (cs.setIfInBounds (n*7+2) (.int .i64 x)):=by
 obtain⟨h1,h2,h3,h4,h5⟩:=H.cell hn
 have hm:=AP hn
 have I:=H.nd _ hm
 have q1:NdI lo g2 M (axT x na[n]):=by
  refine⟨?_,?_,I.dd⟩
  ·exact I.kk.frame (λc hc=>f2 c λe=>H.nb _ hm (.inl (e ▸ hc))) (Fr.le.refl _) λc hc=>(I.kk.own c hc).2.2
  ·exact I.pp.frame (λc hc=>f2 c λe=>H.nb _ hm (.inr (e ▸ hc))) (Fr.le.refl _) λc hc=>(I.pp.own c hc).2.2
 obtain⟨N,ow⟩:=H.upd hn (f:=axT x) (q:=2) (v:=.int .i64 x) (by omega) B2 (by omega) rfl q1 (λc hc=>.inl hc) λj hj h1 h2=>f2 j h1
 exact⟨N,by omega,ow,λj hj Z=>f2 j λe=>Z (.inl ⟨h3,e⟩)⟩
end
end
section
variable {J O O':Nat -> Prop} {g g':za} {lo bp:Nat} {M:Fr} {s:Bs} {a e:Int}
structure StJ (J:Nat->Prop) (g:za) (O:Nat->Prop) (g':za) (O':Nat->Prop):Prop where
 le:g.size<=g'.size
 sub:∀c,O' c->O c\/g.size<=c
 fr:∀j,j<g.size->¬O j->¬J j->g'[j]?=g[j]?
theorem Stp.j{J:Nat->Prop}{g g':za}{O O':Nat->Prop}(S:Stp g O g' O'):StJ J g O g' O':=⟨S.le,S.sub,λj h1 h2 _=>S.fr j h1 h2⟩
theorem StJ.trans{g g' aa:za}{O O' Z:Nat->Prop}(a:StJ J g O g' O')(b:StJ J g' O' aa Z):StJ J g O aa Z:=by
 have:=a.le;have:=b.le
 refine⟨by omega,λc h=>?_,λj hj hn hJ=>?_⟩
 ·rcases b.sub c h with h|h
  ·exact a.sub c h
  ·exact .inr (by omega)
 ·rw[b.fr j (by omega) (λh=>?_) hJ]
  ·exact a.fr j hj hn hJ
  ·rcases a.sub j h with h|h
   ·exact hn h
   ·omega
def Apt(J:Nat->Prop)(g:za)(O:Nat->Prop):Prop:=∀j,J j->j<g.size/\¬O j
theorem Apt.step{J D:Nat->Prop}(h:Apt D g O)(S:StJ J g O g' O'):Apt D g' O':=λj hj=>by
 obtain⟨h1,h2⟩:=h j hj
 have:=S.le
 refine⟨by omega,λho=>?_⟩
 rcases S.sub j ho with h|h
 ·exact h2 h
 ·omega
def Ans(r:PR PSt)(b:Bool)(st':PSt)(a e:Int):Prop:=match r with
 |.inl t=>b=true/\st'=t
 |.inr x=>b=false/\x=(a,e)
def qar(r:PR (List Bs×PSt))(b:Bool)(σ:List Bs)(st':PSt)(a e:Int):Prop:=match r with
 |.inl t=>b=true/\t=(σ,st')
 |.inr x=>b=false/\x=(a,e)
def z6z(g:za)(bp:Nat):Nat:=match zc g ⟨bp,1,none⟩with
 |some (.slice _ n _)=>n
 |_=>0
theorem PaS.restLen{st:PSt}(H:PaS lo g M bp s st a e O):z6z g bp=st.rest.length:=by
 obtain⟨rs,lf,na,sl,b,cs,W,h1,rfl⟩:=H
 unfold z6z
 rw[W.blk.cell (o:=1) (v:=slV rs) rfl]
 exact(rowLen W.rd).1
theorem PW.nst{rest:List Tk}{last a e:Int}{rs:Sl}{lf:Int}{na na':NA}{sl:Sl}{b:Nat}{cs cs':Array Value}(W:PW lo g M bp s rest last a e rs lf na sl b cs)(N:NSt lo g M na sl b g' na' cs'):PW lo g' M bp s rest last a e rs lf na' sl b cs'/\Stp g (ppO bp na sl b) g' (ppO bp na' sl b):=by
 refine⟨⟨W.blk.keep (N.fr bp W.blk.lt W.nb),W.rd,N.ns,zg5 W.ag λj hj hm=>N.fr j hj λh=>hm (W.ns.own h).2.2,W.bl,λh=>?_⟩,N.le,λc h=>?_,λj hj hn=>N.fr j hj λh=>hn (.inr h)⟩
 ·rcases N.sub bp h with h|h
  ·exact W.nb h
  ·have:=W.blk.lt;omega
 ·rcases h with h|h
  ·exact .inl (.inl h)
  ·rcases N.sub c h with h|h
   ·exact .inl (.inr h)
   ·exact .inr h
theorem z7a:ElemT Tp 59 3 (.int .i64 0) (sz (.int .i64)) 8:=⟨by kernel_rfl,⟨Tryz.t3,by kernel_rfl,by kernel_rfl,by kernel_rfl,by kernel_rfl⟩,rfl,by decide⟩
theorem z7b:ElemT Tp 60 58 (.agg #[.int .i64 0,.int .i64 0]) (sz tSp) 16:=⟨by kernel_rfl,⟨Tryz.t58,by kernel_rfl,by kernel_rfl,by kernel_rfl,by kernel_rfl⟩,rfl,by decide⟩
theorem qas:qf Tp 59=true:=by kernel_rfl
theorem qat:qw Tp 59=1:=by kernel_rfl
theorem qau:qf Tp 60=true:=by kernel_rfl
theorem qav:qw Tp 60=1:=by kernel_rfl
def qaw(lo:Nat)(M:Fr)(bp:Nat)(s:Bs)(F:FuncId)(A C:Array Value)(lv:Int)(kid:zmi)(HI:List Bs->za->Prop)(J D:Nat->Prop):Prop:=
 ∀(σ:List Bs) (g:za) (st:PSt) (a e:Int) (O:Nat->Prop),PaS lo g M bp s st a e O->HI σ g->Apt D g O->st.nodes.length<=4096->st.T<=200000->(∀t∈st.rest,TkW s t) ->
  ∀K:Value->za->Prop,(∀b g' st' a' e' O' σ',PaS lo g' M bp s st' a' e' O'->StJ J g O g' O'->st.nodes.length<=st'.nodes.length->(b=true->HI σ' g')->qar (kid σ st) b σ' st' a' e'->K (.bool b) g')->XC Tp F (A++#[.int .i64 lv]++C) g K
section
variable {lo : Nat} {g : za} {M : Fr} {bp : Nat} {s : Bs} {st : PSt} {a e : Int} {O J D : Nat -> Prop} {K : Value -> za -> Prop} {HI : List Bs -> za -> Prop} {kid : zmi} {F : FuncId} {A C : Array Value}
set_option maxRecDepth 100000 in
set_option maxHeartbeats 4000000 in
theorem zxa(aQ:∀σ g g',HI σ g->(∀j,D j->g'[j]?=g[j]?)->HI σ g'){an lv:Int}(ba:Aa .i64 (an+1)=lv)(hk:qaw lo M bp s F A C lv kid HI J D)(aM:zot kid)(hF:qa Tp F=true)
  {closing:Int} (hc:closing≠0) (H:PaS lo g M bp s st a e O) (h0:HI [] g) (hJ:Apt D g O) (h4:st.nodes.length<=4096) (hT:st.T<=200000) (hw:∀t∈st.rest,TkW s t) {n:Nat} (hn:n<st.nodes.length)
  (hK:∀b g' st' a' e' O',PaS lo g' M bp s st' a' e' O'->StJ J g O g' O'->st.nodes.length<=st'.nodes.length->Ans (Xl s n closing kid st) b st' a' e'->K (.bool b) g'):
  XC Tp 117 #[.pointer (some ⟨bp,0,none⟩),.int .i64 (n:Int),.int .i64 an,.int .i64 closing,.func (.func F) A C] g K:=by
 apply zaz
 refine zez H hc (λhy g1 P1 S1=>⟨true,rfl,λ_=>?_,λh=>(by cases h)⟩) (λbB=>⟨false,rfl,λh=>(by cases h),λ_=>?_⟩)
 ·refine hK true g1 st.skip a e O P1 S1.j (by rw[qu];exact Ac _) ?_
  unfold Xl;rw[if_pos hy];exact⟨rfl,rfl⟩
 refine⟨λg'=>∃(f:Nat) (σ:List Bs) (st':PSt) (a' e':Int) (O':Nat->Prop),PaS lo g' M bp s st' a' e' O'/\HI σ g'/\Apt D g' O'/\StJ J g O g' O'/\Okk st st' 0/\st'.rest.length<f/\Xl s n closing kid st=Jy s n closing kid f σ st',λg'=>z6z g' bp,⟨st.rest.length+1,[],st,a,e,O,H,h0,hJ,(Stp.refl g O).j,Okk.refl st,by omega,by unfold Xl;rw[if_neg bB]⟩,?_⟩
 rintro h6 ⟨f,σ,Z,a1,e1,O1,P1,I1,J1,S1,ae,hf,hL⟩
 obtain⟨f,rfl⟩:∃f',f=f'+1:=⟨f-1,by omega⟩
 have bO:n<Z.nodes.length:=by have:=ae.n;omega
 have bD:Z.nodes.length<=4096:=ae.m h4
 have bE:Z.T<=200000:=by have:=ae.t;omega
 have a8:=P1.restLen
 have bC:=P1
 obtain⟨bP,bV,bQ,aN,b1,bJ,W1,br,_⟩:=bC
 have l1:aN.len=Z.nodes.length:=by rw[W1.ns.len,<-br,AM]
 refine⟨_,rfl,Z.last,by rw[zi,zi];exact W1.blk.cell rfl,_,rfl,aN,by rw[zi];exact W1.blk.cell rfl,hF,?_⟩
 rw[ba,l1]
 refine hk σ h6 Z a1 e1 O1 P1 I1 J1 bD bE (λt ht=>hw t (ae.w t ht)) _ λb g2 aa a2 e2 O2 σ2 P2 S2 n2 I2 A2=>⟨b,rfl,λhb=>?_,λhb=>?_⟩
 ·have hb:b=false:=by simpa using hb
  subst hb
  refine hK false g2 aa a2 e2 O2 P2 (S1.trans S2) (by have:=ae.n;omega) ?_
  rw[hL,Jy]
  cases hr:kid σ Z with
  |inl t=>rw[hr]at A2;exact absurd A2.1 (by simp)
  |inr x=>rw[hr]at A2;exact⟨rfl,A2.2⟩
 have hb:b=true:=by simpa using hb
 subst hb
 have hr:kid σ Z=.inl (σ2,aa):=by
  cases hr:kid σ Z with
  |inl t=>rw[hr]at A2;rw[A2.2]
  |inr x=>rw[hr]at A2;exact absurd A2.1 (by simp)
 have ok2:=aM _ _ _ _ hr
 have I2:=I2 rfl
 have J2:=J1.step S2
 rw[Jy,hr]at hL
 dsimp only at hL
 have aY:=P2
 obtain⟨rs,lf,na,sl,b,cs,W,h1,rfl⟩:=aY
 have bM:na.length=aa.nodes.length:=by rw[<-h1,AM]
 have ax:n<na.length:=by omega
 obtain⟨q1,q2,q3,q4,q5⟩:=W.ns.cell ax
 have bm:ndW na[n].1<=200000:=by
  have h:na[n].1∈aa.nodes:=by rw[<-h1];exact List.mem_map_of_mem (AP ax)
  have:=zv3 h;have:=ok2.t;omega
 unfold ndW at bm
 refine⟨_,rfl,sl,by rw[zi];exact W.blk.cell rfl,⟨b,0,none⟩,⟨q1,by omega,by have:=W.ns.len;omega⟩,⟨b,n*7,none⟩,by rw[zi,Af,Az],na[n].2.ks,?_,?_⟩
 ·rw[zi];exact q5 5 _ (by omega) rfl
 intro af
 have aB:Keep g2.size g2 af:=Keep.push _ _ (Ac _)
 have bH:af.size=g2.size+1:=Al _
 have aZ:Blk af g2.size #[.int .i64 (Z.nodes.length:Int)]:=Blk.new _ _ _
 clear_value af
 have bz:NSt lo g2 M na sl b af na cs:=⟨W.ns.frame aB.size λc hc=>aB.get c (W.ns.own hc).2.1,aB.size,λc h=>.inl h,λj hj _=>aB.get j hj⟩
 obtain⟨ay,bu⟩:=W.nst bz
 have aS:lo<=af.size:=by have:=(ay.own (.inl rfl));omega
 refine NS.addK z7a (by omega) ay.ag aS ay.ns ax aZ (by omega) rfl λs' bL ar bq bS bT a7=>⟨s',rfl,⟨b,n*7,none⟩,by rw[zi,Af,Az],?_⟩
 rw[zi]
 refine yy qas qat bq (by omega) rfl λab u1 u2 u3=>?_
 obtain⟨ah,bn⟩:=ay.nst (a7 ab u1 u2 u3)
 have aC:n<(na.modify n (axK (Z.nodes.length:Int) s' ar)).length:=by rw[List.length_modify];exact ax
 have aI:(na.modify n (axK (Z.nodes.length:Int) s' ar))[n]=axK (Z.nodes.length:Int) s' ar na[n]:=by rw[List.getElem_modify,if_pos rfl]
 obtain⟨r1,r2,r3,r4,r5⟩:=ah.ns.cell aC
 rw[aI]at r5
 refine⟨⟨b,n*7,none⟩,by rw[zi,Af,Az],na[n].2.ps,?_,?_⟩
 ·rw[zi];exact r5 6 _ (by omega) rfl
 have be:PaS lo ab M bp s ⟨aa.rest,aa.last,(na.modify n (axK (Z.nodes.length:Int) s' ar)).map (·.1)⟩ a2 e2 _:=⟨_,_,_,_,_,_,ah,rfl,rfl⟩
 refine zw7 be ⟨_,rfl,rfl,rfl,?_⟩
 intro ai
 have ap:Keep ab.size ab ai:=Keep.push _ _ (Ac _)
 have bY:ai.size=ab.size+1:=Al _
 have bh:Blk ai ab.size #[.int .i64 Z.last,.int .i64 (aa.here s.length)]:=Blk.new _ _ _
 clear_value ai
 have aV:=(ah.ns.own (.inl ⟨r3,rfl⟩)).2.1
 refine⟨by rw[zi];exact ap.get b aV,?_⟩
 have bg:NSt lo ab M _ sl b ai _ _:=⟨ah.ns.frame ap.size λc hc=>ap.get c (ah.ns.own hc).2.1,ap.size,λc h=>.inl h,λj hj _=>ap.get j hj⟩
 obtain⟨aA,bj⟩:=ah.nst bg
 have aP:lo<=ai.size:=by have:=(aA.own (.inl rfl));omega
 refine NS.addP z7b (by omega) aA.ag aP aA.ns aC (k:=(Z.last,aa.here s.length)) bh (by rw[aI];show na[n].1.2.2.2.2.length<=_;omega) (by rw[aI];rfl) λs2 bI a6 aU bG bU aO=>⟨s2,rfl,⟨b,n*7,none⟩,by rw[zi,Af,Az],?_⟩
 rw[zi]
 refine yy qau qav aU (by omega) rfl λaj v1 v2 v3=>?_
 obtain⟨bi,bo⟩:=aA.nst (aO aj v1 v2 v3)
 have au:((na.modify n (axK (Z.nodes.length:Int) s' ar)).modify n (axP (Z.last,aa.here s.length) s2 a6)).map (·.1)=(aa.addKid n (Z.nodes.length:Int) (Z.last,aa.here s.length)).nodes:=by
  rw[xn (f':=λx=>(x.1,x.2.1,x.2.2.1,x.2.2.2.1,x.2.2.2.2++[(Z.last,aa.here s.length)])) (λp=>rfl),xn (f':=λx=>(x.1,x.2.1,x.2.2.1,x.2.2.2.1++[(Z.nodes.length:Int)],x.2.2.2.2)) (λp=>rfl),h1]
  unfold PSt.addKid
  apply Bc
  intro i
  rw[Bn,Bn,Bn]
  cases aa.nodes[i]? with
  |none=>rfl
  |some x=>by_cases e:n=i <;> simp[e,zs0]
 have aH:PaS lo aj M bp s (aa.addKid n (Z.nodes.length:Int) (Z.last,aa.here s.length)) a2 e2 _:=⟨_,_,_,_,_,_,bi,au,rfl⟩
 have am:=((bu.trans bn).trans bj).trans bo
 have bF:HI σ2 aj:=aQ σ2 g2 aj I2 λj hj=>am.fr j (J2 j hj).1 (J2 j hj).2
 have aJ:=J2.step (am.j (J:=J))
 have aT:=zdh aa n (Z.nodes.length:Int) (Z.last,aa.here s.length)
 have az:(aa.addKid n (Z.nodes.length:Int) (Z.last,aa.here s.length)).kind=aa.kind:=rfl
 have bA:(aa.addKid n (Z.nodes.length:Int) (Z.last,aa.here s.length)).here s.length=aa.here s.length:=rfl
 have ak:=(S1.trans S2).trans am.j
 have aE:st.nodes.length<=(aa.addKid n (Z.nodes.length:Int) (Z.last,aa.here s.length)).nodes.length:=by have:=ae.n;have:=ok2.n;omega
 refine zez aH hc (λhy g' P' S'=>⟨true,rfl,λ_=>?_,λh=>(by cases h)⟩) (λaG=>⟨false,rfl,λh=>(by cases h),λ_=>?_⟩)
 ·refine hK true g' _ _ _ _ P' (ak.trans S'.j) (by rw[qu];exact aE) ?_
  rw[az]at hy
  rw[hL,if_pos hy];exact⟨rfl,rfl⟩
 rw[az]at aG
 rw[if_neg aG]at hL
 refine zez aH (by omega) (λhy g' P' S'=>⟨true,rfl,λh=>(by simp at h),λ_=>?_⟩) (λaF=>⟨false,rfl,λ_=>?_,λh=>(by simp at h)⟩)
 ·rw[az]at hy
  rw[if_pos hy]at hL
  have aL:=Xe aM hr (n:=n) (k:=(Z.nodes.length:Int)) (p:=(Z.last,aa.here s.length)) (PSt.ne_kind hy (by omega))
  refine⟨⟨f,σ2,_,_,_,_,P',aQ σ2 aj g' bF (λj hj=>S'.fr j (aJ j hj).1 (aJ j hj).2),aJ.step (S'.j (J:=J)),ak.trans S'.j,(ae.trans aL).le (by omega),?_,hL⟩,?_⟩
  ·have:=aL.r;omega
  ·have e1:=P'.restLen
   have:=aL.r
   show z6z g' bp<z6z h6 bp
   rw[e1,a8];omega
 ·rw[az]at aF
  rw[if_neg aF]at hL
  refine Jq aH λg' P' S'=>⟨false,rfl,hK false g' _ _ _ _ P' (ak.trans S'.j) aE ?_⟩
  rw[hL];exact⟨rfl,by rw[bA]⟩
end
end
end Go.X
end
