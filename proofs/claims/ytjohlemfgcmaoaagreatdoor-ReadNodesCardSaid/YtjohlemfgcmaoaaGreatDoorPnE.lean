/- A part of the proof: nothing is stated here for its own sake. -/
import Derived.Test.YtjohlemfgcmaoaaGreatDoorPnD
import Derived.Lib.AppendZerosOnto
import Derived.RangeFuncCalls
open _root_.Go.Addr renaming add->Af
open _root_.Array renaming getD_eq_getD_getElem?->BE,getElem?_append_left->Cn,getElem?_eq_some_iff->Ac,getElem?_push->B6,getElem?_setIfInBounds_ne->AO,getElem?_toList->BB,length_toList->Ct,push->Dw,replicate->Be,size->AZ,size_push->Al,size_setIfInBounds->A7
open _root_.Bool renaming and_eq_false_iff->Bq,and_eq_true->Bm,eq_iff_iff->Az,false_and->Db,false_eq_true->A9,false_or->Dl,not_not->DY,or_eq_false_iff->BG,or_eq_true->Bh,true_and->Cf
open _root_.Go.Builtin renaming append_->AD
open _root_.Classical renaming byContradiction->CC
open _root_.Go.Code renaming cond->DZ,region->D4
open _root_.Go.Deferred renaming ofValue->DC
open _root_.False renaming elim->Dk
open _root_.Go.Instr renaming storeAt->Aj
open _root_.Int renaming toNat_natCast->Ae
open _root_.Go.IntKind renaming bits->An,signed->C9,wrap->Aa
open _root_.List renaming all_cons->DL,all_eq_true->A4,append_assoc->Bi,append_nil->A8,cons_append->Bu,drop_drop->BD,drop_eq_getElem_cons->Ay,drop_eq_nil_of_le->AU,drop_length->Dc,drop_zero->BC,exists_cons_of_ne_nil->AX,ext_getElem?->Bc,getD_eq_getElem?_getD->Cp,getElem?_append_left->Bw,getElem?_append_right->A6,getElem?_drop->AE,getElem?_eq_getElem->Ak,getElem?_eq_none->BN,getElem?_eq_some_iff->Au,getElem?_map->Cc,getElem?_modify->Bn,getElem?_take->AC,getElem_append_left->C5,getElem_append_right->CE,getElem_drop->Dp,getElem_mem->AM,length->Cd,length_append->Ar,length_cons->AI,length_drop->As,length_eq_zero_iff->AW,length_map->AL,length_nil->Cv,length_pos_iff->Bj,length_take->AN,map_append->CP,map_cons->BZ,map_nil->D6,mem_append->Aw,mem_append_left->Ao,mem_append_right->Av,mem_cons->Ai,mem_cons_of_mem->Ag,mem_flatMap->Bo,mem_of_getElem?->Ba,mem_range->BK,mem_singleton->BJ,nil_append->Cu,nodup_append->BQ,range->BO,take_append_drop->Ce,take_length->A5,take_of_length_le->Bf,take_succ_cons->Cs,take_succ_eq_append_getElem->AH,take_zero->DV
open _root_.List.cons renaming injEq->BR
open _root_.Nat renaming add_assoc->DK,add_mul->Ca,add_zero->CQ,eq_of_beq_eq_true->Ah,le_of_ble_eq_true->BM,le_refl->Ad,lt_or_ge->AF,mod_eq_of_lt->DG,mul_comm->CJ,mul_le_mul_right->AK,mul_one->Du,one_mul->Dt,sub_zero->CU,succ_mul->CV,zero_add->AB,zero_le->CK,zero_mul->DD
open _root_.Option renaming bind_some->CF,map_some->D5
open _root_.Option.some renaming inj->Aq,injEq->Ab
open _root_.Go.Region renaming wanted->Bl
open _root_.Go.Proofs.Tryz renaming func212->DX
open _root_.UInt8 renaming ofNat->BF,toNat_inj->CB
open _root_.Go.Utf8 renaming encode->Dd
open _root_.Go.Value renaming int->D7,string->Di
open _root_.Go.Value.slice renaming injEq->Bb
set_option linter.unusedVariables false
set_option maxRecDepth 100000
namespace Go.X
end Go.X
namespace Go.Proofs
end Go.Proofs
open Go Go.X Go.Proofs
section
namespace Go.X
open Go Go.X Go.Proofs Go.RowKit
section
variable {h:zb} {b:Nat} {l:Bs} {r:Int} {K:Value -> zb -> Prop}
theorem zo9(H:Bld h b l)(h0:0<=r)(h1:r<=1114111)(hl:l.length+4<=140737488355328)(hK:∀h' n,Bld h' b (l++Lib.encodeRune r)->Keep b h h'->Itk h h'->K (.tuple #[.int .i64 n,.nilIface]) h'):
  XC Tp 83 #[.pointer (some ⟨b,0,none⟩),.int .i32 r] h K:=by
 apply Zs
 refine chk H λh2 H2 k2 z2 i2=>⟨rfl,_,rfl,?_⟩
 have aa:=H2.lt
 obtain⟨p,s,e,hp,ho⟩:=H2
 have Z:=ho.1
 rw[Lib.byteCells_length,Du]at Z
 have c1:=Blk.cellAdd (o:=0) (k:=1) (v:=slV s) (cs:=#[.pointer p,slV s]) ⟨_,e⟩ rfl
 refine⟨s,c1,_,rfl,s,c1,?_⟩
 refine XC.of_calls λB d=>(Jg (b+1) (slV s) s.len (Lib.byteCells l) r (by omega) (by omega) (mk B d h2) ho (by omega) (show b+1<=h2.size by omega)).mono ?_
 rintro e' w' ⟨v',rfl,q,o,gr⟩
 obtain⟨s',rfl,hn⟩:∃s':Sl,v'=slV s'/\s'.len=s.len+(Lib.runeCells r).length:=by
  rcases q.2 with⟨rfl,hz⟩|⟨g,cap,ae,rfl,_⟩
  ·exact⟨⟨none,0,0⟩,rfl,hz.symm⟩
  ·exact⟨⟨_,_,_⟩,rfl,rfl⟩
 have o6:Owns w'.heap (b+1) 5 1 s' (Lib.byteCells (l++Lib.encodeRune r)):=by
  have e1:Lib.byteCells (l++Lib.encodeRune r)=Lib.byteCells l++Lib.runeCells r:=by
   rw[<-Lib.byteCells_encodeRune];unfold Lib.byteCells;rw[CP]
  rw[e1]
  rw[<-hn]at q
  exact q
 have e6:w'.heap[b]?=some (.cells #[.pointer p,slV s] 112 (0,0)):=by
  have hx:=gr.block b (by show b<(h2.push o).size;rw[Al];omega) (by
   intro hq
   cases ha:s.a with
   |none=>rw[slV,ha]at hq;cases hq
   |some a=>
    have:=ho.base_le a ha
    rw[slV,ha]at hq
    simp only[Value.ownBlock,Ab]at hq
    omega)
  rw[hx]
  show(h2.push o)[b]?=_
  rw[Array.getElem?_push_lt aa,<-e];simp[aa]
 have kk:Keep b h w'.heap:=by
  refine k2.trans ⟨?_,λi hi=>?_⟩ (Ad _)
  ·have:=gr.size
   have h3:(h2.push o).size<=w'.heap.size:=this
   rw[Al]at h3;omega
  ·have hx:=gr.block i (by show i<(h2.push o).size;rw[Al];omega) (by
    intro hq
    cases ha:s.a with
    |none=>rw[slV,ha]at hq;cases hq
    |some a=>
     have:=ho.base_le a ha
     rw[slV,ha]at hq
     simp only[Value.ownBlock,Ab]at hq
     omega)
   rw[hx]
   show(h2.push o)[i]?=_
   rw[Array.getElem?_push_lt (by omega)];simp[show i<h2.size by omega]
 have ik:Itk h2 w'.heap:=Itk.own ho λi hi ab=>by
  have hx:=gr.block i (by show i<(h2.push o).size;rw[Al];omega) (by
   intro hq
   cases ha:s.a with
   |none=>rw[slV,ha]at hq;cases hq
   |some a=>
    have:=ab a ha
    rw[slV,ha]at hq
    simp only[Value.ownBlock,Ab]at hq
    exact this hq)
  rw[hx]
  show(h2.push o)[i]?=_
  rw[Array.getElem?_push_lt hi];simp[hi]
 refine⟨_,rfl,gr.os,gr.tape,gr.output,s',rfl,_,rfl,?_⟩
 refine z6z e6 hp o6 λh7 H7 k7 z7 i7=>?_
 have H8:=H7
 obtain⟨p8,s8,e8,_,_⟩:=H8
 exact⟨_,rfl,s8,Blk.cellAdd (o:=0) (k:=1) (v:=slV s8) (cs:=#[.pointer p8,slV s8]) ⟨_,e8⟩ rfl,hK h7 _ H7 (kk.trans k7 (Ad _)) (i2.trans (ik.trans i7))⟩
theorem zpa(H:Bld h b l)(h0:0<=r)(h1:r<=1114111)(hl:l.length+4<=140737488355328)(hK:∀h' n,Bld h' b (l++Lib.encodeRune r)->Keep b h h'->K (.tuple #[.int .i64 n,.nilIface]) h'):
  XC Tp 83 #[.pointer (some ⟨b,0,none⟩),.int .i32 r] h K:=
 zo9 H h0 h1 hl λh' n a b _=>hK h' n a b
def qad(c:Int):Option Nat:=let lo:=bits .or .u8 c 32
 if 97<=lo/\lo<=122 then(let d:=Aa .u8 ((Aa .u8 (lo-97))+10);if d>=16 then none else some d.toNat)else none
theorem z3f:(BO 256).all (λc=>decide (48<=c/\c<=57)||(qad (c:Int)==zcf (BF c)))=true:=by kernel_rfl
theorem z3g{c:UInt8}(h:¬(48<=c.toNat/\c.toNat<=57)):qad (c.toNat:Int)=zcf c:=by
 have:=A4.1 z3f c.toNat (BK.2 c.toNat_lt)
 rw[Bh,decide_eq_true_eq]at this
 rcases this with h1|h1
 ·exact absurd h1 h
 ·rw[beq_iff_eq]at h1
  rw[h1];congr 1
  rw[UInt8.ofNat_toNat]
theorem zwt:(BO 256).all (λc=>decide (0<=Aa .u8 ((Aa .u8 ((bits .or .u8 (c:Int) 32)-97))+10)))=true:=by kernel_rfl
theorem zpb{c:Int}(hK:K (.int .u8 (bits .or .u8 c 32)) h):XC Tp 325 #[.int .u8 c] h K:=by
 refine XC.of_calls λB d=>(Yk c (mk B d h)).mono ?_
 rintro e w' ⟨rfl,rfl⟩
 exact⟨_,rfl,rfl,rfl,rfl,hK⟩
theorem Jn:∀(a b:Bs) (n:Nat),zeh n (a++b)=(zeh n a).bind λm=>zeh m b
 |[],b,n=>rfl
 |c::a,b,n=>by
  show(match zcf c with|some d=>zeh (16*n+d) (a++b)|none=>none)=(match zcf c with|some d=>zeh (16*n+d) a|none=>none).bind _
  cases zcf c with
  |none=>rfl
  |some d=>exact Jn a b _
theorem zq8(n:Nat)(c:UInt8):zeh n [c]=(zcf c).map λd=>16*n+d:=by
 show(match zcf c with|some d=>zeh (16*n+d) []|none=>none)=_
 cases zcf c <;> rfl
theorem z7a{s:Bs}(hK:∀(x:Sl) h',Keep h.size h h'->x.len=s.length->x.a=some ⟨h.size,0,none⟩->(∀j (hj:j<s.length),zc h' ⟨h.size,j,none⟩=some (.int .u8 (s[j].toNat:Int)))->K (slV x) h'):
  XRun Tp (convert 9 110 (.string (bl s))) h K:=by
 intro B d
 refine⟨_,_,_,Lib.run_convert_string_bytes (P:=Tp) (mk B d h) 9 110 5 (bl s) qbk elemU8.slice (by kernel_rfl),?_⟩
 refine hK ⟨some ⟨h.size,0,none⟩,(bl s).size,_⟩ _ ⟨?_,λi hi=>?_⟩ (zd s) rfl λj hj=>?_
 ·show h.size<=(Lib.bytesWorld (mk B d h) 5 (bl s)).heap.size
  rw[Lib.bytesWorld_size];exact Nat.le_succ _
 ·exact Lib.bytesWorld_at_old (mk B d h) 5 (bl s) i hi
 ·have:=Lib.bytesWorld_cell (mk B d h) 5 (bl s) j (by rw[zd];exact hj)
  have e:(bl s).data.toList=s:=jd s
  rw[e,Cp,Ak hj]at this
  exact this
set_option maxHeartbeats 4000000 in
theorem zpc(hl:l.length=4)(h1:∀n h',zeh 0 l=some n->Keep h.size h h'->K (.tuple #[.int .u64 (n:Int),.nilIface]) h')
  (h2:∀h',zeh 0 l=none->Keep h.size h h'->K (.tuple #[.int .u64 0,.iface 287 (.int .i64 2)]) h'):
  XC Tp 316 #[.string (bl l),.int .i64 16,.int .i64 32] h K:=by
 apply Zf
 have he:((bl l:Bt).toList==((⟨#[]⟩:Bt):Bt).toList)=false:=by
  have:((bl l:Bt).toList==((⟨#[]⟩:Bt):Bt).toList)=decide (l=[]):=zcb l []
  rw[this,decide_eq_false_iff_not]
  intro e;rw[e]at hl;simp at hl
 refine⟨λe=>(by rw[he]at e;cases e),λ_=>?_⟩
 intro K4 ap
 refine⟨λ_=>ap _ _ _ ?_,λe=>by simp at e⟩
 intro K7 aB
 refine⟨λe=>by simp at e,λ_=>⟨λe=>by simp at e,λ_=>aB _ _ ?_⟩⟩
 intro aE an
 refine⟨λe=>by simp at e,λ_=>⟨λ_=>an _ _ ?_,λe=>by simp at e⟩⟩
 have ae:(Aa .u64 32:Int)=32:=by decide
 refine⟨by rw[ae];omega,?_⟩
 refine z7a λx h3 k3 xl xa xc=>⟨x,rfl,?_⟩
 refine⟨λu n i g=>u=false/\g=h3/\∃(k m:Nat),k<=4/\i=(k:Int)/\n=(m:Int)/\zeh 0 (l.take k)=some m,λu n i g=>4-i.toNat,⟨rfl,rfl,0,0,by omega,rfl,rfl,rfl⟩,?_⟩
 rintro u n i g ⟨rfl,rfl,k,m,hk,rfl,rfl,hm⟩
 have aC:m<65536:=by
  have:=zj6 hm
  have hp:(l.take k).length<=4:=by rw[AN];omega
  have:16 ^ (l.take k).length<=16 ^ 4:=Nat.pow_le_pow_right (by omega) hp
  omega
 refine⟨λhc=>?_,λhc=>?_⟩
 ·have am:k<4:=by rw[decide_eq_true_eq,xl,hl]at hc;omega
  have ah:k<l.length:=by omega
  refine⟨⟨h.size,0,none⟩,⟨xa,by omega,by rw[decide_eq_true_eq]at hc;exact hc⟩,(l[k].toNat:Int),?_,?_⟩
  ·rw[zi,Ae,Du,AB]
   exact xc k ah
  generalize ar:l[k]=c
  have Z:zeh 0 (l.take (k+1))=(zcf c).map λd=>16*m+d:=by
   rw[AH ah,Jn,hm,ar]
   exact zq8 m c
  have aa:zcf c=none->zeh 0 l=none:=by
   intro e
   rw[e]at Z
   rw[<-Ce (k+1) l,Jn,Z];rfl
  have cl:=c.toNat_lt
  intro ay ab
  have aj:∀d:Int,0<=d->(d<16->zcf c=some d.toNat)->(16<=d->zcf c=none)->ay false d g:=by
   intro d ax au az
   apply ab
   have aA:(Aa .u8 16:Int)=16:=by decide
   have ak:(Aa .u64 16:Int)=16:=by decide
   rw[aA,ak,ae]
   refine⟨λe=>h2 _ (aa (az (by simpa using e))) k3,λe=>?_⟩
   have hd:d<16:=by simpa using e
   have hv:=au hd
   rw[hv]at Z
   have wr:∀z:Int,0<=z->z<18446744073709551616->Aa .u64 z=z:=by
    intro z z0 z1
    unfold Aa
    have e1:(2:Int) ^ An .u64=18446744073709551616:=by decide
    have e2:C9 .u64=false:=rfl
    simp only[e1,e2,Db,A9,if_false]
    exact Int.emod_eq_of_lt z0 z1
   have e1:Aa .u64 ((m:Int)*16)=(m:Int)*16:=wr _ (by omega) (by omega)
   have e2:Aa .u64 d=d:=wr _ ax (by omega)
   have e3:Aa .u64 ((m:Int)*16+d)=(m:Int)*16+d:=wr _ (by omega) (by omega)
   have e4:(Aa .u64 ((Aa .u64 (1*2 ^ (min (32:Int).toNat 64)))-1):Int)=4294967295:=by decide
   rw[e1,e2,e3,e4]
   refine⟨λe=>?_,λ_=>⟨λe=>?_,λ_=>?_⟩⟩
   ·rw[decide_eq_true_eq]at e;omega
   ·simp only[Bool.cond_eq_ite,Bool.if_true_left,Bh,decide_eq_true_eq]at e
    omega
   ·rw[Zp (n:=4) am (by omega)]
    refine⟨⟨rfl,rfl,k+1,16*m+d.toNat,by omega,rfl,by omega,Z⟩,?_⟩
    show 4-((k+1:Nat):Int).toNat<4-((k:Nat):Int).toNat
    omega
  have af:(bif ((c.toNat:Int)==95)then((16:Int)==0)else false)=false:=by
   cases((c.toNat:Int)==95) <;> rfl
  refine⟨λe=>(by rw[af]at e;cases e),λ_=>⟨λe=>?_,λe=>?_⟩⟩
  ·have hd:48<=c.toNat/\c.toNat<=57:=by
    simp only[Bool.cond_eq_ite,Bool.if_false_right,Bm,decide_eq_true_eq]at e
    omega
   rw[zv6 (by omega) (by omega)]
   refine aj _ (by omega) (λ_=>?_) (λh9=>by omega)
   unfold zcf
   rw[if_pos hd];congr 1;omega
  ·have hd:¬(48<=c.toNat/\c.toNat<=57):=by
    simp only[Bool.cond_eq_ite,Bool.if_false_right,Bq,decide_eq_false_iff_not,decide_eq_true_eq]at e
    omega
   have lh:=z3g hd
   have lr:=A4.1 zwt c.toNat (BK.2 cl)
   rw[decide_eq_true_eq]at lr
   unfold qad at lh
   dsimp only at lh
   refine zpb ?_
   generalize ai:bits .or .u8 (c.toNat:Int) 32=lo at lh lr ⊢
   refine⟨lo,rfl,λv g'=>v=.int .u8 lo/\g'=g,λ_=>zpb ?_,λ_=>⟨lo,rfl,rfl⟩,?_,?_⟩
   ·rw[ai];exact⟨lo,rfl,rfl,rfl⟩
   ·rintro _ v g' ⟨rfl,_⟩;exact⟨lo,rfl⟩
   ·rintro x g' ⟨e1,rfl⟩
    injection e1 with _ e1
    subst e1
    refine⟨λe9=>zpb ?_,λe9=>?_⟩
    ·rw[ai]
     refine⟨x,rfl,?_⟩
     have hr:97<=x/\x<=122:=by
      simp only[Bool.cond_eq_ite,Bool.if_false_right,Bm,decide_eq_true_eq]at e9
      omega
     rw[if_pos hr]at lh
     refine aj _ lr (λh9=>?_) (λh9=>?_)
     ·rw[if_neg (by omega)]at lh;exact lh.symm
     ·rw[if_pos (by omega)]at lh;exact lh.symm
    ·have hr:¬(97<=x/\x<=122):=by
      simp only[Bool.cond_eq_ite,Bool.if_false_right,Bq,decide_eq_false_iff_not,decide_eq_true_eq]at e9
      omega
     rw[if_neg hr]at lh
     exact h2 _ (aa lh.symm) k3
 ·have am:k=4:=by rw[decide_eq_false_iff_not,xl,hl]at hc;omega
  refine⟨λv g'=>g'=g,(λe=>by cases e),(λ_=>⟨true,rfl⟩),(λe=>by cases e),?_⟩
  rintro x g' rfl
  refine⟨λe=>(by cases e),λ_=>h1 _ _ ?_ k3⟩
  rw[Bf (by omega)]at hm
  exact hm
end
end Go.X
end
section
namespace Go.X
section
theorem zzu{gl:Fr}(hg:GL gl){l:List Bt}(hl:SL l){R:Bool->Prop}(hR:R (Wt l)):PC Tp gl 70 [Arg.mk (.row .str) l] [.bool] R:=by
 intro h M vs hM ag ha
 match vs,ha with
 |[u],⟨hu,_⟩=>
  obtain⟨s,rfl,hr⟩:=z6g hu
  have hr:Rd M (.row .str) l [slV s]:=hr
  obtain⟨ab,ai,aj⟩:=rowLen hr
  apply PX.of
  apply zek s
  have hd:decide (((s.len:Nat):Int)<=64)=decide (l.length<=64):=by rw[ab,Az,decide_eq_true_eq,decide_eq_true_eq];omega
  rw[hd]
  refine⟨λv h'=>∃b,v=.bool b/\(decide (l.length<=64)=true->b=l.any λx=>!(xy (lb x)))/\∃M',Later h M h' M',λhc=>?_,λhc=>⟨true,true,rfl,λe=>(by rw[e]at hc;cases hc),M,Later.refl ag⟩,λ_ v h' ⟨b,e,_⟩=>⟨b,e⟩,?_⟩
  ·refine(qaa (gl:=gl) ag hr (p:=λx=>!(xy (lb x))) λx hx=>⟨by kernel_rfl,λh' M' u' L' af=>?_⟩).go λw h4 M4 b L4 Z ah=>⟨b,z4v Z,b,rfl,λ_=>ah,M4,L4⟩
   have:=Zo af
   subst this
   apply PX.of
   show XC Tp 133 #[.string x] h' _
   apply zck
   have hp:=zzj hg.tabs (l:=lb x) (R:=λb=>b=xy (lb x)) (by have:=hl.s x hx;omega) rfl
   rw[zjo]at hp
   exact hp.go (vs:=[.string x]) (hM.trans L'.le) L'.ag (yu (rdStr _) j9) λw h5 M5 b L5 aa ae=>⟨b,z4v aa,M5,_,L5,zsw.2 (rdBool _),by rw[ae]⟩
  ·rintro b h' ⟨b',e,hb,M',L'⟩
   cases e
   refine⟨M',_,L',zsw.2 (rdBool _),?_⟩
   have:(bif decide (l.length<=64)then !b else false)=Wt l:=by
    unfold Wt
    cases hc:decide (l.length<=64)with
    |false=>rfl
    |true=>
     rw[hb hc,cond_true,Cf,Az];simp
   rw[this];exact hR
end
end Go.X
end
section
namespace Go.X
open Go Go.X Go.Proofs Go.RowKit
section
theorem qbl{z:UInt8}(h:128<=z.toNat):Lib.indexByte [95] z=-1:=by
 have:z≠95:=by rintro rfl;revert h;decide
 unfold Lib.indexByte
 simp[Lib.indexByte,this.symm]
theorem ix0{z:UInt8}:Lib.indexByte [] z=-1:=by simp[Lib.indexByte]
def VR(r:Int)(e:Ending):Prop:=∃b,e=.returned (.bool b)/\(b=true->(0<=r/\r<55296)\/(57343<r/\r<=1114111))
set_option maxHeartbeats 4000000 in
set_option maxRecDepth 1000000 in
theorem zpd(r:Int)(w:World):Calls Tp 300 #[.int .i32 r] w λe w'=>VR r e/\w'=w:=by
 have mixed:=Tryz.mixed
 go_enter Tryz.func300,Tryz.ntmps300
 by_cases h1:0<=r <;> by_cases h2:r<55296 <;> by_cases h3:57343<r <;> by_cases h4:r<=1114111 <;> (go_wp2;go_ret;exact⟨⟨_,rfl,λh=>by first|omega|cases h⟩,rfl⟩)
theorem zwu(r:Int)(h:128<=r):(∃a z:UInt8,Dd r=⟨#[a,z]⟩/\128<=z.toNat)\/(∃a b z:UInt8,Dd r=⟨#[a,b,z]⟩/\128<=z.toNat)\/(∃a b c z:UInt8,Dd r=⟨#[a,b,c,z]⟩/\128<=z.toNat):=by
 have hz:∀n:Nat,128<=(BF (128+n % 64)).toNat:=λn=>by
  have:(BF (128+n % 64)).toNat=(128+n % 64) % 256:=UInt8.toNat_ofNat
  rw[this,DG (by omega)];omega
 have hc:∃c:Nat,128<=c/\(if Utf8.valid r then r.toNat else Utf8.runeError)=c:=by
  refine⟨_,?_,rfl⟩
  split
  ·omega
  ·decide
 obtain⟨c,aa,Z⟩:=hc
 unfold Dd
 simp only[Z]
 rw[if_neg (by omega)]
 by_cases h1:c<2048
 ·rw[if_pos h1];exact .inl ⟨_,_,rfl,hz _⟩
 ·rw[if_neg h1]
  by_cases h2:c<65536
  ·rw[if_pos h2];exact .inr (.inl ⟨_,_,_,rfl,hz _⟩)
  ·rw[if_neg h2];exact .inr (.inr ⟨_,_,_,_,rfl,hz _⟩)
def IR(e:Ending):Prop:=∃n,e=.returned (.int .i64 n)
set_option maxHeartbeats 4000000 in
set_option maxRecDepth 1000000 in
theorem zpe(r:Int)(w:World)(h1:128<=r)(h2:r≠65533):Calls Tp 269 #[.string ⟨#[43,45,95]⟩,.int .i32 r] w λe w'=>IR e/\Below w.heap.size w w':=by
 have mixed:=Tryz.mixed
 have ab:∀args w,(callFunc 212 args).run Tp w=.ok (.enter 212 args) w:=enters_of DX (by kernel_rfl) rfl
 have ae:∀args w,(callFunc 300 args).run Tp w=.ok (.enter 300 args) w:=enters_of Tryz.func300 (by kernel_rfl) rfl
 have g1:¬r<128:=by omega
 go_enter Tryz.func269,Tryz.ntmps269
 go_wp2_with (go_at_fn 300;refine(zpd _ _).mono ?_;rintro e w' ⟨⟨b,rfl,hb⟩,hw⟩;rw[hw];cases b)
 ·go_ret
  exact⟨⟨_,rfl⟩,Below.refl _ _⟩
 ·rcases zwu r h1 with⟨a,z,hE,hz⟩|⟨a,b,z,hE,hz⟩|⟨a,b,c,z,hE,hz⟩
  ·have Z:=λ(w:World)=>run_convert_int_string (P:=Tp) w 21 9 .i32 r (by kernel_rfl) (by kernel_rfl)
   rw[hE]at Z
   refine wp_scope_straight ?_
   go_wp2
   go_loop [9] (λv=>v=.int .i64 1) (λ_=>0)
   case atStart=>rfl
   case round=>
    subst hrel
    go_wp2
    refine wp_scope_straight ?_
    have aa:((45:Int) != (z.toNat:Int))=true:=bne_iff_ne.2 (by omega)
    go_wp2
    go_region
    simp only[show ∀h,((⟨#[43,45,95]⟩:Bt)[1]'h)=45 from λ_=>rfl,show ∀h,((⟨#[a,z]⟩:Bt)[1]'h)=z from λ_=>rfl,show((45:UInt8).toNat:Int)=45 from rfl,aa]
    all_goals go_wp2
    all_goals go_region_with (go_at_call 212;refine(jb _ _ _).mono ?_;rintro e w' ⟨rfl,rfl⟩)
    all_goals simp only[show ∀h,((⟨#[a,z]⟩:Bt)[1]'h)=z from λ_=>rfl,qbl hz]
    all_goals go_wp2
    all_goals simp only[Exit.noGoto,Exit.inBlock]
    all_goals go_wp2
    all_goals simp only[Exit.noGoto,Exit.inBlock]
    all_goals go_wp2
    all_goals go_ret
    all_goals exact⟨⟨_,rfl⟩,zga w 2⟩
  ·have Z:=λ(w:World)=>run_convert_int_string (P:=Tp) w 21 9 .i32 r (by kernel_rfl) (by kernel_rfl)
   rw[hE]at Z
   refine wp_scope_straight ?_
   go_wp2
   go_loop [9] (λv=>v=.int .i64 2) (λ_=>0)
   case atStart=>rfl
   case round=>
    subst hrel
    go_wp2
    refine wp_scope_straight ?_
    have aa:((95:Int) != (z.toNat:Int))=true:=bne_iff_ne.2 (by omega)
    go_wp2
    go_region
    simp only[show ∀h,((⟨#[43,45,95]⟩:Bt)[2]'h)=95 from λ_=>rfl,show ∀h,((⟨#[a,b,z]⟩:Bt)[2]'h)=z from λ_=>rfl,show((95:UInt8).toNat:Int)=95 from rfl,aa]
    all_goals go_wp2
    all_goals go_region_with (go_at_call 212;refine(jb _ _ _).mono ?_;rintro e w' ⟨rfl,rfl⟩)
    all_goals simp only[show ∀h,((⟨#[a,b,z]⟩:Bt)[2]'h)=z from λ_=>rfl,ix0]
    all_goals go_wp2
    all_goals simp only[Exit.noGoto,Exit.inBlock]
    all_goals go_wp2
    all_goals simp only[Exit.noGoto,Exit.inBlock]
    all_goals go_wp2
    all_goals go_ret
    all_goals exact⟨⟨_,rfl⟩,zga w 2⟩
  ·have Z:=λ(w:World)=>run_convert_int_string (P:=Tp) w 21 9 .i32 r (by kernel_rfl) (by kernel_rfl)
   rw[hE]at Z
   refine wp_scope_straight ?_
   go_wp2
   go_loop [9] (λv=>v=.int .i64 3) (λ_=>0)
   case atStart=>rfl
   case round=>
    subst hrel
    go_wp2
    go_ret
    exact⟨⟨_,rfl⟩,Below.refl _ _⟩
end
end Go.X
end
section
namespace Go.X
open Go Go.Lib
section
variable {l:Bs}
def zpf(l:Bs):Prop:=∀c∈l,c.toNat<128
theorem Ww(cs:Bs):∀l:Bs,containsAny l cs=l.any λc=>cs.contains c
 |[]=>by simp[containsAny,indexAny]
 |c::l=>by
  have ih:=Ww cs l
  have aa:=indexAny_ge cs l
  rw[List.any_cons,<-ih]
  unfold containsAny
  rw[indexAny]
  by_cases hc:cs.contains c=true
  ·rw[if_pos hc,hc];simp
  ·have Z:cs.contains c=false:=by simpa using hc
   rw[if_neg hc,Z,Dl]
   by_cases h1:indexAny l cs=-1
   ·simp[h1]
   ·have hb:(indexAny l cs==-1)=false:=by rw[beq_eq_false_iff_ne];exact h1
    rw[hb,if_neg (by simp),Az,decide_eq_true_eq,decide_eq_true_eq];omega
theorem zwv:∀(l:Bs) (acc:Nat),l.all qs=true->acc*10 ^ l.length+zq l<10 ^ 18->parseUint10 acc l=.ok (acc*10 ^ l.length+zq l)
 |[],acc,_,_=>by simp[parseUint10,zq]
 |c::t,acc,hd,hl=>by
  rw[DL,Bm]at hd
  have hc:48<=c.toNat/\c.toNat<=57:=by simpa[qs]using hd.1
  have e:zq (c::t)=(c.toNat-48)*10 ^ t.length+zq t:=by
   have:=zj3 [c] t
   rw[List.singleton_append]at this
   rw[this];simp[zq]
  have e2:(acc*10+(c.toNat-48))*10 ^ t.length+zq t=acc*10 ^ (c::t).length+zq (c::t):=by
   rw[e,AI,Nat.pow_succ,Ca,Nat.mul_assoc,CJ 10 (10 ^ t.length)];omega
  have hp:1<=10 ^ t.length:=Nat.one_le_pow _ _ (by decide)
  have hb:acc*10+(c.toNat-48)<=acc*10 ^ (c::t).length+zq (c::t):=by
   rw[<-e2]
   calc acc*10+(c.toNat-48)=(acc*10+(c.toNat-48))*1:=by omega
    _<=(acc*10+(c.toNat-48))*10 ^ t.length:=Nat.mul_le_mul_left _ hp
    _<=_:=by omega
  rw[parseUint10,if_pos hc,if_neg (by omega),if_neg (by omega),zwv t _ hd.2 (by rw[e2];exact hl),e2]
theorem zpg:∀(l:Bs) (acc:Nat),l.all qs=false->∀v,parseUint10 acc l≠.ok v
 |[],acc,h,v=>by simp at h
 |c::t,acc,h,v=>by
  rw[parseUint10]
  by_cases hc:48<=c.toNat/\c.toNat<=57
  ·have hd:qs c=true:=by simp[qs,hc]
   rw[DL,hd,Cf]at h
   rw[if_pos hc]
   by_cases h1:1844674407370955162<=acc
   ·rw[if_pos h1];simp
   ·rw[if_neg h1]
    by_cases h2:18446744073709551616<=acc*10+(c.toNat-48)
    ·rw[if_pos h2];simp
    ·rw[if_neg h2];exact zpg t _ h v
  ·rw[if_neg hc];simp
theorem z3h(hd:l.all qs=true)(Z:l≠[])(hl:l.length<=9):atoiAll l=.ok (zq l:Int):=by
 have hv:zq l<10 ^ 9:=Qb hl hd
 have hp:=zwv l 0 hd (by rw[DD];omega)
 rw[DD,AB]at hp
 obtain⟨c,t,rfl⟩:=AX Z
 have hc:48<=c.toNat/\c.toNat<=57:=by
  rw[DL,Bm]at hd
  simpa[qs]using hd.1
 unfold atoiAll
 simp only
 rw[if_neg (by omega)]
 unfold parseMag
 rw[if_neg (by simp),hp]
 have aa:¬c.toNat=45:=by omega
 simp only[aa,not_false_eq_true,true_and,false_and,if_false]
 rw[if_neg (by omega)]
theorem z3i(hd:l.all qs=false)(hh:∀c,l.head?=some c->c.toNat≠43/\c.toNat≠45)(v:Int):atoiAll l≠.ok v:=by
 cases l with
 |nil=>simp at hd
 |cons c t=>
  have hc:=hh c rfl
  unfold atoiAll
  simp only
  rw[if_neg (by omega)]
  unfold parseMag
  rw[if_neg (by simp)]
  have:=zpg (c::t) 0 hd
  cases hp:parseUint10 0 (c::t)with
  |ok u=>exact absurd hp (this u)
  |range=>simp
  |_=>simp
theorem z3j(h:¬zpf l)(v:Int):atoiAll l≠.ok v:=by
 have Z:∀m:Bs,¬zpf m->∀u,parseMag m≠.ok u:=by
  intro m hm u
  unfold parseMag
  split
  ·simp
  ·apply zpg
   rw[Bool.eq_false_iff]
   intro hd
   apply hm
   intro c hc
   rw[A4]at hd
   have:=hd c hc
   simp[qs]at this;omega
 cases l with
 |nil=>exact absurd (λc hc=>by cases hc) h
 |cons c t=>
  unfold atoiAll
  simp only
  have hm:¬zpf (if c.toNat=43\/c.toNat=45 then t else c::t):=by
   split
   ·rename_i hc
    intro ht
    apply h
    intro d hd
    rcases Ai.1 hd with rfl|hd
    ·omega
    ·exact ht d hd
   ·exact h
  have:=Z _ hm
  cases hp:parseMag (if c.toNat=43\/c.toNat=45 then t else c::t)with
  |ok u=>exact absurd hp (this u)
  |range=>simp
  |_=>simp
def zin(l:Bs):Int×Bool:=if l.length<1\/9<l.length\/(1<l.length/\l.head?=some 48)then(0,false)else if l.all qs then((zq l:Int),true)else(0,false)
theorem zio(h:(zin l).2=true):0<=(zin l).1/\(zin l).1<1000000000:=by
 unfold zin at h ⊢
 split
 ·rename_i hc;rw[if_pos hc]at h;cases h
 ·rename_i hc
  rw[if_neg hc]at h
  split
  ·rename_i hd
   have:zq l<10 ^ 9:=Qb (by omega) hd
   simp only;omega
  ·rename_i hd;rw[if_neg hd]at h;cases h
end
end Go.X
end
section
namespace Go.X
section
theorem Jz(gl:Fr)(s0:Bt)(Z:Bt)(R:Bool->Prop)
  (H:PC Tp gl 265 [Arg.mk .str s0,Arg.mk .str Z] [.int .i64] (λa:Int=>R (decide (a>=0)))):
  PC Tp gl 209 [Arg.mk .str s0,Arg.mk .str Z] [.bool] R:=
 PF ⟨[],[],[],[]⟩ [.tmp 4] 9 Tryz.func209 H
theorem za8(gl:Fr)(s0:Bt)(aa:Bt)(R:Int->Prop)
  (H:((aa.toList==(⟨#[]⟩:Bt).toList)=true->R (-1))/\((aa.toList==(⟨#[]⟩:Bt).toList)=false->(((aa.size:Int)==1)=true->(0<=(0:Int)/\(0:Int)<(aa.size:Int))/\∀a:Int->Prop,(∀b:Int,(PC Tp gl 269 [Arg.mk .str s0,Arg.mk (.int .i32) b] [.int .i64] (λc:Int=>R c))->a b)->((decide ((Aa .i32 (za aa (0:Int).toNat))>=128))=true->a 65533)/\((decide ((Aa .i32 (za aa (0:Int).toNat))>=128))=false->a (Aa .i32 (za aa (0:Int).toNat))))/\(((aa.size:Int)==1)=false->∀d:Prop,((∃(e:(Bt×Nat)->Prop) (f:(Bt×Nat)->Nat),e (s0,0)/\∀Z:Bt×Nat,e Z->(((nxB Z.1 Z.2)=true->(nxB Z.1 Z.2)=true/\(nxB Z.1 Z.2)=true/\PC Tp gl 269 [Arg.mk .str aa,Arg.mk (.int .i32) (nxR Z.1 Z.2)] [.int .i64] (λg:Int=>(decide (g>=0)=true->R (Z.2:Int))/\(decide (g>=0)=false->(e (Z.1,nxP Z.1 Z.2)/\f (Z.1,nxP Z.1 Z.2)<f Z))))/\((nxB Z.1 Z.2)=false->R (-1))))->d)->PC Tp gl 293 [Arg.mk (.int .i64) (s0.size:Int)] [.bool] (λi:Bool=>(i=true->False)/\(i=false->d))))):
  PC Tp gl 265 [Arg.mk .str s0,Arg.mk .str aa] [.int .i64] R:=
 PF ⟨[],[],[(18,⟨[],[(45,[.dat .iter])],[],[1002880]⟩)],[(7,⟨[(5,.one (.dat (.int .i32)))],[],[],[100320]⟩),(17,⟨[],[],[],[]⟩)]⟩ [.tmp 4] 55 Tryz.func265 H
theorem Zk(gl:Fr)(s0:Bt)(r1:Int)(R:Int->Prop)
  (H:((bif (decide ((0:Int)<=r1))then(decide (r1<128))else false)=true->PC Tp gl 212 [Arg.mk .str s0,Arg.mk (.int .u8) (Aa .u8 r1)] [.int .i64] (λa:Int=>R a))/\((bif (decide ((0:Int)<=r1))then(decide (r1<128))else false)=false->((r1==65533)=true->∃(b:(Bt×Nat)->Prop) (c:(Bt×Nat)->Nat),b (s0,0)/\∀Z:Bt×Nat,b Z->(((nxB Z.1 Z.2)=true->(nxB Z.1 Z.2)=true/\(nxB Z.1 Z.2)=true/\(((nxR Z.1 Z.2:Int)==65533)=true->R (Z.2:Int))/\(((nxR Z.1 Z.2:Int)==65533)=false->(b (Z.1,nxP Z.1 Z.2)/\c (Z.1,nxP Z.1 Z.2)<c Z)))/\((nxB Z.1 Z.2)=false->R (-1))))/\((r1==65533)=false->PC Tp gl 300 [Arg.mk (.int .i32) r1] [.bool] (λd:Bool=>((!d)=true->R (-1))/\((!d)=false->False))))):
  PC Tp gl 269 [Arg.mk .str s0,Arg.mk (.int .i32) r1] [.int .i64] R:=
 PF ⟨[],[],[(38,⟨[],[(175,[.dat .iter])],[],[1011200]⟩)],[]⟩ [.tmp 4] 187 Tryz.func269 H
theorem Zt(gl:Fr)(Z:Int)(R:Bool->Prop)
  (H:R (decide (Z>8))):
  PC Tp gl 293 [Arg.mk (.int .i64) Z] [.bool] R:=
 PF ⟨[],[],[],[]⟩ [.tmp 2] 5 Tryz.func293 H
end
end Go.X
end
section
namespace Go.X
open Go Go.X Go.Proofs Go.RowKit
section
variable {gl:Fr} {R:Int -> Prop} {l:Bs}
theorem zgo{f:FuncId}{args:List Arg}{us:List Value}(aa:zd5 args=some us)(hR:∀n,R n)
  (H:∀w:World,Calls Tp f us.toArray w λe w'=>IR e/\Below w.heap.size w w'):PC Tp gl f args [.int .i64] R:=by
 intro h M vs hM ag ha
 rw[zb4 aa ha]
 refine XC.of_calls λB d=>(H (mk B d h)).mono ?_
 rintro e w' ⟨⟨n,rfl⟩,Z⟩
 have k:Keep h.size h w'.heap:=⟨Z.size,Z.block⟩
 exact⟨_,rfl,Z.os,Z.tape,Z.output,k,M,n,Fr.le.refl _,λ_ _=>rfl,ag.keep k,zvm _ _,hR n⟩
theorem zm0{r:Int}(hr:0<=r)(hR:∀n,R n):PC Tp gl 269 [Arg.mk .str (bl [43,45,95]),Arg.mk (.int .i32) r] [.int .i64] R:=by
 by_cases h1:r<128
 ·apply Zk
  have e:(bif decide ((0:Int)<=r)then decide (r<128)else false)=true:=by simp[hr,h1]
  rw[e]
  exact⟨λ_=>Wn (hR _),λhx=>by cases hx⟩
 ·by_cases h2:r=65533
  ·subst h2
   apply Zk
   refine⟨λ_=>Wn (hR _),λ_=>⟨λ_=>?_,λhx=>by cases hx⟩⟩
   refine⟨λq=>∃p:Nat,q=(bl [43,45,95],p),λq=>3-q.2,⟨0,rfl⟩,?_⟩
   rintro q ⟨p,rfl⟩
   simp only[zmh]
   refine⟨λhn=>⟨hn,hn,λ_=>hR _,λ_=>⟨⟨_,rfl⟩,?_⟩⟩,λ_=>hR _⟩
   have hp:p < [43,45,95].length:=by simpa using hn
   have Z:p<3:=hp
   rw[zig _ _ hp]
   have:=(ww (([43,45,95]:Bs).drop p)).1
   omega
  ·exact zgo (us:=[.string ⟨#[43,45,95]⟩,.int .i32 r]) rfl hR λw=>zpe r w (by omega) h2
theorem zww(w:World)(o1 o2:Obj):Below w.heap.size w ((w.alloc o1).alloc o2):=((Below.refl _ w).alloc (Ad _) o1).alloc (by show w.heap.size<=(w.heap.push o1).size;simp) o2
theorem zwx(l:Bs):(0:Int)<=((dec l).1:Int):=Int.natCast_nonneg _
theorem zwy(hl:l.length<=9){R:Bool->Prop}(h1:zpf l->R (l.any λc=>[43,45,95].contains c))(h2:¬zpf l->∀b,R b):PC Tp gl 209 [Arg.mk .str (bl l),Arg.mk .str (bl [43,45,95])] [.bool] R:=by
 have Z:∀(j:Nat) (b:UInt8),([43,45,95]:Bs)[j]?=some b->b.toNat<128:=by
  intro j b hb
  have:b∈([43,45,95]:Bs):=Ba hb
  simp at this
  rcases this with rfl|rfl|rfl <;> decide
 by_cases ha:zpf l
 ·refine zg6 (s:=bl l) (c:=bl [43,45,95]) (by rw[zd];omega) (by rw[zd];decide) ?_ ?_ ?_
  ·rw[jd];exact λj b hb=>ha b (Ba hb)
  ·rw[jd];exact Z
  ·rw[jd,jd,Ww];exact h1 ha
 ·have hb:=h2 ha
  apply Jz
  by_cases h8:l.length<=8
  ·apply za8
   have e1:((bl [43,45,95]).toList==(⟨#[]⟩:Bt).toList)=false:=by rw[z0x,jd];rfl
   have e2:((((bl [43,45,95]).size:Int))==1)=false:=by rw[zd];rfl
   rw[e1,e2]
   refine⟨λhx=>(by cases hx),λ_=>⟨λhx=>(by cases hx),λ_ K hK=>?_⟩⟩
   apply Zt
   have e3:decide (((bl l).size:Int)>8)=false:=by rw[zd];simp;omega
   rw[e3]
   refine⟨λhx=>(by cases hx),λ_=>hK ?_⟩
   refine⟨λq=>∃p:Nat,q=(bl l,p),λq=>l.length-q.2,⟨0,rfl⟩,?_⟩
   rintro q ⟨p,rfl⟩
   simp only[zmh]
   refine⟨λhn=>⟨hn,hn,?_⟩,λ_=>hb _⟩
   have hp:p<l.length:=by simpa using hn
   refine zm0 (by rw[zqq];exact zwx _) λn=>⟨λ_=>hb _,λ_=>⟨⟨_,rfl⟩,?_⟩⟩
   rw[zig _ _ hp]
   have:=(ww (l.drop p)).1
   omega
  ·refine zgo (us:=[.string (bl l),.string (bl [43,45,95])]) rfl (λn=>hb _) λw=>?_
   have hz:=(zero_of_info (P:=Tp) (t:=169) (v:=.agg (Be 256 (.bool false))) (n:=256) (by kernel_rfl)).1
   refine(Jm hz (bl l) (bl [43,45,95]) w (by rw[zd];decide) (by rw[zd];omega) (by rw[zd];omega) (by rw[zd];decide) Z).mono ?_
   rintro e w' ⟨rfl,rfl⟩
   exact⟨⟨_,rfl⟩,zww w _ _⟩
theorem zwz:(bif (bif (l==[])then true else decide ((l.length:Int)>9))then true else(bif (!(l==[48]))then((((l[0]?).getD 0).toNat:Int)==48)else false))=decide (l.length<1\/9<l.length\/(1<l.length/\l.head?=some 48)):=by
 match l with
 |[]=>simp
 |[c]=>
  rw[Az,decide_eq_true_eq]
  by_cases hc:c=48
  ·subst hc;simp
  ·have:((c.toNat:Int)==48)=false:=by
    have:=Xe (c:=c) (n:=48) 48 rfl
    unfold bne at this
    rw[<-DY ((c.toNat:Int)==48),this];simp[hc]
   show(bif (bif ([c]==[])then true else decide ((([c]:Bs).length:Int)>9))then true else(bif (!([c]==[48]))then((c.toNat:Int)==48)else false))=true↔_
   rw[this];simp
 |c::d::t=>
  have e:((c.toNat:Int)==48)=(c==48):=by
   have:=Xe (c:=c) (n:=48) 48 rfl
   unfold bne at this
   rw[<-DY ((c.toNat:Int)==48),this,DY]
  show(bif (bif ((c::d::t)==[])then true else decide (((c::d::t:Bs).length:Int)>9))then true else(bif (!((c::d::t)==[48]))then((c.toNat:Int)==48)else false))=_
  rw[e,Az,decide_eq_true_eq]
  have Z:¬(c::d::t:Bs).length<1:=by simp
  have aa:1<(c::d::t:Bs).length:=by simp
  have h1:((c::d::t:Bs)==[])=false:=rfl
  have h2:((c::d::t:Bs)==[48])=false:=by simp
  rw[h1,h2,cond_false,Bool.not_false,cond_true]
  generalize (c::d::t:Bs).length=n at *
  by_cases h9:9<n
  ·have:decide ((n:Int)>9)=true:=by simp;omega
   rw[this];simp[h9]
  ·have:decide ((n:Int)>9)=false:=by simp;omega
   rw[this,cond_false];simp[h9,Z,aa]
theorem zzv(h:l.any (λc=>[43,45,95].contains c)=false):∀c,l.head?=some c->c.toNat≠43/\c.toNat≠45:=by
 intro c hc
 rw[List.any_eq_false]at h
 have:=h c (List.mem_of_head? hc)
 constructor
 ·intro e
  have:c=43:=CB.1 (by rw[e];rfl)
  subst this;exact absurd rfl ‹¬_›
 ·intro e
  have:c=45:=CB.1 (by rw[e];rfl)
  subst this;exact absurd rfl ‹¬_›
theorem zm1(h:l.all qs=true):zpf l/\(l.any λc=>[43,45,95].contains c)=false:=by
 rw[A4]at h
 constructor
 ·intro c hc
  have:=h c hc
  simp[qs]at this;omega
 ·rw[List.any_eq_false]
  intro c hc hm
  have h2:=h c hc
  simp[qs]at h2
  simp at hm
  rcases hm with rfl|rfl|rfl <;> revert h2 <;> decide
theorem zw0(hg:GL gl)(hl:l.length<=1048576){R:Int×Bool->Prop}(h:R (zin l)):PC Tp gl 135 [Arg.mk .str (bl l)] [.int .i64,.bool] R:=by
 apply zee
 have af:∀s:Bs,((bl s).toList==(⟨#[48]⟩:Bt).toList)=(s==[48]):=λs=>by rw[show(⟨#[48]⟩:Bt)=bl [48]from rfl,qab,jd]
 simp only[zd,zo,show(0:Int).toNat=0 from rfl,z0x,jd,af,zwz]
 refine⟨λhx=>⟨by omega,?_⟩,?_⟩
 ·simp at hx
  have:=Bj.2 hx.1.1
  omega
 unfold zin at h
 by_cases Z:l.length<1\/9<l.length\/(1<l.length/\l.head?=some 48)
 ·rw[if_pos Z]at h
  rw[decide_eq_true Z]
  exact⟨λ_=>True,λhx=>(by cases hx),λr _=>⟨λ_=>h,λhx=>by cases hx⟩⟩
 ·rw[if_neg Z]at h
  rw[decide_eq_false Z]
  refine⟨λb=>(l.all qs=true->b=false)/\(l.all qs=false->b=false->∀v,Lib.atoiAll l≠.ok v),λ_=>?_,λb hb=>?_⟩
  ·refine zwy (by omega) (λha=>⟨λhd=>(zm1 hd).2,λhd hf=>z3i hd (zzv hf)⟩) (λab b=>⟨λhd=>absurd (zm1 hd).1 ab,λhd hf v=>z3j ab v⟩)
  ·obtain⟨ai,ah⟩:=hb rfl
   refine⟨λhx=>?_,λhx=>?_⟩
   ·have aa:b=true:=by simpa using hx
    cases hd:l.all qs with
    |true=>rw[ai hd]at aa;cases aa
    |false=>rw[hd,if_neg (by simp)]at h;exact h
   ·have ae:b=false:=by simpa using hx
    refine z2n hg.err (s:=bl l) (by rw[zd];omega) ?_
    rw[jd]
    unfold z2m
    cases hd:l.all qs with
    |true=>
     rw[z3h hd (by rintro rfl;simp at Z) (by omega)]
     rw[hd,if_pos rfl]at h
     exact⟨λhx=>(by cases hx),λ_=>h⟩
    |false=>
     rw[hd,if_neg (by simp)]at h
     have:=ah hd ae
     cases ha:Lib.atoiAll l with
     |ok v=>exact absurd ha (this v)
     |range=>exact⟨λ_=>h,λhx=>by cases hx⟩
     |_=>exact⟨λ_=>h,λhx=>by cases hx⟩
end
section
variable {gl:Fr} {l:Bs}
theorem zw1{gl M:Fr}(hg:zop gl)(hM:Fr.le gl M){h:zb}(ag:AgM M h){fn s:Bt}(hs:s.size<=281474976710656){b n:Int}{K:Value->zb->Prop}(hK:∀t u h',Keep h.size h h'->K (.iface t u) h'):
  XC Tp 267 #[.string fn,.string s,.int .i64 b,.int .i64 n,.iface 287 (.int .i64 2)] h K:=by
 obtain⟨⟨cs,ev,e1,e2,e3⟩,_⟩:=hg
 refine XC.of_calls λB d=>(Yj fn s b n ev (mk B d h) hs (AgM.glob (w:=mk B d h) ag (hM _ _ e1) e2) e3).mono ?_
 rintro e w' ⟨N,rfl,h1,h2,Z⟩
 exact⟨_,rfl,Z.os,Z.tape,Z.output,hK _ _ _ ⟨Z.size,Z.block⟩⟩
theorem ze1:∀{l:Bs} {c:UInt8} (n:Nat),c∈l->zcf c=none->zeh n l=none
 |x::l,c,n,hc,hv=>by
  show(match zcf x with|some d=>zeh (16*n+d) l|none=>none)=none
  rcases Ai.1 hc with rfl|hc
  ·rw[hv]
  ·cases zcf x with
   |none=>rfl
   |some d=>exact ze1 _ hc hv
theorem zq9{c:UInt8}(h:c.toNat<48\/c=95\/128<=c.toNat):zcf c=none:=by
 have h':c.toNat<48\/c.toNat=95\/128<=c.toNat:=by rcases h with h|rfl|h <;> simp[*]
 unfold zcf
 rw[if_neg (by omega),if_neg (by omega),if_neg (by omega)]
theorem zm2(hg:GL gl)(hl:l.length=4){R:Int×Bool->Prop}(h1:∀n:Nat,zeh 0 l=some n->R ((n:Int),true))(h2:zeh 0 l=none->R (0,false)):
  PC Tp gl 329 [Arg.mk .str (bl l),Arg.mk (.int .i64) 16,Arg.mk (.int .i64) 32] [.int .u64,.err] R:=by
 intro h M vs hM ag ha
 match vs,ha with
 |[u1,u2,u3],⟨a1,a2,a3,_⟩=>
  obtain rfl:=Zo a1
  obtain rfl:=qo a2
  obtain rfl:=qo a3
  apply PX.of
  apply Xp
  refine zpc hl (λn h' e k=>?_) (λh' e k=>?_)
  ·exact⟨(n:Int),.nilIface,rfl,rfl,λhx=>(by cases hx),λ_=>⟨M,((n:Int),true),Later.same ag k,zmg _ _,h1 n e⟩⟩
  ·refine⟨0,.iface _ _,rfl,rfl,λ_=>?_,λhx=>(by cases hx)⟩
   refine zw1 hg.err hM (ag.keep k) (by rw[zd];omega) λt u h3 k3=>⟨_,rfl,M,(0,false),Later.same ag (k.trans k3 k.size),zoq _ _ _ _,h2 e⟩
theorem zw2(hg:GL gl)(hl:l.length<=1152921504606846976){R:Int×Bool->Prop}(h1:∀n:Nat,zei l=some n->R ((n:Int),true))(h2:zei l=none->∀v,R (v,false)):
  PC Tp gl 328 [Arg.mk .str (bl l)] [.int .i32,.bool] R:=by
 apply zkk
 simp only[zd,zt,show(0:Int).toNat=0 from rfl,show(4:Int).toNat=4 from rfl,BC,CU]
 by_cases h4:l.length<4
 ·have e:decide (((l.length:Nat):Int)<4)=true:=by rw[decide_eq_true_eq];omega
  have e9:zei l=none:=by unfold zei;rw[if_neg (by omega)]
  simp only[e]
  exact⟨λhx=>(by cases hx),λ_=>True,λhx=>(by cases hx),λr _=>⟨λ_=>h2 e9 0,λhx=>(by cases hx)⟩⟩
 ·have e:decide (((l.length:Nat):Int)<4)=false:=by rw[decide_eq_false_iff_not];omega
  simp only[e]
  have Z:zei l=zeh 0 (l.take 4):=by unfold zei;rw[if_pos (by omega)]
  have ht:(l.take 4).length=4:=by rw[AN];omega
  refine⟨λ_=>⟨by omega,by omega,by omega⟩,λr=>r=true->zei l=none,λ_=>?_,λr hr=>⟨λhx=>h2 (hr rfl hx) 0,λhx=>⟨⟨by omega,by omega,by omega⟩,?_⟩⟩⟩
  ·refine zwy (l:=l.take 4) (by omega) (λha hb=>?_) (λha b hb=>?_)
   ·obtain⟨c,hc,aa⟩:=List.any_eq_true.1 hb
    rw[Z]
    refine ze1 0 hc (zq9 ?_)
    simp at aa
    rcases aa with rfl|rfl|rfl
    ·left;decide
    ·left;decide
    ·right;left;rfl
   ·rw[Z]
    have:∃c∈l.take 4,128<=c.toNat:=by
     refine CC λhn=>ha λc hc=>?_
     refine CC λh9=>hn ⟨c,hc,by omega⟩
    obtain⟨c,hc,aa⟩:=this
    exact ze1 0 hc (zq9 (.inr (.inr aa)))
  ·refine zm2 hg ht (λn e1=>?_) (λe1=>h2 (Z.trans e1) _)
   have hn:=zdg (Z.trans e1)
   have:=h1 n (Z.trans e1)
   rw[xj (by omega) (by omega)]
   exact this
end
section
variable {gl:Fr} {l:Bs} {n:Nat}
theorem zm3{s p:Bs}{R:Bool->Prop}(h:R (p.isPrefixOf s)):PC Tp gl 156 [Arg.mk .str (bl s),Arg.mk .str (bl p)] [.bool] R:=
 PC.of_scal rfl (λ_=>zqo _) (r:=p.isPrefixOf s) h λw hw=>by
  have:=zau (bl s) (bl p) w
  have e1:(bl s).data.toList=s:=jd s
  have e2:(bl p).data.toList=p:=jd p
  rw[e1,e2]at this
  exact this.mono λe w' ⟨h1,h2⟩=>⟨h1,h2 ▸ Below.refl _ _⟩
theorem z3k{a b:UInt8}(l:Bs):[a,b].isPrefixOf l=decide (l.take 2=[a,b]):=by
 match l with
 |[]=>rfl
 |[x]=>simp[List.isPrefixOf]
 |x::y::l=>
  simp only[List.isPrefixOf,Cs,DV,Bool.and_true,BR,and_true]
  rw[Az,Bm,beq_iff_eq,beq_iff_eq,decide_eq_true_eq]
  constructor <;> (rintro⟨rfl,rfl⟩;exact⟨rfl,rfl⟩)
theorem zra(h:zei l=some n):4<=l.length:=by
 unfold zei at h
 split at h
 ·assumption
 ·cases h
theorem zti(hg:GL gl)(h2:2<=l.length)(hl:l.length<=1152921504606846976){R:Int×Int->Prop}(h:R (match z4x (l.drop 2)with|some (r,n)=>((r:Int),(n:Int))|none=>(0,0))):
  PC Tp gl 324 [Arg.mk .str (bl l)] [.int .i32,.int .i64] R:=by
 apply zen
 simp only[zd,zmm (show(2:Int)=((2:Nat):Int)from rfl),zmm (show(6:Int)=((6:Nat):Int)from rfl),zmm (show(8:Int)=((8:Nat):Int)from rfl)]
 refine⟨⟨by omega,by omega,by omega⟩,?_⟩
 unfold z4x at h
 refine zw2 hg (by rw[As];omega) (λn e=>?_) (λe v=>?_)
 ·rw[e]at h
  have hn:=zdg e
  have h4:=zra e
  rw[As]at h4
  dsimp only at h
  intro K hK
  refine⟨λhx=>(by cases hx),λ_=>hK _ ?_⟩
  refine⟨λhx=>?_,λhx=>⟨λhy=>?_,λhy=>⟨⟨by omega,by omega,by omega⟩,?_⟩⟩⟩
  ·simp only[Bool.cond_eq_ite,Bool.if_false_right,Bm,decide_eq_true_eq]at hx
   rw[if_pos (by omega)]at h
   exact h
  ·simp only[Bool.cond_eq_ite,Bool.if_false_right,Bq,decide_eq_false_iff_not,Bool.if_true_left,Bh,decide_eq_true_eq]at hx hy
   rw[if_neg (by omega),if_pos (by omega)]at h
   exact h
  ·simp only[Bool.cond_eq_ite,Bool.if_false_right,Bq,decide_eq_false_iff_not,Bool.if_true_left,BG,decide_eq_true_eq]at hx hy
   rw[if_neg (by omega),if_neg (by omega)]at h
   rw[BD,BD]at h
   refine zm3 ?_
   rw[z3k]
   refine⟨λhz=>?_,λhz=>⟨⟨by omega,?_,by omega⟩,?_⟩⟩
   ·rw[if_neg (by simpa using hz)]at h
    exact h
   ·have Z:(l.drop 6).take 2=[92,117]:=by simpa using hz
    have:=congrArg Cd Z
    simp only[AN,As,AI,Cv]at this
    omega
   ·have Z:(l.drop 6).take 2=[92,117]:=by simpa using hz
    rw[if_pos Z]at h
    refine zw2 hg (by rw[As];omega) (λm e2=>?_) (λe2 v=>?_)
    ·rw[show 2+6=8 from rfl,e2]at h
     have hm:=zdg e2
     dsimp only at h
     refine⟨λhw=>?_,λhw=>?_⟩
     ·simp only[Bool.cond_eq_ite,Bool.if_true_left,Bh,decide_eq_true_eq,Bool.not_true,A9,false_or]at hw
      rw[if_neg (show¬(56320<=m/\m<57344)by omega)]at h
      exact h
     ·simp only[Bool.cond_eq_ite,Bool.if_true_left,BG,decide_eq_false_iff_not,Bool.not_true,A9,decide_false,decide_eq_true_eq,Dl]at hw
      rw[if_pos (show 56320<=m/\m<57344 by omega)]at h
      dsimp only at h
      rw[xj (n:=(n:Int)-55296) (by omega) (by omega),xj (n:=((n:Int)-55296)*1024) (by omega) (by omega),xj (n:=65536+((n:Int)-55296)*1024) (by omega) (by omega),
       xj (n:=65536+((n:Int)-55296)*1024+(m:Int)) (by omega) (by omega),xj (by omega) (by omega)]
      have e5:(((65536+(n-55296)*1024+(m-56320):Nat):Int))=65536+((n:Int)-55296)*1024+(m:Int)-56320:=by omega
      rw[e5]at h
      exact h
    ·rw[show 2+6=8 from rfl,e2]at h
     exact⟨λ_=>h,λhw=>by simp at hw⟩
 ·rw[e]at h
  intro K hK
  exact⟨λ_=>hK _ ⟨λ_=>h,λhx=>by cases hx⟩,λhx=>by cases hx⟩
theorem u8i{c:UInt8}(hn:n<256):((c.toNat:Int)==(n:Int))=decide (c=BF n):=by
 rw[Az,beq_iff_eq,decide_eq_true_eq,u8n hn];omega
theorem zzw{c:UInt8}{R:Int×Bool->Prop}(h:R (match zx8 c with|some r=>((r:Int),true)|none=>(0,false))):PC Tp gl 323 [Arg.mk (.int .u8) (c.toNat:Int)] [.int .i32,.bool] R:=by
 apply zha
 have hc:=c.toNat_lt
 have q:∀n:Nat,n<256->((c.toNat:Int)==(n:Int))=decide (c=BF n):=λn hn=>u8i hn
 have ai:=q 34 (by omega);have aj:=q 92 (by omega);have af:=q 47 (by omega);have ah:=q 98 (by omega);have ae:=q 102 (by omega);have Z:=q 110 (by omega);have aa:=q 114 (by omega);have ab:=q 116 (by omega)
 simp only[Int.cast_ofNat_Int,show BF 34=34 from rfl,show BF 92=92 from rfl,show BF 47=47 from rfl,show BF 98=98 from rfl,show BF 102=102 from rfl,show BF 110=110 from rfl,show BF 114=114 from rfl,show BF 116=116 from rfl]at ai aj af ah ae Z aa ab
 rw[ai,aj,af,ah,ae,Z,aa,ab]
 unfold zx8 at h
 intro K hK
 have yes:(c=34\/c=92\/c=47)->K true:=by
  intro h1
  apply hK
  rw[if_pos h1]at h
  rw[xj (by omega) (by omega)]
  exact⟨λ_=>h,λhx=>by cases hx⟩
 refine⟨λh1=>by rw[h1];exact yes (.inl (by simpa using h1)),λh1=>⟨λh2=>by rw[h2];exact yes (.inr (.inl (by simpa using h2))),λh2=>?_⟩⟩
 by_cases h3:c=47
 ·rw[decide_eq_true h3];exact yes (.inr (.inr h3))
 ·have hn:¬(c=34\/c=92\/c=47):=by
   rw[decide_eq_false_iff_not]at h1 h2
   rintro(h|h|h)
   ·exact h1 h
   ·exact h2 h
   ·exact h3 h
  rw[if_neg hn]at h
  rw[decide_eq_false h3]
  apply hK
  refine⟨λhx=>(by cases hx),λ_=>?_⟩
  by_cases a1:c=98
  ·rw[if_pos a1]at h;rw[decide_eq_true a1];exact⟨λ_=>h,λhx=>by cases hx⟩
  rw[if_neg a1]at h;rw[decide_eq_false a1];refine⟨λhx=>(by cases hx),λ_=>?_⟩
  by_cases a2:c=102
  ·rw[if_pos a2]at h;rw[decide_eq_true a2];exact⟨λ_=>h,λhx=>by cases hx⟩
  rw[if_neg a2]at h;rw[decide_eq_false a2];refine⟨λhx=>(by cases hx),λ_=>?_⟩
  by_cases a3:c=110
  ·rw[if_pos a3]at h;rw[decide_eq_true a3];exact⟨λ_=>h,λhx=>by cases hx⟩
  rw[if_neg a3]at h;rw[decide_eq_false a3];refine⟨λhx=>(by cases hx),λ_=>?_⟩
  by_cases a4:c=114
  ·rw[if_pos a4]at h;rw[decide_eq_true a4];exact⟨λ_=>h,λhx=>by cases hx⟩
  rw[if_neg a4]at h;rw[decide_eq_false a4];refine⟨λhx=>(by cases hx),λ_=>?_⟩
  by_cases a5:c=116
  ·rw[if_pos a5]at h;rw[decide_eq_true a5];exact⟨λ_=>h,λhx=>by cases hx⟩
  rw[if_neg a5]at h;rw[decide_eq_false a5];exact⟨λhx=>(by cases hx),λ_=>h⟩
end
section
variable {gl M:Fr} {l:Bs}
theorem zw3(hg:GL gl)(hl:l.length<=1152921504606846976){R:Int×Int->Prop}(h:R (match zzn l with|some (r,n)=>((r:Int),(n:Int))|none=>(0,0))):
  PC Tp gl 315 [Arg.mk .str (bl l)] [.int .i32,.int .i64] R:=by
 apply zgn
 rw[zd]
 match l,hl,h with
 |[],_,h=>exact⟨λ_=>h,λhx=>by simp at hx⟩
 |[a],_,h=>exact⟨λ_=>h,λhx=>by simp at hx⟩
 |a::c::t,hl,h=>
  have Z:((a::c::t).length:Int)=t.length+2:=by simp;omega
  refine⟨λhx=>(by rw[decide_eq_true_eq]at hx;omega),λ_=>⟨⟨by omega,by omega⟩,?_⟩⟩
  have e1:za (bl (a::c::t)) (1:Int).toNat=(c.toNat:Int):=by rw[zo];rfl
  rw[e1]
  refine zzw ?_
  unfold zzn at h
  dsimp only at h
  cases e:zx8 c with
  |some r=>
   rw[e]at h
   exact⟨λ_=>h,λhx=>(by cases hx)⟩
  |none=>
   rw[e]at h
   dsimp only at h
   refine⟨λhx=>(by cases hx),λ_=>⟨⟨by omega,by omega⟩,?_⟩⟩
   have e2:((c.toNat:Int)==117)=decide (c=117):=u8i (n:=117) (by omega)
   rw[e2]
   refine⟨λhx=>?_,λhx=>?_⟩
   ·rw[if_pos (by simpa using hx)]at h
    refine zti hg (by simp) hl ?_
    exact h
   ·rw[if_neg (by simpa using hx)]at h
    exact h
theorem qae(h:l≠[]):Lib.decodeGo (bl l)=dec l:=by
 unfold Lib.decodeGo
 have hp:=Bj.2 h
 rw[if_neg (by rw[zd];omega),zqp,jd,BC]
theorem z3l(hg:GL gl)(Z:l≠[])(hl:l.length<=1152921504606846976){R:Int×Int->Prop}(h:R (match zax l with|some (r,n)=>((r:Int),(n:Int))|none=>(0,0))):
  PC Tp gl 291 [Arg.mk .str (bl l)] [.int .i32,.int .i64] R:=by
 apply zkj
 have hp:=Bj.2 Z
 rw[zd,zo,show(0:Int).toNat=0 from rfl,Zh hp]
 refine⟨⟨by omega,by omega⟩,?_⟩
 have e2:((l[0].toNat:Int)==92)=decide (l[0]=92):=u8i (n:=92) (by omega)
 have hh:l.head?=some l[0]:=by cases l with
  |nil=>exact absurd rfl Z
  |cons a t=>rfl
 rw[e2]
 unfold zax at h
 rw[hh]at h
 refine⟨λhx=>?_,λhx=>?_⟩
 ·rw[if_pos (by rw[of_decide_eq_true hx])]at h
  exact zw3 hg hl h
 ·rw[if_neg (by rw[Ab];exact of_decide_eq_false hx)]at h
  refine zmf hg.tabs ?_
  rw[qae Z]
  have eb:(bif (decide (((dec l).1:Int)<32))then true else(bif (((dec l).1:Int)==65533)then(((dec l).2:Int)==1)else false))=decide ((dec l).1<32\/zca (dec l)=true):=by
   rw[Az]
   unfold zca
   simp only[Bool.cond_eq_ite,Bool.if_true_left,Bool.if_false_right,Bh,Bm,decide_eq_true_eq,beq_iff_eq]
   constructor
   ·rintro(h1|⟨h1,h2⟩)
    ·left;omega
    ·right;exact⟨by omega,by omega⟩
   ·rintro(h1|⟨h1,h2⟩)
    ·left;omega
    ·right;exact⟨by omega,by omega⟩
  rw[eb]
  refine⟨λhx=>?_,λhx=>?_⟩
  ·rw[if_pos (of_decide_eq_true hx)]at h;exact h
  ·rw[if_neg (of_decide_eq_false hx)]at h;exact h
theorem zrb(s:Bt)(i j:Int):zc1 M [.str,.int .i64,.int .i64] (s,i,j) (.tuple #[.string s,.int .i64 i,.int .i64 j]):=
 ⟨[_,_,_],⟨_,_,rfl,rdStr s,_,_,rfl,Jt _ i,_,rfl,Jt _ j⟩,rfl⟩
theorem zm4{k:IntKind}{r:Int×Int}{v:Value}(h:zc1 M [.int k,.int .i64] r v):v=.tuple #[.int k r.1,.int .i64 r.2]:=by
 obtain⟨vs,⟨v1,rest,rfl,hx,v2,rfl,hy⟩,rfl⟩:=h
 rw[qo hx,qo hy];rfl
set_option maxHeartbeats 1000000 in
theorem zrc(hg:GL gl){t:Bs}{a:Nat}(ap:a<=1152921504606846976)(hl:t.length<=1099511627776){R:Bt×Int×Int->Prop}(hR:R (bl (ya t a).1,((ya t a).2.1:Int),(ya t a).2.2)):
  PC Tp gl 253 [Arg.mk .str (bl t),Arg.mk (.int .i64) (a:Int)] [.str,.int .i64,.int .i64] R:=by
 intro h M vs hM ag ha
 match vs,ha with
 |[u1,u2],⟨a1,a2,_⟩=>
  obtain rfl:=Zo (s:=bl t) a1
  obtain rfl:=qo (i:=(a:Int)) a2
  apply PX.of
  apply zke
  rw[zd,zo,Ae]
  have aa:∀{k:Nat},k<t.length->(t.drop k).head?=some (t[k]?.getD 0):=λ {k} hk=>by
   rw[List.head?_drop,Ak hk];rfl
  have ai:∀k:Nat,(((t[k]?.getD 0).toNat:Int)==34)=decide (t[k]?.getD 0=34):=λk=>u8i (n:=34) (by omega)
  have am:(((t[a]?.getD 0).toNat:Int) != 34)=!decide (t[a]?.getD 0=34):=by rw[bne,ai]
  rw[am]
  refine⟨λhx=>?_,λhx=>?_,λhx=>?_⟩
  ·have:¬((a:Int)>=(t.length:Int)):=by simpa using hx
   exact⟨by omega,by omega⟩
  ·have hn:¬(t.drop a).head?=some 34:=by
    intro e
    have ab:a<t.length:=by
     rcases AF a t.length with h1|h1
     ·exact h1
     ·rw[AU h1]at e;cases e
    rw[aa ab]at e
    have e:=Aq e
    have hd:decide ((a:Int)>=(t.length:Int))=false:=by rw[decide_eq_false_iff_not];omega
    rw[hd,e]at hx
    simp at hx
   have e:ya t a=([],a,2):=by unfold ya;rw[if_neg hn]
   rw[e]at hR
   exact⟨M,(bl [],(a:Int),2),Later.refl ag,zrb _ _ _,hR⟩
  ·have ab:a<t.length:=by
    rcases AF a t.length with h1|h1
    ·exact h1
    ·have hd:decide ((a:Int)>=(t.length:Int))=true:=by rw[decide_eq_true_eq];omega
     rw[hd]at hx;cases hx
   have hd:decide ((a:Int)>=(t.length:Int))=false:=by rw[decide_eq_false_iff_not];omega
   have hq:(t.drop a).head?=some 34:=by
    rw[aa ab]
    rw[hd]at hx
    congr 1
    simpa using hx
   have eA:ya t a=(let q:=zcg (t.drop (a+1));if q.2.2 then(q.1,a+1+q.2.1,0)else([],a+1+q.2.1,2)):=by unfold ya;rw[if_pos hq]
   rw[Zp ab (by omega)]
   intro h1
   have B1:Bld h1 h.size []:=Bld.new h
   have k1:Keep h.size h h1:=Keep.push _ _ (Ad _)
   clear_value h1
   refine⟨λi g=>∃(k:Nat) (out:Bs),i=(k:Int)/\k<=t.length/\out.length<=4*k/\Bld g h.size out/\Keep h.size h g/\ya t a=(let q:=zcg (t.drop k);if q.2.2 then(out++q.1,k+q.2.1,0)else([],k+q.2.1,2)),λi _=>t.length-i.toNat,⟨a+1,[],rfl,by omega,by simp,B1,k1,by rw[eA];rfl⟩,?_⟩
   rintro i g ⟨k,out,rfl,hk,ho,B,kg,er⟩
   simp only[Ae]
   refine⟨λhx=>?_,λhx=>?_⟩
   ·have ae:k<t.length:=by rw[decide_eq_true_eq]at hx;omega
    have af:t.drop k≠[]:=by rw[<-Bj,As];omega
    refine⟨⟨by omega,by omega⟩,?_⟩
    rw[zo,ai]
    have Z:=zdh af
    rw[aa ae]at Z
    refine⟨λah=>?_,λah=>⟨⟨by omega,by omega,by omega⟩,?_⟩⟩
    ·rw[if_pos (by rw[of_decide_eq_true ah])]at Z
     rw[Z]at er
     refine zzt B λh7 k7=>⟨_,rfl,M,(bl out,((k+1:Nat):Int),0),Later.same ag (kg.trans k7 (Ad _)),?_,?_⟩
     ·rw[Zp ae (by omega)];exact zrb _ _ _
     ·rw[er]at hR
      simpa using hR
    ·rw[if_neg (by rw[Ab];exact of_decide_eq_false ah)]at Z
     have ex:(bl t).extract k t.length=bl (t.drop k):=zmm (n:=(k:Int)) rfl
     rw[ex]
     refine(z3l hg af (by rw[As];omega) (R:=λr=>r=(match zax (t.drop k)with|some (r,n)=>((r:Int),(n:Int))|none=>(0,0))) rfl).go hM (ag.keep kg) (yu (a:=Arg.mk .str _) (rdStr _) j9) λv h9 M9 r L hv hr=>?_
     obtain rfl:=zm4 hv
     cases ep:zax (t.drop k)with
     |none=>
      rw[ep]at hr Z
      dsimp only at hr
      subst hr
      refine⟨_,_,rfl,λ_=>?_,λhz=>by cases hz⟩
      dsimp only at Z
      rw[Z]at er
      refine⟨M,(bl [],(k:Int),2),Later.same ag (kg.trans L.keep kg.size),zrb _ _ _,?_⟩
      rw[er]at hR
      simpa using hR
     |some x=>
      obtain⟨c,n⟩:=x
      rw[ep]at hr Z
      dsimp only at hr
      subst hr
      obtain⟨n1,n2,n3,n4⟩:=Jl af ep
      rw[As]at n3
      dsimp only at Z
      refine⟨(c:Int),(n:Int),rfl,λhz=>?_,λ_=>?_⟩
      ·simp only[beq_iff_eq]at hz;omega
      refine zpa (B.keep L.keep) (by omega) (by omega) (by omega) λan m aj ak=>⟨_,_,rfl,?_,?_⟩
      ·refine⟨k+n,out++Lib.encodeRune (c:Int),?_,by omega,?_,aj,?_,?_⟩
       ·rw[w64 (by omega)];omega
       ·have h4:(Lib.encodeRune (c:Int)).length<=4:=by
         have:=(Lib.encodeRuneZ_length (c:Int)).2
         rw[Lib.encodeRune,AL];exact this
        rw[Ar];omega
       ·exact(kg.trans L.keep kg.size).trans ak (Ad _)
       ·rw[er,Z,BD]
        dsimp only
        rw[Bi,DK]
      ·show t.length-(Aa .i64 ((k:Int)+(n:Int))).toNat<t.length-((k:Nat):Int).toNat
       rw[w64 (by omega)]
       omega
   ·have ae:k=t.length:=by rw[decide_eq_false_iff_not]at hx;omega
    rw[ae,Dc,zmp]at er
    refine⟨M,(bl [],(t.length:Int),2),Later.same ag kg,zrb _ _ _,?_⟩
    rw[er]at hR
    simpa using hR
end
section
variable {t:Bs} {gl:Fr}
def zzx(t:Bs)(a:Int):Int×Int:=if a<0\/(t.length:Int)<a then(0,2)else((ya t a.toNat).2.1,(ya t a.toNat).2.2)
theorem zw4{R:Bt×Int×Int->Prop}(h:R (bl (Qs t).1,((Qs t).2.1:Int),(Qs t).2.2)):
  ((bif ((ya t 0).2.2==0)then(decide (((ya t 0).2.1:Int)<(t.length:Int)))else false)=true->R (bl [],((ya t 0).2.1:Int),2))/\((bif ((ya t 0).2.2==0)then(decide (((ya t 0).2.1:Int)<(t.length:Int)))else false)=false->R (bl (ya t 0).1,((ya t 0).2.1:Int),(ya t 0).2.2)):=by
 have e:(bif ((ya t 0).2.2==0)then(decide (((ya t 0).2.1:Int)<(t.length:Int)))else false)=decide ((ya t 0).2.2=0/\(ya t 0).2.1<t.length):=by
  rw[Az]
  simp only[Bool.cond_eq_ite,Bool.if_false_right,Bm,decide_eq_true_eq,beq_iff_eq]
  omega
 rw[e]
 unfold Qs at h
 refine⟨λhx=>?_,λhx=>?_⟩
 ·rw[if_pos (of_decide_eq_true hx)]at h;exact h
 ·rw[if_neg (of_decide_eq_false hx)]at h;exact h
theorem zdo(hg:GL gl)(hl:t.length<=1099511627776){R:Bt×Int×Int->Prop}(h:R (bl (Qs t).1,((Qs t).2.1:Int),(Qs t).2.2)):
  PC Tp gl 196 [Arg.mk .str (bl t)] [.str,.int .i64,.int .i64] R:=by
 apply zem
 rw[zd]
 exact zrc hg (a:=0) (by omega) hl (zw4 h)
theorem z7b(hg:GL gl){a:Int}(hl:t.length<=1099511627776){R:Int×Int->Prop}(h:R (zzx t a)):PC Tp gl 258 [Arg.mk .str (bl t),Arg.mk (.int .i64) a] [.int .i64,.int .i64] R:=by
 apply zmy
 rw[zd]
 have e:(bif (decide (a<0))then true else(decide (a>(t.length:Int))))=decide (a<0\/(t.length:Int)<a):=by
  rw[Az];simp only[Bool.cond_eq_ite,Bool.if_true_left,Bh,decide_eq_true_eq]
 rw[e]
 unfold zzx at h
 refine⟨λhx=>?_,λhx=>?_⟩
 ·rw[if_pos (of_decide_eq_true hx)]at h;exact h
 ·have hn:=of_decide_eq_false hx
  rw[if_neg hn]at h
  have ea:a=((a.toNat:Nat):Int):=by omega
  have:=zrc hg (t:=t) (a:=a.toNat) (by omega) hl (R:=λZ=>R (Z.2.1,Z.2.2)) h
  rw[<-ea]at this
  exact this
theorem qaf{x:UInt8}:Aa .i64 ((x.toNat:Nat):Int)=(x.toNat:Int):=by
 have:=x.toNat_lt
 exact w64 (by omega)
set_option maxHeartbeats 1000000 in
theorem z0y{a:Nat}(ha:a<=2199023255552)(hl:t.length<=1099511627776){R:Int->Prop}(h:R (match zei (t.drop a)with|some n=>(n:Int)|none=>-1)):PC Tp gl 262 [Arg.mk .str (bl t),Arg.mk (.int .i64) (a:Int)] [.int .i64] R:=by
 apply zdm
 rw[zd,w64 (n:=(t.length:Int)-4) (by omega)]
 refine⟨λhx=>?_,λhx=>?_⟩
 ·have hx:=of_decide_eq_true hx
  have e:zei (t.drop a)=none:=by unfold zei;rw[if_neg (by rw[As];omega)]
  rw[e]at h;exact h
 ·have hx:=of_decide_eq_false hx
  have h4:a+4<=t.length:=by omega
  have e4:zei (t.drop a)=zeh 0 ((t.drop a).take 4):=by unfold zei;rw[if_pos (by rw[As];omega)]
  rw[w64 (n:=(a:Int)+4) (by omega)]
  refine⟨λn i=>∃j m:Nat,j<=4/\i=((a+j:Nat):Int)/\n=(m:Int)/\zeh 0 ((t.drop a).take j)=some m,λn i=>a+4-i.toNat,⟨0,0,by omega,rfl,rfl,rfl⟩,?_⟩
  rintro n i ⟨j,m,hj,rfl,rfl,hm⟩
  have ai:m<65536:=by
   have:=zj6 hm
   have hp:((t.drop a).take j).length<=4:=by rw[AN];omega
   have:16 ^ ((t.drop a).take j).length<=16 ^ 4:=Nat.pow_le_pow_right (by omega) hp
   omega
  refine⟨λhc=>?_,λhc=>?_⟩
  ·have hc:=of_decide_eq_true hc
   have af:j<4:=by omega
   have aa:a+j<t.length:=by omega
   rw[Ae,zo,Zh aa]
   generalize ab:t[a+j]=c
   rw[qaf]
   have cl:=c.toNat_lt
   have ah:zeh 0 ((t.drop a).take (j+1))=(zcf c).map λd=>16*m+d:=by
    have hd:j<(t.drop a).length:=by rw[As];omega
    rw[AH hd,Jn,hm,Dp,ab]
    exact zq8 m c
   have step:∀d:Nat,d<16->zcf c=some d->∀z:Int,z=((16*m+d:Nat):Int)->(∃Z ae:Nat,Z<=4/\Aa .i64 (((a+j:Nat):Int)+1)=((a+Z:Nat):Int)/\z=(ae:Int)/\zeh 0 ((t.drop a).take Z)=some ae)/\a+4-(Aa .i64 (((a+j:Nat):Int)+1)).toNat<a+4-(((a+j:Nat):Int)).toNat:=by
    intro d hd hv z hz
    rw[hv]at ah
    rw[Zp (n:=a+4) (by omega) (by omega)]
    exact⟨⟨j+1,16*m+d,by omega,by omega,hz,ah⟩,by omega⟩
   refine⟨⟨by omega,by omega⟩,λe=>?_,λe=>⟨λe2=>?_,λe2=>⟨λe3=>?_,λe3=>?_⟩⟩⟩
   ·have e:48<=c.toNat/\c.toNat<=57:=by
     simp only[Bool.cond_eq_ite,Bool.if_false_right,Bm,decide_eq_true_eq]at e;omega
    refine step (c.toNat-48) (by omega) (by unfold zcf;rw[if_pos e]) _ ?_
    rw[w64 (n:=16*(m:Int)) (by omega),w64 (n:=16*(m:Int)+(c.toNat:Int)) (by omega),w64 (by omega)];omega
   ·have e:¬(48<=c.toNat/\c.toNat<=57):=by
     simp only[Bool.cond_eq_ite,Bool.if_false_right,Bq,decide_eq_false_iff_not,decide_eq_true_eq]at e;omega
    have e2:97<=c.toNat/\c.toNat<=102:=by
     simp only[Bool.cond_eq_ite,Bool.if_false_right,Bm,decide_eq_true_eq]at e2;omega
    refine step (c.toNat-87) (by omega) (by unfold zcf;rw[if_neg e,if_pos e2]) _ ?_
    rw[w64 (n:=16*(m:Int)) (by omega),w64 (n:=16*(m:Int)+(c.toNat:Int)) (by omega),w64 (n:=16*(m:Int)+(c.toNat:Int)-97) (by omega),w64 (by omega)];omega
   ·have e:¬(48<=c.toNat/\c.toNat<=57):=by
     simp only[Bool.cond_eq_ite,Bool.if_false_right,Bq,decide_eq_false_iff_not,decide_eq_true_eq]at e;omega
    have e2:¬(97<=c.toNat/\c.toNat<=102):=by
     simp only[Bool.cond_eq_ite,Bool.if_false_right,Bq,decide_eq_false_iff_not,decide_eq_true_eq]at e2;omega
    have e3:65<=c.toNat/\c.toNat<=70:=by
     simp only[Bool.cond_eq_ite,Bool.if_false_right,Bm,decide_eq_true_eq]at e3;omega
    refine step (c.toNat-55) (by omega) (by unfold zcf;rw[if_neg e,if_neg e2,if_pos e3]) _ ?_
    rw[w64 (n:=16*(m:Int)) (by omega),w64 (n:=16*(m:Int)+(c.toNat:Int)) (by omega),w64 (n:=16*(m:Int)+(c.toNat:Int)-65) (by omega),w64 (by omega)];omega
   ·have e:¬(48<=c.toNat/\c.toNat<=57):=by
     simp only[Bool.cond_eq_ite,Bool.if_false_right,Bq,decide_eq_false_iff_not,decide_eq_true_eq]at e;omega
    have e2:¬(97<=c.toNat/\c.toNat<=102):=by
     simp only[Bool.cond_eq_ite,Bool.if_false_right,Bq,decide_eq_false_iff_not,decide_eq_true_eq]at e2;omega
    have e3:¬(65<=c.toNat/\c.toNat<=70):=by
     simp only[Bool.cond_eq_ite,Bool.if_false_right,Bq,decide_eq_false_iff_not,decide_eq_true_eq]at e3;omega
    have hv:zcf c=none:=by unfold zcf;rw[if_neg e,if_neg e2,if_neg e3]
    have hb:zei (t.drop a)=none:=by
     rw[e4]
     have hd:a+j<t.length:=aa
     refine ze1 0 (c:=c) ?_ hv
     rw[<-ab,<-Dp (i:=a) (j:=j) (xs:=t) (h:=by rw[As];omega)]
     exact List.mem_take_iff_getElem.2 ⟨j,by rw[As];omega,rfl⟩
    rw[hb]at h;exact h
  ·have hc:=of_decide_eq_false hc
   have af:j=4:=by omega
   subst af
   rw[e4,hm]at h
   exact h
end
section
variable {n:Nat} {gl:Fr}
theorem z3m(h:n<55296\/(57344<=n/\n<=1114111)):Dd (n:Int)=bl (Lib.encodeRune (n:Int)):=by
 have hv:Utf8.valid (n:Int)=true:=by
  unfold Utf8.valid
  simp only[Bh,Bm,decide_eq_true_eq]
  omega
 unfold Dd Lib.encodeRune
 simp only[hv,if_true,Ae]
 have tb:∀(z:Int) (k:Nat),z=(k:Int)->z.toNat.toUInt8=BF k:=λz k e=>by subst e;rfl
 by_cases h1:n<128
 ·rw[if_pos (by omega),Lib.encodeRuneZ_one (by omega) (by omega)]
  simp only[BZ,D6,tb (n:Int) n rfl]
 ·rw[if_neg (by omega)]
  by_cases h2:n<2048
  ·rw[if_pos (by omega),Lib.encodeRuneZ_two (by omega) (by omega)]
   simp only[BZ,D6,tb (192+(n:Int) / 64) (192+n / 64) (by omega),tb (128+(n:Int) % 64) (128+n % 64) (by omega)]
  ·rw[if_neg (by omega)]
   by_cases h3:n<65536
   ·rw[if_pos (by omega),Lib.encodeRuneZ_three (by omega)]
    simp only[BZ,D6,tb (224+(n:Int) / 4096) (224+n / 4096) (by omega),tb (128+(n:Int) / 64 % 64) (128+n / 64 % 64) (by omega),tb (128+(n:Int) % 64) (128+n % 64) (by omega)]
   ·rw[if_neg (by omega),Lib.encodeRuneZ_four (by omega) (by omega)]
    simp only[BZ,D6,tb (240+(n:Int) / 262144) (240+n / 262144) (by omega),tb (128+(n:Int) / 4096 % 64) (128+n / 4096 % 64) (by omega),tb (128+(n:Int) / 64 % 64) (128+n / 64 % 64) (by omega),tb (128+(n:Int) % 64) (128+n % 64) (by omega)]
theorem zw5(h:n<55296\/(57344<=n/\n<=1114111)){R:Bt->Prop}(hR:R (bl (Lib.encodeRune (n:Int)))):PC Tp gl 263 [Arg.mk (.int .i64) (n:Int)] [.str] R:=by
 apply zdn
 rw[xj (by omega) (by omega),z3m h]
 exact hR
def escF:Bs:=[34,92,47,98,102,110,114,116]
def escT:Bs:=[34,92,47,8,12,10,13,9]
theorem z3n:∀k:Fin 8,zx8 (escF.getD k.val 0)=some (escT.getD k.val 0).toNat:=by decide
theorem z7c{c:UInt8}(h:∀j:Nat,j<8->escF.getD j 0≠c):zx8 c=none:=by
 have q:∀j:Nat,j<8->c≠escF.getD j 0:=λj hj e=>h j hj e.symm
 have q0:=q 0 (by omega);have q1:=q 1 (by omega);have q2:=q 2 (by omega);have q3:=q 3 (by omega);have q4:=q 4 (by omega);have q5:=q 5 (by omega);have q6:=q 6 (by omega);have q7:=q 7 (by omega)
 simp only[escF,List.getD_cons_zero,List.getD_cons_succ]at q0 q1 q2 q3 q4 q5 q6 q7
 unfold zx8
 rw[if_neg (by rintro(h|h|h) <;> contradiction),if_neg q3,if_neg q4,if_neg q5,if_neg q6,if_neg q7]
theorem u8j{a b:UInt8}:((a.toNat:Int)==(b.toNat:Int))=decide (a=b):=by
 rw[Az,beq_iff_eq,decide_eq_true_eq,qbi];omega
set_option maxHeartbeats 1000000 in
theorem ztj{t:Bs}{a:Nat}(ha:a<t.length)(hl:t.length<=1099511627776){R:Bt×Int->Prop}(h:R (match zzn (t.drop a)with|some (r,n)=>(bl (Lib.encodeRune (r:Int)),(n:Int))|none=>(bl [],0))):
  PC Tp gl 205 [Arg.mk .str (bl t),Arg.mk (.int .i64) (a:Int)] [.str,.int .i64] R:=by
 apply Xs
 have eF:(⟨#[34,92,47,98,102,110,114,116]⟩:Bt)=bl escF:=rfl
 have eT:(⟨#[34,92,47,8,12,10,13,9]⟩:Bt)=bl escT:=rfl
 rw[eF,eT]
 have lF:(escF.length:Int)=8:=rfl
 have lT:(escT.length:Int)=8:=rfl
 simp only[zd,lF,lT,w64 (n:=(a:Int)+1) (by omega),w64 (n:=(a:Int)+2) (by omega),w64 (n:=(a:Int)+6) (by omega),w64 (n:=(a:Int)+7) (by omega),w64 (n:=(a:Int)+8) (by omega)]
 refine⟨λhx=>?_,λhx=>?_⟩
 ·have hx:=of_decide_eq_true hx
  have e:t.drop a=[t[a]]:=by
   rw[Ay ha,AU (by omega)]
  rw[e]at h
  exact h
 have hx:=of_decide_eq_false hx
 have h1:a+1<t.length:=by omega
 have ed:t.drop a=t[a]::t[a+1]::t.drop (a+2):=by rw[Ay ha,Ay h1]
 rw[ed]at h
 unfold zzn at h
 dsimp only at h
 have b1:za (bl t) ((a:Int)+1).toNat=(t[a+1].toNat:Int):=by
  rw[zo,show((a:Int)+1).toNat=a+1 by omega,Zh h1]
 rw[b1]
 generalize t[a+1]=c at h b1 ⊢
 refine⟨λi=>∃k:Nat,k<=8/\i=(k:Int)/\∀j,j<k->escF.getD j 0≠c,λi=>8-i.toNat,⟨0,by omega,rfl,λj hj=>by omega⟩,?_⟩
 rintro i ⟨k,hk,rfl,hn⟩
 refine⟨λhc=>?_,λhc=>?_⟩
 ·have hc:=of_decide_eq_true hc
  have Z:k<8:=by omega
  have b2:za (bl escF) (k:Int).toNat=((escF.getD k 0).toNat:Int):=by rw[zo,Ae,Cp]
  rw[b2,u8j,Zp (n:=8) Z (by omega)]
  refine⟨⟨by omega,by omega⟩,⟨by omega,by omega⟩,λhe=>⟨⟨by omega,by omega,by omega⟩,?_⟩,λhe=>⟨⟨k+1,by omega,rfl,λj hj=>?_⟩,by show 8-((k+1:Nat):Int).toNat<8-((k:Nat):Int).toNat;omega⟩⟩
  ·have he:=of_decide_eq_true he
   have ht:=z3n ⟨k,Z⟩
   dsimp only at ht
   rw[<-he]at ht
   rw[ht]at h
   dsimp only at h
   have ex:(bl escT).extract (k:Int).toNat ((k+1:Nat):Int).toNat=bl (Lib.encodeRune (((escT.getD k 0).toNat:Nat):Int)):=by
    rw[zt,Ae,Ae]
    have:∀k:Fin 8,(escT.drop k.val).take (k.val+1-k.val)=Lib.encodeRune (((escT.getD k.val 0).toNat:Nat):Int):=by decide
    rw[this ⟨k,Z⟩]
   rw[ex];exact h
  ·have he:=of_decide_eq_false he
   rcases AF j k with h9|h9
   ·exact hn j h9
   ·have:j=k:=by omega
    subst this
    exact λe=>he e.symm
 ·have hc:=of_decide_eq_false hc
  have Z:k=8:=by omega
  subst Z
  rw[z7c hn]at h
  dsimp only at h
  have aa:((c.toNat:Int) != 117)=!decide (c=117):=by rw[bne,show((c.toNat:Int)==117)=decide (c=117)from u8i (n:=117) (by omega)]
  rw[aa]
  refine⟨⟨by omega,by omega⟩,λhy=>?_,λhy=>?_⟩
  ·rw[if_neg (by simpa using hy)]at h;exact h
  rw[if_pos (by simpa using hy)]at h
  unfold z4x at h
  have s2:(a:Int)+2=((a+2:Nat):Int):=rfl
  have s8:(a:Int)+8=((a+8:Nat):Int):=rfl
  rw[s2]
  refine z0y (by omega) hl ?_
  cases e1:zei (t.drop (a+2))with
  |none=>
   rw[e1]at h
   exact⟨λ_=>h,λhz=>by simp at hz⟩
  |some n=>
   rw[e1]at h
   have ai:=zdg e1
   have af:=zra e1
   rw[As]at af
   dsimp only at h ⊢
   refine⟨λhz=>?_,λhz=>⟨λhw=>?_,λhw=>?_⟩⟩
   ·simp only[Bool.cond_eq_ite,Bool.if_true_left,Bool.if_false_right,Bh,Bm,decide_eq_true_eq]at hz
    rw[if_pos (by omega)]at h;exact h
   ·simp only[Bool.cond_eq_ite,Bool.if_true_left,Bool.if_false_right,Bh,BG,Bq,decide_eq_false_iff_not,decide_eq_true_eq]at hz hw
    rw[if_neg (by omega),if_pos (by omega)]at h
    exact zw5 (by omega) h
   ·simp only[Bool.cond_eq_ite,Bool.if_true_left,Bool.if_false_right,BG,Bq,decide_eq_false_iff_not,decide_eq_true_eq]at hz hw
    rw[if_neg (by omega),if_neg (by omega)]at h
    have gb:∀k,a+k<t.length->za (bl t) ((a:Int)+(k:Int)).toNat=((t[a+k]?.getD 0).toNat:Int):=λk hk=>by rw[zo,show((a:Int)+(k:Int)).toNat=a+k by omega]
    have g6:=gb 6;have g7:=gb 7
    simp only[Int.cast_ofNat_Int]at g6 g7
    by_cases h7:a+7<t.length
    ·have d7:decide ((a:Int)+7>=(t.length:Int))=false:=by rw[decide_eq_false_iff_not];omega
     rw[d7,g6 (by omega),g7 h7]
     have ae:(((t[a+6]?.getD 0).toNat:Int) != 92)=!decide (t[a+6]?.getD 0=92):=by rw[bne,show(((t[a+6]?.getD 0).toNat:Int)==92)=decide (t[a+6]?.getD 0=92)from u8i (n:=92) (by omega)]
     have ab:(((t[a+7]?.getD 0).toNat:Int) != 117)=!decide (t[a+7]?.getD 0=117):=by rw[bne,show(((t[a+7]?.getD 0).toNat:Int)==117)=decide (t[a+7]?.getD 0=117)from u8i (n:=117) (by omega)]
     rw[ae,ab]
     have e2:((t.drop (a+2)).drop 4).take 2=[t[a+6]?.getD 0,t[a+7]?.getD 0]:=by
      rw[BD,show a+2+4=a+6 by omega,Ay (by omega),Ay (by omega),Zh (by omega),Zh h7];rfl
     rw[e2,BD]at h
     refine⟨λ_=>⟨by omega,by omega⟩,λ_=>⟨by omega,by omega⟩,λhv=>?_,λhv=>?_⟩
     ·rw[if_neg (by
       intro e3
       simp only[BR,and_true]at e3
       rw[e3.1,e3.2]at hv;simp at hv)]at h
      exact h
     ·have e3:t[a+6]?.getD 0=92/\t[a+7]?.getD 0=117:=by simpa using hv
      rw[if_pos (by rw[e3.1,e3.2])]at h
      rw[s8]
      refine z0y (by omega) hl ?_
      rw[show a+2+6=a+8 by omega]at h
      cases e4:zei (t.drop (a+8))with
      |none=>rw[e4]at h;exact⟨λ_=>h,λhu=>by simp at hu⟩
      |some m=>
       rw[e4]at h
       have ah:=zdg e4
       dsimp only at h ⊢
       refine⟨λhu=>?_,λhu=>?_⟩
       ·simp only[Bool.cond_eq_ite,Bool.if_true_left,Bh,decide_eq_true_eq]at hu
        rw[if_neg (by omega)]at h;exact h
       ·simp only[Bool.cond_eq_ite,Bool.if_true_left,BG,decide_eq_false_iff_not,decide_eq_true_eq]at hu
        rw[if_pos (by omega)]at h
        rw[w64 (n:=(n:Int)-55296) (by omega),w64 (n:=1024*((n:Int)-55296)) (by omega),w64 (n:=65536+1024*((n:Int)-55296)) (by omega),w64 (n:=65536+1024*((n:Int)-55296)+(m:Int)) (by omega),w64 (by omega)]
        have e5:65536+1024*((n:Int)-55296)+(m:Int)-56320=((65536+(n-55296)*1024+(m-56320):Nat):Int):=by omega
        rw[e5]
        exact zw5 (by omega) h
    ·have d7:decide ((a:Int)+7>=(t.length:Int))=true:=by rw[decide_eq_true_eq];omega
     rw[d7]
     have e2:((t.drop (a+2)).drop 4).take 2≠[92,117]:=by
      intro e
      have:=congrArg Cd e
      simp only[AN,As,AI,Cv]at this
      omega
     rw[if_neg e2]at h
     exact⟨λhv=>(by cases hv),λhv=>(by cases hv),λ_=>h,λhv=>(by cases hv)⟩
end
section
variable {t:Bs} {k:Nat} {gl:Fr}
theorem z7d{c:UInt8}{l:Bs}(h:128<=c.toNat):128<=(dec (c::l)).1:=by
 unfold dec
 have e:((c::l).getD 0 0).toNat=c.toNat:=rfl
 rw[e]
 unfold Lib.decodeN
 have:=c.toNat_lt
 repeat' split
 all_goals (simp only at *;omega)
theorem head_drop(hk:k<t.length):(t.drop k).head?=some t[k]:=by
 rw[List.head?_drop,Ak hk]
theorem z3o(hk:k<t.length):t.drop k≠[]:=by rw[<-Bj,As];omega
theorem zw6(hk:k<t.length):decide ((dec (t.drop k)).1<32\/zca (dec (t.drop k))=true)=(bif decide ((t[k].toNat:Int)<32)then true else !(!zca (dec (t.drop k)))):=by
 rw[DY]
 have hd:t.drop k=t[k]::t.drop (k+1):=Ay hk
 rcases AF t[k].toNat 128 with h1|h1
 ·have e:dec (t.drop k)=(t[k].toNat,1):=by rw[hd];exact Yi h1
  have hb:zca (dec (t.drop k))=false:=by rw[hd];exact zie h1
  rw[hb,e,Az]
  cases hq:decide ((t[k].toNat:Int)<32)with
  |true=>have:=of_decide_eq_true hq;simp;omega
  |false=>have:=of_decide_eq_false hq;simp;omega
 ·have e:¬(dec (t.drop k)).1<32:=by rw[hd];have:=z7d (l:=t.drop (k+1)) h1;omega
  have e2:decide ((t[k].toNat:Int)<32)=false:=by rw[decide_eq_false_iff_not];omega
  rw[e2,Az]
  simp only[e,false_or,decide_eq_true_eq,cond_false]
set_option maxHeartbeats 1000000 in
theorem zrd{a:Nat}(aj:a<=1099511627776)(hl:t.length<=1099511627776){R:Bt×Int×Int->Prop}(hR:R (bl (ya t a).1,((ya t a).2.1:Int),(ya t a).2.2)):
  PC Tp gl 131 [Arg.mk .str (bl t),Arg.mk (.int .i64) (a:Int)] [.str,.int .i64,.int .i64] R:=by
 apply zcn
 have e0:(⟨#[]⟩:Bt)=bl []:=rfl
 rw[zd,e0,Ae]
 rcases AF a t.length with ab|ai
 ·have hd:decide ((a:Int)>=(t.length:Int))=false:=by rw[decide_eq_false_iff_not];omega
  have ah:((za (bl t) a) != 34)=!decide (t[a]=34):=by rw[zo,Zh ab,bne,show((t[a].toNat:Int)==34)=decide (t[a]=34)from u8i (n:=34) (by omega)]
  rw[hd,ah]
  refine⟨λ_=>⟨by omega,by omega⟩,λhx=>?_,λhx=>?_⟩
  ·have:¬t[a]=34:=by simpa using hx
   have e:ya t a=([],a,2):=by unfold ya;rw[if_neg (by rw[head_drop ab,Ab];exact this)]
   rw[e]at hR;exact hR
  ·have af:t[a]=34:=by simpa using hx
   have eA:ya t a=(let q:=zcg (t.drop (a+1));if q.2.2 then(q.1,a+1+q.2.1,0)else([],a+1+q.2.1,2)):=by unfold ya;rw[if_pos (by rw[head_drop ab,af])]
   rw[Zp ab (by omega)]
   refine⟨λo i=>∃(k:Nat) (out:Bs),i=(k:Int)/\o=bl out/\k<=t.length/\out.length<=4*k/\ya t a=(let q:=zcg (t.drop k);if q.2.2 then(out++q.1,k+q.2.1,0)else([],k+q.2.1,2)),λ_ i=>t.length-i.toNat,⟨a+1,[],rfl,rfl,by omega,by simp,by rw[eA];rfl⟩,?_⟩
   rintro o i ⟨k,out,rfl,rfl,hk,ho,er⟩
   simp only[Ae,zd]
   refine⟨λhx=>?_,λhx=>?_⟩
   ·have aa:k<t.length:=by have:=of_decide_eq_true hx;omega
    have ae:=z3o aa
    have Z:=zdh ae
    rw[head_drop aa]at Z
    have b0:za (bl t) k=(t[k].toNat:Int):=by rw[zo,Zh aa]
    simp only[b0,show((t[k].toNat:Int)==34)=decide (t[k]=34)from u8i (n:=34) (by omega),show((t[k].toNat:Int)==92)=decide (t[k]=92)from u8i (n:=92) (by omega)]
    refine⟨⟨by omega,by omega⟩,λh3=>?_,λh3=>⟨⟨by omega,by omega⟩,λh9=>?_,λh9=>?_⟩⟩
    ·rw[if_pos (by rw[of_decide_eq_true h3])]at Z
     rw[Z]at er
     rw[Zp aa (by omega)]
     rw[er]at hR
     simpa using hR
    ·rw[if_neg (by rw[Ab];exact of_decide_eq_false h3)]at Z
     have ep:zax (t.drop k)=zzn (t.drop k):=by unfold zax;rw[if_pos (by rw[head_drop aa,of_decide_eq_true h9])]
     rw[ep]at Z
     refine ztj aa hl ?_
     cases e1:zzn (t.drop k)with
     |none=>
      rw[e1]at Z
      refine⟨λ_=>?_,λhz=>(by cases hz)⟩
      dsimp only at Z
      rw[Z]at er
      rw[er]at hR
      simpa using hR
     |some x=>
      obtain⟨c,n⟩:=x
      rw[e1]at Z
      obtain⟨n1,n2,n3,n4⟩:=zii e1
      rw[As]at n3
      have h4:(Lib.encodeRune (c:Int)).length<=4:=by
       have:=(Lib.encodeRuneZ_length (c:Int)).2
       rw[Lib.encodeRune,AL];exact this
      dsimp only at Z ⊢
      refine⟨λhz=>by simp only[beq_iff_eq]at hz;omega,λ_=>⟨zv3 (by rw[zd];omega),?_⟩⟩
      rw[w64 (n:=(k:Int)+(n:Int)) (by omega)]
      refine⟨⟨k+n,out++Lib.encodeRune (c:Int),rfl,y0 _ _,by omega,by rw[Ar];omega,?_⟩,by omega⟩
      rw[er,Z,BD]
      dsimp only
      rw[Bi,DK]
    ·rw[if_neg (by rw[Ab];exact of_decide_eq_false h3)]at Z
     have ep:zax (t.drop k)=if(dec (t.drop k)).1<32\/zca (dec (t.drop k))=true then none else some (dec (t.drop k)):=by unfold zax;rw[if_neg (by rw[head_drop aa,Ab];exact of_decide_eq_false h9)]
     rw[ep]at Z
     refine zvr (a:=k) (by rw[zd];exact aa) (by rw[zd];omega) ?_
     have eg:zsy (bl t) k=!zca (dec (t.drop k)):=by unfold zsy;rw[jd]
     rw[eg,<-zw6 aa]
     refine⟨⟨by omega,by omega⟩,λhz=>?_,λhz=>?_⟩
     ·rw[if_pos (of_decide_eq_true hz)]at Z
      dsimp only at Z
      rw[Z]at er
      rw[er]at hR
      simpa using hR
     ·have hz:=of_decide_eq_false hz
      rw[if_neg hz]at Z
      refine zom (by rw[zd];omega) ?_
      have en:zol (bl t) (k:Int)=(((dec (t.drop k)).1:Int),((dec (t.drop k)).2:Int)):=by
       unfold zol;rw[if_neg (by rw[zd];omega),jd,Ae]
      rw[en]
      have d1:=ww (t.drop k)
      have d2:=zmb ae
      rw[As]at d2
      dsimp only at Z ⊢
      rw[w64 (n:=(k:Int)+((dec (t.drop k)).2:Int)) (by omega)]
      have ek:((k:Int)+((dec (t.drop k)).2:Int)).toNat=k+(dec (t.drop k)).2:=by omega
      have ex:(bl t).extract k (k+(dec (t.drop k)).2)=bl (Lib.encodeRune ((dec (t.drop k)).1:Int)):=by
       rw[zt,show k+(dec (t.drop k)).2-k=(dec (t.drop k)).2 by omega,z2u ae (by
        cases hb:zca (dec (t.drop k))with
        |false=>rfl
        |true=>exact absurd (.inr hb) hz)]
      rw[ek,ex]
      have h4:(Lib.encodeRune ((dec (t.drop k)).1:Int)).length<=4:=by
       have:=(Lib.encodeRuneZ_length ((dec (t.drop k)).1:Int)).2
       rw[Lib.encodeRune,AL];exact this
      refine⟨⟨by omega,by omega,by omega⟩,zv3 (by rw[zd];omega),⟨k+(dec (t.drop k)).2,out++Lib.encodeRune ((dec (t.drop k)).1:Int),rfl,y0 _ _,by omega,by rw[Ar];omega,?_⟩,by omega⟩
      rw[er,Z,BD]
      dsimp only
      rw[Bi,DK]
   ·have aa:k=t.length:=by have:=of_decide_eq_false hx;omega
    rw[aa,Dc,zmp]at er
    rw[er]at hR
    simpa using hR
 ·have hd:decide ((a:Int)>=(t.length:Int))=true:=by rw[decide_eq_true_eq];omega
  rw[hd]
  have e:ya t a=([],a,2):=by unfold ya;rw[if_neg (by rw[AU ai];exact λh=>by cases h)]
  rw[e]at hR
  exact⟨λhx=>(by cases hx),λ_=>hR,λhx=>(by cases hx)⟩
theorem za9(hl:t.length<=1099511627776){R:Bt×Int×Int->Prop}(h:R (bl (Qs t).1,((Qs t).2.1:Int),(Qs t).2.2)):
  PC Tp gl 69 [Arg.mk .str (bl t)] [.str,.int .i64,.int .i64] R:=by
 apply Wv
 rw[zd]
 exact zrd (a:=0) (by omega) hl (zw4 h)
theorem z3p{a:Int}(hl:t.length<=1099511627776){R:Int×Int->Prop}(h:R (zzx t a)):PC Tp gl 202 [Arg.mk .str (bl t),Arg.mk (.int .i64) a] [.int .i64,.int .i64] R:=by
 apply zdl
 rw[zd]
 have e:(bif (decide (a<0))then true else(decide (a>(t.length:Int))))=decide (a<0\/(t.length:Int)<a):=by
  rw[Az];simp only[Bool.cond_eq_ite,Bool.if_true_left,Bh,decide_eq_true_eq]
 rw[e]
 unfold zzx at h
 refine⟨λhx=>?_,λhx=>?_⟩
 ·rw[if_pos (of_decide_eq_true hx)]at h;exact h
 ·have hn:=of_decide_eq_false hx
  rw[if_neg hn]at h
  have ea:a=((a.toNat:Nat):Int):=by omega
  have:=zrd (gl:=gl) (t:=t) (a:=a.toNat) (by omega) hl (R:=λZ=>R (Z.2.1,Z.2.2)) h
  rw[<-ea]at this
  exact this
end
end Go.X
end
section
namespace Go.X
open Go Go.RowKit
section
variable {n k rb:Nat} {h:zb} {x:Tr}
def z7e(v:Tr)(k:Nat)(x:Tr):Tr:=.mk v.kind v.text v.keys (v.items.set k x)
theorem zkl{bf:Nat->List Nat}:((BO n).flatMap bf).Nodup↔(∀i,i<n->(bf i).Nodup)/\∀i j,i<j->j<n->∀x∈bf i,∀y∈bf j,x≠y:=by
 unfold List.Nodup
 rw[List.pairwise_flatMap,List.pairwise_iff_getElem]
 constructor
 ·rintro⟨h1,h2⟩
  refine⟨λi hi=>h1 i (by simpa using hi),λi j Z hj=>?_⟩
  have:=h2 i j (by simp;omega) (by simpa using hj) Z
  simpa using this
 ·rintro⟨h1,h2⟩
  refine⟨λi hi=>h1 i (by simpa using hi),λi j hi hj Z=>?_⟩
  simp at hi hj
  simpa using h2 i j Z hj
theorem zre{cs:Array Value}{o n:Nat}(h:o+n<=cs.size):upd cs o (cut cs o n)=cs:=by
 have hl:(cut cs o n).length=n:=by unfold cut;simp;omega
 apply Array.ext'
 apply Bc
 intro q
 rw[zkb (by rw[hl];exact h)]
 split
 ·rfl
 ·split
  ·rw[qh,if_pos (by omega)];congr 1;omega
  ·rfl
theorem OT.put1{v:Tr}{bs:List Nat}{cells:List Value}(H:OT h v bs cells)(hk:k<v.items.length):
  ∃(b:Nat) (cs:Array Value) (si:Sl) (bx:List Nat),cells[3]?=some (slV si)/\si.a=some ⟨b,0,none⟩/\si.len=v.items.length/\Blk h b cs/\v.items.length*4<=cs.size/\b∈bs/\OT h v.items[k] bx (cut cs (k*4) 4)/\b∉bx/\(∀c∈bx,c∈bs) /\
   ∀(h':zb) (x':Tr) (aa:List Value) (b':List Nat),(∀c∈bs,c∉bx->c≠b->h'[c]?=h[c]?)->Blk h' b (upd cs (k*4) aa)->OT h' x' b' aa->(∀c∈b',c∈bx\/c∉bs)->∃bn,OT h' (z7e v k x') bn cells/\∀c∈bn,c∈bs\/c∈b':=by
 cases H with
 | @mk kd s ks xs sk si bk bb b cs bf hkk hn hz hi hd=>
  have hk:k<xs.length:=hk
  rcases hz with⟨h0,_⟩|⟨rfl,e1,hb,az⟩
  ·rw[h0]at hk;simp at hk
  have aI:xs.length*4<=cs.size:=by have:=hn.2.2;omega
  rw[BQ]at hd
  obtain⟨aB,am,aj⟩:=hd
  rw[BQ]at am
  obtain⟨aJ,aC,aG⟩:=am
  have nf:=zkl.1 aC
  have ai:∀i,i<xs.length->b∉bf i:=λi hi hm=>aG b (by simp) b (Bo.2 ⟨i,by simpa using hi,hm⟩) rfl
  have ah:∀i,i<xs.length->∀c∈bf i,c∈bk++([b]++(BO xs.length).flatMap bf):=λi hi c hc=>by
   simp only[Aw,Bo,BK]
   exact .inr (.inr ⟨i,hi,hc⟩)
  refine⟨b,cs,si,bf k,rfl,e1,hn.1,hb,aI,by simp,hi k hk,ai k hk,ah k hk,λh' x' aa b' hf aH ho ak=>?_⟩
  have aF:aa.length=4:=ho.len
  have ar:∀c∈b',∀i,i<xs.length->i≠k->c∉bf i:=λc hc i ab aA hm=>by
   rcases ak c hc with hx|hx
   ·rcases Nat.lt_or_gt_of_ne aA with ae|ae
    ·exact nf.2 i k ae hk c hm c hx rfl
    ·exact nf.2 k i ae ab c hx c hm rfl
   ·exact hx (ah i ab c hm)
  have ax:b∉b':=λhm=>by
   rcases ak b hm with hx|hx
   ·exact ai k hk hx
   ·exact hx (by simp)
  have au:∀c∈bk,c∉b':=λc hc hm=>by
   rcases ak c hm with hx|hx
   ·exact aj c hc c (by rw[Aw];exact .inr (Bo.2 ⟨k,by simpa using hk,hx⟩)) rfl
   ·exact hx (by simp[hc])
  have ay:∀c∈bk,c≠b:=λc hc e=>aj c hc b (by simp) e
  have an:∀c∈bk,∀i,i<xs.length->c∉bf i:=λc hc i ab hm=>aj c hc c (by rw[Aw];exact .inr (Bo.2 ⟨i,by simpa using ab,hm⟩)) rfl
  have af:(xs.set k x').length=xs.length:=by simp
  have hu:k*4+aa.length<=cs.size:=by omega
  refine⟨bk++([b]++(BO (xs.set k x').length).flatMap (λi=>if i=k then b' else bf i)),?_,λc hc=>?_⟩
  ·refine OT.mk (b:=b) (cs:=upd cs (k*4) aa) (hkk.frame λc hc=>hf c (by simp[hc]) (an c hc k hk) (ay c hc)) (by rw[af];exact hn) (.inr ⟨rfl,e1,aH,by rw[zka hu];exact az⟩) (λi hx=>?_) ?_
   ·rw[af]at hx
    by_cases Z:i=k
    ·subst Z
     rw[if_pos rfl]
     have:=z3a hu
     rw[aF]at this
     rw[this,List.getElem_set_self];exact ho
    ·rw[if_neg Z,List.getElem_set_ne (by omega),ztc hu (by omega)]
     refine(hi i hx).frame λc hc=>hf c (ah i hx c hc) (λhm=>?_) (λe=>ai i hx (e ▸ hc))
     rcases Nat.lt_or_gt_of_ne Z with ae|ae
     ·exact nf.2 i k ae hk c hc c hm rfl
     ·exact nf.2 k i ae hx c hm c hc rfl
   ·rw[af,BQ]
    refine⟨aB,?_,λx hx y hy=>?_⟩
    ·rw[BQ]
     refine⟨by simp,zkl.2 ⟨λi ab=>?_,λi j aE hj x hx y hy e=>?_⟩,λx hx y hy=>?_⟩
     ·by_cases Z:i=k
      ·rw[if_pos Z];exact ho.nodup
      ·rw[if_neg Z];exact nf.1 i ab
     ·subst e
      by_cases Z:i=k
      ·rw[if_pos Z]at hx
       rw[if_neg (by omega)]at hy
       exact ar x hx j hj (by omega) hy
      ·rw[if_neg Z]at hx
       by_cases ap:j=k
       ·rw[if_pos ap]at hy
        exact ar x hy i (by omega) Z hx
       ·rw[if_neg ap]at hy
        exact nf.2 i j aE hj x hx x hy rfl
     ·simp at hx;subst hx
      obtain⟨i,ab,hy⟩:=Bo.1 hy
      simp at ab
      intro e;subst e
      by_cases Z:i=k
      ·rw[if_pos Z]at hy;exact ax hy
      ·rw[if_neg Z]at hy;exact ai i ab hy
    ·intro e;subst e
     rw[Aw]at hy
     rcases hy with hy|hy
     ·simp at hy;exact ay x hx hy
     ·obtain⟨i,ab,hy⟩:=Bo.1 hy
      simp at ab
      by_cases Z:i=k
      ·rw[if_pos Z]at hy;exact au x hx hy
      ·rw[if_neg Z]at hy;exact an x hx i ab hy
  ·rw[af,Aw,Aw]at hc
   rcases hc with hc|hc|hc
   ·exact .inl (by simp[hc])
   ·exact .inl (by simp at hc;simp[hc])
   ·obtain⟨i,ab,hc⟩:=Bo.1 hc
    simp at ab
    by_cases Z:i=k
    ·rw[if_pos Z]at hc;exact .inr hc
    ·rw[if_neg Z]at hc;exact .inl (ah i ab c hc)
def Foc(h:zb)(base rb:Nat)(p:Addr)(x:Tr)(T:Tr->Tr):Prop:=
 ∃(b o:Nat) (cs:Array Value) (bx:List Nat),p=⟨b,o,none⟩/\Blk h b cs/\o+4<=cs.size/\OT h x bx (cut cs o 4)/\b∉bx/\base<=b/\(∀c∈bx,base<=c) /\
  ∀(h':zb) (x':Tr) (Z:List Value) (b':List Nat),(∀c,c≠b->c∉bx->c<h.size->h'[c]?=h[c]?)->Blk h' b (upd cs o Z)->OT h' x' b' Z->(∀c∈b',c∈bx\/h.size<=c) ->
   ∃cs' aa,Blk h' rb cs'/\cs'.size=4/\OT h' (T x') aa cs'.toList/\∀c∈aa,base<=c/\c≠rb
theorem Foc.step{base rb:Nat}{p:Addr}{T:Tr->Tr}(H:Foc h base rb p x T)(hk:k<x.items.length):
  ∃(si:Sl) (a:Addr),zc h (p.add 3)=some (slV si)/\si.a=some a/\si.len=x.items.length/\Foc h base rb (a.add (k*4)) x.items[k] (λy=>T (z7e x k y)):=by
 obtain⟨b,o,cs,bx,rfl,hb,ho,ot,am,az,ab,ae⟩:=H
 obtain⟨b2,au,si,ar,e3,ea,el,aE,aG,af,ax,aB,Z,ai⟩:=ot.put1 hk
 refine⟨si,⟨b2,0,none⟩,?_,ea,el,b2,k*4,au,ar,by rw[qj,AB],aE,by omega,ax,aB,ab b2 af,λc hc=>ab c (Z c hc),λh' x' aa b' hf aA aC ak=>?_⟩
 ·rw[qj]
  refine hb.cell ?_
  rw[qh,if_pos (by omega)]at e3
  rw[<-BB];exact e3
 ·have an:b≠b2:=λe=>am (e ▸ af)
  obtain⟨bn,ap,ah⟩:=ai h' x' aa b' (λc hc ay aF=>hf c aF ay (ot.lt c hc)) aA aC (λc hc=>(ak c hc).imp id λhx hm=>by have:=ot.lt c hm;omega)
  refine ae h' (z7e x k x') (cut cs o 4) bn (λc hc aj ae=>hf c (λe=>aj (e ▸ af)) (λhm=>aj (Z c hm)) ae) ?_ ap λc hc=>?_
  ·rw[zre ho]
   exact hb.keep (hf b an (λhm=>am (Z b hm)) hb.lt)
  ·rcases ah c hc with hx|hx
   ·exact .inl hx
   ·rcases ak c hx with hy|hy
    ·exact .inl (Z c hy)
    ·exact .inr hy
theorem Foc.put{base rb:Nat}{p:Addr}{T:Tr->Tr}(H:Foc h base rb p x T){h1:zb}(k:Keep h.size h h1){w:Tr}{bw:List Nat}{cw:List Value}(ow:OT h1 w bw cw)(af:∀c∈bw,h.size<=c):
  ∃(b o:Nat) (cs:Array Value),p=⟨b,o,none⟩/\base<=b/\b<h.size/\Blk h1 b cs/\o+4<=cs.size/\∀h2:zb,Blk h2 b (upd cs o cw)->h2.size=h1.size->(∀j,j≠b->h2[j]?=h1[j]?) ->
   ∃cs' ab,Blk h2 rb cs'/\cs'.size=4/\OT h2 (T w) ab cs'.toList/\∀c∈ab,base<=c/\c≠rb:=by
 obtain⟨b,o,cs,bx,rfl,hb,ho,ot,am,aa,aj,Z⟩:=H
 have ah:=hb.lt
 refine⟨b,o,cs,rfl,aa,ah,hb.ofKeep k,ho,λh2 ai ak ae=>?_⟩
 refine Z h2 w cw bw (λc hc _ Z=>(ae c hc).trans (k.get c Z)) ai (ow.frame λc hc=>ae c (λe=>by have:=af c hc;omega)) λc hc=>.inr (af c hc)
theorem Foc.keep{h h':zb}{base rb:Nat}{p:Addr}{T:Tr->Tr}(H:Foc h base rb p x T)(k:Keep h.size h h'):Foc h' base rb p x T:=by
 obtain⟨b,o,cs,bx,rfl,hb,ho,ot,am,aa,ab,ai⟩:=H
 have hz:=k.size
 refine⟨b,o,cs,bx,rfl,hb.ofKeep k,ho,ot.frame λc hc=>k.get c (ot.lt c hc),am,aa,ab,λh2 x' Z b' hf af ah ak=>ai h2 x' Z b' (λc hc aj ae=>(hf c hc aj (by omega)).trans (k.get c ae)) af ah λc hc=>(ak c hc).imp id λhx=>by omega⟩
end
section
variable {h h':zb} {v x:Tr} {sk si si' sk':Sl} {bk bb bk' D:List Nat} {b n i k rb:Nat} {cs cs':Array Value} {c cw:List Value} {α:Type} {ks':List Bt}
structure OTp (h:zb) (v:Tr) (sk si:Sl) (bk bb:List Nat) (b:Nat) (cs:Array Value) (bf:Nat->List Nat):Prop where
 keys:OKeys h v.keys bk sk
 hn:si.len=v.items.length/\v.items.length<=140737488355328/\v.items.length<=si.cap
 hz:(v.items=[]/\bb=[]/\si.cap=0)\/(bb=[b]/\si.a=some ⟨b,0,none⟩/\Blk h b cs/\si.cap*4<=cs.size)
 hi:∀i (hx:i<v.items.length),OT h v.items[i] (bf i) (cut cs (i*4) 4)
 nk:bk.Nodup
 d1:∀c∈bk,c∉bb
 d2:∀c∈bk,∀i,i<v.items.length->c∉bf i
 d3:∀c∈bb,∀i,i<v.items.length->c∉bf i
 d4:∀i j,i<v.items.length->j<v.items.length->i≠j->∀c∈bf i,c∉bf j
def wm(v:Tr)(sk si:Sl):List Value:=[.int .i64 v.kind,.string v.text,slV sk,slV si]
theorem OTp.ot{bf:Nat->List Nat}(H:OTp h v sk si bk bb b cs bf):OT h v (bk++(bb++(BO v.items.length).flatMap bf)) (wm v sk si):=by
 obtain⟨k,s,ks,xs⟩:=v
 refine OT.mk (b:=b) (cs:=cs) H.keys H.hn H.hz H.hi ?_
 rw[BQ]
 refine⟨H.nk,?_,λx hx y hy e=>?_⟩
 ·rw[BQ]
  refine⟨?_,zkl.2 ⟨λi hi=>(H.hi i hi).nodup,λi j Z hj x hx y hy e=>?_⟩,λx hx y hy e=>?_⟩
  ·rcases H.hz with⟨_,e,_⟩|⟨e,_⟩
   ·rw[e];exact List.nodup_nil
   ·rw[e];simp
  ·subst e;exact H.d4 i j (Nat.lt_trans Z hj) hj (by omega) x hx hy
  ·subst e
   obtain⟨i,hi,hy⟩:=Bo.1 hy
   exact H.d3 x hx i (by simpa using hi) hy
 ·subst e
  rcases Aw.1 hy with hy|hy
  ·exact H.d1 x hx hy
  ·obtain⟨i,hi,hy⟩:=Bo.1 hy
   exact H.d2 x hx i (by simpa using hi) hy
theorem OT.p{bs:List Nat}{cells:List Value}(H:OT h v bs cells):∃(sk si:Sl) (bk bb:List Nat) (b:Nat) (cs:Array Value) (bf:Nat->List Nat),cells=wm v sk si/\OTp h v sk si bk bb b cs bf/\bs=bk++(bb++(BO v.items.length).flatMap bf):=by
 cases H with
 | @mk kd s ks xs sk si bk bb b cs bf hk hn hz hi hd=>
  rw[BQ]at hd
  obtain⟨af,aa,ab⟩:=hd
  rw[BQ]at aa
  obtain⟨aj,ah,ai⟩:=aa
  have nf:=zkl.1 ah
  refine⟨sk,si,bk,bb,b,cs,bf,rfl,⟨hk,hn,hz,hi,af,λc hc hm=>ab c hc c (Ao _ hm) rfl,λc hc i hi hm=>ab c hc c (Av _ (Bo.2 ⟨i,by simpa using hi,hm⟩)) rfl,λc hc i hi hm=>ai c hc c (Bo.2 ⟨i,by simpa using hi,hm⟩) rfl,λi j hi hj ae c hc hm=>?_⟩,rfl⟩
  rcases Nat.lt_or_gt_of_ne ae with Z|Z
  ·exact nf.2 i j Z hj c hc c hm rfl
  ·exact nf.2 j i Z hi c hm c hc rfl
theorem zw7{bf:Nat->List Nat}{n c:Nat}:c∈bk++(bb++(BO n).flatMap bf)↔c∈bk\/c∈bb\/∃i,i<n/\c∈bf i:=by
 simp only[Aw,Bo,BK]
theorem Xg(h:i+4<=n):cut cs i 4=((cut cs 0 n).drop i).take 4:=by
 unfold cut
 rw[BC,List.drop_take,List.take_take,Nat.min_eq_left (by omega)]
theorem z3q{xs:List α}{w:α}(hk:k<=xs.length)(h:i<(xs.take k++w::xs.drop k).length):
  (i<k/\∃h':i<xs.length,(xs.take k++w::xs.drop k)[i]=xs[i])\/(i=k/\(xs.take k++w::xs.drop k)[i]=w)\/(k<i/\∃h':i-1<xs.length,(xs.take k++w::xs.drop k)[i]=xs[i-1]):=by
 have hl:(xs.take k).length=k:=by rw[AN];omega
 simp only[Ar,AI,hl,As]at h
 rcases Nat.lt_trichotomy i k with h1|h1|h1
 ·refine .inl ⟨h1,by omega,?_⟩
  rw[C5 (by rw[hl];exact h1),List.getElem_take]
 ·refine .inr (.inl ⟨h1,?_⟩)
  subst h1
  rw[CE (by rw[hl];exact Ad _)]
  simp[hl]
 ·refine .inr (.inr ⟨h1,by omega,?_⟩)
  rw[CE (by rw[hl];omega)]
  simp only[hl]
  have e:i-k=(i-1-k)+1:=by omega
  simp only[e,List.getElem_cons_succ,Dp]
  congr 1;omega
theorem z3r(hc:c.length=n*4)(hw:cw.length=4)(hk:k<=n):
  (∀i,i<k->((c.take (k*4)++cw++c.drop (k*4)).drop (i*4)).take 4=(c.drop (i*4)).take 4)/\((c.take (k*4)++cw++c.drop (k*4)).drop (k*4)).take 4=cw/\∀i,k<i->((c.take (k*4)++cw++c.drop (k*4)).drop (i*4)).take 4=(c.drop ((i-1)*4)).take 4:=by
 have hl:(c.take (k*4)).length=k*4:=by rw[AN];omega
 refine⟨λi hi=>?_,?_,λi hi=>?_⟩
 ·apply Bc
  intro j
  rw[AC,AC]
  split
  ·rw[AE,AE,Bi,Bw (by rw[hl];omega),AC,if_pos (by omega)]
  ·rfl
 ·rw[Bi,List.drop_append,AU (by rw[hl];exact Ad _),Cu,hl,Nat.sub_self,BC,List.take_append,hw,Nat.sub_self,DV,A8,Bf (by omega)]
 ·rw[List.drop_append,AU (by rw[Ar,hl,hw];omega),Cu,Ar,hl,hw,BD]
  congr 2;omega
theorem OTp.ins{bf:Nat->List Nat}(H:OTp h v sk si bk bb b cs bf)(hk:k<=v.items.length){w:Tr}{bw:List Nat}(ow:OT h' w bw cw)
  (hf:∀i,i<v.items.length->∀c∈bf i,h'[c]?=h[c]?) {b':Nat} (e1:si'.a=some ⟨b',0,none⟩) (e2:Blk h' b' cs') (e3:si'.len=v.items.length+1) (e4:v.items.length+1<=si'.cap) (e5:si'.cap*4<=cs'.size) (e6:v.items.length+1<=140737488355328)
  (e7:cut cs' 0 ((v.items.length+1)*4)=(cut cs 0 (v.items.length*4)).take (k*4)++cw++(cut cs 0 (v.items.length*4)).drop (k*4)) (am:∀i,i<v.items.length->b'∉bf i) (ap:b'∉bw) (hw:∀c∈bw,∀i,i<v.items.length->c∉bf i) (ok:OKeys h' ks' bk' sk') (nk:bk'.Nodup) (ah:b'∉bk') (an:∀c∈bk',∀i,i<v.items.length->c∉bf i) (ar:∀c∈bk',c∉bw):
  OTp h' (.mk v.kind v.text ks' (v.items.take k++w::v.items.drop k)) sk' si' bk' [b'] b' cs' (λi=>if i<k then bf i else if i=k then bw else bf (i-1)):=by
 have Z:(v.items.take k++w::v.items.drop k).length=v.items.length+1:=by simp;omega
 have aj:∀i (hx:i<v.items.length),(cut cs 0 (v.items.length*4)).length=v.items.length*4:=by
  intro i hx
  rcases H.hz with⟨h0,_⟩|⟨_,_,_,ay⟩
  ·rw[h0]at hx;simp at hx
  ·unfold cut;simp;have:=H.hn.2.2;omega
 have ae:(cut cs 0 (v.items.length*4)).length=v.items.length*4:=by
  by_cases h0:0<v.items.length
  ·exact aj 0 h0
  ·have:v.items.length=0:=by omega
   rw[this];unfold cut;simp
 have ak:cw.length=4:=ow.len
 obtain⟨c1,c2,c3⟩:=z3r ae ak hk
 have ab:∀i,i<v.items.length+1->∀c,c∈(if i<k then bf i else if i=k then bw else bf (i-1))->(∃j,j<v.items.length/\c∈bf j)\/c∈bw:=by
  intro i hi c hc
  split at hc
  ·exact .inl ⟨i,by omega,hc⟩
  ·split at hc
   ·exact .inr hc
   ·exact .inl ⟨i-1,by omega,hc⟩
 refine⟨ok,⟨by show si'.len=(v.items.take k++w::v.items.drop k).length;rw[Z];exact e3,by show(v.items.take k++w::v.items.drop k).length<=_;rw[Z];exact e6,by show(v.items.take k++w::v.items.drop k).length<=_;rw[Z];exact e4⟩,.inr ⟨rfl,e1,e2,e5⟩,λi hx=>?_,nk,λc hc hm=>?_,λc hc i hi hm=>?_,λc hc i hi hm=>?_,λi j hi hj ai c hc hm=>?_⟩
 ·have af:i<(v.items.take k++w::v.items.drop k).length:=hx
  have au:i<v.items.length+1:=by rw[<-Z];exact af
  rw[Xg (n:=(v.items.length+1)*4) (by omega),e7]
  show OT h' (v.items.take k++w::v.items.drop k)[i] _ _
  rcases z3q hk af with⟨hi,h2,e⟩|⟨hi,e⟩|⟨hi,h2,e⟩
  ·rw[e,if_pos hi,c1 i hi,<-Xg (by omega)]
   exact(H.hi i h2).frame (hf i h2)
  ·subst hi
   rw[e,if_neg (by omega),if_pos rfl,c2];exact ow
  ·rw[e,if_neg (by omega),if_neg (by omega),c3 i hi,<-Xg (by omega)]
   exact(H.hi (i-1) h2).frame (hf (i-1) h2)
 ·simp at hm;subst hm;exact ah hc
 ·have aa:i<v.items.length+1:=by rw[<-Z];exact hi
  rcases ab i aa c hm with⟨j,hj,hm⟩|hm
  ·exact an c hc j hj hm
  ·exact ar c hc hm
 ·have aa:i<v.items.length+1:=by rw[<-Z];exact hi
  simp at hc;subst hc
  rcases ab i aa c hm with⟨j,hj,hm⟩|hm
  ·exact am j hj hm
  ·exact ap hm
 ·have aa:i<v.items.length+1:=by rw[<-Z];exact hi
  have ax:j<v.items.length+1:=by rw[<-Z];exact hj
  try simp only at hc hm
  split at hc
  ·split at hm
   ·exact H.d4 i j (by omega) (by omega) ai c hc hm
   ·split at hm
    ·exact hw c hm i (by omega) hc
    ·exact H.d4 i (j-1) (by omega) (by omega) (by omega) c hc hm
  ·split at hc
   ·split at hm
    ·exact hw c hc j (by omega) hm
    ·split at hm
     ·omega
     ·exact hw c hc (j-1) (by omega) hm
   ·split at hm
    ·exact H.d4 (i-1) j (by omega) (by omega) (by omega) c hc hm
    ·split at hm
     ·exact hw c hm (i-1) (by omega) hc
     ·exact H.d4 (i-1) (j-1) (by omega) (by omega) (by omega) c hc hm
theorem z3s{xs:List α}(hk:k<xs.length)(h:i<(xs.take k++xs.drop (k+1)).length):
  (i<k/\∃h':i<xs.length,(xs.take k++xs.drop (k+1))[i]=xs[i])\/(k<=i/\∃h':i+1<xs.length,(xs.take k++xs.drop (k+1))[i]=xs[i+1]):=by
 have hl:(xs.take k).length=k:=by rw[AN];omega
 simp only[Ar,hl,As]at h
 rcases AF i k with h1|h1
 ·refine .inl ⟨h1,by omega,?_⟩
  rw[C5 (by rw[hl];exact h1),List.getElem_take]
 ·refine .inr ⟨h1,by omega,?_⟩
  rw[CE (by rw[hl];omega)]
  simp only[hl,Dp]
  congr 1;omega
theorem z3t(hc:c.length=n*4)(hk:k<n):
  (∀i,i<k->((c.take (k*4)++c.drop ((k+1)*4)).drop (i*4)).take 4=(c.drop (i*4)).take 4)/\∀i,k<=i->((c.take (k*4)++c.drop ((k+1)*4)).drop (i*4)).take 4=(c.drop ((i+1)*4)).take 4:=by
 have hl:(c.take (k*4)).length=k*4:=by rw[AN];omega
 refine⟨λi hi=>?_,λi hi=>?_⟩
 ·apply Bc
  intro j
  rw[AC,AC]
  split
  ·rw[AE,AE,Bw (by rw[hl];omega),AC,if_pos (by omega)]
  ·rfl
 ·rw[List.drop_append,AU (by rw[hl];omega),Cu,hl,BD]
  congr 2;omega
theorem OTp.del{bf:Nat->List Nat}(H:OTp h v sk si bk bb b cs bf)(hk:k<v.items.length)
  (hf:∀i,i<v.items.length->∀c∈bf i,h'[c]?=h[c]?) (e1:si'.a=si.a) (e2:Blk h' b cs') (e3:si'.len+1=v.items.length) (e4:si'.cap=si.cap) (e5:cs'.size=cs.size)
  (e7:cut cs' 0 ((v.items.length-1)*4)=(cut cs 0 (v.items.length*4)).take (k*4)++(cut cs 0 (v.items.length*4)).drop ((k+1)*4)) (ok:OKeys h' ks' bk' sk') (ab:∀c∈bk',c∈bk) (nk:bk'.Nodup):
  OTp h' (.mk v.kind v.text ks' (v.items.take k++v.items.drop (k+1))) sk' si' bk' [b] b cs' (λi=>if i<k then bf i else bf (i+1)):=by
 have Z:(v.items.take k++v.items.drop (k+1)).length=v.items.length-1:=by simp;omega
 rcases H.hz with⟨h0,_⟩|⟨ai,ha,hb,ak⟩
 ·rw[h0]at hk;simp at hk
 obtain⟨n1,n2,n3⟩:=H.hn
 have aj:(cut cs 0 (v.items.length*4)).length=v.items.length*4:=by unfold cut;simp;omega
 obtain⟨c1,c2⟩:=z3t aj hk
 have aa:b∈bb:=by rw[ai];simp
 refine⟨ok,⟨by show si'.len=(v.items.take k++v.items.drop (k+1)).length;rw[Z];omega,by show(v.items.take k++v.items.drop (k+1)).length<=_;rw[Z];omega,by show(v.items.take k++v.items.drop (k+1)).length<=_;rw[Z];omega⟩,.inr ⟨rfl,by rw[e1];exact ha,e2,by rw[e4,e5];exact ak⟩,λi hx=>?_,nk,λc hc hm=>?_,λc hc i hi hm=>?_,λc hc i hi hm=>?_,λi j hi hj ah c hc hm=>?_⟩
 ·have af:i<(v.items.take k++v.items.drop (k+1)).length:=hx
  have am:i<v.items.length-1:=by rw[<-Z];exact af
  rw[Xg (n:=(v.items.length-1)*4) (by omega),e7]
  show OT h' (v.items.take k++v.items.drop (k+1))[i] _ _
  rcases z3s hk af with⟨hi,h2,e⟩|⟨hi,h2,e⟩
  ·rw[e,if_pos hi,c1 i hi,<-Xg (by omega)]
   exact(H.hi i h2).frame (hf i h2)
  ·rw[e,if_neg (by omega),c2 i hi,<-Xg (by omega)]
   exact(H.hi (i+1) h2).frame (hf (i+1) h2)
 ·simp at hm;subst hm;exact H.d1 c (ab c hc) aa
 ·have ae:i<v.items.length-1:=by rw[<-Z];exact hi
  try simp only at hm
  split at hm
  ·exact H.d2 c (ab c hc) i (by omega) hm
  ·exact H.d2 c (ab c hc) (i+1) (by omega) hm
 ·have ae:i<v.items.length-1:=by rw[<-Z];exact hi
  simp at hc;subst hc
  try simp only at hm
  split at hm
  ·exact H.d3 c aa i (by omega) hm
  ·exact H.d3 c aa (i+1) (by omega) hm
 ·have ae:i<v.items.length-1:=by rw[<-Z];exact hi
  have an:j<v.items.length-1:=by rw[<-Z];exact hj
  try simp only at hc hm
  split at hc
  ·split at hm
   ·exact H.d4 i j (by omega) (by omega) ah c hc hm
   ·exact H.d4 i (j+1) (by omega) (by omega) (by omega) c hc hm
  ·split at hm
   ·exact H.d4 (i+1) j (by omega) (by omega) (by omega) c hc hm
   ·exact H.d4 (i+1) (j+1) (by omega) (by omega) (by omega) c hc hm
structure Doc (h:zb) (rb:Nat) (v:Tr) (D:List Nat):Prop where
 ex:∃cs:Array Value,Blk h rb cs/\cs.size=4/\OT h v D cs.toList
 no:rb∉D
def Plc(h:zb)(D:List Nat)(rb:Nat)(p:Addr)(x:Tr)(T:Tr->Tr):Prop:=
 ∃(b o:Nat) (cs:Array Value) (bx:List Nat),p=⟨b,o,none⟩/\Blk h b cs/\o+4<=cs.size/\OT h x bx (cut cs o 4)/\b∉bx/\(b=rb\/b∈D)/\(∀c∈bx,c∈D)/\rb∉D/\(∀c∈D,c<h.size) /\
  ∀(h':zb) (x':Tr) (Z:List Value) (b':List Nat),(∀c,c≠b->c∉bx->(c=rb\/c∈D)->h'[c]?=h[c]?)->Blk h' b (upd cs o Z)->OT h' x' b' Z->(∀c∈b',c∈bx\/(c≠rb/\c∉D)) ->
   ∃D',Doc h' rb (T x') D'/\∀c∈D',c∈D\/c∈b'
theorem Plc.step{p:Addr}{T:Tr->Tr}(H:Plc h D rb p x T)(hk:k<x.items.length):
  ∃(si:Sl) (a:Addr),zc h (p.add 3)=some (slV si)/\si.a=some a/\si.len=x.items.length/\Plc h D rb (a.add (k*4)) x.items[k] (λy=>T (z7e x k y)):=by
 obtain⟨b,o,cs,bx,rfl,hb,ho,ot,an,ah,Z,ar,aB,af⟩:=H
 obtain⟨b2,ay,si,ax,e3,ea,el,aG,aJ,ai,az,aE,aa,aj⟩:=ot.put1 hk
 refine⟨si,⟨b2,0,none⟩,?_,ea,el,b2,k*4,ay,ax,by rw[qj,AB],aG,by omega,az,aE,.inr (Z b2 ai),λc hc=>Z c (aa c hc),ar,aB,λh' x' ab b' hf aC aF am=>?_⟩
 ·rw[qj]
  refine hb.cell ?_
  rw[qh,if_pos (by omega)]at e3
  rw[<-BB];exact e3
 ·have ap:b≠b2:=λe=>an (e ▸ ai)
  obtain⟨bn,au,ae⟩:=aj h' x' ab b' (λc hc aA aI=>hf c aI aA (.inr (Z c hc))) aC aF (λc hc=>(am c hc).imp id λhx hm=>hx.2 (Z c hm))
  obtain⟨D',hD,aH⟩:=af h' (z7e x k x') (cut cs o 4) bn (λc hc ak af=>hf c (λe=>ak (e ▸ ai)) (λhm=>ak (aa c hm)) af) (by
   rw[zre ho]
   exact hb.keep (hf b ap (λhm=>an (aa b hm)) ah)) au λc hc=>by
    rcases ae c hc with hx|hx
    ·exact .inl hx
    ·rcases am c hx with hy|hy
     ·exact .inl (aa c hy)
     ·exact .inr hy
  refine⟨D',hD,λc hc=>?_⟩
  rcases aH c hc with hx|hx
  ·exact .inl hx
  ·rcases ae c hx with hy|hy
   ·exact .inl (Z c hy)
   ·exact .inr hy
theorem Plc.keep{p:Addr}{T:Tr->Tr}(H:Plc h D rb p x T)(k:∀c,c=rb\/c∈D->h'[c]?=h[c]?)(hs:h.size<=h'.size):Plc h' D rb p x T:=by
 obtain⟨b,o,cs,bx,rfl,hb,ho,ot,an,Z,ab,ae,af,aj⟩:=H
 refine⟨b,o,cs,bx,rfl,hb.keep (k b Z),ho,ot.frame λc hc=>k c (.inr (ab c hc)),an,Z,ab,ae,λc hc=>by have:=af c hc;omega,λh2 x' aa b' hf ah ai am=>aj h2 x' aa b' (λc hc ak hl=>(hf c hc ak hl).trans (k c hl)) ah ai am⟩
theorem Doc.keep(H:Doc h rb v D)(k:∀c,c=rb\/c∈D->h'[c]?=h[c]?):Doc h' rb v D:=by
 obtain⟨⟨cs,hb,aa,ot⟩,Z⟩:=H
 exact⟨⟨cs,hb.keep (k rb (.inl rfl)),aa,ot.frame λc hc=>k c (.inr hc)⟩,Z⟩
theorem Doc.lt(H:Doc h rb v D):∀c,c=rb\/c∈D->c<h.size:=by
 obtain⟨⟨cs,hb,aa,ot⟩,Z⟩:=H
 rintro c (rfl|hc)
 ·exact hb.lt
 ·exact ot.lt c hc
end
section
variable {cs:Array Value} {o n b:Nat} {h:zb}
theorem zba(h:o+n<=cs.size):(cut cs o n).length=n:=by unfold cut;simp;omega
theorem zw8(H:Blk h b cs):Arr h.size h (some ⟨b,o,none⟩) (cut cs o n):=by
 refine .inr ⟨b,o,rfl,H.lt,λi v hv=>H.cell ?_⟩
 rw[qh]at hv
 split at hv
 ·rw[<-BB];exact hv
 ·cases hv
theorem zw9{P:Program}(H:Blk h b cs){vs:List Value}(hl:o+vs.length<=cs.size)(h1:∀u∈vs,u.oneCell'=true)(B:World)(d:Nat):
  ∃h',(storeCells ⟨b,o,none⟩ vs 0).run P (mk B d h)=.ok () (mk B d h')/\Blk h' b (upd cs o vs)/\h'.size=h.size/\∀j,j≠b->h'[j]?=h[j]?:=by
 obtain⟨T,e⟩:=H
 obtain⟨h',r1,r2,r3,r4⟩:=zlu (P:=P) e hl h1 B d
 exact⟨h',r1,⟨T,r2⟩,r3,r4⟩
end
section
variable {cs:Array Value} {vs:List Value}
structure RowO (h:zb) (s:Sl) (b:Nat) (cs:Array Value) (sz:Nat):Prop where
 le:s.len<=s.cap
 at_:(s.len=0/\s.cap=0)\/(s.a=some ⟨b,0,none⟩/\Blk h b cs/\s.cap*sz<=cs.size)
structure RowN (h h':zb) (s':Sl) (b b':Nat) (cs':Array Value) (sz n:Nat) (cells:List Value):Prop where
 a:s'.a=some ⟨b',0,none⟩
 len:s'.len=n
 cap:n<=s'.cap
 blk:Blk h' b' cs'
 size:s'.cap*sz<=cs'.size
 cut:cut cs' 0 (n*sz)=cells
 new:b'=b\/h.size<=b'
 grow:h.size<=h'.size
 old:∀j,j<h.size->j≠b'->h'[j]?=h[j]?
theorem z3u{n m:Nat}(hl:n+vs.length<=cs.size)(hm:m=n+vs.length):cut (upd cs n vs) 0 m=cut cs 0 n++vs:=by
 subst hm
 have Z:(cut cs 0 n).length=n:=zba (by omega)
 apply Bc
 intro q
 rw[qh]
 split
 ·rename_i hq
  rw[AB,zkb hl]
  split
  ·rename_i h1
   rw[Bw (by rw[Z];exact h1),qh,if_pos h1,AB]
  ·rename_i h1
   rw[A6 (by rw[Z];omega),Z]
 ·rename_i hq
  rw[BN]
  rw[Ar,Z];omega
theorem zkm{P:Program}{t e:TypeId}{z:Value}{sz bytes:Nat}(T:ElemT P t e z sz bytes){ty:TypeId}{h:zb}{s:Sl}{b:Nat}(H:RowO h s b cs sz){bv cv:Nat}(hv:Blk h bv vs.toArray)(aa:vs.length=sz)(h1:∀u∈vs,u.oneCell'=true)(hb:(s.len+1)*bytes<=140737488355328)(hm:s.len+1<=140737488355328){K:Value->zb->Prop}
  (hK:∀(s':Sl) (h':zb) (b':Nat) (cs':Array Value),RowN h h' s' b b' cs' sz (s.len+1) (cut cs 0 (s.len*sz)++vs)->K (.slice s'.a s'.len s'.cap) h'):
  XRun P (AD #[t,t] ty #[.slice s.a s.len s.cap,.slice (some ⟨bv,0,none⟩) 1 cv]) h K:=by
 intro B d
 have ah:Arr h.size h (some ⟨bv,0,none⟩) vs:=by
  have:=zw8 hv (o:=0) (n:=vs.length)
  rw[show cut vs.toArray 0 vs.length=vs by unfold cut;simp]at this
  exact this
 have hS:∀B d,Src P sz t (.slice (some ⟨bv,0,none⟩) 1 cv) 1 vs (mk B d h):=λB d=>zlt (P:=P) (s:=⟨some ⟨bv,0,none⟩,1,cv⟩) ah (by simp[aa]) T.pos h1 T.slice B d
 have m0:(s.len+1)*sz=s.len*sz+sz:=CV _ _
 by_cases hr:s.len+1<=s.cap
 ·rcases H.at_ with⟨_,h0⟩|⟨ha,ab,hc⟩
  ·omega
  have m1:(s.len+1)*sz<=s.cap*sz:=AK _ hr
  obtain⟨h',r1,r2,r3,r4⟩:=zw9 (P:=P) ab (o:=s.len*sz) (vs:=vs) (by rw[aa];omega) h1 B d
  have af:=Z6 (P:=P) (ty:=ty) T (s:=s) (h':=h') (hS B d) hr (λp hp=>by
   rw[ha]at hp
   cases hp
   rw[qj,AB];exact r1) (λhn=>by rw[ha]at hn;cases hn)
  refine⟨_,d,h',af,hK ⟨s.a,s.len+1,s.cap⟩ h' b _ ⟨ha,rfl,hr,r2,by rw[zka (by rw[aa];omega)];exact hc,z3u (by rw[aa];omega) (by rw[aa];exact m0),.inl rfl,by omega,λj hj ae=>r4 j ae⟩⟩
 ·have Z:Arr h.size h s.a (cut cs 0 (s.len*sz))/\(cut cs 0 (s.len*sz)).length=s.len*sz:=by
   rcases H.at_ with⟨h0,_⟩|⟨ha,ab,hc⟩
   ·rw[h0,DD];exact⟨.inl (by unfold cut;simp),by unfold cut;simp⟩
   ·have m1:s.len*sz<=s.cap*sz:=AK _ H.le
    rw[ha];exact⟨zw8 ab,zba (by omega)⟩
  obtain⟨c,blk,q1,q2,q3,q4,q5⟩:=Y6 (P:=P) (ty:=ty) (base:=0) T Z.2 (λB d=>Z5 Z.1 Z.2 T.pos B d) hS hb hm (CK _) (by omega) B d
  refine⟨_,d+1,_,q1,hK ⟨some ⟨h.size,0,none⟩,s.len+1,c⟩ _ h.size blk ⟨rfl,rfl,q2,Blk.new _ _ _,by rw[q4];exact Ad _,by unfold cut;rw[BC];exact q5,.inr (Ad _),by simp,λj hj ae=>by rw[B6,if_neg (by omega)]⟩⟩
end
end Go.X
end
section
namespace Go.X
section
variable {lo:Nat} {h h':zb} {M M':Fr} {s:Sl} {bs:List Nat}
def ORow(lo:Nat)(h:zb)(M:Fr)(T:Ty)(xs:List (El T))(s:Sl)(bs:List Nat):Prop:=
 (xs=[]/\s.len=0/\s.cap=0/\bs=[])\/∃(b:Nat) (cs:Array Value),bs=[b]/\s.a=some ⟨b,0,none⟩/\s.len=xs.length/\s.len<=s.cap/\Blk h b cs/\s.cap*sz T<=cs.size/\lo<=b/\M b=none/\∀i (hi:i<xs.length),Rd M T xs[i] (cut cs (i*sz T) (sz T))
theorem ORow.nil{T:Ty}:ORow lo h M T [] ⟨none,0,0⟩ []:=.inl ⟨rfl,rfl,rfl,rfl⟩
theorem ORow.len{T:Ty}{xs:List (El T)}(H:ORow lo h M T xs s bs):s.len=xs.length:=by
 rcases H with⟨rfl,h1,_⟩|⟨b,cs,_,_,h1,_⟩
 ·exact h1
 ·exact h1
theorem ORow.own{T:Ty}{xs:List (El T)}(H:ORow lo h M T xs s bs):∀c∈bs,lo<=c/\c<h.size/\M c=none:=by
 rcases H with⟨_,_,_,rfl⟩|⟨b,cs,rfl,_,_,_,e,_,h1,h2,_⟩
 ·intro c hc;cases hc
 ·intro c hc
  rw[BJ.1 hc]
  exact⟨h1,e.lt,h2⟩
theorem ORow.frame{T:Ty}{xs:List (El T)}(H:ORow lo h M T xs s bs)(f:∀c∈bs,h'[c]?=h[c]?)(le:Fr.le M M')(no:∀c∈bs,M' c=none):ORow lo h' M' T xs s bs:=by
 rcases H with H|⟨b,cs,rfl,h1,h2,h3,h4,h5,h6,h7,h8⟩
 ·exact .inl H
 ·refine .inr ⟨b,cs,rfl,h1,h2,h3,?_,h5,h6,no b (by simp),λi hi=>Rd.mono le (h8 i hi)⟩
  unfold Blk at h4 ⊢
  rw[f b (by simp)];exact h4
theorem ORow.call{T:Ty}{xs:List (El T)}(H:ORow lo h M T xs s bs)(L:Later h M h' M'):ORow lo h' M' T xs s bs:=by
 refine H.frame (λc hc=>L.keep.get c (H.own c hc).2.1) L.le λc hc=>?_
 rw[L.old c (H.own c hc).2.1];exact(H.own c hc).2.2
theorem ORow.rd{T:Ty}{xs:List (El T)}{bs all:List Nat}(H:ORow lo h M T xs s bs)(ag:AgM M h)(ha:∀c∈bs,c∈all)(hn:xs.length<=1000000):Rd (MxL M h all) (.row T) xs [slV s]:=by
 rcases H with⟨rfl,h1,h2,rfl⟩|⟨b,cs,rfl,h1,h2,h3,h4,h5,h6,h7,h8⟩
 ·refine⟨_,rfl,s.a,s.cap,?_,⟨by simp,by simp⟩,.inl rfl⟩
  show slV s=_
  unfold slV;rw[h1];rfl
 ·refine⟨_,rfl,s.a,s.cap,?_,⟨by omega,by omega⟩,?_⟩
  ·unfold slV;rw[h2]
  ·by_cases he:xs=[]
   ·exact .inl he
   ·refine .inr ⟨b,0,cs,h1,MxL.at (ha b (by simp)) h4,λi hi=>?_⟩
    rw[AB]
    exact Rd.mono (zgm ag all) (h8 i hi)
theorem ORow.app{t e:TypeId}{z:Value}{bytes:Nat}{T:Ty}(E:ElemT Tp t e z (sz T) bytes)(ak:bytes<=1000){ty:TypeId}{xs:List (El T)}(ag:AgM M h)(H:ORow lo h M T xs s bs)(ay:lo<=h.size){bv cv:Nat}{vs:List Value}{x:El T}(hv:Blk h bv vs.toArray)(hx:Rd M T x vs)(hn:xs.length<=1000000){K:Value->zb->Prop}
  (hK:∀(s':Sl) (h':zb) (ae:List Nat),ORow lo h' M T (xs++[x]) s' ae->h.size<=h'.size->(∀c∈ae,c∈bs\/h.size<=c)->(∀j,j<h.size->j∉bs->h'[j]?=h[j]?)->K (.slice s'.a s'.len s'.cap) h'):
  XRun Tp (AD #[t,t] ty #[.slice s.a s.len s.cap,.slice (some ⟨bv,0,none⟩) 1 cv]) h K:=by
 have an:vs.length=sz T:=Rd.len hx
 have h1:∀u∈vs,u.oneCell'=true:=Rd.one hx
 have ab:=H.len
 have aj:∀c,h.size<=c->M c=none:=by
  intro c hc
  cases e:M c with
  |none=>rfl
  |some cs=>have:=ag.lt e;omega
 obtain⟨b,cs,Z,hb,ar⟩:∃b cs,RowO h s b cs (sz T)/\((bs=[b]/\lo<=b/\M b=none)\/(b=h.size/\bs=[]))/\∀i (hi:i<xs.length),i*sz T+sz T<=cs.size/\Rd M T xs[i] (cut cs (i*sz T) (sz T)):=by
  rcases H with⟨rfl,e1,e2,rfl⟩|⟨b,cs,rfl,e1,e2,e3,e4,e5,e6,e7,e8⟩
  ·exact⟨h.size,#[],⟨by omega,.inl ⟨e1,e2⟩⟩,.inr ⟨rfl,rfl⟩,λi hi=>by simp at hi⟩
  ·refine⟨b,cs,⟨e3,.inr ⟨e1,e4,e5⟩⟩,.inl ⟨rfl,e6,e7⟩,λi hi=>⟨?_,e8 i hi⟩⟩
   have:(i+1)*sz T<=s.cap*sz T:=AK _ (by omega)
   rw[CV]at this;omega
 have ai:(s.len+1)*bytes<=140737488355328:=by
  have:(s.len+1)*bytes<=1000001*1000:=Nat.mul_le_mul (by omega) ak
  omega
 refine zkm E Z hv an h1 ai (by omega) λs' h' b' cs' N=>?_
 have aa:(b'∈bs/\lo<=b'/\M b'=none)\/h.size<=b':=by
  rcases N.new with e|e
  ·rcases hb with⟨q1,q2,q3⟩|⟨q1,_⟩
   ·subst e;exact .inl ⟨by rw[q1];simp,q2,q3⟩
   ·exact .inr (by omega)
  ·exact .inr e
 refine hK s' h' [b'] (.inr ⟨b',cs',rfl,N.a,by rw[N.len,Ar,ab];rfl,by rw[N.len];exact N.cap,N.blk,N.size,?_,?_,λi hi=>?_⟩) N.grow (λc hc=>?_) λj hj hn=>N.old j hj λe=>?_
 ·rcases aa with q|q
  ·exact q.2.1
  ·omega
 ·rcases aa with q|q
  ·exact q.2.2
  ·exact aj b' q
 ·have af:=N.cut
  have aA:i<xs.length+1:=by simpa using hi
  have hm:(i+1)*sz T<=(s.len+1)*sz T:=AK _ (by omega)
  have ax:(i+1)*sz T=i*sz T+sz T:=CV _ _
  have az:(s.len+1)*sz T=s.len*sz T+sz T:=CV _ _
  have key:∀q,q<sz T->(cut cs' (i*sz T) (sz T))[q]?=(cut cs 0 (s.len*sz T)++vs)[i*sz T+q]?:=by
   intro q hq
   rw[qh,if_pos hq,<-af,qh,if_pos (by omega),AB]
  by_cases ah:i<xs.length
  ·rw[C5 ah]
   obtain⟨g1,g2⟩:=ar i ah
   have aB:(i+1)*sz T<=s.len*sz T:=AK _ (by omega)
   have e:cut cs' (i*sz T) (sz T)=cut cs (i*sz T) (sz T):=by
    apply Bc
    intro q
    by_cases hq:q<sz T
    ·rw[key q hq,Bw ?_,qh,qh,if_pos hq,if_pos (by omega),AB]
     have ap:s.len*sz T<=cs.size:=by
      rcases Z.at_ with⟨q1,q2⟩|⟨_,_,q3⟩
      ·omega
      ·have:s.len*sz T<=s.cap*sz T:=AK _ Z.le
       omega
     rw[zba (by omega)];omega
    ·rw[qh,qh,if_neg hq,if_neg hq]
   rw[e];exact g2
  ·have au:i=xs.length:=by omega
   subst au
   rw[CE (Ad _)]
   have am:(cut cs 0 (s.len*sz T)).length=xs.length*sz T:=by
    rcases Z.at_ with⟨q1,q2⟩|⟨_,_,q3⟩
    ·have:xs.length=0:=by omega
     rw[q1,this];unfold cut;simp
    ·have:s.len*sz T<=s.cap*sz T:=AK _ Z.le
     rw[zba (by omega),ab]
   have e:cut cs' (xs.length*sz T) (sz T)=vs:=by
    apply Bc
    intro q
    by_cases hq:q<sz T
    ·rw[key q hq,A6 (by omega),am]
     congr 1;omega
    ·rw[qh,if_neg hq,BN (by omega)]
   rw[e]
   simpa using hx
 ·rw[BJ.1 hc]
  rcases aa with q|q
  ·exact .inl q.1
  ·exact .inr q
 ·rcases aa with q|q
  ·exact hn (by rw[e];exact q.1)
  ·omega
end
end Go.X
end
section
namespace Go.X
open Go Go.X Go.Proofs Go.RowKit
section
variable {cs:Array Value} {o n q z b bv cv lo c:Nat} {l:List Value} {g g':zb} {t e ty:TypeId} {zv v:Value} {K:Value -> zb -> Prop} {M:Fr}
abbrev tSp:Ty:=.pair (.int .i64) (.int .i64)
abbrev tNd:Ty:=.pair (.int .i64) (.pair tSp (.pair tSp (.pair (.row (.int .i64)) (.row tSp))))
structure Ax where
 ks:Sl
 kb:List Nat
 ps:Sl
 pb:List Nat
def ax0:Ax:=⟨⟨none,0,0⟩,[],⟨none,0,0⟩,[]⟩
def ndC(p:Nd×Ax):List Value:=[.int .i64 p.1.1,.int .i64 p.1.2.1.1,.int .i64 p.1.2.1.2,.int .i64 p.1.2.2.1.1,.int .i64 p.1.2.2.1.2,slV p.2.ks,slV p.2.ps]
structure CR (g:zb) (z:Nat) (els:List (List Value)) (sl:Sl) (b:Nat) (cs:Array Value):Prop where
 ro:RowO g sl b cs z
 ln:sl.len=els.length
 el:∀(i:Nat) (e:List Value),els[i]?=some e->(i+1)*z<=cs.size/\cut cs (i*z) z=e
theorem zph(hl:l.length=n)(h:∀q,q<n->cs.toList[o+q]?=l[q]?):cut cs o n=l:=by
 apply Bc
 intro q
 rw[qh]
 split
 ·rename_i hq;exact h q hq
 ·rename_i hq;rw[BN (by omega)]
theorem zrf(h:cut cs o n=l)(hq:q<n):cs.toList[o+q]?=l[q]?:=by rw[<-h,qh,if_pos hq]
theorem CR.blk{els:List (List Value)}{sl:Sl}(H:CR g z els sl b cs)(hn:els≠[]):sl.a=some ⟨b,0,none⟩/\Blk g b cs:=by
 rcases H.ro.at_ with⟨h1,_⟩|⟨h1,h2,_⟩
 ·have:=H.ln;rw[h1]at this;exact absurd (AW.1 this.symm) hn
 ·exact⟨h1,h2⟩
theorem CR.frame{els:List (List Value)}{sl:Sl}(H:CR g z els sl b cs)(f:els≠[]\/sl.cap≠0->g'[b]?=g[b]?):CR g' z els sl b cs:=by
 refine⟨⟨H.ro.le,?_⟩,H.ln,H.el⟩
 rcases H.ro.at_ with h1|⟨h1,h2,h3⟩
 ·exact .inl h1
 ·by_cases hc:sl.cap=0
  ·exact .inl ⟨by have:=H.ro.le;omega,hc⟩
  ·exact .inr ⟨h1,h2.keep (f (.inr hc)),h3⟩
theorem CR.app{bytes z:Nat}(E:ElemT Tp t e zv z bytes)(aj:bytes<=1000){els:List (List Value)}{sl:Sl}(H:CR g z els sl b cs){vs:List Value}(hv:Blk g bv vs.toArray)(af:vs.length=z)(h1:∀u∈vs,u.oneCell'=true)(hn:els.length<=1000000)
  (hK:∀(s':Sl) (g':zb) (b':Nat) (cs':Array Value),CR g' z (els++[vs]) s' b' cs'->g.size<=g'.size->((b'=b/\¬(sl.len=0/\sl.cap=0))\/g.size<=b')->b'<g'.size->(∀j,j<g.size->j≠b'->g'[j]?=g[j]?)->K (.slice s'.a s'.len s'.cap) g'):
  XRun Tp (AD #[t,t] ty #[.slice sl.a sl.len sl.cap,.slice (some ⟨bv,0,none⟩) 1 cv]) g K:=by
 have Z:=H.ln
 have ah:(sl.len+1)*bytes<=140737488355328:=by
  have:(sl.len+1)*bytes<=1000001*1000:=Nat.mul_le_mul (by omega) aj
  omega
 obtain⟨b0,aa,am,ak,ai⟩:∃b0 aa,RowO g sl b0 aa z/\((b0=b/\¬(sl.len=0/\sl.cap=0))\/g.size<=b0)/\(∀(i:Nat) (e:List Value),els[i]?=some e->(i+1)*z<=aa.size/\cut aa (i*z) z=e):=by
  by_cases h0:sl.len=0/\sl.cap=0
  ·have he:els=[]:=AW.1 (by omega)
   exact⟨g.size,#[],⟨H.ro.le,.inl h0⟩,.inr (Ad _),λi e hi=>by rw[he]at hi;cases hi⟩
  ·exact⟨b,cs,H.ro,.inl ⟨rfl,h0⟩,H.el⟩
 refine zkm E am hv af h1 ah (by omega) λs' g' b' cs' N=>hK s' g' b' cs' ⟨⟨by rw[N.len];exact N.cap,.inr ⟨N.a,N.blk,N.size⟩⟩,by rw[N.len,Ar,Z];rfl,λi e hi=>?_⟩ N.grow ?_ N.blk.lt N.old
 ·have ax:i<els.length+1:=by
   have:=(Au.1 hi).1
   rw[Ar]at this;exact this
  have hm:(i+1)*z<=(sl.len+1)*z:=AK _ (by omega)
  have az:(sl.len+1)*z<=s'.cap*z:=AK _ N.cap
  have ar:(i+1)*z=i*z+z:=CV _ _
  have au:(sl.len+1)*z=sl.len*z+z:=CV _ _
  have:=N.size
  refine⟨by omega,?_⟩
  have ae:=N.cut
  have key:∀q,i*z+q<(sl.len+1)*z->cs'.toList[i*z+q]?=(cut aa 0 (sl.len*z)++vs)[i*z+q]?:=λq hq=>by rw[<-ae,qh,if_pos hq,AB]
  have ab:(cut aa 0 (sl.len*z)).length=sl.len*z:=by
   by_cases h0:els=[]
   ·have:sl.len=0:=by rw[Z,h0];rfl
    rw[this,DD];unfold cut;simp
   ·have hl:els.length-1<els.length:=by have:=Bj.2 h0;omega
    have:=(ai (els.length-1) _ (Ak hl)).1
    rw[show els.length-1+1=els.length by omega,<-Z]at this
    exact zba (by omega)
  by_cases an:i<els.length
  ·rw[Bw an]at hi
   obtain⟨q1,q2⟩:=ai i e hi
   have ay:(i+1)*z<=sl.len*z:=AK _ (by omega)
   refine zph (by rw[<-q2];exact zba (by omega)) λq hq=>?_
   rw[key q (by omega),Bw (by rw[ab];omega),qh,if_pos (by omega),AB]
   exact zrf q2 hq
  ·have ap:i=els.length:=by omega
   subst ap
   rw[A6 (Ad _),Nat.sub_self]at hi
   cases hi
   refine zph af λq hq=>?_
   have e1:els.length*z=sl.len*z:=by rw[Z]
   rw[key q (by omega),A6 (by rw[ab];omega),ab]
   congr 1;omega
 ·rcases N.new with e|e
  ·rcases ak with q|q
   ·exact .inl ⟨e.trans q.1,q.2⟩
   ·exact .inr (by omega)
  ·exact .inr e
theorem CR.set{els:List (List Value)}{sl:Sl}(H:CR g z els sl b cs)(hn:n<els.length)(hq:q<z)(B:Blk g' b (cs.setIfInBounds (n*z+q) v)):CR g' z (els.modify n (·.set q v)) sl b (cs.setIfInBounds (n*z+q) v):=by
 have ab:els≠[]:=λh=>by rw[h]at hn;simp at hn
 have h1:=(H.blk ab).1
 refine⟨⟨H.ro.le,?_⟩,by rw[List.length_modify];exact H.ln,λi e hi=>?_⟩
 ·rcases H.ro.at_ with⟨h2,_⟩|⟨h2,_,h3⟩
  ·have:=H.ln;omega
  ·exact .inr ⟨h2,B,by rw[A7];exact h3⟩
 ·rw[Bn]at hi
  cases hx:els[i]? with
  |none=>rw[hx]at hi;cases hi
  |some x=>
   rw[hx]at hi
   obtain⟨q1,q2⟩:=H.el i x hx
   have af:(i+1)*z=i*z+z:=CV _ _
   have ae:x.length=z:=by rw[<-q2];exact zba (by omega)
   rw[A7]
   refine⟨q1,?_⟩
   have hi:(if n=i then x.set q v else x)=e:=by simpa using hi
   rw[<-hi]
   refine zph (by split <;> simp[ae]) λr hr=>?_
   rw[Array.toList_setIfInBounds,List.getElem?_set]
   by_cases Z:n=i
   ·subst Z
    rw[if_pos rfl,List.getElem?_set]
    by_cases aa:q=r
    ·subst aa
     rw[if_pos rfl,if_pos rfl,if_pos (by rw[Ct];omega),if_pos (by omega)]
    ·rw[if_neg (by omega),if_neg aa];exact zrf q2 hr
   ·rw[if_neg Z,if_neg ?_]
    ·exact zrf q2 hr
    ·intro he
     rcases Nat.lt_or_gt_of_ne Z with h|h
     ·have:(n+1)*z<=i*z:=AK _ h
      rw[CV]at this;omega
     ·have:(i+1)*z<=n*z:=AK _ h
      omega
abbrev NA:=List (Nd×Ax)
def axO(p:Nd×Ax)(c:Nat):Prop:=c∈p.2.kb\/c∈p.2.pb
def nsO(na:NA)(sl:Sl)(b c:Nat):Prop:=(sl.cap≠0/\c=b)\/∃p∈na,axO p c
structure NdI (lo:Nat) (g:zb) (M:Fr) (p:Nd×Ax):Prop where
 kk:ORow lo g M (.int .i64) p.1.2.2.2.1 p.2.ks p.2.kb
 pp:ORow lo g M tSp p.1.2.2.2.2 p.2.ps p.2.pb
 dd:∀c∈p.2.kb,c∉p.2.pb
structure NS (lo:Nat) (g:zb) (M:Fr) (na:NA) (sl:Sl) (b:Nat) (cs:Array Value):Prop where
 cr:CR g 7 (na.map ndC) sl b cs
 lb:sl.cap≠0->lo<=b/\b<g.size/\M b=none
 nd:∀p∈na,NdI lo g M p
 dj:∀(i j:Nat) (p p':Nd×Ax) (c:Nat),na[i]?=some p->na[j]?=some p'->axO p c->axO p' c->i=j
 nb:∀p∈na,¬axO p b
theorem NS.len{na:NA}{sl:Sl}(H:NS lo g M na sl b cs):sl.len=na.length:=by rw[H.cr.ln,AL]
theorem NdI.own{p:Nd×Ax}(H:NdI lo g M p)(h:axO p c):lo<=c/\c<g.size/\M c=none:=by
 rcases h with h|h
 ·exact H.kk.own c h
 ·exact H.pp.own c h
theorem NS.own{na:NA}{sl:Sl}(H:NS lo g M na sl b cs)(h:nsO na sl b c):lo<=c/\c<g.size/\M c=none:=by
 rcases h with⟨h1,rfl⟩|⟨p,hp,h⟩
 ·exact H.lb h1
 ·exact(H.nd p hp).own h
theorem NdI.frame{p:Nd×Ax}(H:NdI lo g M p)(f:∀c,axO p c->g'[c]?=g[c]?):NdI lo g' M p:=
 ⟨H.kk.frame (λc hc=>f c (.inl hc)) (Fr.le.refl _) λc hc=>(H.kk.own c hc).2.2,H.pp.frame (λc hc=>f c (.inr hc)) (Fr.le.refl _) λc hc=>(H.pp.own c hc).2.2,H.dd⟩
theorem NS.frame{na:NA}{sl:Sl}(H:NS lo g M na sl b cs)(hz:g.size<=g'.size)(f:∀c,nsO na sl b c->g'[c]?=g[c]?):NS lo g' M na sl b cs:=by
 refine⟨H.cr.frame λh=>f b (.inl ⟨?_,rfl⟩),λh=>by have:=H.lb h;exact⟨this.1,by omega,this.2.2⟩,λp hp=>(H.nd p hp).frame λc hc=>f c (.inr ⟨p,hp,hc⟩),H.dj,H.nb⟩
 rcases h with h|h
 ·have:=H.cr.ln
  have h2:=H.cr.ro.le
  have:=Bj.2 h
  omega
 ·exact h
theorem NS.nil:NS lo g M [] ⟨none,0,0⟩ b cs:=
 ⟨⟨⟨Ad _,.inl ⟨rfl,rfl⟩⟩,rfl,λi e h=>(by cases h)⟩,λh=>absurd rfl h,λp hp=>(by cases hp),λi j p p' c h=>(by cases h),λp hp=>(by cases hp)⟩
theorem zpi(p:Nd×Ax):∀u∈ndC p,u.oneCell'=true:=by
 intro u hu
 unfold ndC slV at hu
 simp at hu
 rcases hu with rfl|rfl|rfl|rfl|rfl|rfl|rfl <;> rfl
theorem NS.push{bytes:Nat}(E:ElemT Tp t e zv 7 bytes)(aj:bytes<=1000)(ag:AgM M g)(an:lo<=g.size){na:NA}{sl:Sl}(H:NS lo g M na sl b cs){x:Nd}(am:x.2.2.2.1=[])(ak:x.2.2.2.2=[])(hv:Blk g bv (ndC (x,ax0)).toArray)(hn:na.length<=1000000)
  (hK:∀(s':Sl) (g':zb) (b':Nat) (cs':Array Value),NS lo g' M (na++[(x,ax0)]) s' b' cs'->g.size<=g'.size->(∀c,nsO (na++[(x,ax0)]) s' b' c->nsO na sl b c\/g.size<=c)->(∀j,j<g.size->¬nsO na sl b j->g'[j]?=g[j]?)->K (.slice s'.a s'.len s'.cap) g'):
  XRun Tp (AD #[t,t] ty #[.slice sl.a sl.len sl.cap,.slice (some ⟨bv,0,none⟩) 1 cv]) g K:=by
 have ai:∀c,g.size<=c->M c=none:=by
  intro c hc
  cases e:M c with
  |none=>rfl
  |some cs=>have:=ag.lt e;omega
 refine CR.app E aj H.cr hv rfl (zpi _) (by rw[AL];exact hn) λs' g' b' cs' C z1 ae af fr=>?_
 have aa:nsO na sl b b'\/g.size<=b':=by
  rcases ae with⟨e1,e2⟩|e1
  ·exact .inl (.inl ⟨by have:=H.cr.ro.le;omega,e1⟩)
  ·exact .inr e1
 have ab:∀p∈na,¬axO p b':=λp hp hc=>by
  rcases ae with⟨e1,_⟩|e1
  ·rw[e1]at hc;exact H.nb p hp hc
  ·have:=((H.nd p hp).own hc).2.1;omega
 have Z:∀c,¬axO (x,ax0) c:=λc hc=>by
  rcases hc with hc|hc <;> exact absurd hc (by simp[ax0])
 have mem:∀p∈na++[(x,ax0)],p∈na\/p=(x,ax0):=λp hp=>by simpa using hp
 refine hK s' g' b' cs' ⟨by rw[CP];exact C,λ_=>?_,λp hp=>?_,?_,λp hp=>?_⟩ z1 (λc hc=>?_) (λj hj hn=>fr j hj λe=>?_)
 ·rcases aa with h|h
  ·have:=H.own h;exact⟨this.1,af,this.2.2⟩
  ·exact⟨by omega,af,ai b' h⟩
 ·rcases mem p hp with hp|rfl
  ·exact(H.nd p hp).frame λc hc=>fr c ((H.nd p hp).own hc).2.1 λe=>ab p hp (e ▸ hc)
  ·refine⟨?_,?_,λc hc=>by simp[ax0]at hc⟩
   ·show ORow lo g' M (.int .i64) x.2.2.2.1 _ _;rw[am];exact .nil
   ·show ORow lo g' M tSp x.2.2.2.2 _ _;rw[ak];exact .nil
 ·intro i j p p' c hi hj hc ah
  have q:∀(i:Nat) (p:Nd×Ax),(na++[(x,ax0)])[i]?=some p->axO p c->na[i]?=some p:=λi p hi hc=>by
   rw[List.getElem?_append]at hi
   split at hi
   ·exact hi
   ·have:=Ba hi
    rw[BJ]at this
    subst this
    exact absurd hc (Z c)
  exact H.dj i j p p' c (q i p hi hc) (q j p' hj ah) hc ah
 ·rcases mem p hp with hp|rfl
  ·exact ab p hp
  ·exact Z _
 ·rcases hc with⟨_,rfl⟩|⟨p,hp,hc⟩
  ·exact aa
  ·rcases mem p hp with hp|rfl
   ·exact .inl (.inr ⟨p,hp,hc⟩)
   ·exact absurd hc (Z c)
 ·subst e
  rcases aa with h|h
  ·exact hn h
  ·omega
theorem NS.upd{na:NA}{sl:Sl}(H:NS lo g M na sl b cs)(hn:n<na.length){f:Nd×Ax->Nd×Ax}(hq:q<7)(B:Blk g' b (cs.setIfInBounds (n*7+q) v))(hz:g.size<=g'.size)(hc:ndC (f na[n])=(ndC na[n]).set q v)(hI:NdI lo g' M (f na[n]))(ho:∀c,axO (f na[n]) c->axO na[n] c\/g.size<=c)(fr:∀j,j<g.size->j≠b->¬axO na[n] j->g'[j]?=g[j]?):
  NS lo g' M (na.modify n f) sl b (cs.setIfInBounds (n*7+q) v)/\∀c,nsO (na.modify n f) sl b c->nsO na sl b c\/g.size<=c:=by
 have Z:na[n]?=some na[n]:=Ak hn
 have mem:∀p∈na.modify n f,p=f na[n]\/∃j,j≠n/\na[j]?=some p:=λp hp=>by
  obtain⟨j,hj⟩:=List.mem_iff_getElem?.1 hp
  rw[Bn]at hj
  by_cases e:n=j
  ·subst e;rw[Z]at hj;left;simpa using hj.symm
  ·right;refine⟨j,λh=>e h.symm,?_⟩
   simpa[e]using hj
 have af:sl.cap≠0:=by have:=H.len;have:=H.cr.ro.le;omega
 have ae:=H.lb af
 refine⟨⟨?_,λh=>⟨ae.1,by omega,ae.2.2⟩,λp hp=>?_,?_,λp hp=>?_⟩,λc h=>?_⟩
 ·have:=H.cr.set (n:=n) (q:=q) (v:=v) (by rw[AL];exact hn) hq B
  have e:(na.modify n f).map ndC=(na.map ndC).modify n (·.set q v):=by
   apply Bc
   intro i
   rw[Cc,Bn,Bn,Cc]
   by_cases e:n=i
   ·subst e;rw[Z];simp[hc]
   ·simp[e]
  rw[e];exact this
 ·rcases mem p hp with rfl|⟨j,hj,aa⟩
  ·exact hI
  ·have ab:=Ba aa
   exact(H.nd p ab).frame λc hc=>fr c ((H.nd p ab).own hc).2.1 (λe=>H.nb p ab (e ▸ hc)) λh=>hj (H.dj j n p _ c aa Z hc h)
 ·intro i j p p' c hi hj hc ah
  have q:∀(i:Nat) (p:Nd×Ax),(na.modify n f)[i]?=some p->axO p c->∃p0,na[i]?=some p0/\((axO p0 c)\/(i=n/\g.size<=c)):=λi p hi hc=>by
   rw[Bn]at hi
   by_cases e:n=i
   ·subst e
    rw[Z]at hi
    have:f na[n]=p:=by simpa using hi
    subst this
    rcases ho c hc with h|h
    ·exact⟨_,Z,.inl h⟩
    ·exact⟨_,Z,.inr ⟨rfl,h⟩⟩
   ·exact⟨p,by simpa[e]using hi,.inl hc⟩
  obtain⟨p0,a1,a2⟩:=q i p hi hc
  obtain⟨p1,b1,b2⟩:=q j p' hj ah
  rcases a2 with a2|⟨a2,a3⟩
  ·rcases b2 with b2|⟨b2,b3⟩
   ·exact H.dj i j p0 p1 c a1 b1 a2 b2
   ·have:=((H.nd p0 (Ba a1)).own a2).2.1;omega
  ·rcases b2 with b2|⟨b2,b3⟩
   ·have:=((H.nd p1 (Ba b1)).own b2).2.1;omega
   ·omega
 ·rcases mem p hp with rfl|⟨j,hj,aa⟩
  ·intro hc
   rcases ho b hc with h|h
   ·exact H.nb _ (Ba Z) h
   ·omega
  ·exact H.nb p (Ba aa)
 ·rcases h with⟨h1,h2⟩|⟨p,hp,h⟩
  ·exact .inl (.inl ⟨h1,h2⟩)
  ·rcases mem p hp with rfl|⟨j,hj,aa⟩
   ·rcases ho c h with h|h
    ·exact .inl (.inr ⟨_,Ba Z,h⟩)
    ·exact .inr h
   ·exact .inl (.inr ⟨p,Ba aa,h⟩)
end
section
variable {t:Bs} {gl:Fr}
abbrev zkx:Ty:=.pair .str (.row tNd)
theorem slice_form{p:Sp}{R:Bt->Prop}(h:R (bl (zw t p))):
  ((bif (bif (decide ((p.1:Int)<0))then true else(decide ((p.1:Int)>p.2)))then true else(decide ((p.2:Int)>((bl t).size:Int))))=true->R (⟨#[]⟩:Bt)) /\
  ((bif (bif (decide ((p.1:Int)<0))then true else(decide ((p.1:Int)>p.2)))then true else(decide ((p.2:Int)>((bl t).size:Int))))=false->(0<=(p.1:Int)/\(p.1:Int)<=p.2/\(p.2:Int)<=((bl t).size:Int))/\R ((bl t).extract (p.1:Int).toNat (p.2:Int).toNat)):=by
 rw[zd]
 have e:(bif (bif (decide ((p.1:Int)<0))then true else(decide ((p.1:Int)>p.2)))then true else(decide ((p.2:Int)>(t.length:Int))))=decide (p.1<0\/p.2<p.1\/(t.length:Int)<p.2):=by
  rw[Az]
  simp only[Bool.cond_eq_ite,Bool.if_true_left,Bh,decide_eq_true_eq]
  omega
 rw[e]
 unfold zw at h
 refine⟨λhx=>?_,λhx=>?_⟩
 ·rw[if_pos (of_decide_eq_true hx)]at h;exact h
 ·have hx:=of_decide_eq_false hx
  rw[if_neg hx]at h
  refine⟨by omega,?_⟩
  rw[zt];exact h
theorem zrg{nodes:List Nd}{p:Sp}{R:Bt->Prop}(h:R (bl (zw t p))):PC Tp gl 31 [Arg.mk zkx (bl t,nodes),Arg.mk tSp p] [.str] R:=by
 apply zkg
 exact slice_form h
theorem zxa{nodes:List Nd}{p:Sp}{R:Bt->Prop}(h:R (bl (zw t p))):PC Tp gl 66 [Arg.mk zkx (bl t,nodes),Arg.mk tSp p] [.str] R:=by
 apply za6
 exact slice_form h
theorem zxb(hg:GL gl)(ht:t.length<=65536){nodes:List Nd}{k:Nat}{x:Nd}(hx:nodes[k]?=some x){R:Bt->Prop}(h:R (bl (ztb t x))):PC Tp gl 112 [Arg.mk zkx (bl t,nodes),Arg.mk (.int .i64) (k:Int)] [.str] R:=by
 apply zo7
 refine⟨x,⟨by omega,by rw[Ae];exact hx⟩,?_⟩
 refine zrg (p:=x.2.2.1) ?_
 have:=Yp t x.2.2.1
 exact zdo hg (by omega) h
theorem zzy(hg:GL gl){k:Int}(ht:t.length<=65536){R:Bt->Prop}(h:R (bl (Jx k t))):PC Tp gl 111 [Arg.mk (.int .i64) k,Arg.mk .str (bl t)] [.str] R:=by
 apply zmx
 unfold Jx at h
 refine⟨λh1=>?_,λh1=>⟨λh2=>?_,λh2=>⟨λh3=>?_,λh3=>?_⟩⟩⟩
 ·rw[if_pos (by simpa using h1)]at h;exact h
 ·rw[if_neg (by simpa using h1),if_pos (by simpa using h2)]at h
  exact zj1 (by omega) (zv4 hg.pow (Wp t (by omega)) h)
 ·rw[if_neg (by simpa using h1),if_neg (by simpa using h2),if_pos (by simpa using h3)]at h
  exact zdo hg (by omega) h
 ·rw[if_neg (by simpa using h1),if_neg (by simpa using h2),if_neg (by simpa using h3)]at h;exact h
end
end Go.X
end
section
namespace Go.X
section
variable {h:zb} {sk si:Sl} {bk bb:List Nat} {b bv cv:Nat} {cs:Array Value} {K:Value -> zb -> Prop}
theorem OTp.row{v:Tr}{bf:Nat->List Nat}(H:OTp h v sk si bk bb b cs bf){h':zb}(k:∀c∈bb,h'[c]?=h[c]?):RowO h' si b cs 4:=by
 refine⟨by have:=H.hn;omega,?_⟩
 rcases H.hz with⟨h0,_,h2⟩|⟨Z,ha,hb,hc⟩
 ·exact .inl ⟨by rw[H.hn.1,h0];rfl,h2⟩
 ·exact .inr ⟨ha,hb.keep (k b (by rw[Z];simp)),hc⟩
theorem ztk(x:Tr)(sk si:Sl):∀u∈wm x sk si,u.oneCell'=true:=by
 intro u hu
 simp[wm]at hu
 rcases hu with rfl|rfl|rfl|rfl <;> simp[Value.oneCell',slV]
theorem z3v{ks:List Bt}(H:OKeys h ks bk sk){s:Bt}(hv:Blk h bv #[.string s])(hn:ks.length<=1048576)
  (hK:∀(sk':Sl) (h':zb) (kb:Nat),OKeys h' (ks++[s]) [kb] sk'->(kb∈bk\/h.size<=kb)->h.size<=h'.size->(∀c,c<h.size->c∉bk->h'[c]?=h[c]?)->K (.slice sk'.a sk'.len sk'.cap) h'):
  XRun Tp (AD #[23,23] 23 #[.slice sk.a sk.len sk.cap,.slice (some ⟨bv,0,none⟩) 1 cv]) h K:=by
 obtain⟨l1,l2,l3,l4⟩:=H
 obtain⟨b,cs,aa,hb,Z⟩:∃b cs,RowO h sk b cs 1/\(b∈bk\/h.size<=b)/\cut cs 0 (sk.len*1)=ks.map Di:=by
  rcases l4 with⟨rfl,rfl,h0⟩|⟨b,cs,rfl,e1,e2,e3,e4⟩
  ·refine⟨h.size,#[],⟨by omega,.inl ⟨l1,h0⟩⟩,.inr (Ad _),?_⟩
   rw[l1];rfl
  ·exact⟨b,cs,⟨by omega,.inr ⟨e1,e2,by omega⟩⟩,.inl (by simp),by rw[l1,Du];exact e4⟩
 have ab:∀c∈bk,c<h.size:=by
  intro c hc
  rcases l4 with⟨_,rfl,_⟩|⟨b,cs,rfl,_,e2,_⟩
  ·cases hc
  ·simp at hc;subst hc;exact e2.lt
 refine zkm (vs:=[.string s]) z3b aa hv rfl (λu hu=>by simp at hu;subst hu;simp[Value.oneCell']) (by omega) (by omega) λs' h' b' cs' N=>?_
 rw[Z]at N
 have hl:(ks++[s]).length=sk.len+1:=by simp[l1]
 refine hK s' h' b' ⟨by rw[hl];exact N.len,by rw[hl];omega,by rw[hl];exact N.cap,.inr ⟨b',cs',rfl,N.a,N.blk,by have:=N.size;omega,?_⟩⟩ ?_ N.grow λc hc hn=>N.old c hc λe=>?_
 ·rw[hl]
  have:=N.cut
  rw[Du]at this
  rw[this];simp
 ·rcases N.new with e|e
  ·rw[e];exact hb
  ·exact .inr e
 ·rcases N.new with e2|e2
  ·rcases hb with e3|e3
   ·exact hn (by rw[e,e2];exact e3)
   ·omega
  ·omega
theorem zzz{g h:zb}{x:Tr}{bf:Nat->List Nat}(H:OTp g x sk si bk bb b cs bf)(kb:∀c∈bb,h[c]?=g[c]?){w:Tr}{wk wi:Sl}(hv:Blk h bv (wm w wk wi).toArray)(hn:x.items.length<=1000000000)
  (hK:∀(si':Sl) (h':zb) (b':Nat) (cs':Array Value),si'.a=some ⟨b',0,none⟩->si'.len=x.items.length+1->x.items.length+1<=si'.cap->Blk h' b' cs'->si'.cap*4<=cs'.size->cut cs' 0 ((x.items.length+1)*4)=cut cs 0 (x.items.length*4)++wm w wk wi ->
   ((b'=b/\b∈bb)\/h.size<=b')->h.size<=h'.size->(∀c,c<h.size->c∉bb->h'[c]?=h[c]?)->K (.slice si'.a si'.len si'.cap) h'):
  XRun Tp (AD #[24,24] 24 #[.slice si.a si.len si.cap,.slice (some ⟨bv,0,none⟩) 1 cv]) h K:=by
 have Z:=H.hn.1
 obtain⟨b0,ae,ah⟩:∃b0,RowO h si b0 cs 4/\((b0=b/\b∈bb)\/b0=h.size):=by
  have aa:=OTp.row H (h':=h) kb
  rcases H.hz with⟨h0,_,h2⟩|⟨af,_⟩
  ·exact⟨h.size,⟨aa.le,.inl ⟨by rw[Z,h0];rfl,h2⟩⟩,.inr rfl⟩
  ·exact⟨b,aa,.inl ⟨rfl,by rw[af];simp⟩⟩
 refine zkm (vs:=wm w wk wi) zzr ae hv rfl (ztk w wk wi) (by omega) (by omega) λs' h' b' cs' N=>?_
 rw[Z]at N
 have ab:(b'=b/\b∈bb)\/h.size<=b':=by
  rcases N.new with e|e
  ·rcases ah with⟨e2,hm⟩|e2
   ·exact .inl ⟨by rw[e,e2],hm⟩
   ·exact .inr (by omega)
  ·exact .inr e
 refine hK s' h' b' cs' N.a N.len N.cap N.blk N.size N.cut ab N.grow λc hc hn=>N.old c hc λe=>?_
 rcases ab with⟨e2,hm⟩|e2
 ·exact hn (by rw[e,e2];exact hm)
 ·omega
end
section
variable {g':zb} {s:Bt} {bv cv:Nat} {K:zb -> Prop}
structure BT (lo hi:Nat) (g:zb) (b0:Nat) (v:Tr) (sk si:Sl) (bk bb:List Nat) (b:Nat) (cs:Array Value) (bf:Nat->List Nat):Prop where
 box:Blk g b0 (wm v sk si).toArray
 p:OTp g v sk si bk bb b cs bf
 ok:∀c∈bk,lo<=c/\c<hi/\c≠b0
 ob:∀c∈bb,lo<=c/\c<hi/\c≠b0
 oi:∀i,i<v.items.length->∀c∈bf i,lo<=c/\c<hi/\c≠b0
 lb:lo<=b0
 hg:hi<=g.size
def Own(lo hi:Nat)(g:zb)(b0:Nat)(v:Tr)(sk si:Sl):Prop:=∃(bk bb:List Nat) (b:Nat) (cs:Array Value) (bf:Nat->List Nat),BT lo hi g b0 v sk si bk bb b cs bf
section
variable {lo hi : Nat} {g : zb} {b0 : Nat} {v : Tr} {sk si : Sl}
theorem Own.box(H:Own lo hi g b0 v sk si):Blk g b0 (wm v sk si).toArray:=by
 obtain⟨bk,bb,b,cs,bf,B⟩:=H;exact B.box
theorem Own.low(H:Own lo hi g b0 v sk si):lo<=b0:=by
 obtain⟨bk,bb,b,cs,bf,B⟩:=H;exact B.lb
theorem BT.move{bk bb:List Nat}{b:Nat}{cs:Array Value}{bf:Nat->List Nat}(B:BT lo hi g b0 v sk si bk bb b cs bf)(f:∀c,c∈bk\/c∈bb\/(∃i,i<v.items.length/\c∈bf i)->g'[c]?=g[c]?):OTp g' v sk si bk bb b cs bf:=
 ⟨B.p.keys.frame λc hc=>f c (.inl hc),B.p.hn,by
  rcases B.p.hz with h|⟨h1,h2,h3,h4⟩
  ·exact .inl h
  ·exact .inr ⟨h1,h2,h3.keep (f b (.inr (.inl (by rw[h1];simp)))),h4⟩,λi hi=>(B.p.hi i hi).frame λc hc=>f c (.inr (.inr ⟨i,hi,hc⟩)),B.p.nk,B.p.d1,B.p.d2,B.p.d3,B.p.d4⟩
theorem Own.keep(H:Own lo hi g b0 v sk si)(k:Keep g.size g g'):Own lo hi g' b0 v sk si:=by
 obtain⟨bk,bb,b,cs,bf,B⟩:=H
 have hz:=k.size
 have hg:=B.hg
 refine⟨bk,bb,b,cs,bf,B.box.ofKeep k,B.move λc hc=>k.get c ?_,B.ok,B.ob,B.oi,B.lb,by omega⟩
 rcases hc with hc|hc|⟨i,hi,hc⟩
 ·have:=(B.ok c hc).2.1;omega
 ·have:=(B.ob c hc).2.1;omega
 ·have:=(B.oi i hi c hc).2.1;omega
theorem Own.ot(H:Own lo hi g b0 v sk si):∃bs:List Nat,OT g v bs (wm v sk si)/\∀c∈bs,lo<=c/\c≠b0:=by
 obtain⟨bk,bb,b,cs,bf,B⟩:=H
 refine⟨_,B.p.ot,λc hc=>?_⟩
 rcases zw7.1 hc with h|h|⟨i,hi,h⟩
 ·exact⟨(B.ok c h).1,(B.ok c h).2.2⟩
 ·exact⟨(B.ob c h).1,(B.ob c h).2.2⟩
 ·exact⟨(B.oi i hi c h).1,(B.oi i hi c h).2.2⟩
theorem Own.new{k:Int}(B:Blk g b0 (wm (.mk k s [] []) ⟨none,0,0⟩ ⟨none,0,0⟩).toArray)(h:lo<=b0)(hh:hi<=g.size):Own lo hi g b0 (.mk k s [] []) ⟨none,0,0⟩ ⟨none,0,0⟩:=
 ⟨[],[],0,#[],λ_=>[],B,⟨⟨rfl,CK _,CK _,.inl ⟨rfl,rfl,rfl⟩⟩,⟨rfl,CK _,CK _⟩,.inl ⟨rfl,rfl,rfl⟩,λi hi=>absurd hi (Nat.not_lt_zero i),List.nodup_nil,λc hc=>(by cases hc),λc hc=>(by cases hc),λc hc=>(by cases hc),λi j hi=>absurd hi (Nat.not_lt_zero i)⟩,λc hc=>(by cases hc),λc hc=>(by cases hc),λi hi=>absurd hi (Nat.not_lt_zero i),h,hh⟩
theorem qbm:ql Tp 23=true:=by kernel_rfl
theorem qbn:qy Tp 23=1:=by kernel_rfl
theorem qbo:ql Tp 24=true:=by kernel_rfl
theorem qbp:qy Tp 24=1:=by kernel_rfl
theorem Own.key(H:Own lo hi g b0 v sk si)(am:lo<=g.size)(hn:v.keys.length<=1048576)(hv:Blk g bv #[.string s])
  (hK:∀(g':zb) (s':Sl),Own lo g'.size g' b0 (.mk v.kind v.text (v.keys++[s]) v.items) s' si->Keep lo g g'->g.size<=g'.size->K g'):
  XRun Tp (AD #[23,23] 23 #[.slice sk.a sk.len sk.cap,.slice (some ⟨bv,0,none⟩) 1 cv]) g (λw g1=>∃x:Sl,w=.slice x.a x.len x.cap/\XRunU Tp (Aj 23 (.pointer (some ⟨b0,2,none⟩)) (.slice x.a x.len x.cap)) g1 K):=by
 obtain⟨bk,bb,b,cs,bf,B⟩:=H
 refine z3v B.p.keys hv hn λs' g1 kb ko kn z1 f1=>⟨s',rfl,?_⟩
 have aj:=B.box.lt
 have hg:=B.hg
 have ab:∀c∈bk,lo<=c/\c<g.size/\c≠b0:=λc hc=>by have:=B.ok c hc;exact⟨this.1,by omega,this.2.2⟩
 have aa:∀c∈bb,lo<=c/\c<g.size/\c≠b0:=λc hc=>by have:=B.ob c hc;exact⟨this.1,by omega,this.2.2⟩
 have Z:∀i,i<v.items.length->∀c∈bf i,lo<=c/\c<g.size/\c≠b0:=λi hi c hc=>by have:=B.oi i hi c hc;exact⟨this.1,by omega,this.2.2⟩
 have ai:b0∉bk:=λh=>(ab b0 h).2.2 rfl
 refine yy qbm qbn (B.box.keep (f1 b0 aj ai)) (by show 2<4;omega) rfl λg2 u1 u2 u3=>?_
 have ak:kb<g1.size:=by
  obtain⟨_,_,_,h|⟨b',cs',e,_,h,_⟩⟩:=ko
  ·exact absurd h.1 (by simp)
  ·rw[BR]at e;rw[e.1];exact h.lt
 have af:lo<=kb/\kb≠b0:=by
  rcases kn with h|h
  ·exact⟨(ab kb h).1,(ab kb h).2.2⟩
  ·exact⟨by omega,by omega⟩
 have ae:∀c,c<g.size->c∉bk->c≠kb:=λc hc hn e=>by
  subst e
  rcases kn with h|h
  ·exact hn h
  ·omega
 have fr:∀c,c<g.size->c∉bk->c≠b0->g2[c]?=g[c]?:=λc hc hn h0=>(u3 c h0).trans (f1 c hc hn)
 have ah:∀i,i<v.items.length->∀c∈bf i,c∉bk:=λi hi c hc h=>B.p.d2 c h i hi hc
 refine hK g2 s' ⟨[kb],bb,b,cs,bf,u1,⟨ko.frame λc hc=>u3 c ?_,B.p.hn,?_,λi hi=>(B.p.hi i hi).frame λc hc=>fr c (Z i hi c hc).2.1 (ah i hi c hc) (Z i hi c hc).2.2,by simp,λc hc=>?_,λc hc i hi hm=>?_,B.p.d3,B.p.d4⟩,λc hc=>?_,λc hc=>?_,λi hi c hc=>?_,B.lb,Ad _⟩ ⟨by omega,λj hj=>fr j (by omega) (λh=>?_) ?_⟩ (by omega)
 ·rw[BJ.1 hc];exact af.2
 ·rcases B.p.hz with h|⟨h1,h2,h3,h4⟩
  ·exact .inl h
  ·have hm:b∈bb:=by rw[h1];simp
   exact .inr ⟨h1,h2,h3.keep (fr b (aa b hm).2.1 (λh=>B.p.d1 b h hm) (aa b hm).2.2),h4⟩
 ·rw[BJ.1 hc]
  intro hm
  exact ae kb (aa kb hm).2.1 (λh=>B.p.d1 kb h hm) rfl
 ·rw[BJ.1 hc]at hm
  exact ae kb (Z i hi kb hm).2.1 (ah i hi kb hm) rfl
 ·rw[BJ.1 hc];exact⟨af.1,by omega,af.2⟩
 ·have:=aa c hc;exact⟨this.1,by omega,this.2.2⟩
 ·have:=Z i hi c hc;exact⟨this.1,by omega,this.2.2⟩
 ·have:=(ab j h).1;omega
 ·have:=B.lb;omega
theorem Own.item(H:Own lo hi g b0 v sk si)(an:lo<=g.size)(hn:v.items.length<=1000000){w:Tr}{wk wi:Sl}(hv:Blk g bv (wm w wk wi).toArray){bw:List Nat}(ow:OT g w bw (wm w wk wi))(ap:bv∉bw)(hw:∀c∈bw,lo<=c/\c≠b0/\hi<=c)
  (hK:∀(g':zb) (s':Sl),Own lo g'.size g' b0 (.mk v.kind v.text v.keys (v.items++[w])) sk s'->Keep lo g g'->g.size<=g'.size->K g'):
  XRun Tp (AD #[24,24] 24 #[.slice si.a si.len si.cap,.slice (some ⟨bv,0,none⟩) 1 cv]) g (λu g1=>∃x:Sl,u=.slice x.a x.len x.cap/\XRunU Tp (Aj 24 (.pointer (some ⟨b0,3,none⟩)) (.slice x.a x.len x.cap)) g1 K):=by
 obtain⟨bk,bb,b,cs,bf,B⟩:=H
 refine zzz B.p (λc hc=>rfl) hv (by omega) λs' g1 b' cs' e1 e2 e3 e4 e5 e6 ai z1 f1=>⟨s',rfl,?_⟩
 have am:=B.box.lt
 have hg:=B.hg
 have ab:∀c∈bk,lo<=c/\c<g.size/\c≠b0:=λc hc=>by have:=B.ok c hc;exact⟨this.1,by omega,this.2.2⟩
 have ah:∀c∈bb,lo<=c/\c<g.size/\c≠b0:=λc hc=>by have:=B.ob c hc;exact⟨this.1,by omega,this.2.2⟩
 have aa:∀i,i<v.items.length->∀c∈bf i,lo<=c/\c<g.size/\c≠b0:=λi hi c hc=>by have:=B.oi i hi c hc;exact⟨this.1,by omega,this.2.2⟩
 have ae:∀c∈bw,c∉bk/\c∉bb/\∀i,i<v.items.length->c∉bf i:=λc hc=>by
  have h1:=(hw c hc).2.2
  exact⟨λh=>by have:=(B.ok c h).2.1;omega,λh=>by have:=(B.ob c h).2.1;omega,λi hi h=>by have:=(B.oi i hi c h).2.1;omega⟩
 have ak:b0∉bb:=λh=>(B.ob b0 h).2.2 rfl
 refine yy qbo qbp (B.box.keep (f1 b0 am ak)) (by show 3<4;omega) rfl λg2 u1 u2 u3=>?_
 have Z:lo<=b'/\b'≠b0:=by
  rcases ai with⟨h,hm⟩|h
  ·rw[h];exact⟨(ah b hm).1,(ah b hm).2.2⟩
  ·exact⟨by omega,by omega⟩
 have af:∀c,c<g.size->c∉bb->c≠b':=λc hc hn e=>by
  subst e
  rcases ai with⟨h,hm⟩|h
  ·rw[h]at hn;exact hn hm
  ·omega
 have fr:∀c,c<g.size->c∉bb->c≠b0->g2[c]?=g[c]?:=λc hc hn h0=>(u3 c h0).trans (f1 c hc hn)
 have aj:∀i,i<v.items.length->∀c∈bf i,c∉bb:=λi hi c hc h=>B.p.d3 c h i hi hc
 have N:=OTp.ins (h':=g2) B.p (k:=v.items.length) (Ad _) (w:=w) (bw:=bw) (cw:=wm w wk wi) (ow.frame λc hc=>fr c (ow.lt c hc) (ae c hc).2.1 (hw c hc).2.1)
  (λi hi c hc=>fr c (aa i hi c hc).2.1 (aj i hi c hc) (aa i hi c hc).2.2) e1 (e4.keep (u3 b' Z.2)) e2 e3 e5 (by omega)
  (by
   have hl:(cut cs 0 (v.items.length*4)).length<=v.items.length*4:=by unfold cut;rw[AN];omega
   rw[e6,Bf hl,AU hl,A8])
  (λi hi hm=>af b' (aa i hi b' hm).2.1 (aj i hi b' hm) rfl) (λhm=>af b' (ow.lt b' hm) (ae b' hm).2.1 rfl) (λc hc i hi=>(ae c hc).2.2 i hi)
  (B.p.keys.frame λc hc=>fr c (ab c hc).2.1 (B.p.d1 c hc) (ab c hc).2.2) B.p.nk (λhm=>af b' (ab b' hm).2.1 (B.p.d1 b' hm) rfl) (λc hc i hi=>B.p.d2 c hc i hi) (λc hc hm=>(ae c hm).1 hc)
 rw[A5,Dc]at N
 refine hK g2 s' ⟨bk,[b'],b',cs',_,u1,N,λc hc=>?_,λc hc=>?_,λi hi c hc=>?_,B.lb,Ad _⟩ ⟨by omega,λj hj=>fr j (by omega) (λh=>?_) ?_⟩ (by omega)
 ·have:=ab c hc;exact⟨this.1,by omega,this.2.2⟩
 ·rw[BJ.1 hc];exact⟨Z.1,by have:=e4.lt;omega,Z.2⟩
 ·have hc:c∈(if i<v.items.length then bf i else if i=v.items.length then bw else bf (i-1)):=hc
  have hi:i<v.items.length+1:=by
   have:(v.items++[w]).length=v.items.length+1:=by simp
   rw[<-this];exact hi
  split at hc
  ·rename_i h;have:=aa i h c hc;exact⟨this.1,by omega,this.2.2⟩
  ·rw[if_pos (by omega)]at hc
   have:=ow.lt c hc
   exact⟨(hw c hc).1,by omega,(hw c hc).2.1⟩
 ·have:=(ah j h).1;omega
 ·have:=B.lb;omega
end
end
end Go.X
end
section
namespace Go.X
open Go Go.X Go.Proofs Go.RowKit
section
variable {h:zb} {l:Bs} {K:Value -> zb -> Prop} {lo:Nat}
theorem zbb{c:UInt8}(hK:K (.int .i64 (Lib.indexByte l c)) h):XC Tp 212 #[.string (bl l),.int .u8 (c.toNat:Int)] h K:=by
 refine XC.of_calls λB d=>(jb (bl l) (c.toNat:Int) (mk B d h)).mono ?_
 rintro e w' ⟨rfl,rfl⟩
 refine⟨_,rfl,rfl,rfl,rfl,?_⟩
 have e1:(bl l).data.toList=l:=jd l
 rw[e1,z6l];exact hK
def zxc(F:FuncId)(A C:Array Value)(lo:Nat)(p:UInt8->Bool)(h0:zb):Prop:=
 qa Tp F=true/\∀(c:UInt8) (h:zb) (K:Value->zb->Prop),Keep lo h0 h->(∀h',Keep lo h h'->K (.bool (p c)) h')->XC Tp F (A++#[.int .u8 (c.toNat:Int)]++C) h K
theorem z3w{F:FuncId}{A C:Array Value}{p:UInt8->Bool}(H:zxc F A C lo p h)(hl:l.length<=1152921504606846976)(hK:∀h',Keep lo h h'->K (.int .i64 (Zi p l:Int)) h'):
  XC Tp 256 #[.string (bl l),.func (.func F) A C] h K:=by
 obtain⟨hF,H⟩:=H
 apply ztg
 rw[zd]
 refine⟨λi g=>∃k:Nat,i=(k:Int)/\k<=l.length/\Keep lo h g/\∀j (hj:j<k) (aa:j<l.length),p l[j]=true,λi _=>l.length-i.toNat,⟨0,rfl,by omega,Keep.refl _ _,λj hj=>by omega⟩,?_⟩
 rintro i g ⟨k,rfl,hk,kg,hp⟩
 refine⟨λhx=>?_,λhx=>?_⟩
 ·have Z:k<l.length:=by have:=of_decide_eq_true hx;omega
  refine⟨⟨by omega,by omega⟩,hF,?_⟩
  rw[zo,Ae,Zh Z]
  refine H _ _ _ kg λh' k'=>⟨_,rfl,λhz=>?_,λhz=>?_⟩
  ·have e:Zi p l=k:=zgh hk (λj hj=>hp j hj (by omega)) (λ_=>by simpa using hz)
   rw[<-e];exact hK h' (kg.trans k' (Ad _))
  ·rw[Zp Z (by omega)]
   refine⟨⟨k+1,rfl,by omega,kg.trans k' (Ad _),λj hj aa=>?_⟩,by show l.length-((k+1:Nat):Int).toNat<l.length-((k:Nat):Int).toNat;omega⟩
   rcases AF j k with h9|h9
   ·exact hp j h9 aa
   ·have:j=k:=by omega
    subst this
    simpa using hz
 ·have Z:k=l.length:=by have:=of_decide_eq_false hx;omega
  have e:Zi p l=l.length:=zgh (Ad _) (λj hj=>hp j (by omega) hj) (λhh=>absurd hh (by omega))
  rw[<-e];exact hK g kg
theorem zgp{b:Nat}(hb:Blk h b #[.string (bl l)])(aa:b<lo):zxc 292 #[] #[.pointer (some ⟨b,0,none⟩)] lo (jk l) h:=by
 refine⟨by kernel_rfl,λc g K kg hK=>?_⟩
 show XC Tp 292 #[.int .u8 (c.toNat:Int),.pointer (some ⟨b,0,none⟩)] g K
 apply zg8
 have Z:Blk g b #[.string (bl l)]:=by
  obtain⟨T,e⟩:=hb
  exact⟨T,by rw[kg.get b aa];exact e⟩
 refine⟨bl l,Z.cell rfl,zbb ⟨_,rfl,?_⟩⟩
 have e:decide (Lib.indexByte l c>=0)=jk l c:=by
  unfold jk
  rw[Az,decide_eq_true_eq,decide_eq_true_eq]
  exact(Zq c l).2
 rw[e];exact hK g (Keep.refl _ _)
theorem zpj{gl M:Fr}(hM:Fr.le gl M)(ag:AgM M h):zxc 259 #[] #[] h.size (jk y7) h:=by
 refine⟨by kernel_rfl,λc g K kg hK=>?_⟩
 have e:(bif decide ((c.toNat:Int)>=97)then decide ((c.toNat:Int)<=122)else false)=jk y7 c:=by
  have Z:(BO 256).all (λn=>(bif decide ((n:Int)>=97)then decide ((n:Int)<=122)else false)==jk y7 (BF n))=true:=by kernel_rfl
  have:=A4.1 Z c.toNat (BK.2 c.toNat_lt)
  rw[beq_iff_eq,UInt8.ofNat_toNat]at this
  exact this
 refine(PC.px (gl:=gl) (args:=[Arg.mk (.int .u8) (c.toNat:Int)]) (rt:=[.bool]) (R:=λb=>b=jk y7 c) ?_ hM (ag.keep kg) (yu (a:=Arg.mk (.int .u8) _) (Jt _ _) j9)).go λv h' M' r L hv hr=>?_
 ·apply zmz;exact e
 ·obtain rfl:=z4v hv
  rw[hr]
  exact hK h' (L.keep.mono kg.size)
end
section
variable {K:Value -> zb -> Prop} {h:zb} {a e:Int} {M:Fr} {v:Value}
theorem qag:ql Tp 90=true:=by kernel_rfl
theorem qah:qy Tp 90=3:=by kernel_rfl
abbrev zky(k f t:Int):List Value:=[.int .i64 k,.int .i64 f,.int .i64 t]
theorem zxd{g:zb}{b:Nat}{x y z p q r:Int}(B:Blk g b (zky x y z).toArray){K:zb->Prop}(hK:∀g',(∀j,j≠b->g'[j]?=g[j]?)->g'.size=g.size->Blk g' b (zky p q r).toArray->K g'):
  XRunU Tp (Aj 90 (.pointer (some ⟨b,0,none⟩)) (.agg #[.int .i64 p,.int .i64 q,.int .i64 r])) g K:=by
 refine X0 (vs:=zky p q r) qag B rfl qah (Ad 3) (λu hu=>?_) λg' q1 q2 q3=>hK g' q3 q2 q1
 simp at hu
 rcases hu with rfl|rfl|rfl <;> rfl
theorem zxe{c:Nat}{a k t:Int}(hc:Blk h c #[.int .i64 a])(hK:∀h',Keep h.size h h'->K (.tuple #[.agg #[.int .i64 k,.int .i64 a,.int .i64 t],.int .i64 0]) h'):
  XC Tp 254 #[.int .i64 k,.int .i64 t,.pointer (some ⟨c,0,none⟩)] h K:=by
 apply zkf
 intro h1
 have k1:Keep h.size h h1:=Keep.push _ _ (Ad _)
 have B1:Blk h1 h.size (zky 0 0 0).toArray:=Blk.new _ _ _
 have Z:Blk h1 c #[.int .i64 a]:=hc.ofKeep k1
 refine⟨a,Z.cell rfl,zxd B1 λg' q1 q2 q3=>⟨k,a,t,q3.ld,hK g' (k1.trans ⟨by omega,λi hi=>q1 i (by omega)⟩ (Ad _))⟩⟩
theorem qai{x:Int×Int×Int}(h:zc1 M [.pair (.int .i64) (.pair (.int .i64) (.int .i64)),.int .i64] (x,e) v):v=.tuple #[.agg #[.int .i64 x.1,.int .i64 x.2.1,.int .i64 x.2.2],.int .i64 e]:=by
 obtain⟨vs,⟨v1,rest,rfl,hx,v2,rfl,hy⟩,rfl⟩:=h
 rw[qo hy]
 unfold RdV at hx
 simp only[zls,if_true]at hx
 obtain⟨cs,rfl,c1,c2,rfl,e1,c3,c4,rfl,e3,e4⟩:=hx
 have e1:c1=[.int .i64 x.1]:=e1
 have e3:c3=[.int .i64 x.2.1]:=e3
 have e4:c4=[.int .i64 x.2.2]:=e4
 subst e1 e3 e4
 rfl
theorem zxf{gl M:Fr}(hM:Fr.le gl M)(ag:AgM M h)(hK:∀h',Keep h.size h h'->K (.tuple #[.agg #[.int .i64 0,.int .i64 a,.int .i64 a],.int .i64 e]) h'):
  XC Tp 255 #[.int .i64 a,.int .i64 e] h K:=by
 refine(PC.px (gl:=gl) (args:=[Arg.mk (.int .i64) a,Arg.mk (.int .i64) e]) (rt:=[.pair (.int .i64) (.pair (.int .i64) (.int .i64)),.int .i64]) (R:=λr=>r=((0,(a,a)),e)) ?_ hM ag (yu (a:=Arg.mk (.int .i64) _) (Jt _ _) (yu (a:=Arg.mk (.int .i64) _) (Jt _ _) j9))).go λv h' M' r L hv hr=>?_
 ·apply zki;rfl
 ·subst hr
  rw[qai hv]
  exact hK h' L.keep
theorem zxg{l:Bs}(hK:∀h',Keep h.size h h'->h'.size=h.size+1->Blk h' h.size #[.string (bl l)]->K (.func (.func 292) #[] #[.pointer (some ⟨h.size,0,none⟩)]) h'):
  XC Tp 257 #[.string (bl l)] h K:=by
 apply zmv
 intro h1
 exact hK h1 (Keep.push _ _ (Ad _)) (Al _) (Blk.new _ _ _)
def zm5(s:Bs)(a:Nat):Value:=if(Jv s a).2.2=0 then .tuple #[.agg #[.int .i64 (Jv s a).1,.int .i64 (a:Int),.int .i64 ((Jv s a).2.1:Int)],.int .i64 0]else .tuple #[.agg #[.int .i64 0,.int .i64 ((Jv s a).2.1:Int),.int .i64 ((Jv s a).2.1:Int)],.int .i64 (Jv s a).2.2]
theorem qa0{x:Bool×Bt×Int}(h:zc1 M [.pair .bool (.pair .str (.int .i64)),.int .i64] (x,e) v):v=.tuple #[.agg #[.bool x.1,.string x.2.1,.int .i64 x.2.2],.int .i64 e]:=by
 obtain⟨vs,⟨v1,rest,rfl,hx,v2,rfl,hy⟩,rfl⟩:=h
 rw[qo hy]
 unfold RdV at hx
 simp only[zls,if_true]at hx
 obtain⟨cs,rfl,c1,c2,rfl,e1,c3,c4,rfl,e3,e4⟩:=hx
 have e1:c1=[.bool x.1]:=e1
 have e3:c3=[.string x.2.1]:=e3
 have e4:c4=[.int .i64 x.2.2]:=e4
 subst e1 e3 e4
 rfl
end
section
variable {gl:Fr} {s:Bs} {a t:Nat} {k:Int}
theorem z7f(l:Bs)(c:UInt8):decide (Lib.indexByte l c>=0)=jk l c:=by
 unfold jk
 rw[Az,decide_eq_true_eq,decide_eq_true_eq]
 exact(Zq c l).2
theorem zz0:(BO 256).all (λn=>(bif ((n:Int)==45)then true else(bif decide ((n:Int)>=48)then decide ((n:Int)<=57)else false))==jk zmq (BF n))=true:=by kernel_rfl
theorem z3x(c:UInt8):(bif ((c.toNat:Int)==45)then true else(bif decide ((c.toNat:Int)>=48)then decide ((c.toNat:Int)<=57)else false))=jk zmq c:=by
 have:=A4.1 zz0 c.toNat (BK.2 c.toNat_lt)
 rw[beq_iff_eq,UInt8.ofNat_toNat]at this
 exact this
theorem zz1{R:Int->Prop}(h:R (Yo s)):PC Tp gl 260 [Arg.mk .str (bl s)] [.int .i64] R:=by
 apply zo8
 have e:∀l:Bs,((bl s:Bt).toList==((⟨l.toArray⟩:Bt):Bt).toList)=decide (s=l):=λl=>zcb s l
 have e1:=e [116,114,117,101];have e2:=e [102,97,108,115,101];have e3:=e [110,117,108,108]
 rw[e1,e2,e3]
 unfold Yo at h
 refine⟨λhx=>?_,λhx=>⟨λhy=>?_,λhy=>⟨λhz=>?_,λhz=>?_⟩⟩⟩
 ·rw[if_pos (of_decide_eq_true hx)]at h;exact h
 ·rw[if_neg (of_decide_eq_false hx),if_pos (of_decide_eq_true hy)]at h;exact h
 ·rw[if_neg (of_decide_eq_false hx),if_neg (of_decide_eq_false hy),if_pos (of_decide_eq_true hz)]at h;exact h
 ·rw[if_neg (of_decide_eq_false hx),if_neg (of_decide_eq_false hy),if_neg (of_decide_eq_false hz)]at h;exact h
theorem zm6{c:UInt8}{t:Bs}(h:s.drop a=c::t):Jv s a=
  if c∈signB then(2+Lib.indexByte signB c,a+1,0)
  else if c∈Wq then(1,a+Zi (jk Wq) (s.drop a),0)
  else if c=34 then(if(ya s a).2.2=0 then(8,(ya s a).2.1,0)else(0,(ya s a).2.1,(ya s a).2.2))
  else if c∈zmq then(if(zp ((s.drop a).take (Zi (jk zd8) (s.drop a)))).2=0 then(9,a+Zi (jk zd8) (s.drop a),0)else(0,a,(zp ((s.drop a).take (Zi (jk zd8) (s.drop a)))).2))
  else if Yo ((s.drop a).take (Zi (jk y7) (s.drop a)))=0 then(0,a,2)else(Yo ((s.drop a).take (Zi (jk y7) (s.drop a))),a+Zi (jk y7) (s.drop a),0):=by
 unfold Jv;rw[h]
theorem zco(h:Jv s a=(k,t,0)):zm5 s a=.tuple #[.agg #[.int .i64 k,.int .i64 (a:Int),.int .i64 (t:Int)],.int .i64 0]:=by unfold zm5;rw[h];rfl
theorem ze2{k e:Int}(h:Jv s a=(k,t,e))(he:¬e=0):zm5 s a=.tuple #[.agg #[.int .i64 0,.int .i64 (t:Int),.int .i64 (t:Int)],.int .i64 e]:=by unfold zm5;rw[h,if_neg he]
set_option maxHeartbeats 2000000 in
theorem z7g{gl M:Fr}(hg:GL gl)(hM:Fr.le gl M){h:zb}(ag:AgM M h)(hs:s.length<=65536)(ha:a<s.length){K:Value->zb->Prop}(hK:∀h',Keep h.size h h'->K (zm5 s a) h'):
  XC Tp 198 #[.string (bl s),.int .i64 (a:Int)] h K:=by
 have hd:s.drop a=s[a]::s.drop (a+1):=Ay ha
 have ay:s.drop a≠[]:=by rw[hd];exact List.cons_ne_nil _ _
 have ax:(s.drop a).length=s.length-a:=As
 have eV:=zm6 hd
 generalize hc:s[a]=c at eV hd
 apply zo5
 intro h1 h2
 have z1:h1.size=h.size+1:=Al _
 have z2:h2.size=h1.size+1:=Al _
 have k1:Keep h.size h h1:=Keep.push _ _ (Ad _)
 have k2:Keep h1.size h1 h2:=Keep.push _ _ (Ad _)
 have ak:Keep h.size h h2:=k1.trans k2 (by omega)
 have B0:Blk h2 h.size #[.int .i64 (a:Int)]:=(Blk.new h #[.int .i64 (a:Int)] 3).ofKeep k2
 have B1:Blk h2 h1.size (zky 0 0 0).toArray:=Blk.new _ _ _
 clear_value h1 h2
 have ae:AgM M h2:=ag.keep ak
 have done:∀(k f t e:Int) (g:zb),Keep h2.size h2 g->.tuple #[.agg #[.int .i64 k,.int .i64 f,.int .i64 t],.int .i64 e]=zm5 s a ->
   XRunU Tp (Aj 90 (.pointer (some ⟨h1.size,0,none⟩)) (.agg #[.int .i64 k,.int .i64 f,.int .i64 t])) g (λg'=>∃r1 r2 r3:Int,zh g' ⟨h1.size,0,none⟩ 0 [.int .i64 r1,.int .i64 r2,.int .i64 r3]/\K (.tuple #[.agg #[.int .i64 r1,.int .i64 r2,.int .i64 r3],.int .i64 e]) g'):=by
  intro k f t e g kg he
  refine zxd (B1.ofKeep kg) λg' q1 q2 q3=>⟨k,f,t,q3.ld,?_⟩
  rw[he]
  have hz:=kg.size
  exact hK g' ((ak.trans kg (by omega)).trans (c:=g') (m:=h.size) ⟨by omega,λi hi=>q1 i (by omega)⟩ (Ad _))
 have ex:(bl s).extract (a:Int).toNat (s.length:Int).toNat=bl (s.drop a):=zmm (n:=(a:Int)) rfl
 have b0:za (bl (s.drop a)) (0:Int).toNat=(c.toNat:Int):=by rw[zo,hd];rfl
 rw[zd]
 refine⟨(a:Int),B0.cell rfl,?_⟩
 rw[ex,zd,b0]
 refine⟨⟨by omega,by omega,by omega⟩,⟨by omega,by omega⟩,?_⟩
 have bs:(⟨#[123,125,91,93,44,58]⟩:Bt)=bl signB:=rfl
 have bb:(⟨#[32,9,10,13]⟩:Bt)=bl Wq:=rfl
 have bn:(⟨#[45,43,46,48,49,50,51,52,53,54,55,56,57,101,69]⟩:Bt)=bl zd8:=rfl
 rw[bs,bb,bn]
 have af:∀n:Nat,n<=s.length->Aa .i64 ((a:Int)+(n:Int))=((a+n:Nat):Int):=λn hn=>by rw[w64 (by omega)];omega
 refine zbb ⟨_,rfl,?_⟩
 rw[z7f]
 refine⟨λhx=>?_,λhx=>?_⟩
 ·have hx:=of_decide_eq_true hx
  rw[if_pos hx]at eV
  have hr:0<=Lib.indexByte signB c/\Lib.indexByte signB c<6:=by
   have:∀c∈signB,0<=Lib.indexByte signB c/\Lib.indexByte signB c<6:=by decide
   exact this c hx
  refine⟨(a:Int),B0.cell rfl,by kernel_rfl,?_⟩
  refine zxe B0 λg kg=>⟨_,_,_,_,rfl,done _ _ _ _ g kg ?_⟩
  rw[zco eV,w64 (n:=2+Lib.indexByte signB c) (by omega),show Aa .i64 ((a:Int)+1)=((a+1:Nat):Int)from af 1 (by omega)]
 have hx:=of_decide_eq_false hx
 rw[if_neg hx]at eV
 refine zbb ⟨_,rfl,?_⟩
 rw[z7f]
 have aj:=λp=>zoz p (s.drop a)
 refine⟨λhy=>?_,λhy=>?_⟩
 ·have hy:=of_decide_eq_true hy
  rw[if_pos hy]at eV
  refine⟨(a:Int),B0.cell rfl,zxg λg kg zg Bg=>⟨_,rfl,kg.get h.size (by omega),?_⟩⟩
  refine z3w (lo:=g.size) (zgp Bg (by omega)) (by omega) λg2 Z=>⟨_,rfl,?_,by kernel_rfl,?_⟩
  ·rw[Z.get h.size (by omega)];exact kg.get h.size (by omega)
  have k3:Keep h2.size h2 g2:=kg.trans Z (by omega)
  refine zxe (B0.ofKeep k3) λg3 am=>⟨_,_,_,_,rfl,done _ _ _ _ g3 (k3.trans am k3.size) ?_⟩
  have:=aj (jk Wq)
  rw[zco eV,af _ (by omega)]
 have hy:=of_decide_eq_false hy
 rw[if_neg hy]at eV
 rw[show((c.toNat:Int)==34)=decide (c=34)from u8i (n:=34) (by omega),z3x]
 refine⟨λhz=>?_,λhz=>⟨λhw=>?_,λhw=>?_⟩⟩
 ·have hz:=of_decide_eq_true hz
  rw[if_pos hz]at eV
  refine⟨(a:Int),B0.cell rfl,?_⟩
  refine((z7b hg (t:=s) (a:=(a:Int)) (by omega) (R:=λr=>r=zzx s (a:Int)) rfl).px hM ae (yu (a:=Arg.mk .str _) (rdStr _) (yu (a:=Arg.mk (.int .i64) _) (Jt _ _) j9))).go λv g M' r L hv hr=>?_
  have he:zzx s (a:Int)=(((ya s a).2.1:Int),(ya s a).2.2):=by
   unfold zzx;rw[if_neg (by omega),Ae]
  rw[he]at hr
  subst hr
  rw[zm4 hv]
  refine⟨_,_,rfl,λaa=>⟨by kernel_rfl,?_⟩,λaa=>⟨by kernel_rfl,?_⟩⟩
  ·refine zxf hM (ae.keep L.keep) λg2 Z=>⟨_,_,_,_,rfl,done _ _ _ _ g2 (L.keep.trans Z L.keep.size) ?_⟩
   have hn:¬(ya s a).2.2=0:=by simpa using aa
   rw[if_neg hn]at eV
   rw[ze2 eV hn]
  ·refine zxe (B0.ofKeep L.keep) λg2 Z=>⟨_,_,_,_,rfl,done _ _ _ _ g2 (L.keep.trans Z L.keep.size) ?_⟩
   have hn:(ya s a).2.2=0:=by simpa using aa
   rw[if_pos hn]at eV
   rw[zco eV]
 ·have hz:=of_decide_eq_false hz
  have hw:=of_decide_eq_true hw
  rw[if_neg hz,if_pos hw]at eV
  refine⟨(a:Int),B0.cell rfl,zxg λg kg zg Bg=>⟨_,rfl,kg.get h.size (by omega),?_⟩⟩
  have au:=aj (jk zd8)
  refine z3w (lo:=g.size) (zgp Bg (by omega)) (by omega) λg2 Z=>⟨_,rfl,?_,?_⟩
  ·rw[Z.get h.size (by omega)];exact kg.get h.size (by omega)
  have k3:Keep h2.size h2 g2:=kg.trans Z (by omega)
  rw[af _ (by omega)]
  have ai:(bl s).extract (a:Int).toNat ((a+Zi (jk zd8) (s.drop a):Nat):Int).toNat=bl ((s.drop a).take (Zi (jk zd8) (s.drop a))):=by
   rw[Ae,Ae,zt,show a+Zi (jk zd8) (s.drop a)-a=Zi (jk zd8) (s.drop a)by omega]
  refine⟨(a:Int),(B0.ofKeep k3).cell rfl,⟨by omega,by omega,by omega⟩,?_⟩
  rw[ai]
  refine((zj1 (gl:=gl) (s:=(s.drop a).take (Zi (jk zd8) (s.drop a))) (by rw[AN];omega) (R:=λr=>r=(nmB (zp ((s.drop a).take (Zi (jk zd8) (s.drop a)))).1,(zp ((s.drop a).take (Zi (jk zd8) (s.drop a)))).2)) rfl).px hM (ae.keep k3) (yu (a:=Arg.mk .str _) (rdStr _) j9)).go λv g3 M' r L hv hr=>?_
  subst hr
  rw[qa0 hv]
  generalize hq:(s.drop a).take (Zi (jk zd8) (s.drop a))=w at eV
  refine⟨_,_,_,_,rfl,?_⟩
  intro ah
  have an:Keep g3.size g3 ah:=Keep.push _ _ (Ad _)
  have ar:Blk ah g3.size #[.bool false,.string ⟨#[]⟩,.int .i64 0]:=Blk.new _ _ _
  have k4:Keep h2.size h2 ah:=(k3.trans L.keep k3.size).trans an (by have:=L.keep.size;have:=k3.size;omega)
  clear_value ah
  refine X0 (vs:=[.bool (nmB (zp w).1).1,.string (nmB (zp w).1).2.1,.int .i64 (nmB (zp w).1).2.2]) (by kernel_rfl) ar rfl (by kernel_rfl) (Ad 3) (λu hu=>?_) λap q1 q2 q3=>?_
  ·simp at hu
   rcases hu with rfl|rfl|rfl <;> rfl
  have k5:Keep h2.size h2 ap:=k4.trans ⟨by omega,λi hi=>q3 i (by have:=L.keep.size;have:=k3.size;omega)⟩ (Ad _)
  refine⟨λaa=>⟨(a:Int),(B0.ofKeep k5).cell rfl,by kernel_rfl,?_⟩,λaa=>⟨by kernel_rfl,?_⟩⟩
  ·refine zxf hM (ae.keep k5) λg4 ab=>⟨_,_,_,_,rfl,done _ _ _ _ g4 (k5.trans ab k5.size) ?_⟩
   have hn:¬(zp w).2=0:=by simpa using aa
   rw[if_neg hn]at eV
   rw[ze2 eV hn]
  ·refine zxe (B0.ofKeep k5) λg4 ab=>⟨_,_,_,_,rfl,done _ _ _ _ g4 (k5.trans ab k5.size) ?_⟩
   have hn:(zp w).2=0:=by simpa using aa
   rw[if_pos hn]at eV
   rw[zco eV]
 ·have hz:=of_decide_eq_false hz
  have hw:=of_decide_eq_false hw
  rw[if_neg hz,if_neg hw]at eV
  have au:=aj (jk y7)
  refine z3w (lo:=h2.size) (zpj hM ae) (by omega) λg2 Z=>⟨_,rfl,⟨by omega,by omega,by omega⟩,?_⟩
  have ai:(bl (s.drop a)).extract (0:Int).toNat ((Zi (jk y7) (s.drop a):Nat):Int).toNat=bl ((s.drop a).take (Zi (jk y7) (s.drop a))):=by
   rw[Ae,zt];rfl
  rw[ai]
  refine((zz1 (gl:=gl) (s:=(s.drop a).take (Zi (jk y7) (s.drop a))) (R:=λr=>r=Yo ((s.drop a).take (Zi (jk y7) (s.drop a)))) rfl).px hM (ae.keep Z) (yu (a:=Arg.mk .str _) (rdStr _) j9)).go λv g3 M' r L hv hr=>?_
  subst hr
  rw[z8q hv]
  generalize hq:(s.drop a).take (Zi (jk y7) (s.drop a))=w at eV
  have k5:Keep h2.size h2 g3:=Z.trans L.keep Z.size
  refine⟨_,rfl,λaa=>⟨(a:Int),(B0.ofKeep k5).cell rfl,by kernel_rfl,?_⟩,λaa=>⟨(a:Int),(B0.ofKeep k5).cell rfl,by kernel_rfl,?_⟩⟩
  ·refine zxe (B0.ofKeep k5) λg4 ab=>⟨_,_,_,_,rfl,done _ _ _ _ g4 (k5.trans ab k5.size) ?_⟩
   have hn:¬Yo w=0:=by simpa using aa
   rw[if_neg hn]at eV
   rw[zco eV,af _ (by omega)]
  ·refine zxf hM (ae.keep k5) λg4 ab=>⟨_,_,_,_,rfl,done _ _ _ _ g4 (k5.trans ab k5.size) ?_⟩
   have hn:Yo w=0:=by simpa using aa
   rw[if_pos hn]at eV
   rw[ze2 eV (by decide)]
end
end Go.X
end
section
namespace Go.X
open Go Go.Code
section
variable {ro:Option Nat} {n:Nat} {P:Program} {f:FuncId} {args:Array Value} {w:World} {o:Oper} {a:Act} {e:Env} {h:zb}
abbrev rf(ro:Option Nat):Fence:={ Fence.wide with round:=ro }
def zeo(K:Act->World->Prop):Exit->Act->World->Prop
 |.normal,a,w=>K a w
 |_,_,_=>False
theorem Qd{K:Act->World->Prop}:¬LetsOut (zeo K):=λ⟨_,_,h⟩=>h
theorem zz2{R:Ending->World->Prop}(h:Calls P f args w R):CallsIn (rf ro) n P f args w R:=by
 have h1:CallsIn Fence.wide n P f args w R:=callsIn_wide.2 h
 exact h1
theorem z3y{row:String}{R:Value->World->Prop}(h:Rows P row args w R):RowsIn (rf ro) n P row args w R:=by
 have h1:RowsIn Fence.wide n P row args w R:=λc cs _=>let ⟨v,w',r,s⟩:=h c cs;⟨v,w',r,stepsIn_wide.2 s⟩
 exact h1
def wz(o:Oper):Bool:=match o.op with
 |.defer _=>false
 |_=>true
theorem zpk(h:wz o=true):∀c,o.op≠.defer c:=by
 intro c e
 unfold wz at h
 rw[e]at h;cases h
theorem z7h(hd:wz o=true){K:Act->World->Prop}{Q:Exit->Act->World->Prop}(h:o.wp P a w K Q):o.wpIn (rf ro) n P a w K Q:=by
 refine⟨λ_ _=>trivial,?_⟩
 rw[Oper.semAt_eq _ _ _ (zpk hd)]
 unfold Oper.wp at h
 generalize (execOp a.eval o).run P w=r at *
 cases r with
 |ok x w'=>
  cases x with
  |enter f args=>exact⟨λhx=>(by cases hx),zz2 h⟩
  |row row args=>exact⟨λhx=>(by cases hx),z3y h⟩
  |value v=>exact h
  |skip=>exact h
  |defer d=>exact h
  |_=>exact h.elim
 |halt x w'=>cases x <;> first|exact h|exact h.elim
theorem zgq{ro:Option Nat}{n:Nat}{P:Program}{ops:Array Oper}{K:Act->World->Prop}{Q:Exit->Act->World->Prop}: ∀(l l2:List Oper) (a:Act) (w:World),l.all wz=true->wpList P ops (zeo K) l a w->(∀a w,K a w->wpListIn (rf ro) n P ops Q l2 a w)->wpListIn (rf ro) n P ops Q (l++l2) a w
 |[],l2,a,w,_,h,hK=>hK a w h
 |o::l,l2,a,w,hd,h,hK=>by
  rw[DL,Bm]at hd
  rw[Bu]
  unfold wpListIn
  unfold wpList at h
  by_cases hw:Bl o (yielded ops a.tmps)=true
  ·rw[if_pos hw]at h ⊢
   rcases h with h|⟨_,h⟩
   ·have h1:=z7h (ro:=ro) (n:=n) hd.1 h
    have h2:=Oper.wpIn_mono (λa w hq=>zgq l l2 a w hd.2 hq hK) h1
    refine⟨h2.1,?_⟩
    have h3:=h2.2
    revert h3
    generalize (o.semAt (rf ro).round a.eval).run P w=r
    cases r with
    |ok x w'=>
     cases x with
     |enter f args=>exact λh3=>⟨h3.1,CallsIn.mono h3.2 λe Z he=>by cases e <;> first|exact he|exact he.elim|exact(Qd he).elim⟩
     |round l f tmps assign body=>exact λh3=>⟨h3.1,RoundIn.mono h3.2 λe Z he=>by cases e <;> first|exact he|exact he.elim|exact(Qd he).elim⟩
     |_=>exact λh3=>h3
    |halt x w'=>cases x <;> first|exact λh3=>h3|exact λh3=>h3.elim
   ·exact(Qd h).elim
  ·rw[if_neg hw]at h ⊢
   exact⟨λ_ _=>trivial,zgq l l2 _ _ hd.2 h hK⟩
theorem zrh{ro:Option Nat}{n:Nat}{P:Program}{md:Region.Mode}{ops:Array Oper}{K:Act->World->Prop}(hd:∀(i:Nat) (o:Oper),ops[i]?=some o->wz o=true):∀(fuel:Nat) (listed:Array Bool) (a:Act) (w:World),wpAny P md ops (zeo K) fuel listed a w->wpAnyIn (rf ro) n P md ops (zeo K) fuel listed a w
 |0,_,_,_,h=>h
 |fuel+1,listed,a,w,h=>by
  refine⟨h.1,λi hi=>?_⟩
  have h2:=h.2 i hi
  unfold wpOp at h2
  unfold wpOpIn
  split at h2
  ·rename_i ho
   rw[ho];exact zrh hd fuel _ _ _ h2
  ·rename_i o ho
   rw[ho]
   simp only
   by_cases hw:Bl o (yielded ops a.tmps)=true
   ·rw[if_pos hw]at h2 ⊢
    rcases h2 with h2|⟨_,h2⟩
    ·exact Oper.wpIn_mono (λa w hq=>zrh hd fuel _ a w hq) (z7h (hd i o ho) h2)
    ·exact(Qd h2).elim
   ·rw[if_neg hw]at h2 ⊢
    exact⟨λ_ _=>trivial,zrh hd fuel _ _ _ h2⟩
def J3(D:List Deferred)(a:Act):Act:={ a with defers:=a.defers++D }
theorem z0z{D:List Deferred}{K:Act->World->Prop}{R:Act->World->Prop}(h:o.wp P a w K (zeo R)):o.wp P (J3 D a) w (λa1 w1=>∃a0,a1=J3 D a0/\K a0 w1) (zeo λa1 w1=>∃a0,a1=J3 D a0/\R a0 w1):=by
 unfold Oper.wp at h ⊢
 have he:(J3 D a).eval=a.eval:=rfl
 rw[he]
 have hp:∀d v,(J3 D a).put d v=J3 D (a.put d v):=λd v=>by cases d <;> rfl
 generalize (execOp a.eval o).run P w=r at *
 cases r with
 |ok x w'=>
  cases x with
  |enter f args=>exact Calls.mono h λe Z he=>by cases e with
    |returned v=>exact⟨_,hp _ _,he⟩
    |panicked ch=>exact he
    |outgrown=>exact(Qd he).elim
  |row row args=>exact Rows.mono h λv Z he=>⟨_,hp _ _,he⟩
  |value v=>exact⟨_,hp _ _,h⟩
  |skip=>exact⟨_,hp _ _,h⟩
  |defer d=>exact⟨(Act.put { a with defers:=d::a.defers } o.dst undef),(by cases o.dst <;> rfl),(show K (Act.put { a with defers:=d::a.defers } o.dst undef) w' from h)⟩
  |_=>exact h.elim
 |halt x w'=>cases x <;> first|exact h|exact h.elim
theorem zkn{P:Program}{md:Region.Mode}{ops:Array Oper}{D:List Deferred}{K:Act->World->Prop}:∀(fuel:Nat) (listed:Array Bool) (a:Act) (w:World),wpAny P md ops (zeo K) fuel listed a w->wpAny P md ops (zeo λa1 w1=>∃a0,a1=J3 D a0/\K a0 w1) fuel listed (J3 D a) w
 |0,_,a,_,h=>⟨h.1,a,rfl,h.2⟩
 |fuel+1,listed,a,w,h=>by
  refine⟨λhn=>⟨a,rfl,h.1 hn⟩,λi hi=>?_⟩
  have h2:=h.2 i hi
  unfold wpOp at h2 ⊢
  have hy:yielded ops (J3 D a).tmps=yielded ops a.tmps:=rfl
  split at h2
  ·exact zkn fuel _ _ _ h2
  ·rename_i o ho
   rw[hy]
   by_cases hw:Bl o (yielded ops a.tmps)=true
   ·rw[if_pos hw]at h2 ⊢
    rcases h2 with h2|⟨_,h2⟩
    ·exact .inl (Oper.wp_mono (λa1 w1 ⟨a0,e,hq⟩=>by rw[e];exact zkn fuel _ a0 w1 hq) (z0z h2))
    ·exact(Qd h2).elim
   ·rw[if_neg hw]at h2 ⊢
    have hp:(J3 D a).put o.dst undef=J3 D (a.put o.dst undef):=by cases o.dst <;> rfl
    rw[hp]
    exact zkn fuel _ _ _ h2
def YX(P:Program)(l:Nat)(args:Array Value)(h:zb)(K:Value->zb->Prop):Prop:=
 ∀(m:Nat) (B:World) (d:Nat),∃fn tmps assign body,(Instr.yield l args).run P (mk B d h)=.ok (.round l fn tmps assign body) (mk B d h) /\
  RoundIn (rf none) m P l fn tmps assign body (mk B d h) λe w'=>∃v d' h',e=.returned v/\w'=mk B d' h'/\K v h'
def qa1(o:Oper):Bool:=match o.op with
 |.call c=>match c.callee with
  |.value x=>!(Ys x)
  |_=>false
 |_=>false
def zm7:List Oper->Option (List Oper×Oper×List Oper)
 |[]=>none
 |o::l=>bif qa1 o then some ([],o,l)else match zm7 l with
  |some (pre,o',post)=>some (o::pre,o',post)
  |none=>none
theorem zxh{l:List Oper}:∀{pre Z:List Oper} {o:Oper},zm7 l=some (pre,o,Z)->l=pre++o::Z:=by
 induction l with
 |nil=>intro pre Z o h;cases h
 |cons x l ih=>
  intro pre Z o h
  rw[zm7]at h
  cases hd:qa1 x with
  |true=>
   rw[hd,cond_true]at h
   have h:=Aq h
   have h1:=congrArg Prod.fst h
   have h2:=congrArg (λq=>q.2.1) h
   have h3:=congrArg (λq=>q.2.2) h
   simp only at h1 h2 h3
   rw[<-h1,<-h2,<-h3];rfl
  |false=>
   rw[hd,cond_false]at h
   cases hs:zm7 l with
   |none=>rw[hs]at h;cases h
   |some q=>
    obtain⟨ab,o',aa⟩:=q
    rw[hs]at h
    have h:=Aq h
    have h1:=congrArg Prod.fst h
    have h2:=congrArg (λq=>q.2.1) h
    have h3:=congrArg (λq=>q.2.2) h
    simp only at h1 h2 h3
    rw[ih hs,<-h1,<-h2,<-h3];rfl
def zri(P:Program)(o:Oper)(e:Env)(h:zb)(K:Value->zb->Prop):Prop:=match o.op with
 |.call c=>match c.callee with
  |.value x=>match Yr e [] x with
   |some (.func (.yield l) A C)=>bif (bif (Nat.beq A.size 0)then(Nat.beq C.size 0)else false)then(bif known e [] c.args.toList then YX P l (c.args.map (rho e [])) h λv h'=>typed P o.type v λv'=>K v' h' else False)else False
   |_=>False
  |_=>False
 |_=>False
theorem zm8{n m:Nat}{K:Value->zb->Prop}(H:zri P o e h K)(hs:Sat n e a)(B:World)(d:Nat){next:Act->World->Prop}{Q:Exit->Act->World->Prop}
  (hn:∀v d' h',K v h'->next (a.put o.dst v) (mk B d' h')):o.wpIn (rf none) m P a (mk B d h) next Q:=by
 unfold zri at H
 split at H
 ·rename_i c ho
  split at H
  ·rename_i x hx
   split at H
   ·rename_i l A C hl
    obtain⟨hA,hC,H⟩:A=#[]/\C=#[]/\(bif known e [] c.args.toList then YX P l (c.args.map (rho e [])) h λv h'=>typed P o.type v λv'=>K v' h' else False):=by
     cases h1:Nat.beq A.size 0 with
     |false=>rw[h1]at H;exact Dk H
     |true=>
      cases h2:Nat.beq C.size 0 with
      |false=>rw[h1,h2]at H;exact Dk H
      |true=>rw[h1,h2]at H;exact⟨Array.eq_empty_of_size_eq_zero (Ah h1),Array.eq_empty_of_size_eq_zero (Ah h2),H⟩
    subst hA;subst hC
    cases hk:known e [] c.args.toList with
    |false=>rw[hk]at H;exact Dk H
    |true=>
     rw[hk]at H
     simp only[cond_true]at H
     obtain⟨fn,tmps,assign,body,h1,h2⟩:=H (m-1) B d
     have hv:a.eval x=.func (.yield l) #[] #[]:=yc hs (c:=[]) trivial hl
     have Z:c.args.map a.eval=c.args.map (rho e []):=by
      apply Array.map_congr_left
      intro y hy
      exact j6 hs (c:=[]) trivial hk y (by simpa using hy)
     have hr:(o.semAt (rf none).round a.eval).run P (mk B d h)=.ok (.round l fn tmps assign body) (mk B d h):=by
      show(execOp a.eval o).run P (mk B d h)=_
      simp only[execOp,ho,resolve,hx,hv,DC,Sem.run_bind,Sem.run_pure,Result.andThen_ok,invoke]
      rw[Z]
      simpa using h1
     refine⟨λ_ _=>trivial,?_⟩
     rw[hr]
     refine⟨λhx=>(by cases hx),h2.mono ?_⟩
     rintro e' w' ⟨v,d',h',rfl,rfl,h3⟩
     exact hn _ _ _ (wu h3)
   ·exact Dk H
  ·exact Dk H
 ·exact Dk H
def zpl(P:Program)(n:Nat)(tl:List (Nat×Nat))(id:Nat)(ops:Array Oper)(Z:Bool)(K:Env->zb->Prop)(e:Env)(h:zb):Prop:=
 match zm7 ops.toList with
 |none=>regionF P n tl id ops Z K e h
 |some (pre,o,post)=>bif Z then False else bif (pre.all wz&&post.all wz)then(match o.guard with
  |none=>bif qk n [] o.dst then wR P n ops (λe1 h1=>zri P o e1 h1 λv h2=>wR P n ops K post (putO e1 o.dst [] v) h2) pre e h else False
  |some _=>False)else False
theorem zko(hm:P.follows .mixedOrders=true){tl:List (Nat×Nat)}{id:Nat}{ops:Array Oper}{aa:Bool}{K:Env->zb->Prop}
  (H:zpl P n tl id ops aa K e h) (m:Nat) (B:World) (d:Nat) (hs:Sat n e a) {Q:Exit->Act->World->Prop}
  (hQ:∀e' a' d' h',Sat n e' a'->Same (yn ops.toList) a a'->K e' h'->Q .normal a' (mk B d' h')):(D4 id ops aa).wpIn (rf none) m P Q a (mk B d h):=by
 unfold zpl at H
 split at H
 ·exact wpIn_wide.2 (zbm hm H B d hs hQ)
 ·rename_i pre o Z ah
  have hl:=zxh ah
  cases aa with
  |true=>exact Dk H
  |false=>
   simp only[cond_false]at H
   cases hnd:(pre.all wz&&Z.all wz)with
   |false=>rw[hnd]at H;exact Dk H
   |true=>
    rw[hnd]at H
    simp only[cond_true]at H
    rw[Bm]at hnd
    split at H
    ·rename_i hg
     cases hd:qk n [] o.dst with
     |false=>rw[hd]at H;exact Dk H
     |true=>
      rw[hd]at H
      simp only[cond_true]at H
      refine wpIn_region_list ?_
      have ae:∀x∈yn pre,x∈yn ops.toList:=λx hx=>by rw[hl,xg];exact Ao _ hx
      have ab:∀i,o.dst=some i->i∈yn ops.toList:=λi hi=>by rw[hl,xg];exact Av _ (by simp[yn,hi])
      have ai:∀x∈yn Z,x∈yn ops.toList:=λx hx=>by
       rw[hl,xg]
       refine Av _ ?_
       unfold yn
       split
       ·exact Ag _ hx
       ·exact hx
      rw[hl]
      refine zgq (K:=λa1 w1=>∃e1 d1 h1,w1=mk B d1 h1/\Sat n e1 a1/\Same (yn ops.toList) a a1/\zri P o e1 h1 λv h2=>wR P n ops K Z (putO e1 o.dst [] v) h2) pre (o::Z) a _ hnd.1 (W0 B pre e h a d H hs λe' a' d' h' q1 q2 q3=>⟨e',d',h',rfl,q1,q2.mono ae,q3⟩) ?_
      rintro a1 w1 ⟨e1,d1,h1,rfl,s1,m1,q1⟩
      unfold wpListIn
      have af:Bl o (yielded ops a1.tmps)=true:=by simp[Bl,hg]
      rw[if_pos af]
      refine zm8 q1 s1 B d1 λv d2 h2 q2=>?_
      have s2:Sat n (putO e1 o.dst [] v) (a1.put o.dst v):=s1.putO hd (λ_=>rfl) (λhv=>absurd trivial hv)
      rw[<-A8 Z]
      refine zgq (K:=λa' w'=>Q .normal a' w') Z [] _ _ hnd.2 (W0 B Z _ _ _ _ q2 s2 λe' a' d' h' r1 r2 r3=>?_) λa w h=>h
      exact hQ e' a' d' h' r1 ((m1.trans (Same.put a1 o.dst v ab)).trans (r2.mono ai)) r3
    ·exact Dk H
def WI(P:Program)(n:Nat)(pl:Plan):Code->X7->Env->zb->Prop
 |.skip,Q,e,h=>Q .normal e h
 |.ret,Q,e,h=>Q .ret e h
 |.exit id,Q,e,h=>Q (.exit id) e h
 |.label _,Q,e,h=>Q .normal e h
 |.goto l,Q,e,h=>Q (.goto l) e h
 |.region id ops draw,Q,e,h=>zpl P n pl.tails id ops draw (λe h=>Q .normal e h) e h
 |.seq x y,Q,e,h=>match zyj pl.joins (ji y)with
  |none=>WI P n pl x (znx (λe h=>WI P n pl y Q e h) Q) e h
  |some J=>z5i J (λe h=>WI P n pl y Q e h) (λK=>WI P n pl x (znx K Q) e h) (Wb (Zg x) e)
 |.cond c x y,Q,e,h=>match Yr e [] c with
  |some (.bool b)=>(b=true->WI P n pl x Q e h)/\(b=false->WI P n pl y Q e h)
  |_=>False
 |.block id x,Q,e,h=>WI P n pl x (zfm id Q) e h
 |.loop x,Q,e,h=>match zyj pl.loops (ji x)with
  |some J=>z5j J (λQn e h=>WI P n pl x (znx Qn Q) e h) (Wb (Zg x) e) e h
  |none=>False
 |_,_,_,_=>False
theorem zz3(hm:P.follows .mixedOrders=true){pl:Plan}:∀(c:Code) (Q:X7) (e:Env) (h:zb),WI P n pl c Q e h ->
  ∀(m:Nat) (B:World) (d:Nat) (a:Act),Sat n e a->c.wpIn (rf none) m P (z5k n B (Zg c) a Q) a (mk B d h):=by
 intro c
 induction c with
 |skip=>exact λQ e h H m B d a hs=>wpIn_skip ⟨e,d,h,rfl,hs,Same.refl _ _,H⟩
 |ret=>exact λQ e h H m B d a hs=>wpIn_ret ⟨e,d,h,rfl,hs,Same.refl _ _,H⟩
 |exit id=>exact λQ e h H m B d a hs=>wpIn_exit ⟨e,d,h,rfl,hs,Same.refl _ _,H⟩
 |label l=>exact λQ e h H m B d a hs=>wpIn_label ⟨e,d,h,rfl,hs,Same.refl _ _,H⟩
 |goto l=>exact λQ e h H m B d a hs=>wpIn_goto ⟨e,d,h,rfl,hs,Same.refl _ _,H⟩
 |region id ops aB=>
  exact λQ e h H m B d a hs=>zko hm H m B d hs λe' a' d' h' q1 q2 q3=>⟨e',d',h',rfl,q1,q2,q3⟩
 |seq x y aa ab=>
  intro Q e h H m B d a hs
  simp only[WI]at H
  have hl:∀i∈Zg x,i∈Zg (x.seq y):=λi hi=>Ao _ hi
  have hr:∀i∈Zg y,i∈Zg (x.seq y):=λi hi=>Av _ hi
  split at H
  ·refine wpIn_seq (wpIn_mono (aa _ _ _ H m B d a hs) ?_)
   rintro ex a1 w1 ⟨e1,d1,h1,rfl,s1,m1,q1⟩
   cases ex with
   |normal=>
    refine wpIn_mono (ab _ _ _ q1 m B d1 a1 s1) ?_
    rintro ex a2 w2 ⟨e2,d2,h2,rfl,s2,m2,q2⟩
    exact⟨e2,d2,h2,rfl,s2,(m1.mono hl).trans (m2.mono hr),q2⟩
   |_=>exact⟨e1,d1,h1,rfl,s1,m1.mono hl,q1⟩
  ·rename_i J hJ
   have H':=H (mkC (jr J) λvs=>λh=>WI P n pl y Q (Qm J vs++Wb (Zg x) e) h) (zi8 λvs h hq=>hq)
   refine wpIn_seq (wpIn_mono (aa _ _ _ H' m B d a hs) ?_)
   rintro ex a1 w1 ⟨e1,d1,h1,rfl,s1,m1,q1⟩
   cases ex with
   |normal=>
    obtain⟨vs,q,hv,hq,hk⟩:=zcw q1
    have am:=zi7 hq
    subst am
    have aj:Sat n (Qm J vs++Wb (Zg x) e) a1:=zbn hs s1.defers s1.size m1 (jg s1 hv)
    refine wpIn_mono (ab _ _ _ hk m B d1 a1 aj) ?_
    rintro ex a2 w2 ⟨e2,d2,h2,rfl,s2,m2,q2⟩
    exact⟨e2,d2,h2,rfl,s2,(m1.mono hl).trans (m2.mono hr),q2⟩
   |_=>exact⟨e1,d1,h1,rfl,s1,m1.mono hl,q1⟩
 |cond c x y aa ab=>
  intro Q e h H m B d a hs
  simp only[WI]at H
  have hl:∀i∈Zg x,i∈Zg (DZ c x y):=λi hi=>Ao _ hi
  have hr:∀i∈Zg y,i∈Zg (DZ c x y):=λi hi=>Av _ hi
  split at H
  ·rename_i b hb
   refine wpIn_cond_split (yc hs (c:=[]) trivial hb) (λax=>?_) (λaz=>?_)
   ·refine wpIn_mono (aa _ _ _ (H.1 ax) m B d a hs) ?_
    rintro ex a2 w2 ⟨e2,d2,h2,rfl,s2,m2,q2⟩
    exact⟨e2,d2,h2,rfl,s2,m2.mono hl,q2⟩
   ·refine wpIn_mono (ab _ _ _ (H.2 az) m B d a hs) ?_
    rintro ex a2 w2 ⟨e2,d2,h2,rfl,s2,m2,q2⟩
    exact⟨e2,d2,h2,rfl,s2,m2.mono hr,q2⟩
  ·exact H.elim
 |block id x ih=>
  intro Q e h H m B d a hs
  refine wpIn_block (wpIn_mono (ih _ _ _ H m B d a hs) ?_)
  rintro ex a1 w1 ⟨e1,d1,h1,rfl,s1,m1,q1⟩
  cases ex with
  |exit i=>
   simp only[zfm]at q1
   simp only[Exit.inBlock]
   by_cases hb:Nat.beq i id=true
   ·rw[if_pos (Ah hb)]
    simp only[hb,cond_true]at q1
    exact⟨e1,d1,h1,rfl,s1,m1,q1⟩
   ·rw[if_neg (λhe=>hb (by rw[he];simp))]
    simp only[hb,cond_false]at q1
    exact⟨e1,d1,h1,rfl,s1,m1,q1⟩
  |_=>exact⟨e1,d1,h1,rfl,s1,m1,q1⟩
 |loop x ih=>
  intro Q e h H m B d a hs
  simp only[WI]at H
  split at H
  ·rename_i J hJ
   obtain⟨I,μ,h0,ae⟩:=H
   obtain⟨ah,p0,au,ay,ak⟩:=zcw h0
   let F:=zr1 (jr J) I μ
   let at_:Act->Option ((zb->Prop)×(zb->Nat)):=λa1=>(Xh (λi=>some (zm a1 i)) J).bind λvs=>zla (jr J) vs F
   refine wpIn_loop (λa1 w1=>∃d1 h1 vs p,w1=mk B d1 h1/\a1.defers=[]/\a1.tmps.size=n/\Same (Zg x) a a1/\Xh (λi=>some (zm a1 i)) J=some vs/\zla (jr J) vs F=some p/\p.1 h1)
    (λa1 w1=>match at_ a1 with|some p=>p.2 w1.heap|none=>0) ⟨d,h,ah,p0,rfl,hs.defers,hs.size,Same.refl _ _,jg hs au,ay,ak⟩ ?_
   rintro a1 w1 ⟨d1,h1,vs,p,rfl,an,ap,Z,hv,hp,hI⟩
   have s1:Sat n (Qm J vs++Wb (Zg x) e) a1:=zbn hs an ap Z hv
   have hb:=zfl hp ae h1 hI
   refine wpIn_mono (ih _ _ _ hb m B d1 a1 s1) ?_
   rintro ex a2 w2 ⟨e2,d2,h2,rfl,s2,m2,q2⟩
   cases ex with
   |normal=>
    obtain⟨ar,q,af,hq,ai,aA⟩:=zcw q2
    refine⟨⟨d2,h2,ar,q,rfl,s2.defers,s2.size,Z.trans m2,jg s2 af,hq,ai⟩,?_⟩
    have e1:at_ a1=some p:=by simp only[at_,hv,CF];exact hp
    have e2:at_ a2=some q:=by simp only[at_,jg s2 af,CF];exact hq
    rw[e1,e2]
    exact aA
   |_=>exact⟨e2,d2,h2,rfl,s2,Z.trans m2,q2⟩
  ·exact H.elim
 |_=>exact λQ e h H=>H.elim
def XCI(P:Program)(f:FuncId)(args:Array Value)(h:zb)(R:Value->zb->Prop):Prop:=
 ∀(m:Nat) (B:World) (d:Nat),CallsIn (rf none) m P f args (mk B d h) λe w'=>∃v d' h',e=.returned v/\w'=mk B d' h'/\R v h'
theorem zpm(hm:P.follows .mixedOrders=true)(pl:Plan)(vs:List Value){fn:Func}{rs:List ResultVar}(hf:P.funcs[f]?=some fn)(hb:Z2 fn=true)(hr:fn.results.toList=rs)(hn:fn.ntmps=n)
  (hz:Nat.ble vs.length n=true) {R:Value->zb->Prop} (H:WI P n pl (codeOf fn) (z8h P rs R) (zue 0 vs) h):XCI P f vs.toArray h R:=by
 have aa:fn.body=some (codeOf fn):=by
  unfold Z2 at hb
  unfold codeOf
  split at hb
  ·rename_i c hc;rw[hc]
  ·cases hb
 intro m B d
 subst hn
 refine callsIn_of_wp hf aa trivial ?_ rfl
 have ab:vs.length<=fn.ntmps:=BM hz
 have hs:Sat fn.ntmps (zue 0 vs) { tmps:=vs.toArray++Be (fn.ntmps-vs.toArray.size) undef,defers:=[] }:=by
  refine⟨rfl,by simp;omega,?_⟩
  refine W7 vs.toArray _ vs 0 λj v hj=>?_
  have Z:j<vs.length:=by
   rcases AF j vs.length with h|h
   ·exact h
   ·rw[BN h]at hj;cases hj
  simp only[AB,BE]
  rw[Cn (by simpa using Z)]
  simp[hj]
 refine wpIn_mono (zz3 hm (codeOf fn) _ _ _ H m B d _ hs) ?_
 rintro ex a w ⟨e1,d1,h1,rfl,s1,m1,q1⟩
 cases ex with
 |normal=>
  obtain⟨v,hv,hq⟩:=Z1 s1 hr q1
  exact⟨s1.defers,v,hq B d1,v,d1,h1,rfl,rfl,hv⟩
 |ret=>
  obtain⟨v,hv,hq⟩:=Z1 s1 hr q1
  exact⟨s1.defers,v,hq B d1,v,d1,h1,rfl,rfl,hv⟩
 |_=>exact q1.elim
end
end Go.X
end
section
namespace Go.X
section
variable {P:Program} {n m id:Nat} {ro:Option Nat} {e:Env} {h:zb} {a:Act}
theorem zkp{P:Program}{ops:Array Oper}{D:List Deferred}{K:Act->World->Prop}:∀(l:List Oper) (a:Act) (w:World),wpList P ops (zeo K) l a w->wpList P ops (zeo λa1 w1=>∃a0,a1=J3 D a0/\K a0 w1) l (J3 D a) w
 |[],a,w,h=>⟨a,rfl,h⟩
 |o::l,a,w,h=>by
  unfold wpList at h ⊢
  have hy:yielded ops (J3 D a).tmps=yielded ops a.tmps:=rfl
  rw[hy]
  by_cases hw:Bl o (yielded ops a.tmps)=true
  ·rw[if_pos hw]at h ⊢
   rcases h with h|⟨_,h⟩
   ·exact .inl (Oper.wp_mono (λa1 w1 ⟨a0,e,hq⟩=>by rw[e];exact zkp l a0 w1 hq) (z0z h))
   ·exact(Qd h).elim
  ·rw[if_neg hw]at h ⊢
   have hp:(J3 D a).put o.dst undef=J3 D (a.put o.dst undef):=by cases o.dst <;> rfl
   rw[hp]
   exact zkp l _ w h
def z8u(P:Program)(n:Nat)(ops:Array Oper)(Z:Bool)(K:Env->zb->Prop)(e:Env)(h:zb):Prop:=
 bif ops.toList.all wz then(bif Z then(bif zgw ops then wI P n h true ops (λe'=>wB7 P n ops h K true (hvL ops).length [] (hvL ops) e' h) (Ql [] (Qw ops [] ops.size) ops.size) e else False)else wR P n ops K ops.toList e h)else False
theorem ziq(hm:P.follows .mixedOrders=true){D:List Deferred}{ops:Array Oper}{Z:Bool}{K:Env->zb->Prop}(H:z8u P n ops Z K e h)(B:World)(d:Nat)(hs:Sat n e a){Q:Exit->Act->World->Prop}
  (hQ:∀e' a' d' h',Sat n e' a'->K e' h'->Q .normal (J3 D a') (mk B d' h')):(D4 id ops Z).wpIn (rf ro) m P Q (J3 D a) (mk B d h):=by
 unfold z8u at H
 cases hd:ops.toList.all wz with
 |false=>rw[hd]at H;exact H.elim
 |true=>
  rw[hd,cond_true]at H
  have aa:∀a1 w1,(∃a0,a1=J3 D a0/\∃e' d' h',w1=mk B d' h'/\Sat n e' a0/\K e' h')->Q .normal a1 w1:=by
   rintro a1 w1 ⟨a0,rfl,e',d',h',rfl,q1,q2⟩;exact hQ e' a0 d' h' q1 q2
  cases Z with
  |false=>
   refine wpIn_region_list ?_
   rw[<-A8 ops.toList]
   exact zgq _ [] _ _ hd (zkp (K:=λa0 w1=>∃e' d' h',w1=mk B d' h'/\Sat n e' a0/\K e' h') _ _ _ (W0 B _ _ _ _ _ H hs λe' a' d' h' q1 q2 q3=>⟨e',d',h',rfl,q1,q3⟩)) aa
  |true=>
   rw[cond_true]at H
   cases hB:zgw ops with
   |false=>rw[hB]at H;exact H.elim
   |true=>
    rw[hB]at H
    have h0:wpAny P .any ops (zeo λa0 w1=>∃e' d' h',w1=mk B d' h'/\Sat n e' a0/\K e' h') ops.size (Be ops.size false) a (mk B (d+1) h):=
     zcv B hB H hs (λe' a' d' h' q1 q2 q3=>⟨e',d',h',rfl,q1,q3⟩) (d+1)
    refine wpIn_mono (wpIn_region_any (Q:=zeo λa1 w1=>∃a0,a1=J3 D a0/\∃e' d' h',w1=mk B d' h'/\Sat n e' a0/\K e' h') hm (zrh (λi o ho=>?_) _ _ _ _ (zkn _ _ _ _ h0))) λx a' w' hx=>?_
    ·rw[A4]at hd
     obtain⟨ab,e⟩:=Ac.1 ho
     exact hd o (by rw[<-e];simp)
    ·cases x with
     |normal=>exact aa _ _ hx
     |_=>exact hx.elim
def WG(P:Program)(n:Nat):Code->X7->Env->zb->Prop
 |.skip,Q,e,h=>Q .normal e h
 |.ret,Q,e,h=>Q .ret e h
 |.exit id,Q,e,h=>Q (.exit id) e h
 |.region _ ops draw,Q,e,h=>z8u P n ops draw (λe h=>Q .normal e h) e h
 |.seq x y,Q,e,h=>WG P n x (znx (λe h=>WG P n y Q e h) Q) e h
 |.cond c x y,Q,e,h=>match Yr e [] c with
  |some (.bool b)=>(b=true->WG P n x Q e h)/\(b=false->WG P n y Q e h)
  |_=>False
 |.block id x,Q,e,h=>WG P n x (zfm id Q) e h
 |_,_,_,_=>False
def z3z(n:Nat)(B:World)(D:List Deferred)(Q:X7):Exit->Act->World->Prop:=
 λx a w=>∃e d h a0,a=J3 D a0/\w=mk B d h/\Sat n e a0/\Q x e h
theorem z7i{B:World}{D:List Deferred}{Q:X7}:∀ex a w,z3z n B D (zfm id Q) ex a w->Exit.inBlock id (z3z n B D Q) ex a w:=by
 rintro ex a1 w1 ⟨e1,d1,h1,a0,rfl,rfl,s1,q1⟩
 cases ex with
 |exit i=>
  simp only[zfm]at q1
  simp only[Exit.inBlock]
  by_cases hb:Nat.beq i id=true
  ·rw[if_pos (Ah hb)]
   simp only[hb,cond_true]at q1
   exact⟨e1,d1,h1,a0,rfl,rfl,s1,q1⟩
  ·rw[if_neg (λhe=>hb (by rw[he];simp))]
   simp only[hb,cond_false]at q1
   exact⟨e1,d1,h1,a0,rfl,rfl,s1,q1⟩
 |_=>exact⟨e1,d1,h1,a0,rfl,rfl,s1,q1⟩
theorem zrj(hm:P.follows .mixedOrders=true){D:List Deferred}:∀(c:Code) (Q:X7) (e:Env) (h:zb),WG P n c Q e h ->
  ∀(B:World) (d:Nat) (a:Act),Sat n e a->c.wpIn (rf ro) m P (z3z n B D Q) (J3 D a) (mk B d h):=by
 intro c
 induction c with
 |skip=>exact λQ e h H B d a hs=>wpIn_skip ⟨e,d,h,a,rfl,rfl,hs,H⟩
 |ret=>exact λQ e h H B d a hs=>wpIn_ret ⟨e,d,h,a,rfl,rfl,hs,H⟩
 |exit id=>exact λQ e h H B d a hs=>wpIn_exit ⟨e,d,h,a,rfl,rfl,hs,H⟩
 |region id ops af=>exact λQ e h H B d a hs=>ziq hm H B d hs λe' a' d' h' q1 q2=>⟨e',d',h',a',rfl,rfl,q1,q2⟩
 |seq x y aa Z=>
  intro Q e h H B d a hs
  refine wpIn_seq (wpIn_mono (aa _ _ _ H B d a hs) ?_)
  rintro ex a1 w1 ⟨e1,d1,h1,a0,rfl,rfl,s1,q1⟩
  cases ex with
  |normal=>exact Z _ _ _ q1 B d1 a0 s1
  |_=>exact⟨e1,d1,h1,a0,rfl,rfl,s1,q1⟩
 |cond c x y aa Z=>
  intro Q e h H B d a hs
  simp only[WG]at H
  split at H
  ·rename_i b hb
   have hc:(J3 D a).eval c=.bool b:=yc hs (c:=[]) trivial hb
   exact wpIn_cond_split hc (λae=>aa _ _ _ (H.1 ae) B d a hs) (λab=>Z _ _ _ (H.2 ab) B d a hs)
  ·exact H.elim
 |block id x ih=>
  intro Q e h H B d a hs
  exact wpIn_block (wpIn_mono (ih _ _ _ H B d a hs) z7i)
 |_=>exact λQ e h H=>H.elim
abbrev ztu:=LoopState->Option Code->Loop
def qbq(rec:ztu)(l:Nat)(K:Value->zb->Prop):X7
 |.normal,_,h=>h[l]?=some (.loop (rec .busy none))/\K (.bool true) (h.setIfInBounds l (.loop (rec .ready none)))
 |.ret,_,h=>h[l]?=some (.loop (rec .busy none))/\K (.bool false) (h.setIfInBounds l (.loop (rec .done (some .ret))))
 |_,_,_=>False
def zgr(P:Program)(n:Nat)(Z bd:Code)(rec:ztu)(l:Nat)(K:Value->zb->Prop)(e:Env)(h:zb):Prop:=
 WG P n Z (λx e1 h1=>match x with
  |.normal=>h1[l]?=some (.loop (rec .ready none))/\WG P n bd (qbq rec l K) e1 (h1.setIfInBounds l (.loop (rec .busy none)))
  |_=>False) e h
theorem zrk(a:Act):J3 [] a=a:=by unfold J3;rw[A8]
theorem z7j(hm:P.follows .mixedOrders=true){n l p1 p2:Nat}{ab bd:Code}{fn:FuncId}{D:Nat}(aj:qk n [] (some p1)=true)(ak:qk n [] (some p2)=true)
  {rec:ztu} (Z:rec=λst pe=>{ state:=st,pending:=pe,fn:=fn,tmps:=a.tmps,params:=#[p1,p2],assign:=ab,body:=bd,defers:=D })
  {v1 v2:Value} (hs:Sat n e a) (hl:h[l]?=some (.loop (rec .ready none))) {K:Value->zb->Prop}
  (H:zgr P n ab bd rec l K (putO (putO e (some p1) [] v1) (some p2) [] v2) h):YX P l #[v1,v2] h K:=by
 intro m B d
 have ai:(mk B d h).heap[l]?=some (.loop (rec .ready none)):=hl
 have hy:=run_yield (P:=P) (w:=mk B d h) (args:=#[v1,v2]) ai (by rw[Z];rfl)
 refine⟨_,_,_,_,hy,?_⟩
 rw[Z]at hy ⊢
 have s2:Sat n (putO (putO e (some p1) [] v1) (some p2) [] v2) ((a.put (some p1) v1).put (some p2) v2):=(hs.putO aj (λ_=>rfl) (λhv=>absurd trivial hv)).putO ak (λ_=>rfl) (λhv=>absurd trivial hv)
 have ha:((a.put (some p1) v1).put (some p2) v2)={ tmps:=(a.tmps.setIfInBounds p1 v1).setIfInBounds p2 v2,defers:=[] }:=by
  have:=hs.defers
  cases a;simp only at this;subst this;rfl
 have key:RoundIn (rf none) m P l fn ((a.tmps.setIfInBounds p1 v1).setIfInBounds p2 v2) ab bd (mk B d h) (λe w'=>∃v d' h',e=.returned v/\w'=mk B d' h'/\K v h'):=by
  refine roundIn_of_wpIn (F:=rf none) trivial ?_
  have hF:(rf none).inRound l=rf (some l):=rfl
  rw[hF,<-ha,<-zrk ((a.put (some p1) v1).put (some p2) v2)]
  refine wpIn_mono (zrj hm ab _ _ _ H B d _ s2) ?_
  rintro ex a1 w1 ⟨e1,d1,h1,a0,rfl,rfl,s1,q1⟩
  cases ex with
  |normal=>
   obtain⟨k3,k4⟩:=q1
   have am:(mk B d1 h1).heap[l]?=some (.loop (rec .ready none)):=k3
   have hb:=run_beginRound (P:=P) am (by rw[Z])
   refine⟨_,hb,?_⟩
   have ae:({ rec .ready none with state:=.busy }:Loop)=rec .busy none:=by rw[Z]
   rw[ae]
   refine wpIn_mono (zrj hm bd _ _ _ k4 B d1 a0 s1) ?_
   rintro ex a2 w2 ⟨e2,d2,h2,a3,rfl,rfl,s3,q2⟩
   cases ex with
   |normal=>
    obtain⟨k6,k7⟩:=q2
    have af:(mk B d2 h2).heap[l]?=some (.loop (rec .busy none)):=k6
    have aa:=run_endRound (P:=P) none af
    refine⟨_,_,aa,.bool true,d2,h2.setIfInBounds l (.loop (rec .ready none)),rfl,?_,k7⟩
    have ah:({ rec .busy none with state:=if(none:Option Code).isNone then .ready else .done,pending:=none }:Loop)=rec .ready none:=by rw[Z];rfl
    rw[ah];rfl
   |ret=>
    obtain⟨k6,k7⟩:=q2
    have af:(mk B d2 h2).heap[l]?=some (.loop (rec .busy none)):=k6
    have aa:=run_endRound (P:=P) (some .ret) af
    refine⟨_,_,aa,.bool false,d2,h2.setIfInBounds l (.loop (rec .done (some .ret))),rfl,?_,k7⟩
    have ah:({ rec .busy none with state:=if(some Code.ret:Option Code).isNone then .ready else .done,pending:=some .ret }:Loop)=rec .done (some .ret):=by rw[Z];rfl
    rw[ah];rfl
   |_=>exact q2.elim
  |_=>exact q1.elim
 show RoundIn (rf none) m P l fn (Array.foldl (λ(t:Array Value) (x:Tmp×Value)=>t.setIfInBounds x.1 x.2) a.tmps (#[p1,p2].zip #[v1,v2])) _ _ _ _
 have zs:Array.foldl (λ(t:Array Value) (x:Tmp×Value)=>t.setIfInBounds x.1 x.2) a.tmps (#[p1,p2].zip #[v1,v2])=(a.tmps.setIfInBounds p1 v1).setIfInBounds p2 v2:=by simp
 rw[zs]
 exact key
def rfA:Code->Code
 |.rangeFunc _ _ x _=>x
 |.seq x y=>match rfA x with
  |.skip=>rfA y
  |c=>c
 |.block _ x=>rfA x
 |_=>.skip
def rfB:Code->Code
 |.rangeFunc _ _ _ y=>y
 |.seq x y=>match rfB x with
  |.skip=>rfB y
  |c=>c
 |.block _ x=>rfB x
 |_=>.skip
def marks(ds:List Nat):List Deferred:=ds.map λb=>{ target:=.collected b,args:=#[] }
abbrev zkq:=Exit->List Nat->Env->zb->Prop
def qaj(K:List Nat->Env->zb->Prop)(Q:zkq):zkq
 |.normal,ds,e,h=>K ds e h
 |x,ds,e,h=>Q x ds e h
def z00(id:Nat)(Q:zkq):zkq
 |.exit i,ds,e,h=>bif Nat.beq i id then Q .normal ds e h else Q (.exit i) ds e h
 |x,ds,e,h=>Q x ds e h
def zxi(rec:ztu)(l:Nat)(N R:zb->Prop)(h:zb):Prop:=
 (h[l]?=some (.loop (rec .ready none))/\N (h.setIfInBounds l (.loop (rec .exhausted none))))\/(h[l]?=some (.loop (rec .done (some .ret)))/\R (h.setIfInBounds l (.loop (rec .exhausted (some .ret)))))
def z01(P:Program)(n:Nat)(p1 p2:Nat)(Z bd:Code)(v:Value)(Q:zkq)(ds:List Nat)(e:Env)(h:zb):Prop:=
 bif qk n [] (some p1)&&qk n [] (some p2)then(∃g lb,v=.func (.func g) #[] lb/\qa P g=true/\∀rec:ztu,
  (∀{v1 v2:Value} {h2:zb} {K:Value->zb->Prop},h2[h.size+1]?=some (.loop (rec .ready none))->zgr P n Z bd rec (h.size+1) K (putO (putO e (some p1) [] v1) (some p2) [] v2) h2->YX P (h.size+1) #[v1,v2] h2 K) ->
  XCI P g (#[.func (.yield (h.size+1)) #[] #[]]++lb) ((h.push (.deferred (some []))).push (.loop (rec .ready none))) λ_ h5=>zxi rec (h.size+1) (λh6=>Q .normal (h.size::ds) e h6) (λh6=>Q .ret (h.size::ds) e h6) h5)else False
def WD(P:Program)(n:Nat):Code->zkq->List Nat->Env->zb->Prop
 |.skip,Q,ds,e,h=>Q .normal ds e h
 |.ret,Q,ds,e,h=>Q .ret ds e h
 |.exit id,Q,ds,e,h=>Q (.exit id) ds e h
 |.region _ ops draw,Q,ds,e,h=>z8u P n ops draw (λe h=>Q .normal ds e h) e h
 |.seq x y,Q,ds,e,h=>WD P n x (qaj (λds e h=>WD P n y Q ds e h) Q) ds e h
 |.cond c x y,Q,ds,e,h=>match Yr e [] c with
  |some (.bool b)=>(b=true->WD P n x Q ds e h)/\(b=false->WD P n y Q ds e h)
  |_=>False
 |.block id x,Q,ds,e,h=>WD P n x (z00 id Q) ds e h
 |.rangeFunc g ps asg bd,Q,ds,e,h=>match Yr e [] g,ps.toList with
  |some v,[p1,p2]=>z01 P n p1 p2 asg bd v Q ds e h
  |_,_=>False
 |_,_,_,_,_=>False
def qak(n:Nat)(B:World)(Q:zkq):Exit->Act->World->Prop:=
 λx a w=>∃ds e d h a0,a=J3 (marks ds) a0/\w=mk B d h/\Sat n e a0/\Q x ds e h
theorem zz4(hm:P.follows .mixedOrders=true)(ak:1<=m):∀(c:Code) (Q:zkq) (ds:List Nat) (e:Env) (h:zb),WD P n c Q ds e h ->
  ∀(B:World) (d:Nat) (a:Act),Sat n e a->c.wpIn (rf none) m P (qak n B Q) (J3 (marks ds) a) (mk B d h):=by
 intro c
 induction c with
 |skip=>exact λQ ds e h H B d a hs=>wpIn_skip ⟨ds,e,d,h,a,rfl,rfl,hs,H⟩
 |ret=>exact λQ ds e h H B d a hs=>wpIn_ret ⟨ds,e,d,h,a,rfl,rfl,hs,H⟩
 |exit id=>exact λQ ds e h H B d a hs=>wpIn_exit ⟨ds,e,d,h,a,rfl,rfl,hs,H⟩
 |region id ops az=>exact λQ ds e h H B d a hs=>ziq hm H B d hs λe' a' d' h' q1 q2=>⟨ds,e',d',h',a',rfl,rfl,q1,q2⟩
 |seq x y ae ah=>
  intro Q ds e h H B d a hs
  refine wpIn_seq (wpIn_mono (ae _ _ _ _ H B d a hs) ?_)
  rintro ex a1 w1 ⟨aa,e1,d1,h1,a0,rfl,rfl,s1,q1⟩
  cases ex with
  |normal=>exact ah _ _ _ _ q1 B d1 a0 s1
  |_=>exact⟨aa,e1,d1,h1,a0,rfl,rfl,s1,q1⟩
 |cond c x y ae ah=>
  intro Q ds e h H B d a hs
  simp only[WD]at H
  split at H
  ·rename_i b hb
   have hc:(J3 (marks ds) a).eval c=.bool b:=yc hs (c:=[]) trivial hb
   exact wpIn_cond_split hc (λam=>ae _ _ _ _ (H.1 am) B d a hs) (λau=>ah _ _ _ _ (H.2 au) B d a hs)
  ·exact H.elim
 |block id x ih=>
  intro Q ds e h H B d a hs
  refine wpIn_block (wpIn_mono (ih _ _ _ _ H B d a hs) ?_)
  rintro ex a1 w1 ⟨aa,e1,d1,h1,a0,rfl,rfl,s1,q1⟩
  cases ex with
  |exit i=>
   simp only[z00]at q1
   simp only[Exit.inBlock]
   by_cases hb:Nat.beq i id=true
   ·rw[if_pos (Ah hb)]
    simp only[hb,cond_true]at q1
    exact⟨aa,e1,d1,h1,a0,rfl,rfl,s1,q1⟩
   ·rw[if_neg (λhe=>hb (by rw[he];simp))]
    simp only[hb,cond_false]at q1
    exact⟨aa,e1,d1,h1,a0,rfl,rfl,s1,q1⟩
  |_=>exact⟨aa,e1,d1,h1,a0,rfl,rfl,s1,q1⟩
 |rangeFunc g ps ap bd aA aB=>
  intro Q ds e h H B d a hs
  simp only[WD]at H
  split at H
  ·rename_i v p1 p2 hv ay
   have ai:ps=#[p1,p2]:=by rw[<-Array.toList_inj];exact ay
   subst ai
   unfold z01 at H
   cases hok:(qk n [] (some p1)&&qk n [] (some p2))with
   |false=>rw[hok]at H;exact H.elim
   |true=>
    rw[hok]at H
    rw[Bm]at hok
    obtain⟨gf,lb,rfl,hg,HR⟩:=H
    have hc:(J3 (marks ds) a).eval g=.func (.func gf) #[] lb:=yc hs (c:=[]) trivial hv
    refine wpIn_rangeFunc λan _=>?_
    obtain⟨rec,Z⟩:∃rec:ztu,rec=λst pe=>{ state:=st,pending:=pe,fn:=an,tmps:=a.tmps,params:=#[p1,p2],assign:=ap,body:=bd,defers:=h.size }:=⟨_,rfl⟩
    have ax:=HR rec (λ {v1 v2 h2 K} hl ar=>z7j hm hok.1 hok.2 Z hs hl ar)
    refine⟨h.size+1,[{ target:=.collected h.size,args:=#[] }],mk B d ((h.push (.deferred (some []))).push (.loop (rec .ready none))),{ target:=.fn (.func gf) lb,args:=#[.func (.yield (h.size+1)) #[] #[]] },mk B d ((h.push (.deferred (some []))).push (.loop (rec .ready none))),gf,
     #[.func (.yield (h.size+1)) #[] #[]]++lb,mk B d ((h.push (.deferred (some []))).push (.loop (rec .ready none))),?_,?_,λ_ _=>trivial,?_,λ_=>ak,?_⟩
    ·rw[Z];exact run_enterLoop_outer _ _ _ _ _
    ·simp only[resolve,hc]
     simp[go_sem,DC]
    ·simp only[invoke]
     exact J8 hg _ _
    ·have ha:({ J3 (marks ds) a with defers:=[{ target:=.collected h.size,args:=#[] }]++(J3 (marks ds) a).defers }:Act)=J3 (marks (h.size::ds)) a:=by
      unfold J3 marks;simp only[hs.defers];rfl
     rw[ha]
     refine CallsIn.mono (ax (m-1) B d) ?_
     rintro e' w' ⟨v,d5,h5,rfl,rfl,aj⟩
     rcases aj with⟨af,hN⟩|⟨af,hR⟩
     ·have ab:(mk B d5 h5).heap[h.size+1]?=some (.loop (rec .ready none)):=af
      have he:=run_endLoop (P:=P) ab (by rw[Z];intro hx;cases hx)
      have e1:({ rec .ready none with state:=.exhausted }:Loop)=rec .exhausted none:=by rw[Z]
      have e2:(rec .ready none).pending=none:=by rw[Z]
      rw[e1,e2]at he
      exact⟨none,_,he,_,e,d5,_,a,rfl,rfl,hs,hN⟩
     ·have ab:(mk B d5 h5).heap[h.size+1]?=some (.loop (rec .done (some .ret))):=af
      have he:=run_endLoop (P:=P) ab (by rw[Z];intro hx;cases hx)
      have e1:({ rec .done (some .ret)with state:=.exhausted }:Loop)=rec .exhausted (some .ret):=by rw[Z]
      have e2:(rec .done (some .ret)).pending=some .ret:=by rw[Z]
      rw[e1,e2]at he
      exact⟨some .ret,_,he,wpIn_ret ⟨_,e,d5,_,a,rfl,rfl,hs,hR⟩⟩
  ·exact H.elim
 |_=>exact λQ ds e h H=>H.elim
def takeD:List Nat->(zb->Prop)->zb->Prop
 |[],K,h=>K h
 |b::ds,K,h=>h[b]?=some (.deferred (some []))/\takeD ds K (h.setIfInBounds b (.deferred none))
def qbr(P:Program)(rs:List ResultVar)(R:Value->zb->Prop):zkq
 |.normal,ds,e,h=>takeD ds (λh'=>zuf P h' e rs λvs=>R (zfn vs) h') h
 |.ret,ds,e,h=>takeD ds (λh'=>zuf P h' e rs λvs=>R (zfn vs) h') h
 |_,_,_,_=>False
theorem zbc{P:Program}{fn:Func}{n:Nat}{rs:List ResultVar}(hr:fn.results.toList=rs){e:Env}{a:Act}(hs:Sat n e a){B:World}{R:Value->zb->Prop}{D:Nat}:∀(ds:List Nat) (d:Nat) (h:zb),takeD ds (λh'=>zuf P h' e rs λvs=>R (zfn vs) h') h ->
  LeavesInM Fence.wide D P fn a.tmps (λe w'=>∃v d' h',e=.returned v/\w'=mk B d' h'/\R v h') (marks ds) .returning (mk B d h)
 |[],d,h,H=>by
  obtain⟨v,hv,hq⟩:=Z1 hs hr H
  exact⟨v,hq B d,v,d,h,rfl,rfl,hv⟩
 |b::ds,d,h,⟨h1,H⟩=>by
  have Z:(mk B d h).heap[b]?=some (.deferred (some [])):=h1
  exact⟨by simp,.inl ⟨_,_,rfl,run_takeDeferred (P:=P) Z,zbc hr hs ds d _ H⟩⟩
theorem zpn(hm:P.follows .mixedOrders=true)(vs:List Value){f:FuncId}{fn:Func}{rs:List ResultVar}(hf:P.funcs[f]?=some fn)(hb:Z2 fn=true)(hr:fn.results.toList=rs)(hn:fn.ntmps=n)(hz:Nat.ble vs.length n=true){R:Value->zb->Prop}{F:Prop}(H:F)(ef:F=WD P n (codeOf fn) (qbr P rs R) [] (zue 0 vs) h):XC P f vs.toArray h R:=by
 have aa:fn.body=some (codeOf fn):=by
  unfold Z2 at hb
  unfold codeOf
  split at hb
  ·rename_i c hc;rw[hc]
  ·cases hb
 intro B d
 refine callsIn_wide.1 (callsIn_of_wp_marks (F:=Fence.wide) (n:=1) hf aa trivial ?_ rfl)
 subst hn
 have ab:vs.length<=fn.ntmps:=BM hz
 have hs:Sat fn.ntmps (zue 0 vs) { tmps:=vs.toArray++Be (fn.ntmps-vs.toArray.size) undef,defers:=[] }:=by
  refine⟨rfl,by simp;omega,?_⟩
  refine W7 vs.toArray _ vs 0 λj v hj=>?_
  have Z:j<vs.length:=by
   rcases AF j vs.length with h|h
   ·exact h
   ·rw[BN h]at hj;cases hj
  simp only[AB,BE]
  rw[Cn (by simpa using Z)]
  simp[hj]
 have:=zz4 hm (m:=1) (by omega) (codeOf fn) _ [] _ _ (ef ▸ H) B d _ hs
 rw[show marks []=[]from rfl,zrk]at this
 refine wpIn_mono this ?_
 rintro ex a w ⟨ds,e1,d1,h1,a0,rfl,rfl,s1,q1⟩
 have hd:(J3 (marks ds) a0).defers=marks ds:=by unfold J3;rw[s1.defers];rfl
 have ht:(J3 (marks ds) a0).tmps=a0.tmps:=rfl
 cases ex with
 |normal=>show LeavesInM _ _ _ _ _ _ _ _ _;rw[hd,ht];exact zbc hr s1 ds d1 h1 q1
 |ret=>show LeavesInM _ _ _ _ _ _ _ _ _;rw[hd,ht];exact zbc hr s1 ds d1 h1 q1
 |_=>exact q1.elim
end
section
theorem zm9(aa:Nat)(c1:Addr)(h:zb)(R:Value->zb->Prop)
  (H:∃az:Bt,zc h c1=some (.string az)/\((decide ((((az).size:Int):Int)>65536))=true->YX Tp aa #[.agg #[.int .i64 0,.int .i64 0,.int .i64 0],.int .i64 3] h (λaJ aI=>∃aC:Bool,aJ=.bool aC/\R (.tuple #[]) aI))/\((decide ((((az).size:Int):Int)>65536))=false->∃(aB:Int->zb->Prop) (aF:Int->zb->Nat),aB 0 h/\∀ab:Int,∀ay:zb,aB ab ay->(∃ah:Bt,zc ay c1=some (.string ah)/\((decide ((ab:Int)<((ah).size:Int)))=true->∃am:Bt,zc ay c1=some (.string am)/\XC Tp 198 #[.string am,.int .i64 ab] ay (λaG ax=>∃ar:Int,∃ap:Int,∃aj:Int,∃Z:Int,aG=.tuple #[.agg #[.int .i64 ar,.int .i64 ap,.int .i64 aj],.int .i64 Z]/\let aH:zb:=Dw ax (.cells #[.int .i64 0,.int .i64 0,.int .i64 0] 90);XRunU Tp (Aj 90 (.pointer (some ⟨AZ ax,0,none⟩)) (.agg #[.int .i64 ar,.int .i64 ap,.int .i64 aj])) aH (λaA=>∃an:Int,∃ai:Int,∃au:Int,zh aA ⟨AZ ax,0,none⟩ 0 [.int .i64 an,.int .i64 ai,.int .i64 au]/\YX Tp aa #[.agg #[.int .i64 an,.int .i64 ai,.int .i64 au],.int .i64 Z] aA (λaE ak=>∃af:Bool,aE=.bool af/\((bif (!af)then true else((Z:Int) != 0))=true->R (.tuple #[]) ak)/\((bif (!af)then true else((Z:Int) != 0))=false->∃ae:Int,zc ak (Af (Af ⟨AZ ax,0,none⟩ 1) 1)=some (.int .i64 ae)/\(aB ae ak/\aF ae ak<aF ab ay))))))/\((decide ((ab:Int)<((ah).size:Int)))=false->R (.tuple #[]) ay)))):
  XCI Tp 197 #[.func (.yield aa) #[] #[],.pointer (some c1)] h R:=
 zpm Tryz.mixed ⟨[],[(3,[(3,.one (.int .i64))])],[]⟩ [.func (.yield aa) #[] #[],.pointer (some c1)] (rs:=[]) (n:=34) Tryz.func197 (by kernel_rfl) (by kernel_rfl) (by kernel_rfl) (by kernel_rfl) (Eq.mp (by kernel_rfl) H)
theorem zkr(s0:Bt)(h:zb)(R:Value->zb->Prop)
  (H:let ak:zb:=Dw h (.cells #[.slice none 0 0] 83);let aj:zb:=Dw ak (.cells #[.int .i64 0] 3);let aE:zb:=Dw aj (.cells #[.int .i64 0] 27);let aJ:zb:=Dw aE (.cells #[.slice none 0 0] 83);XC Tp 113 #[.string s0] aJ (λaI aa=>∃am:Value,aI=am/\∃(an:FuncId) (ap:Array Value),am=.func (.func an) #[] ap/\qa Tp an=true/\∀ah:ztu,(∀{ax aA:Value} {aC:zb} {az:Value->zb->Prop},aC[(AZ aa+1)]?=some (.loop (ah .ready none))->zgr Tp 25 (rfA (codeOf Tryz.f60)) (rfB (codeOf Tryz.f60)) ah (AZ aa+1) az (putO (putO [(9,[],am),(8,[],.string s0),(5,[],.pointer (some ⟨AZ aE,0,none⟩)),(4,[],.pointer (some ⟨AZ aj,0,none⟩)),(3,[],.pointer (some ⟨AZ ak,0,none⟩)),(2,[],.pointer (some ⟨AZ h,0,none⟩)),(0,[],.string s0)] (some 10) [] ax) (some 11) [] aA) aC->YX Tp (AZ aa+1) #[ax,aA] aC az)->XCI Tp an (#[.func (.yield (AZ aa+1)) #[] #[]]++ap) (Dw (Dw aa (.deferred (some []))) (.loop (ah .ready none))) λ_ aH=>zxi ah (AZ aa+1) (λab=>∃Z:Sl,zc ab ⟨AZ aE,0,none⟩=some (.slice Z.a Z.len Z.cap)/\XRunU Tp (Aj 83 (.pointer (some ⟨AZ h,0,none⟩)) (.slice Z.a Z.len Z.cap)) ab (λaG=>XRunU Tp (Aj 3 (.pointer (some ⟨AZ ak,0,none⟩)) (.int .i64 ((s0).size:Int))) aG (λaF=>XRunU Tp (Aj 27 (.pointer (some ⟨AZ aj,0,none⟩)) (.int .i64 0)) aF (λai=>(ai)[AZ aa]?=some (.deferred (some []))/\∃af:Sl,zc (Array.setIfInBounds ai (AZ aa) (.deferred none)) ⟨AZ h,0,none⟩=some (.slice af.a af.len af.cap)/\∃aB:Int,zc (Array.setIfInBounds ai (AZ aa) (.deferred none)) ⟨AZ ak,0,none⟩=some (.int .i64 aB)/\∃ar:Int,zc (Array.setIfInBounds ai (AZ aa) (.deferred none)) ⟨AZ aj,0,none⟩=some (.int .i64 ar)/\R (.tuple #[.slice af.a af.len af.cap,.int .i64 aB,.int .i64 ar]) (Array.setIfInBounds ai (AZ aa) (.deferred none)))))) (λab=>(ab)[AZ aa]?=some (.deferred (some []))/\∃ae:Sl,zc (Array.setIfInBounds ab (AZ aa) (.deferred none)) ⟨AZ h,0,none⟩=some (.slice ae.a ae.len ae.cap)/\∃au:Int,zc (Array.setIfInBounds ab (AZ aa) (.deferred none)) ⟨AZ ak,0,none⟩=some (.int .i64 au)/\∃ay:Int,zc (Array.setIfInBounds ab (AZ aa) (.deferred none)) ⟨AZ aj,0,none⟩=some (.int .i64 ay)/\R (.tuple #[.slice ae.a ae.len ae.cap,.int .i64 au,.int .i64 ay]) (Array.setIfInBounds ab (AZ aa) (.deferred none))) aH)):
  XC Tp 60 #[.string s0] h R:=
 zpn Tryz.mixed [.string s0] (rs:=[.cell 2 83,.cell 3 3,.cell 4 27]) (n:=25) Tryz.func60 (by kernel_rfl) (by kernel_rfl) (by kernel_rfl) (by kernel_rfl) H (by kernel_rfl)
theorem zcp(x9:Value)(x8:Value)(x5:Addr)(x4:Addr)(x3:Addr)(x2:Addr)(x0:Value)(am:Int)(ak:Int)(aj:Int)(an:Int)(rec:ztu)(l:Nat)(K:Value->zb->Prop)(h:zb)
  (H:let aC:zb:=Dw h (.cells #[.int .i64 0,.int .i64 0,.int .i64 0] 90);XRunU Tp (Aj 90 (.pointer (some ⟨AZ h,0,none⟩)) (.agg #[.int .i64 am,.int .i64 ak,.int .i64 aj])) aC (λau=>(au)[l]?=some (.loop (rec .ready none))/\let ab:zb:=Array.setIfInBounds au l (.loop (rec .busy none));(((an:Int) != 0)=true->∃ah:Int,zc ab (Af (Af ⟨AZ h,0,none⟩ 1) 0)=some (.int .i64 ah)/\XRunU Tp (Aj 83 (.pointer (some x2)) (.slice none 0 0)) ab (λax=>(ax)[((Af (Af ⟨AZ h,0,none⟩ 1) 0):Addr).block]?=(ab)[((Af (Af ⟨AZ h,0,none⟩ 1) 0):Addr).block]?/\XRunU Tp (Aj 3 (.pointer (some x3)) (.int .i64 ah)) ax (λaz=>XRunU Tp (Aj 27 (.pointer (some x4)) (.int .i64 an)) az (λar=>(ar)[l]?=some (.loop (rec .busy none))/\K (.bool false) (Array.setIfInBounds ar l (.loop (rec .done (some .ret))))))))/\(((an:Int) != 0)=false->∃aa:Sl,zc ab x5=some (.slice aa.a aa.len aa.cap)/\∃af:Int,∃ae:Int,∃ai:Int,zh ab ⟨AZ h,0,none⟩ 0 [.int .i64 af,.int .i64 ae,.int .i64 ai]/\let ay:zb:=Dw ab (.cells #[.int .i64 af,.int .i64 ae,.int .i64 ai] 90);XRun Tp (AD #[83,83] 83 #[.slice aa.a aa.len aa.cap,.slice (some ⟨AZ ab,0,none⟩) 1 1]) ay (λaB aA=>∃Z:Sl,aB=.slice Z.a Z.len Z.cap/\XRunU Tp (Aj 83 (.pointer (some x5)) (.slice Z.a Z.len Z.cap)) aA (λap=>(ap)[l]?=some (.loop (rec .busy none))/\K (.bool true) (Array.setIfInBounds ap l (.loop (rec .ready none)))))))):
  zgr Tp 25 (rfA (codeOf Tryz.f60)) (rfB (codeOf Tryz.f60)) rec l K [(11,[],.int .i64 an),(10,[],.agg #[.int .i64 am,.int .i64 ak,.int .i64 aj]),(9,[],x9),(8,[],x8),(5,[],.pointer (some x5)),(4,[],.pointer (some x4)),(3,[],.pointer (some x3)),(2,[],.pointer (some x2)),(0,[],x0)] h:=
 Eq.mp (by kernel_rfl) H
end
end Go.X
end
section
namespace Go.X
open Go Go.X Go.Proofs Go.RowKit
section
variable {g:zb} {i:Nat} {k f t:Int} {x9 x8 x0:Value} {K:Value -> zb -> Prop}
abbrev tTk:Ty:=.pair (.int .i64) (.pair (.int .i64) (.int .i64))
theorem zxj:ElemT Tp 83 90 (.agg #[.int .i64 0,.int .i64 0,.int .i64 0]) (sz tTk) 24:=⟨by kernel_rfl,⟨Tryz.t90,by kernel_rfl,by kernel_rfl,by kernel_rfl,by kernel_rfl⟩,rfl,by decide⟩
theorem z4a:ql Tp 83=true:=by kernel_rfl
theorem z4b:qy Tp 83=1:=by kernel_rfl
theorem z7k:ql Tp 3=true:=by kernel_rfl
theorem z7l:qy Tp 3=1:=by kernel_rfl
theorem z7m:ql Tp 27=true:=by kernel_rfl
theorem z7n:qy Tp 27=1:=by kernel_rfl
theorem zxk{M:Fr}(k f t:Int):Rd M tTk (k,(f,t)) (zky k f t):=⟨[.int .i64 k],[.int .i64 f,.int .i64 t],rfl,rfl,[.int .i64 f],[.int .i64 t],rfl,rfl,rfl⟩
structure TkS (h:zb) (M:Fr) (b2 b3 b4 b5 bc D l:Nat) (rec:ztu) (s:Bs) (out:List Tk) (sl:Sl) (bs:List Nat) (g:zb):Prop where
 keep:Keep h.size h g
 c:Blk g bc #[.string (bl s)]
 d:g[D]?=some (.deferred (some []))
 rc:g[l]?=some (.loop (rec .ready none))
 r2:Blk g b2 #[.slice none 0 0]
 r3:Blk g b3 #[.int .i64 0]
 r4:Blk g b4 #[.int .i64 0]
 r5:Blk g b5 #[slV sl]
 o:ORow (l+1) g M tTk out sl bs
structure Apart (h:zb) (b2 b3 b4 b5 bc D l:Nat):Prop where
 lo:h.size<=b2
 a3:b2<b3
 a4:b3<b4
 a5:b4<b5
 ac:b5<bc
 aD:bc<D
 al:l=D+1
theorem yl{i j:Nat}{o:Obj}(h:j≠i):(g.setIfInBounds i o)[j]?=g[j]?:=AO (Ne.symm h)
theorem set_self{o:Obj}(h:i<g.size):(g.setIfInBounds i o)[i]?=some o:=Array.getElem?_setIfInBounds_self_of_lt h
theorem Blk.fr{g g':zb}{b:Nat}{cs:Array Value}(H:Blk g b cs)(e:g'[b]?=g[b]?):Blk g' b cs:=H.keep e
theorem lt_of_some{o:Obj}(h:g[i]?=some o):i<g.size:=(Ac.1 h).1
section
variable {h : zb} {M : Fr} {b2 b3 b4 b5 bc D l : Nat} {rec : ztu} {s : Bs} {out : List Tk} {sl : Sl} {bs : List Nat} {g : zb}
set_option maxRecDepth 100000 in
set_option maxHeartbeats 1000000 in
theorem TkS.round(A:Apart h b2 b3 b4 b5 bc D l)(ag:AgM M h)(S:TkS h M b2 b3 b4 b5 bc D l rec s out sl bs g)(hn:out.length<=100000)
  (hK:∀g' aG an,TkS h M b2 b3 b4 b5 bc D l rec s (out++[(k,(f,t))]) aG an g'->g.size<=g'.size->(∀j,j<g.size->j≠b5->j≠l->j∉bs->g'[j]?=g[j]?)->K (.bool true) g'):
  zgr Tp 25 (rfA (codeOf Tryz.f60)) (rfB (codeOf Tryz.f60)) rec l K [(11,[],.int .i64 0),(10,[],.agg #[.int .i64 k,.int .i64 f,.int .i64 t]),(9,[],x9),(8,[],x8),(5,[],.pointer (some ⟨b5,0,none⟩)),(4,[],.pointer (some ⟨b4,0,none⟩)),(3,[],.pointer (some ⟨b3,0,none⟩)),(2,[],.pointer (some ⟨b2,0,none⟩)),(0,[],x0)] g:=by
 apply zcp
 intro ab
 have aE:Keep g.size g ab:=Keep.push _ _ (Ad _)
 have aN:ab.size=g.size+1:=Al _
 have aH:Blk ab g.size (zky 0 0 0).toArray:=Blk.new _ _ _
 clear_value ab
 have ll:=lt_of_some S.rc
 have:=A.lo;have:=A.a3;have:=A.a4;have:=A.a5;have:=A.ac;have:=A.aD;have:=A.al
 refine zxd aH λah q1 q2 q3=>?_
 have ae:∀j,j<g.size->ah[j]?=g[j]?:=λj hj=>by rw[q1 j (by omega)];exact aE.get j hj
 refine⟨by rw[ae l ll];exact S.rc,?_⟩
 intro Z
 have ai:∀j,j≠l->Z[j]?=ah[j]?:=λj hj=>yl hj
 have aA:Z[l]?=some (.loop (rec .busy none)):=set_self (by omega)
 have aM:Z.size=ah.size:=A7
 clear_value Z
 refine⟨λhx=>by simp at hx,λ_=>?_⟩
 have B5:Blk Z b5 #[slV sl]:=S.r5.keep (by rw[ai b5 (by omega),ae b5 (by omega)])
 have Bt:Blk Z g.size (zky k f t).toArray:=q3.keep (ai g.size (by omega))
 refine⟨sl,B5.cell rfl,k,f,t,Bt.ld,?_⟩
 intro aa
 have am:Keep Z.size Z aa:=Keep.push _ _ (Ad _)
 have aO:aa.size=Z.size+1:=Al _
 have aB:Blk aa Z.size (zky k f t).toArray:=Blk.new _ _ _
 clear_value aa
 have ar:∀j,j<g.size->j≠l->aa[j]?=g[j]?:=λj hj hl=>by rw[am.get j (by omega),ai j hl,ae j hj]
 have ay:AgM M aa:=λb c e=>by
  obtain⟨T,m,e'⟩:=(ag.keep S.keep) b c e
  have hb:=ag.lt e
  exact⟨T,m,by rw[ar b (by have:=S.keep.size;omega) (by omega)];exact e'⟩
 have aI:ORow (l+1) aa M tTk out sl bs:=S.o.frame (λc hc=>by
  have:=S.o.own c hc
  exact ar c this.2.1 (by omega)) (Fr.le.refl _) (λc hc=>(S.o.own c hc).2.2)
 refine ORow.app zxj (by omega) ay aI (by omega) aB (zxk k f t) (by omega) λs' aC an ap aJ aL aj=>⟨s',rfl,?_⟩
 have af:∀c∈bs,l+1<=c:=λc hc=>(S.o.own c hc).1
 have aF:Blk aC b5 #[slV sl]:=B5.keep (by
  rw[aj b5 (by omega) (λhm=>by have:=af _ hm;omega)]
  exact am.get b5 (by omega))
 refine yy z4a z4b aF (by show 0<1;omega) rfl λak u1 u3 u2=>?_
 have ax:∀j,j<g.size->j≠l->j≠b5->j∉bs->ak[j]?=g[j]?:=λj hj hl h5 hm=>by rw[u2 j h5,aj j (by omega) hm,ar j hj hl]
 have au:ak[l]?=some (.loop (rec .busy none)):=by
  rw[u2 l (by omega),aj l (by omega) (λhm=>by have:=af _ hm;omega),am.get l (by omega)];exact aA
 refine⟨au,hK _ s' an ?_ ?_ ?_⟩
 ·have az:=lt_of_some au
  have bx:∀j,j<l->j≠b5->(ak.setIfInBounds l (.loop (rec .ready none)))[j]?=g[j]?:=λj hj h5=>by
   rw[yl (by omega)]
   exact ax j (by omega) (by omega) h5 (λhm=>by have:=af _ hm;omega)
  refine⟨S.keep.trans ⟨?_,λj hj=>bx j (by omega) (by omega)⟩ (Ad _),S.c.keep (bx bc (by omega) (by omega)),(bx D (by omega) (by omega)).trans S.d,set_self az,S.r2.keep (bx b2 (by omega) (by omega)),S.r3.keep (bx b3 (by omega) (by omega)),S.r4.keep (bx b4 (by omega) (by omega)),?_,?_⟩
  ·rw[A7]
   have:=S.keep.size;omega
  ·exact Blk.keep u1 (yl (by omega))
  ·refine ap.frame (λc hc=>?_) (Fr.le.refl _) (λc hc=>(ap.own c hc).2.2)
   have:=(ap.own c hc).1
   rw[yl (by omega),u2 c (by omega)]
 ·rw[A7];omega
 ·intro j hj h5 hl hm
  rw[yl hl];exact ax j hj hl h5 hm
set_option maxRecDepth 100000 in
set_option maxHeartbeats 1000000 in
theorem TkS.err(A:Apart h b2 b3 b4 b5 bc D l)(S:TkS h M b2 b3 b4 b5 bc D l rec s out sl bs g){k f t e:Int}(he:¬e=0)
  (hK:∀g',Keep h.size h g'->g'[D]?=some (.deferred (some []))->g'[l]?=some (.loop (rec .done (some .ret)))->Blk g' b2 #[.slice none 0 0]->Blk g' b3 #[.int .i64 f]->Blk g' b4 #[.int .i64 e]->K (.bool false) g'):
  zgr Tp 25 (rfA (codeOf Tryz.f60)) (rfB (codeOf Tryz.f60)) rec l K [(11,[],.int .i64 e),(10,[],.agg #[.int .i64 k,.int .i64 f,.int .i64 t]),(9,[],x9),(8,[],x8),(5,[],.pointer (some ⟨b5,0,none⟩)),(4,[],.pointer (some ⟨b4,0,none⟩)),(3,[],.pointer (some ⟨b3,0,none⟩)),(2,[],.pointer (some ⟨b2,0,none⟩)),(0,[],x0)] g:=by
 apply zcp
 intro ab
 have aj:Keep g.size g ab:=Keep.push _ _ (Ad _)
 have ap:ab.size=g.size+1:=Al _
 have an:Blk ab g.size (zky 0 0 0).toArray:=Blk.new _ _ _
 clear_value ab
 have ll:=lt_of_some S.rc
 have:=A.lo;have:=A.a3;have:=A.a4;have:=A.a5;have:=A.ac;have:=A.aD;have:=A.al
 refine zxd an λae q1 q2 q3=>?_
 have af:∀j,j<g.size->ae[j]?=g[j]?:=λj hj=>by rw[q1 j (by omega)];exact aj.get j hj
 refine⟨by rw[af l ll];exact S.rc,?_⟩
 intro aa
 have ah:∀j,j≠l->aa[j]?=ae[j]?:=λj hj=>yl hj
 have ak:aa[l]?=some (.loop (rec .busy none)):=set_self (by omega)
 have au:aa.size=ae.size:=A7
 clear_value aa
 refine⟨λ_=>?_,λhx=>by simp[he]at hx⟩
 have Bt:Blk aa g.size (zky k f t).toArray:=q3.keep (ah g.size (by omega))
 have Z:∀j,j<g.size->j≠l->aa[j]?=g[j]?:=λj hj hl=>(ah j hl).trans (af j hj)
 refine⟨f,?_,?_⟩
 ·rw[zi,zi];exact Bt.cell rfl
 refine yy z4a z4b (S.r2.keep (Z b2 (by omega) (by omega))) (by show 0<1;omega) rfl λar u1 u3 u2=>⟨?_,?_⟩
 ·rw[zi,zi];exact u2 g.size (by omega)
 refine yy z7k z7l (S.r3.keep ((u2 b3 (by omega)).trans (Z b3 (by omega) (by omega)))) (by show 0<1;omega) rfl λax v1 v3 v2=>?_
 refine yy z7m z7n (S.r4.keep ((v2 b4 (by omega)).trans ((u2 b4 (by omega)).trans (Z b4 (by omega) (by omega))))) (by show 0<1;omega) rfl λam w1 w3 w2=>?_
 have ai:am[l]?=some (.loop (rec .busy none)):=by rw[w2 l (by omega),v2 l (by omega),u2 l (by omega)];exact ak
 refine⟨ai,hK _ ?_ ?_ (set_self (lt_of_some ai)) ?_ ?_ ?_⟩
 ·refine S.keep.trans ⟨by rw[A7];have:=S.keep.size;omega,λj hj=>?_⟩ (Ad _)
  rw[yl (by omega),w2 j (by omega),v2 j (by omega),u2 j (by omega)]
  exact Z j (by have:=S.keep.size;omega) (by omega)
 ·rw[yl (by omega),w2 D (by omega),v2 D (by omega),u2 D (by omega),Z D (by omega) (by omega)];exact S.d
 ·exact Blk.keep u1 (by rw[yl (by omega),w2 b2 (by omega),v2 b2 (by omega)])
 ·exact Blk.keep v1 (by rw[yl (by omega),w2 b3 (by omega)])
 ·exact Blk.keep w1 (yl (by omega))
end
end
section
variable {M:Fr} {s:Bs} {g g':zb} {k last a e lf:Int} {O:Nat -> Prop} {lo bp b c:Nat} {rs:Sl} {cs:Array Value}
theorem z4c{t:Ty}{x:El t}{xs:List (El t)}{s:Sl}(h:Rd M (.row t) (x::xs) [slV s]):Rd M (.row t) xs [slV ⟨zpu s.a (sz t) 1 s.cap,s.len-1,s.cap-1⟩]:=by
 obtain⟨h1,h2,h3⟩:=rowLen h
 rw[AI]at h1 h2 h3
 refine⟨_,rfl,zpu s.a (sz t) 1 s.cap,s.cap-1,?_,⟨by omega,by omega⟩,?_⟩
 ·show slV _=_
  unfold slV;rw[h1];rfl
 ·by_cases he:xs=[]
  ·exact .inl he
  ·have hp:=Bj.2 he
   obtain⟨b,o,cs,e1,e2,e3⟩:∃b o cs,s.a=some ⟨b,o,none⟩/\M b=some cs/\∀i (hi:i<(x::xs).length),Rd M t (x::xs)[i] (cut cs (o+i*sz t) (sz t)):=by
    obtain⟨w,e,a,c,q,hn,hx⟩:=h
    simp only[BR,and_true]at e
    subst e
    simp only[slV,Bb]at q
    rcases hx with hx|⟨b,o,cs,e1,e2,e3⟩
    ·cases hx
    ·exact⟨b,o,cs,by rw[q.1,e1],e2,e3⟩
   refine .inr ⟨b,o+sz t,cs,?_,e2,λi hi=>?_⟩
   ·unfold zpu
    rw[if_neg (by omega),e1,D5,zi,Dt]
   ·have:=e3 (i+1) (by simp;omega)
    rw[List.getElem_cons_succ]at this
    rw[show o+sz t+i*sz t=o+(i+1)*sz t by rw[CV];omega]
    exact this
theorem ztl(ag:AgM M g){xs:List Tk}{s:Sl}(H:Rd M (.row tTk) xs [slV s]){k:Nat}(hk:k<xs.length):∃b o,s.a=some ⟨b,o,none⟩/\zc g ⟨b,o+k*3,none⟩=some (.int .i64 xs[k].1)/\zc g ⟨b,o+k*3+1,none⟩=some (.int .i64 xs[k].2.1)/\zc g ⟨b,o+k*3+2,none⟩=some (.int .i64 xs[k].2.2):=by
 obtain⟨b,o,cs,e1,e2,e3⟩:=Go.X.rowAt H hk
 refine⟨b,o,e1,?_⟩
 obtain⟨c1,c2,e,h1,c3,c4,h2,h3,h4⟩:=e3
 have h1:c1=[.int .i64 xs[k].1]:=h1
 have h3:c3=[.int .i64 xs[k].2.1]:=h3
 have h4:c4=[.int .i64 xs[k].2.2]:=h4
 subst h1 h3 h4 h2
 have e:cut cs (o+k*3) 3=zky xs[k].1 xs[k].2.1 xs[k].2.2:=e
 have L:=zy8 (vs:=zky xs[k].1 xs[k].2.1 xs[k].2.2) (o:=o+k*3) (i:=0) ag e2 (by rw[CQ];exact e)
 obtain⟨l1,l2,l3,_⟩:=L
 rw[zi]at l1 l2 l3
 exact⟨l1,l2,l3⟩
def ppC(s:Bs)(rs:Sl)(lf last:Int)(sl:Sl)(a e:Int):List Value:=[.string (bl s),slV rs,.int .i64 lf,.int .i64 last,slV sl,.int .i64 a,.int .i64 e]
def ppO(bp:Nat)(na:NA)(sl:Sl)(b c:Nat):Prop:=c=bp\/nsO na sl b c
structure PW (lo:Nat) (g:zb) (M:Fr) (bp:Nat) (s:Bs) (rest:List Tk) (last a e:Int) (rs:Sl) (lf:Int) (na:NA) (sl:Sl) (b:Nat) (cs:Array Value):Prop where
 blk:Blk g bp (ppC s rs lf last sl a e).toArray
 rd:Rd M (.row tTk) rest [slV rs]
 ns:NS lo g M na sl b cs
 ag:AgM M g
 bl:lo<=bp/\M bp=none
 nb:¬nsO na sl b bp
def PaS(lo:Nat)(g:zb)(M:Fr)(bp:Nat)(s:Bs)(st:PSt)(a e:Int)(O:Nat->Prop):Prop:=
 ∃(rs:Sl) (lf:Int) (na:NA) (sl:Sl) (b:Nat) (cs:Array Value),PW lo g M bp s st.rest st.last a e rs lf na sl b cs/\na.map (·.1)=st.nodes/\O=ppO bp na sl b
structure Stp (g:zb) (O:Nat->Prop) (g':zb) (O':Nat->Prop):Prop where
 le:g.size<=g'.size
 sub:∀c,O' c->O c\/g.size<=c
 fr:∀j,j<g.size->¬O j->g'[j]?=g[j]?
theorem Stp.refl(g:zb)(O:Nat->Prop):Stp g O g O:=⟨Ad _,λc h=>.inl h,λj _ _=>rfl⟩
theorem Stp.trans{g g' aa:zb}{O O' Z:Nat->Prop}(a:Stp g O g' O')(b:Stp g' O' aa Z):Stp g O aa Z:=by
 have:=a.le;have:=b.le
 refine⟨by omega,λc h=>?_,λj hj hn=>?_⟩
 ·rcases b.sub c h with h|h
  ·exact a.sub c h
  ·exact .inr (by omega)
 ·rw[b.fr j (by omega) (λh=>?_)]
  ·exact a.fr j hj hn
  ·rcases a.sub j h with h|h
   ·exact hn h
   ·omega
theorem Stp.keep(k:Keep g.size g g'):Stp g O g' O:=⟨k.size,λc h=>.inl h,λj hj _=>k.get j hj⟩
theorem PW.own{rest:List Tk}{na:NA}{sl:Sl}(H:PW lo g M bp s rest last a e rs lf na sl b cs)(h:ppO bp na sl b c):lo<=c/\c<g.size/\M c=none:=by
 rcases h with rfl|h
 ·exact⟨H.bl.1,H.blk.lt,H.bl.2⟩
 ·exact H.ns.own h
theorem PaS.own{st:PSt}(H:PaS lo g M bp s st a e O)(h:O c):lo<=c/\c<g.size/\M c=none:=by
 obtain⟨rs,lf,na,sl,b,cs,W,_,rfl⟩:=H
 exact W.own h
theorem zhb(ag:AgM M g)(f:∀j,j<g.size->M j≠none->g'[j]?=g[j]?):AgM M g':=λb c e=>by
 obtain⟨T,m,e'⟩:=ag b c e
 exact⟨T,m,by rw[f b (ag.lt e) (by rw[e];simp)];exact e'⟩
theorem PaS.frame{st:PSt}(H:PaS lo g M bp s st a e O)(hz:g.size<=g'.size)(f:∀c,c<g.size->(O c\/M c≠none)->g'[c]?=g[c]?):PaS lo g' M bp s st a e O:=by
 obtain⟨rs,lf,na,sl,b,cs,W,h1,rfl⟩:=H
 refine⟨rs,lf,na,sl,b,cs,⟨W.blk.keep (f bp W.blk.lt (.inl (.inl rfl))),W.rd,W.ns.frame hz λc hc=>f c (W.ns.own hc).2.1 (.inl (.inr hc)),zhb W.ag λj hj hm=>f j hj (.inr hm),W.bl,W.nb⟩,h1,rfl⟩
theorem PaS.keep{st:PSt}(H:PaS lo g M bp s st a e O)(k:Keep g.size g g'):PaS lo g' M bp s st a e O:=H.frame k.size λc hc _=>k.get c hc
theorem PaS.ag{st:PSt}(H:PaS lo g M bp s st a e O):AgM M g:=by
 obtain⟨rs,lf,na,sl,b,cs,W,_,_⟩:=H;exact W.ag
theorem PW.put{rest rest':List Tk}{last last' a a' e e':Int}{rs rs':Sl}{lf lf':Int}{na:NA}{sl:Sl}(H:PW lo g M bp s rest last a e rs lf na sl b cs)(B:Blk g' bp (ppC s rs' lf' last' sl a' e').toArray)(r:Rd M (.row tTk) rest' [slV rs'])(hz:g'.size=g.size)(f:∀j,j≠bp->g'[j]?=g[j]?):PW lo g' M bp s rest' last' a' e' rs' lf' na sl b cs:=
 ⟨B,r,H.ns.frame (by omega) λc hc=>f c λh=>H.nb (h ▸ hc),zhb H.ag λj _ hm=>f j λh=>hm (h ▸ H.bl.2),H.bl,H.nb⟩
section
variable {lo : Nat} {g : zb} {M : Fr} {bp : Nat} {s : Bs} {st : PSt} {a e : Int} {O : Nat -> Prop} {K : Value -> zb -> Prop}
theorem zks(H:PaS lo g M bp s st a e O)(hK:K (.int .i64 st.kind) g):XC Tp 115 #[.pointer (some ⟨bp,0,none⟩)] g K:=by
 obtain⟨rs,lf,na,sl,b,cs,W,h1,rfl⟩:=H
 apply za1
 have hl:=(rowLen W.rd).1
 refine⟨_,rfl,rs,by rw[zi];exact W.blk.cell rfl,λhx=>?_,λhx=>⟨_,rfl,rs,by rw[zi];exact W.blk.cell rfl,?_⟩⟩
 ·have hx:rs.len=0:=by simpa using hx
  have:st.rest=[]:=AW.1 (by omega)
  unfold PSt.kind at hK
  rw[this]at hK;exact hK
 ·have hx:rs.len≠0:=by simpa using hx
  cases hr:st.rest with
  |nil=>rw[hr]at hl;exact absurd hl hx
  |cons t r=>
   have rd:=W.rd
   rw[hr]at rd
   obtain⟨tb,o,e1,e2,e3,e4⟩:=ztl W.ag rd (k:=0) (by simp)
   refine⟨_,⟨e1,by omega,by omega⟩,t.1,?_,?_⟩
   ·rw[zi,zi];exact e2
   ·unfold PSt.kind at hK;rw[hr]at hK;exact hK
theorem zxl(H:PaS lo g M bp s st a e O)(hK:K (.int .i64 (st.here s.length)) g):XC Tp 121 #[.pointer (some ⟨bp,0,none⟩)] g K:=by
 obtain⟨rs,lf,na,sl,b,cs,W,h1,rfl⟩:=H
 apply za5
 have hl:=(rowLen W.rd).1
 refine⟨_,rfl,rs,by rw[zi];exact W.blk.cell rfl,λhx=>?_,λhx=>⟨_,rfl,rs,by rw[zi];exact W.blk.cell rfl,?_⟩⟩
 ·have hx:rs.len=0:=by simpa using hx
  have:st.rest=[]:=AW.1 (by omega)
  unfold PSt.here at hK
  rw[this]at hK
  refine⟨_,rfl,bl s,by rw[zi];exact W.blk.cell rfl,?_⟩
  rw[zd];exact hK
 ·have hx:rs.len≠0:=by simpa using hx
  cases hr:st.rest with
  |nil=>rw[hr]at hl;exact absurd hl hx
  |cons t r=>
   have rd:=W.rd
   rw[hr]at rd
   obtain⟨tb,o,e1,e2,e3,e4⟩:=ztl W.ag rd (k:=0) (by simp)
   refine⟨_,⟨e1,by omega,by omega⟩,t.2.1,?_,?_⟩
   ·rw[zi,zi,zi];exact e3
   ·unfold PSt.here at hK;rw[hr]at hK;exact hK
theorem zna:ql Tp 3=true:=by kernel_rfl
theorem znb:qy Tp 3=1:=by kernel_rfl
theorem z7o:ql Tp 27=true:=by kernel_rfl
theorem z7p:qy Tp 27=1:=by kernel_rfl
theorem z4d:ql Tp 58=true:=by kernel_rfl
theorem z4e:qy Tp 58=2:=by kernel_rfl
theorem z4f:ql Tp 83=true:=by kernel_rfl
theorem z4g:qy Tp 83=1:=by kernel_rfl
theorem Stp.same(hz:g'.size=g.size)(hb:O bp)(f:∀j,j≠bp->g'[j]?=g[j]?):Stp g O g' O:=⟨by omega,λc h=>.inl h,λj hj hn=>f j λe=>hn (e ▸ hb)⟩
theorem Jo(H:PaS lo g M bp s st a e O){x:Int}(hK:∀g',PaS lo g' M bp s st (st.here s.length) x O->Stp g O g' O->K (.bool false) g'):XC Tp 62 #[.pointer (some ⟨bp,0,none⟩),.int .i64 x] g K:=by
 apply za0
 refine zxl H ⟨_,rfl,_,rfl,?_⟩
 obtain⟨rs,lf,na,sl,b,cs,W,h1,rfl⟩:=H
 rw[zi]
 refine yy zna znb W.blk (by show 5<7;omega) rfl λg1 u1 u2 u3=>⟨_,rfl,?_⟩
 rw[zi]
 refine yy z7o z7p u1 (by show 6<7;omega) rfl λg2 v1 v2 v3=>?_
 have f:∀j,j≠bp->g2[j]?=g[j]?:=λj hj=>(v3 j hj).trans (u3 j hj)
 exact hK g2 ⟨rs,lf,na,sl,b,cs,W.put (rest':=st.rest) (last':=st.last) (a':=st.here s.length) (e':=x) (rs':=rs) (lf':=lf) v1 W.rd (by omega) f,h1,rfl⟩ (Stp.same (by omega) (.inl rfl) f)
theorem zpo(H:PaS lo g M bp s st a e O)(hr:st.rest≠[])(hK:∀g',PaS lo g' M bp s st.skip a e O->Stp g O g' O->K (.tuple #[]) g'):XC Tp 116 #[.pointer (some ⟨bp,0,none⟩)] g K:=by
 apply za2
 obtain⟨rs,lf,na,sl,b,cs,W,h1,rfl⟩:=H
 obtain⟨hl,_,hc⟩:=rowLen W.rd
 obtain⟨t,r,er⟩:=AX hr
 have rd:=W.rd
 rw[er]at rd hl hc
 rw[AI]at hl hc
 obtain⟨tb,o,e1,e2,e3,e4⟩:=ztl W.ag rd (k:=0) (by simp)
 refine⟨_,rfl,rs,by rw[zi];exact W.blk.cell rfl,_,⟨e1,by omega,by omega⟩,t.2.1,t.2.2,?_,_,rfl,rs,by rw[zi];exact W.blk.cell rfl,.inl rfl,⟨by omega,by omega,by omega,by omega⟩,_,rfl,?_⟩
 ·rw[zi,zi]
  exact⟨by rw[zi];exact e3,by rw[zi];exact e4,trivial⟩
 rw[zi]
 refine X0 (vs:=[.int .i64 t.2.1,.int .i64 t.2.2]) z4d W.blk rfl z4e (by show 2+2<=7;omega) (λu hu=>?_) λg1 u1 u2 u3=>⟨_,rfl,?_⟩
 ·simp at hu;rcases hu with rfl|rfl <;> rfl
 rw[zi]
 refine yy z4f z4g u1 (by rw[zka (by show 2+2<=7;omega)];show 1<7;omega) rfl λg2 v1 v2 v3=>?_
 have f:∀j,j≠bp->g2[j]?=g[j]?:=λj hj=>(v3 j hj).trans (u3 j hj)
 have Z:=z4c rd
 rw[Ae,Ae]at v1
 have v1:Blk g2 bp (ppC s ⟨zpu rs.a (sz tTk) 1 rs.cap,rs.len-1,rs.cap-1⟩ t.2.1 t.2.2 sl a e).toArray:=v1
 have es:st.skip=⟨r,t.2.2,st.nodes⟩:=by unfold PSt.skip;rw[er]
 rw[es]at hK
 exact hK g2 ⟨_,t.2.1,na,sl,b,cs,W.put v1 Z (by omega) f,h1,rfl⟩ (Stp.same (by omega) (.inl rfl) f)
theorem PSt.ne_of_kind{st:PSt}(h:st.kind=k)(hk:k≠0):st.rest≠[]:=λe=>by
 unfold PSt.kind at h;rw[e]at h;exact hk h.symm
theorem ze3(H:PaS lo g M bp s st a e O)(hk:k≠0)(hY:st.kind=k->∀g',PaS lo g' M bp s st.skip a e O->Stp g O g' O->K (.bool true) g')(hN:st.kind≠k->K (.bool false) g):XC Tp 199 #[.pointer (some ⟨bp,0,none⟩),.int .i64 k] g K:=by
 apply Xo
 refine zks H ⟨_,rfl,λhx=>hN (by simpa using hx),λhx=>?_⟩
 have hx:st.kind=k:=by simpa using hx
 exact zpo H (PSt.ne_of_kind hx hk) λg' p q=>⟨rfl,hY hx g' p q⟩
end
end
section
variable {M:Fr} {g:zb} {s:Sl} {k b f:Nat} {t:Bs}
theorem z4h(ag:AgM M g){xs:List Int}(H:Rd M (.row (.int .i64)) xs [slV s])(hk:k<xs.length):∃b o,s.a=some ⟨b,o,none⟩/\zc g ⟨b,o+k*1,none⟩=some (.int .i64 xs[k]):=by
 obtain⟨b,o,cs,e1,e2,e3⟩:=Go.X.rowAt H hk
 exact⟨b,o,e1,zvn ag e2 e3⟩
theorem qal(ag:AgM M g){xs:List Nd}(H:Rd M (.row tNd) xs [slV s])(hk:k<xs.length):∃(b o:Nat) (ks ps:Sl),s.a=some ⟨b,o,none⟩/\zh g ⟨b,o+k*7,none⟩ 0 [.int .i64 xs[k].1,.int .i64 xs[k].2.1.1,.int .i64 xs[k].2.1.2,.int .i64 xs[k].2.2.1.1,.int .i64 xs[k].2.2.1.2,slV ks,slV ps]/\Rd M (.row (.int .i64)) xs[k].2.2.2.1 [slV ks]:=by
 obtain⟨b,o,cs,e1,e2,e3⟩:=Go.X.rowAt H hk
 obtain⟨c1,r1,q1,a1,c2,r2,q2,⟨d1,d2,q3,a2,a3⟩,c3,r3,q4,⟨d3,d4,q5,a4,a5⟩,c4,c5,q6,a6,a7⟩:=e3
 have a1:c1=[.int .i64 xs[k].1]:=a1
 have a2:d1=[.int .i64 xs[k].2.1.1]:=a2
 have a3:d2=[.int .i64 xs[k].2.1.2]:=a3
 have a4:d3=[.int .i64 xs[k].2.2.1.1]:=a4
 have a5:d4=[.int .i64 xs[k].2.2.1.2]:=a5
 obtain⟨ks,rfl⟩:∃ks:Sl,c4=[slV ks]:=by
  obtain⟨w,e,a,c,q,_⟩:=a6
  exact⟨⟨a,_,c⟩,by rw[e,q];rfl⟩
 obtain⟨ps,rfl⟩:∃ps:Sl,c5=[slV ps]:=by
  obtain⟨w,e,a,c,q,_⟩:=a7
  exact⟨⟨a,_,c⟩,by rw[e,q];rfl⟩
 subst a1 a2 a3 a4 a5 q3 q5 q6 q4 q2
 refine⟨b,o,ks,ps,e1,?_,a6⟩
 exact zy8 (o:=o+k*7) (i:=0) ag e2 (by rw[CQ];exact q1)
theorem qa2:ql Tp 62=true:=by kernel_rfl
theorem qa3:qy Tp 62=7:=by kernel_rfl
theorem qam:ql Tp 26=true:=by kernel_rfl
theorem qan:qy Tp 26=4:=by kernel_rfl
theorem Wx{x y z w:Value}(B:Blk g b #[x,y,z,w]){k:Int}{s:Bt}{sk si:Sl}{K:zb->Prop}(hK:∀g',(∀j,j≠b->g'[j]?=g[j]?)->g'.size=g.size->Blk g' b #[.int .i64 k,.string s,slV sk,slV si]->K g'):
  XRunU Tp (Aj 26 (.pointer (some ⟨b,0,none⟩)) (.agg #[.int .i64 k,.string s,slV sk,slV si])) g K:=by
 refine X0 (vs:=[.int .i64 k,.string s,slV sk,slV si]) qam B rfl qan (Ad _) (λu hu=>?_) λg' q1 q2 q3=>hK g' q3 q2 q1
 simp at hu;rcases hu with rfl|rfl|rfl|rfl <;> rfl
def w7(t:Bs)(nodes:List Nd)(f:Nat)(x:Nd)(n:Nat):Tr:=.mk x.1 (bl (Jx x.1 (zw t x.2.1))) (if x.1=6 then(x.2.2.2.1.take n).map λc=>bl (zgl t nodes c)else []) ((x.2.2.2.1.take n).map λc=>wo t nodes f c.toNat)
theorem znc{nodes:List Nd}{x:Nd}(hx:nodes[k]?=some x):w7 t nodes f x x.2.2.2.1.length=wo t nodes (f+1) k:=by
 unfold w7;rw[wo,hx,A5]
theorem zir{nodes:List Nd}{x:Nd}{n:Nat}(hn:n<x.2.2.2.1.length):w7 t nodes f x (n+1)=.mk x.1 (bl (Jx x.1 (zw t x.2.1))) (if x.1=6 then(w7 t nodes f x n).keys++[bl (zgl t nodes x.2.2.2.1[n])]else(w7 t nodes f x n).keys) ((w7 t nodes f x n).items++[wo t nodes f x.2.2.2.1[n].toNat]):=by
 unfold w7
 rw[AH hn,CP,CP]
 by_cases h6:x.1=6
 ·simp only[h6,if_true];rfl
 ·simp only[h6,if_false];rfl
section
variable {t : Bs} {nodes : List Nd} {lvs : List Nat} {gl : Fr}
theorem ztm{u v:Value}(B:Blk g b #[u,v]):zh g ⟨b,0,none⟩ 0 [u,v]:=B.ld (cs:=[u,v])
def qa4(F:FuncId)(t:Bs)(nodes:List Nd)(gl:Fr)(k:Nat)(Z:List Value)(v:Tr):Prop:=
 ∀(h:zb) (M:Fr) (ds:Sl),Fr.le gl M->AgM M h->Rd M (.row tNd) nodes [slV ds]->∀(K:Value->zb->Prop),(∀(h':zb) (bs:List Nat) (sk si:Sl),Keep h.size h h'->OT h' v bs (wm v sk si)->(∀b∈bs,h.size<=b)->K (.agg #[.int .i64 v.kind,.string v.text,slV sk,slV si]) h') ->
  XC Tp F ([Value.agg #[.string (bl t),slV ds],D7 .i64 (k:Int)]++Z).toArray h K
set_option maxRecDepth 100000 in
set_option maxHeartbeats 4000000 in
theorem zxm(hg:GL gl)(ht:t.length<=65536)(G:GoodN lvs nodes)(bJ:∀x∈nodes,x.2.2.2.1.length<=200000):∀(f k l:Nat) (L:Int),lvs[k]?=some l->33-l<=f->1<=L->L<=(l:Int)->qa4 59 t nodes gl k [.int .i64 L] (wo t nodes f k)
 |0,k,l,L,hl,hf,_,_=>by have:=G.lv k l hl;omega
 |f+1,k,l,L,hl,hf,hL1,hL2=>by
  intro h M ds hM ag rd K hK
  have bg:k<nodes.length:=by have:=(Au.1 hl).1;have:=G.len;omega
  have hx:nodes[k]?=some nodes[k]:=Ak bg
  have cO:=G.lv k l hl
  have aM:=G.kid k l nodes[k] hx hl
  have cb:=bJ _ (AM bg)
  generalize cg:nodes[k]=x at hx aM cb
  have cY:=(rowLen rd).1
  show XC Tp _ #[.agg #[.string (bl t),slV ds],.int .i64 (k:Int),.int .i64 L] h K
  apply zmu
  intro h1 h2
  have k1:Keep h.size h h1:=Keep.push _ _ (Ad _)
  have k2:Keep h1.size h1 h2:=Keep.push _ _ (Ad _)
  have z1:h1.size=h.size+1:=Al _
  have z2:h2.size=h1.size+1:=Al _
  have D1:Blk h1 h.size #[.string (bl t),slV ds]:=Blk.new _ _ _
  have R2:Blk h2 h1.size #[.int .i64 0,.string ⟨#[]⟩,.slice none 0 0,.slice none 0 0]:=Blk.new _ _ _
  clear_value h1 h2
  have bO:Keep h.size h h2:=k1.trans (c:=h2) (m:=h.size) ⟨k2.size,λj hj=>k2.get j (by omega)⟩ (Ad _)
  have D2:=D1.keep (k2.get h.size (by omega))
  have cz:=ag.keep bO
  obtain⟨nb,no,ks,ps,e1,e2,e3⟩:=qal cz rd bg
  rw[cg]at e2 e3
  have cB:=(rowLen e3).1
  refine⟨ds,by rw[zi];exact D2.cell rfl,_,⟨e1,by omega,by omega⟩,x.1,x.2.1.1,x.2.1.2,x.2.2.1.1,x.2.2.1.2,ks,ps,?_,?_⟩
  ·rw[zi,Ae];exact e2
  intro aS
  have cj:Keep h2.size h2 aS:=Keep.push _ _ (Ad _)
  have cJ:aS.size=h2.size+1:=Al _
  have ca:Blk aS h2.size #[.int .i64 0,.int .i64 0,.int .i64 0,.int .i64 0,.int .i64 0,.slice none 0 0,.slice none 0 0]:=Blk.new _ _ _
  clear_value aS
  refine X0 (vs:=ndC (x,⟨ks,[],ps,[]⟩)) qa2 ca rfl qa3 (Ad _) (zpi _) λZ aj cQ bV=>?_
  have aj:Blk Z h2.size #[.int .i64 x.1,.int .i64 x.2.1.1,.int .i64 x.2.1.2,.int .i64 x.2.2.1.1,.int .i64 x.2.2.1.2,slV ks,slV ps]:=aj
  have ay:Keep h2.size h2 Z:=⟨by omega,λj hj=>(bV j (by omega)).trans (cj.get j hj)⟩
  have aF:Keep h.size h Z:=bO.trans (c:=Z) (m:=h.size) ⟨ay.size,λj hj=>ay.get j (by omega)⟩ (Ad _)
  have bm:=D2.keep (ay.get h.size (by omega))
  have cn:=R2.keep (ay.get h1.size (by omega))
  intro bI bn
  have bE:∀(vb:Nat) (aI:zb),Z.size<=vb->Keep Z.size Z aI->Blk aI vb #[.int .i64 x.1,.string (bl (Jx x.1 (zw t x.2.1))),.slice none 0 0,.slice none 0 0]->bI ⟨vb,0,none⟩ aI:=by
   intro vb aI cA bq bT
   refine bn ⟨vb,0,none⟩ aI ?_
   have cc:=aj.keep (bq.get h2.size (by omega))
   have cd:=bT.lt
   refine⟨ks,by rw[zi];exact cc.cell rfl,λi ae=>∃(n:Nat) (sk si:Sl),i=(n:Int)/\n<=x.2.2.2.1.length/\Own Z.size ae.size ae vb (w7 t nodes f x n) sk si/\Keep Z.size Z ae,λi _=>x.2.2.2.1.length-i.toNat,⟨0,⟨none,0,0⟩,⟨none,0,0⟩,rfl,by omega,?_,bq⟩,?_⟩
   ·have e0:w7 t nodes f x 0=.mk x.1 (bl (Jx x.1 (zw t x.2.1))) [] []:=by unfold w7;simp
    rw[e0]
    exact Own.new bT cA (Ad _)
   rintro i ae ⟨n,sk,si,rfl,hn,ap,ai⟩
   have bQ:=aj.keep (ai.get h2.size (by omega))
   have bC:=bm.keep (ai.get h.size (by omega))
   have co:=cn.keep (ai.get h1.size (by omega))
   have a7:Keep h.size h ae:=aF.trans (c:=ae) (m:=h.size) ⟨ai.size,λj hj=>ai.get j (by omega)⟩ (Ad _)
   have a6:=ag.keep a7
   have cH:=ai.size
   refine⟨λaH=>?_,λcq=>?_⟩
   ·have aH:n<x.2.2.2.1.length:=by have:=of_decide_eq_true aH;omega
    obtain⟨j,ej,c7,bj⟩:=aM _ (AM aH)
    have hj:j<nodes.length:=by have:=(Au.1 bj).1;have:=G.len;omega
    have cP:=G.lv j (l+1) bj
    obtain⟨ib,io,f1,f2⟩:=z4h a6 e3 aH
    rw[ej]at f2
    refine⟨ks,by rw[zi];exact bQ.cell rfl,_,⟨f1,by omega,by omega⟩,(j:Int),by rw[zi,Ae];exact f2,ds,λ_=>by rw[zi];exact bC.cell rfl,?_⟩
    have hc:(bif (bif (decide ((j:Int)<0))then true else(decide ((j:Int)>=((ds.len:Nat):Int))))then true else(decide (L>32)))=false:=by
     rw[decide_eq_false (by omega),cond_false,decide_eq_false (by omega),cond_false,decide_eq_false (by omega)]
    rw[hc]
    refine⟨λh=>(by cases h),λ_=>?_⟩
    intro bZ bL
    have bz:nodes[j]?=some nodes[j]:=Ak hj
    have bG:zgl t nodes x.2.2.2.1[n]=ztb t nodes[j]:=by unfold zgl;rw[ej,Ae,bz]
    have aP:=zir (t:=t) (nodes:=nodes) (f:=f) aH
    rw[bG,ej,Ae]at aP
    have body:∀(ab:zb) (ks':List Bt) (sk':Sl),ks'=(if x.1=6 then(w7 t nodes f x n).keys++[bl (ztb t nodes[j])]else(w7 t nodes f x n).keys)->Own Z.size ab.size ab vb (.mk x.1 (bl (Jx x.1 (zw t x.2.1))) ks' (w7 t nodes f x n).items) sk' si->Keep Z.size Z ab->bZ ab:=by
     intro ab ks' sk' b9 be aQ
     refine bL ab ?_
     have cG:=aQ.size
     have cm:=bm.keep (aQ.get h.size (by omega))
     have bM:Keep h.size h ab:=aF.trans (c:=ab) (m:=h.size) ⟨aQ.size,λj hj=>aQ.get j (by omega)⟩ (Ad _)
     have aL:=be.box.lt
     refine⟨si,by rw[zi];exact be.box.cell rfl,bl t,ds,ztm cm,?_⟩
     rw[w64 (by omega)]
     refine zxm hg ht G bJ f j (l+1) (L+1) bj (by omega) (by omega) (by omega) ab M ds hM (ag.keep bM) rd _ λaV bw wk wi aU ow bh=>⟨_,_,_,_,rfl,?_⟩
     have cC:=aU.size
     refine⟨by rw[zi];exact aU.get vb aL,?_⟩
     intro am
     have aZ:Keep aV.size aV am:=Keep.push _ _ (Ad _)
     have cL:am.size=aV.size+1:=Al _
     have cu:Blk am aV.size (wm (wo t nodes f j) wk wi).toArray:=Blk.new _ _ _
     clear_value am
     refine⟨by rw[zi];exact(aZ.get vb (by omega)).trans (aU.get vb aL),?_⟩
     have ax:Keep ab.size ab am:=aU.trans (c:=am) (m:=ab.size) ⟨aZ.size,λj hj=>aZ.get j (by omega)⟩ (Ad _)
     have bU:Keep Z.size Z am:=aQ.trans (c:=am) (m:=Z.size) ⟨ax.size,λj hj=>ax.get j (by omega)⟩ (Ad _)
     have bu:(w7 t nodes f x n).items.length<=1000000:=by unfold w7;simp;omega
     rw[zi]
     refine Own.item (be.keep ax) (by omega) bu cu (ow.frame λc hc=>aZ.get c (ow.lt c hc)) (λhm=>by have:=ow.lt _ hm;omega) (λc hc=>⟨by have:=bh c hc;omega,by have:=bh c hc;omega,bh c hc⟩) λg' s2 O' k' z'=>⟨⟨n+1,sk',s2,by rw[w64 (by omega)];omega,by omega,?_,bU.trans (c:=g') (m:=Z.size) k' (Ad _)⟩,?_⟩
     ·rw[aP,<-b9];exact O'
     ·show x.2.2.2.1.length-(Aa .i64 ((n:Int)+1)).toNat<x.2.2.2.1.length-(n:Int).toNat
      rw[w64 (by omega)];omega
    refine⟨x.1,by rw[zi];exact bQ.cell rfl,λh6=>?_,λh6=>?_⟩
    ·have h6:x.1=6:=by simpa using h6
     have aJ:=ap.box.lt
     refine⟨sk,by rw[zi];exact ap.box.cell rfl,bl t,ds,ztm bC,?_⟩
     refine(zxb hg ht (nodes:=nodes) (k:=j) bz (R:=λr=>r=bl (ztb t nodes[j])) rfl).go hM a6 (yu (a:=Arg.mk zkx _) ⟨[.string (bl t),slV ds],rfl,[.string (bl t)],[slV ds],rfl,rfl,rd⟩ (yu (a:=Arg.mk (.int .i64) _) (Jt _ _) j9)) λv aY M' r Lt hv hr=>⟨r,z6f hv,?_⟩
     subst hr
     have aT:=Lt.keep
     have cZ:=aT.size
     refine⟨by rw[zi];exact aT.get vb aJ,?_⟩
     intro an
     have a8:Keep aY.size aY an:=Keep.push _ _ (Ad _)
     have cF:an.size=aY.size+1:=Al _
     have b8:Blk an aY.size #[.string (bl (ztb t nodes[j]))]:=Blk.new _ _ _
     clear_value an
     refine⟨by rw[zi];exact(a8.get vb (by omega)).trans (aT.get vb aJ),?_⟩
     have ar:Keep ae.size ae an:=aT.trans (c:=an) (m:=ae.size) ⟨a8.size,λj hj=>a8.get j (by omega)⟩ (Ad _)
     have bD:Keep Z.size Z an:=ai.trans (c:=an) (m:=Z.size) ⟨ar.size,λj hj=>ar.get j (by omega)⟩ (Ad _)
     have bH:(w7 t nodes f x n).keys.length<=1048576:=by unfold w7;simp[h6];omega
     rw[zi]
     refine Own.key (ap.keep ar) (by omega) bH b8 λg' s2 O' k' z'=>body g' _ s2 (by rw[if_pos h6]) O' (bD.trans (c:=g') (m:=Z.size) k' (Ad _))
    ·have h6:¬x.1=6:=by simpa using h6
     exact body ae (w7 t nodes f x n).keys sk (by rw[if_neg h6]) ap ai
   ·have ck:n=x.2.2.2.1.length:=by have:=of_decide_eq_false cq;omega
    subst ck
    have eN:=znc (t:=t) (f:=f) hx
    rw[eN]at ap
    refine⟨_,_,sk,si,ap.box.ld (cs:=wm _ sk si),?_⟩
    refine Wx co λg2 f2 z2 B2=>⟨_,_,sk,si,B2.ld (cs:=[_,_,slV sk,slV si]),?_⟩
    obtain⟨bs,ot,br⟩:=ap.ot
    refine hK g2 bs sk si (a7.trans (c:=g2) (m:=h.size) ⟨by omega,λj hj=>f2 j (by omega)⟩ (Ad _)) (ot.frame λc hc=>f2 c (by have:=(br c hc).1;omega)) λc hc=>by have:=(br c hc).1;omega
  have c8:=Yp t x.2.1
  have bS:∀{g:zb} {Q:Value->zb->Prop},AgM M g->(∀g',Keep g.size g g'->Q (.string (bl (zw t x.2.1))) g')->XC Tp 31 #[.agg #[.string (bl t),slV ds],.agg #[.int .i64 x.2.1.1,.int .i64 x.2.1.2]] g Q:=λ {g Q} agg hQ=>by
   refine(zrg (gl:=gl) (t:=t) (nodes:=nodes) (p:=x.2.1) (R:=λr=>r=bl (zw t x.2.1)) rfl).go hM agg (yu (a:=Arg.mk zkx _) ⟨[.string (bl t),slV ds],rfl,[.string (bl t)],[slV ds],rfl,rfl,rd⟩ (yu (a:=Arg.mk tSp _) ⟨[.int .i64 x.2.1.1,.int .i64 x.2.1.2],rfl,_,_,rfl,rfl,rfl⟩ j9)) λv g' M' r L hv hr=>?_
   subst hr
   rw[z6f hv]
   exact hQ g' L.keep
  have ba:∀{g:zb} {Q:Value->zb->Prop},AgM M g->(∀g',Keep g.size g g'->Q (.string (bl (Jx x.1 (zw t x.2.1)))) g')->XC Tp 111 #[.int .i64 x.1,.string (bl (zw t x.2.1))] g Q:=λ {g Q} agg hQ=>by
   refine(zzy hg (k:=x.1) (t:=zw t x.2.1) (by omega) (R:=λr=>r=bl (Jx x.1 (zw t x.2.1))) rfl).go hM agg (yu (a:=Arg.mk (.int .i64) _) (Jt _ _) (yu (a:=Arg.mk .str _) (rdStr _) j9)) λv g' M' r L hv hr=>?_
   subst hr
   rw[z6f hv]
   exact hQ g' L.keep
  have ak:=ag.keep aF
  have ah:∀(hh hA:zb),Keep Z.size Z hh->Keep hh.size hh hA->Blk hA hh.size #[.int .i64 0,.string ⟨#[]⟩,.slice none 0 0,.slice none 0 0]->XRunU Tp (Aj 26 (.pointer (some ⟨hh.size,0,none⟩)) (.agg #[.int .i64 x.1,.string (bl (Jx x.1 (zw t x.2.1))),.slice none 0 0,.slice none 0 0])) hA (λg=>bI ⟨hh.size,0,none⟩ g):=λhh hA kh kA BA=>
   Wx (sk:=⟨none,0,0⟩) (si:=⟨none,0,0⟩) BA λg2 f2 z2 B2=>bE hh.size g2 kh.size (kh.trans (c:=g2) (m:=Z.size) ⟨by have:=kh.size;have:=kA.size;omega,λj hj=>by have:=kh.size;rw[f2 j (by omega)];exact kA.get j (by omega)⟩ (Ad _)) B2
  have hX:∀{g:zb},Keep Z.size Z g->g[h2.size]?=Z[h2.size]?:=λk=>k.get h2.size (by omega)
  refine⟨x.1,by rw[zi];exact aj.cell rfl,x.1,by rw[zi];exact aj.cell rfl,bl t,ds,ztm bm,x.2.1.1,x.2.1.2,?_,bS ak λaE aa=>⟨_,rfl,by rw[zi];exact hX aa,by rw[zi];exact hX aa,ba (ak.keep aa) λaf aC=>⟨_,rfl,?_,?_,?_⟩,?_⟩,?_⟩
  ·rw[zi];exact⟨by rw[zi];exact aj.cell rfl,by rw[zi];exact aj.cell rfl,trivial⟩
  ·rw[zi]
   exact hX (aa.trans (c:=af) (m:=Z.size) ⟨aC.size,λj hj=>aC.get j (by have:=aa.size;omega)⟩ (Ad _))
  ·intro bY
   have kk:Keep Z.size Z af:=aa.trans (c:=af) (m:=Z.size) ⟨aC.size,λj hj=>aC.get j (by have:=aa.size;omega)⟩ (Ad _)
   exact ah af bY kk (Keep.push _ _ (Ad _)) (Blk.new _ _ _)
  ·intro bA
   have kk:Keep Z.size Z af:=aa.trans (c:=af) (m:=Z.size) ⟨aC.size,λj hj=>aC.get j (by have:=aa.size;omega)⟩ (Ad _)
   have bP:Keep af.size af bA:=Keep.push _ _ (Ad _)
   refine⟨by rw[zi];exact(bP.get h2.size (by have:=kk.size;omega)).trans (hX kk),?_⟩
   exact ah af bA kk bP (Blk.new _ _ _)
  ·intro aB
   have bi:Keep aE.size aE aB:=Keep.push _ _ (Ad _)
   have cV:aB.size=aE.size+1:=Al _
   have cp:Blk aB aE.size #[.int .i64 0,.string ⟨#[]⟩,.slice none 0 0,.slice none 0 0]:=Blk.new _ _ _
   clear_value aB
   have cT:=aa.size
   have az:Keep Z.size Z aB:=aa.trans (c:=aB) (m:=Z.size) ⟨bi.size,λj hj=>bi.get j (by omega)⟩ (Ad _)
   refine⟨by rw[zi];exact hX az,by rw[zi];exact hX az,ba (ak.keep az) λbo aN=>⟨_,rfl,?_,?_⟩⟩
   ·rw[zi]
    exact hX (az.trans (c:=bo) (m:=Z.size) ⟨aN.size,λj hj=>aN.get j (by omega)⟩ (Ad _))
   ·exact ah aE bo aa ⟨by have:=aN.size;omega,λj hj=>by rw[aN.get j (by omega)];exact bi.get j hj⟩ (cp.keep (aN.get _ (by omega)))
  ·intro a1
   have au:Keep Z.size Z a1:=Keep.push _ _ (Ad _)
   have cE:a1.size=Z.size+1:=Al _
   have cy:Blk a1 Z.size #[.int .i64 0,.string ⟨#[]⟩,.slice none 0 0,.slice none 0 0]:=Blk.new _ _ _
   clear_value a1
   refine⟨by rw[zi];exact hX au,au.get h.size (by omega),by rw[zi];exact hX au,by rw[zi];exact hX au,bS (ak.keep au) λbF aG=>⟨_,rfl,?_⟩⟩
   have cM:=aG.size
   have aA:Keep Z.size Z bF:=au.trans (c:=bF) (m:=Z.size) ⟨aG.size,λj hj=>aG.get j (by omega)⟩ (Ad _)
   refine⟨by rw[zi];exact hX aA,by rw[zi];exact hX aA,ba (ak.keep aA) λbB aO=>⟨_,rfl,?_,?_⟩⟩
   ·rw[zi]
    exact hX (aA.trans (c:=bB) (m:=Z.size) ⟨aO.size,λj hj=>aO.get j (by omega)⟩ (Ad _))
   ·exact ah Z bB (Keep.refl _ _) ⟨by have:=aO.size;omega,λj hj=>by rw[aO.get j (by omega),aG.get j (by omega)];exact au.get j hj⟩ ((cy.keep (aG.get _ (by omega))).keep (aO.get _ (by omega)))
end
end
section
theorem qbs:ql Tp 9=true:=by kernel_rfl
theorem qbt:qy Tp 9=1:=by kernel_rfl
theorem qao:ql Tp 46=true:=by kernel_rfl
theorem qap:qy Tp 46=3:=by kernel_rfl
section
variable {t : Bs} {nodes : List Nd} {lvs : List Nat} {gl : Fr}
set_option maxRecDepth 100000 in
set_option maxHeartbeats 4000000 in
theorem zxn(hg:GL gl)(ht:t.length<=65536)(G:GoodN lvs nodes)(bQ:∀x∈nodes,x.2.2.2.1.length<=200000):∀(f k l:Nat),lvs[k]?=some l->33-l<=f->qa4 22 t nodes gl k [] (wo t nodes f k)
 |0,k,l,hl,hf=>by have:=G.lv k l hl;omega
 |f+1,k,l,hl,hf=>by
  intro h M ds hM ag rd K hK
  have a6:k<nodes.length:=by have:=(Au.1 hl).1;have:=G.len;omega
  have hx:nodes[k]?=some nodes[k]:=Ak a6
  have cV:=G.lv k l hl
  have aG:=G.kid k l nodes[k] hx hl
  have cB:=bQ _ (AM a6)
  generalize cE:nodes[k]=x at hx aG cB
  have df:=(rowLen rd).1
  show XC Tp _ #[.agg #[.string (bl t),slV ds],.int .i64 (k:Int)] h K
  apply zcm
  intro h1 h2
  have k1:Keep h.size h h1:=Keep.push _ _ (Ad _)
  have k2:Keep h1.size h1 h2:=Keep.push _ _ (Ad _)
  have z1:h1.size=h.size+1:=Al _
  have z2:h2.size=h1.size+1:=Al _
  have D1:Blk h1 h.size #[.string (bl t),slV ds]:=Blk.new _ _ _
  have R2:Blk h2 h1.size #[.int .i64 0,.string ⟨#[]⟩,.slice none 0 0,.slice none 0 0]:=Blk.new _ _ _
  clear_value h1 h2
  have bq:Keep h.size h h2:=k1.trans (c:=h2) (m:=h.size) ⟨k2.size,λj hj=>k2.get j (by omega)⟩ (Ad _)
  have D2:=D1.keep (k2.get h.size (by omega))
  have cM:=ag.keep bq
  obtain⟨nb,no,ks,ps,e1,e2,e3⟩:=qal cM rd a6
  rw[cE]at e2 e3
  have cT:=(rowLen e3).1
  refine⟨ds,by rw[zi];exact D2.cell rfl,_,⟨e1,by omega,by omega⟩,x.1,x.2.1.1,x.2.1.2,x.2.2.1.1,x.2.2.1.2,ks,ps,?_,?_⟩
  ·rw[zi,Ae];exact e2
  intro aM
  have cF:Keep h2.size h2 aM:=Keep.push _ _ (Ad _)
  have dB:aM.size=h2.size+1:=Al _
  have cA:Blk aM h2.size #[.int .i64 0,.int .i64 0,.int .i64 0,.int .i64 0,.int .i64 0,.slice none 0 0,.slice none 0 0]:=Blk.new _ _ _
  clear_value aM
  refine X0 (vs:=ndC (x,⟨ks,[],ps,[]⟩)) qa2 cA rfl qa3 (Ad _) (zpi _) λZ ah da bZ=>?_
  have ah:Blk Z h2.size #[.int .i64 x.1,.int .i64 x.2.1.1,.int .i64 x.2.1.2,.int .i64 x.2.2.1.1,.int .i64 x.2.2.1.2,slV ks,slV ps]:=ah
  have ax:Keep h2.size h2 Z:=⟨by omega,λj hj=>(bZ j (by omega)).trans (cF.get j hj)⟩
  have aC:Keep h.size h Z:=bq.trans (c:=Z) (m:=h.size) ⟨ax.size,λj hj=>ax.get j (by omega)⟩ (Ad _)
  have bo:=D2.keep (ax.get h.size (by omega))
  have b8:=R2.keep (ax.get h1.size (by omega))
  have aU:=ag.keep aC
  have cC:=Yp t x.2.1
  have bB:∀(p:Sp) {g:zb} {Q:Value->zb->Prop},AgM M g->(∀g',Keep g.size g g'->Q (.string (bl (zw t p))) g')->XC Tp 66 #[.agg #[.string (bl t),slV ds],.agg #[.int .i64 p.1,.int .i64 p.2]] g Q:=λp {g Q} agg hQ=>by
   refine(zxa (gl:=gl) (t:=t) (nodes:=nodes) (p:=p) (R:=λr=>r=bl (zw t p)) rfl).go hM agg (yu (a:=Arg.mk zkx _) ⟨[.string (bl t),slV ds],rfl,[.string (bl t)],[slV ds],rfl,rfl,rd⟩ (yu (a:=Arg.mk tSp _) ⟨[.int .i64 p.1,.int .i64 p.2],rfl,_,_,rfl,rfl,rfl⟩ j9)) λv g' M' r L hv hr=>?_
   subst hr
   rw[z6f hv]
   exact hQ g' L.keep
  refine⟨bl t,ds,ztm bo,x.2.1.1,x.2.1.2,?_,bB x.2.1 aU λae a1=>⟨_,rfl,x.1,?_,?_⟩⟩
  ·rw[zi];exact⟨by rw[zi];exact ah.cell rfl,by rw[zi];exact ah.cell rfl,trivial⟩
  ·rw[zi];exact(ah.keep (a1.get h2.size (by omega))).cell rfl
  intro aS
  have cJ:Keep ae.size ae aS:=Keep.push _ _ (Ad _)
  have dy:aS.size=ae.size+1:=Al _
  have cp:Blk aS ae.size #[.int .i64 0,.string ⟨#[]⟩,.slice none 0 0,.slice none 0 0]:=Blk.new _ _ _
  clear_value aS
  have dA:=a1.size
  refine Wx (k:=x.1) (s:=⟨#[]⟩) (sk:=⟨none,0,0⟩) (si:=⟨none,0,0⟩) cp λaf bV c8 aO=>?_
  have aJ:Keep Z.size Z af:=⟨by omega,λj hj=>by rw[bV j (by omega),cJ.get j (by omega),a1.get j hj]⟩
  intro bO br
  have aY:∀(vb:Nat) (aI:zb),vb=ae.size->Z.size<=vb->Keep Z.size Z aI->Blk aI vb #[.int .i64 x.1,.string (bl (Jx x.1 (zw t x.2.1))),.slice none 0 0,.slice none 0 0]->bO aI:=by
   intro vb aI bF cQ bu bC
   refine br aI ?_
   rw[<-bF]
   have dh:=ah.keep (bu.get h2.size (by omega))
   have cP:=bC.lt
   refine⟨λi aa=>∃(n:Nat) (sk si:Sl),i=(n:Int)/\n<=x.2.2.2.1.length/\Own Z.size aa.size aa vb (w7 t nodes f x n) sk si/\Keep Z.size Z aa,λi _=>x.2.2.2.1.length-i.toNat,⟨0,⟨none,0,0⟩,⟨none,0,0⟩,rfl,by omega,?_,bu⟩,?_⟩
   ·have e0:w7 t nodes f x 0=.mk x.1 (bl (Jx x.1 (zw t x.2.1))) [] []:=by unfold w7;simp
    rw[e0]
    exact Own.new bC cQ (Ad _)
   rintro i aa ⟨n,sk,si,rfl,hn,ap,aj⟩
   have ba:=ah.keep (aj.get h2.size (by omega))
   have bD:=bo.keep (aj.get h.size (by omega))
   have b9:=b8.keep (aj.get h1.size (by omega))
   have aV:Keep h.size h aa:=aC.trans (c:=aa) (m:=h.size) ⟨aj.size,λj hj=>aj.get j (by omega)⟩ (Ad _)
   have au:=ag.keep aV
   have du:=aj.size
   refine⟨ks,by rw[zi];exact ba.cell rfl,λaz=>?_,λcc=>?_⟩
   ·have az:n<x.2.2.2.1.length:=by have:=of_decide_eq_true az;omega
    obtain⟨j,ej,dx,bn⟩:=aG _ (AM az)
    have hj:j<nodes.length:=by have:=(Au.1 bn).1;have:=G.len;omega
    have cY:=G.lv j (l+1) bn
    obtain⟨ib,io,f1,f2⟩:=z4h au e3 az
    rw[ej]at f2
    intro cm bS
    have cd:nodes[j]?=some nodes[j]:=Ak hj
    have bL:zgl t nodes x.2.2.2.1[n]=ztb t nodes[j]:=by unfold zgl;rw[ej,Ae,cd]
    have aH:=zir (t:=t) (nodes:=nodes) (f:=f) az
    rw[bL,ej,Ae]at aH
    have body:∀(ab:zb) (ks':List Bt) (sk':Sl),ks'=(if x.1=6 then(w7 t nodes f x n).keys++[bl (ztb t nodes[j])]else(w7 t nodes f x n).keys)->Own Z.size ab.size ab vb (.mk x.1 (bl (Jx x.1 (zw t x.2.1))) ks' (w7 t nodes f x n).items) sk' si->Keep Z.size Z ab->cm ab:=by
     intro ab ks' sk' cy aZ aB
     refine bS ab ?_
     have dr:=aB.size
     have cO:=bo.keep (aB.get h.size (by omega))
     have aT:Keep h.size h ab:=aC.trans (c:=ab) (m:=h.size) ⟨aB.size,λj hj=>aB.get j (by omega)⟩ (Ad _)
     have aF:=aZ.box.lt
     have cb:=ah.keep (aB.get h2.size (by omega))
     obtain⟨dz,dm,g1,g2⟩:=z4h (ag.keep aT) e3 az
     rw[ej]at g2
     refine⟨si,by rw[zi];exact aZ.box.cell rfl,bl t,ds,ztm cO,ks,by rw[zi];exact cb.cell rfl,_,⟨g1,by omega,by omega⟩,(j:Int),by rw[zi,Ae];exact g2,?_⟩
     refine zxn hg ht G bQ f j (l+1) bn (by omega) ab M ds hM (ag.keep aT) rd _ λaQ bw wk wi aP ow a8=>⟨_,_,_,_,rfl,?_⟩
     have cZ:=aP.size
     refine⟨by rw[zi];exact aP.get vb aF,?_⟩
     intro ak
     have aN:Keep aQ.size aQ ak:=Keep.push _ _ (Ad _)
     have dC:ak.size=aQ.size+1:=Al _
     have ck:Blk ak aQ.size (wm (wo t nodes f j) wk wi).toArray:=Blk.new _ _ _
     clear_value ak
     refine⟨by rw[zi];exact(aN.get vb (by omega)).trans (aP.get vb aF),?_⟩
     have ar:Keep ab.size ab ak:=aP.trans (c:=ak) (m:=ab.size) ⟨aN.size,λj hj=>aN.get j (by omega)⟩ (Ad _)
     have bI:Keep Z.size Z ak:=aB.trans (c:=ak) (m:=Z.size) ⟨ar.size,λj hj=>ar.get j (by omega)⟩ (Ad _)
     have bA:(w7 t nodes f x n).items.length<=1000000:=by unfold w7;simp;omega
     rw[zi]
     refine Own.item (aZ.keep ar) (by omega) bA ck (ow.frame λc hc=>aN.get c (ow.lt c hc)) (λhm=>by have:=ow.lt _ hm;omega) (λc hc=>⟨by have:=a8 c hc;omega,by have:=a8 c hc;omega,a8 c hc⟩) λg' s2 O' k' z'=>⟨⟨n+1,sk',s2,by rw[w64 (by omega)];omega,by omega,?_,bI.trans (c:=g') (m:=Z.size) k' (Ad _)⟩,?_⟩
     ·rw[aH,<-cy];exact O'
     ·show x.2.2.2.1.length-(Aa .i64 ((n:Int)+1)).toNat<x.2.2.2.1.length-(n:Int).toNat
      rw[w64 (by omega)];omega
    refine⟨x.1,by rw[zi];exact ba.cell rfl,λh6=>?_,λh6=>?_⟩
    ·have h6:x.1=6:=by simpa using h6
     have co:=ap.box.lt
     obtain⟨dt,dv,dw,c7,g1,g2,_⟩:=qal au rd hj
     obtain⟨_,_,_,g3,g4,_⟩:=g2
     rw[zi]at g3 g4
     refine⟨bl t,ds,ztm bD,ds,by rw[zi];exact bD.cell rfl,ks,by rw[zi];exact ba.cell rfl,_,⟨f1,by omega,by omega⟩,(j:Int),by rw[zi,Ae];exact f2,_,⟨g1,by omega,by omega⟩,nodes[j].2.2.1.1,nodes[j].2.2.1.2,?_,?_⟩
     ·rw[zi,zi,Ae]
      exact⟨by rw[zi];exact g3,by rw[zi];exact g4,trivial⟩
     refine bB nodes[j].2.2.1 au λdi bm=>⟨_,rfl,?_⟩
     have dD:=bm.size
     have:=Yp t nodes[j].2.2.1
     refine(za9 (gl:=gl) (t:=zw t nodes[j].2.2.1) (by omega) (R:=λr=>r=(bl (Qs (zw t nodes[j].2.2.1)).1,((Qs (zw t nodes[j].2.2.1)).2.1:Int),(Qs (zw t nodes[j].2.2.1)).2.2)) rfl).go hM (au.keep bm) (yu (a:=Arg.mk .str _) (rdStr _) j9) λv aA M' r Lt hv hr=>?_
     subst hr
     obtain⟨vs,⟨v1,rest,rfl,bg,v2,a7,rfl,bj,v3,rfl,bh⟩,rfl⟩:=hv
     rw[Zo bg,qo bj,qo bh]
     have be:Keep aa.size aa aA:=bm.trans (c:=aA) (m:=aa.size) ⟨Lt.keep.size,λj hj=>Lt.keep.get j (by omega)⟩ (Ad _)
     have dq:=be.size
     have ca:=ap.keep be
     refine⟨_,_,_,rfl,sk,by rw[zi];exact ca.box.cell rfl,?_⟩
     intro am
     have bH:Keep aA.size aA am:=Keep.push _ _ (Ad _)
     have db:am.size=aA.size+1:=Al _
     have cu:Blk am aA.size #[.string (bl (ztb t nodes[j]))]:=Blk.new _ _ _
     clear_value am
     have an:Keep aa.size aa am:=be.trans (c:=am) (m:=aa.size) ⟨bH.size,λj hj=>bH.get j (by omega)⟩ (Ad _)
     have bG:Keep Z.size Z am:=aj.trans (c:=am) (m:=Z.size) ⟨an.size,λj hj=>an.get j (by omega)⟩ (Ad _)
     have bM:(w7 t nodes f x n).keys.length<=1048576:=by unfold w7;simp[h6];omega
     rw[zi]
     refine Own.key (ap.keep an) (by omega) bM cu λg' s2 O' k' z'=>body g' _ s2 (by rw[if_pos h6]) O' (bG.trans (c:=g') (m:=Z.size) k' (Ad _))
    ·have h6:¬x.1=6:=by simpa using h6
     exact body aa (w7 t nodes f x n).keys sk (by rw[if_neg h6]) ap aj
   ·have cG:n=x.2.2.2.1.length:=by have:=of_decide_eq_false cc;omega
    subst cG
    have eN:=znc (t:=t) (f:=f) hx
    rw[eN]at ap
    refine⟨_,_,sk,si,ap.box.ld (cs:=wm _ sk si),?_⟩
    refine Wx b9 λg2 f2 z2 B2=>⟨_,_,sk,si,B2.ld (cs:=[_,_,slV sk,slV si]),?_⟩
    obtain⟨bs,ot,bz⟩:=ap.ot
    refine hK g2 bs sk si (aV.trans (c:=g2) (m:=h.size) ⟨by omega,λj hj=>f2 j (by omega)⟩ (Ad _)) (ot.frame λc hc=>f2 c (by have:=(bz c hc).1;omega)) λc hc=>by have:=(bz c hc).1;omega
  have aO:Blk af ae.size #[.int .i64 x.1,.string ⟨#[]⟩,.slice none 0 0,.slice none 0 0]:=aO
  have cq:=ah.keep (aJ.get h2.size (by omega))
  have aE:=aU.keep aJ
  have bi:∀(ai:zb) (u:Bt),Keep af.size af ai->u=bl (Jx x.1 (zw t x.2.1))->XRunU Tp (Aj 9 (.pointer (some ⟨ae.size,1,none⟩)) (.string u)) ai (λg=>bO g):=λai u ay hu=>by
   subst hu
   have cj:=ay.size
   refine yy qbs qbt (aO.keep (ay.get ae.size (by omega))) (by show 1<4;omega) rfl λg u1 u2 u3=>aY ae.size g rfl (by omega) ⟨by omega,λj hj=>by rw[u3 j (by omega),ay.get j (by omega)];exact aJ.get j hj⟩ u1
  have cC:=Yp t x.2.1
  have eT:Jx x.1 (zw t x.2.1)=if x.1=2 then zw t x.2.1 else if x.1=3 then Yl (zp (zw t x.2.1)).1 else if x.1=4 then(Qs (zw t x.2.1)).1 else []:=rfl
  refine⟨x.1,by rw[zi];exact cq.cell rfl,λq2=>?_,λq2=>⟨λq3=>?_,λq3=>⟨λq4=>?_,λq4=>?_⟩⟩⟩
  ·have q2:x.1=2:=by simpa using q2
   rw[zi]
   exact bi af _ (Keep.refl _ _) (by rw[eT,if_pos q2])
  ·have q2:¬x.1=2:=by simpa using q2
   have q3:x.1=3:=by simpa using q3
   refine(zgg (gl:=gl) (s:=zw t x.2.1) (by omega) (R:=λr=>r=(nmB (zp (zw t x.2.1)).1,(zp (zw t x.2.1)).2)) rfl).go hM aE (yu (a:=Arg.mk .str _) (rdStr _) j9) λv ai M' r Lt hv hr=>?_
   subst hr
   have bE:=Wp (zw t x.2.1) (by omega)
   refine⟨_,_,_,_,qa0 hv,?_⟩
   intro aL
   have ay:=Lt.keep
   have bY:Keep ai.size ai aL:=Keep.push _ _ (Ad _)
   have de:aL.size=ai.size+1:=Al _
   have cg:Blk aL ai.size #[.bool false,.string ⟨#[]⟩,.int .i64 0]:=Blk.new _ _ _
   clear_value aL
   refine X0 (vs:=[.bool (nmB (zp (zw t x.2.1)).1).1,.string (nmB (zp (zw t x.2.1)).1).2.1,.int .i64 (nmB (zp (zw t x.2.1)).1).2.2]) qao cg rfl qap (Ad _) (λu hu=>?_) λcz cn dl cL=>⟨_,_,_,cn.ld (cs:=[_,_,_]),?_⟩
   ·simp at hu;rcases hu with rfl|rfl|rfl <;> rfl
   have cj:=ay.size
   have bJ:Keep af.size af cz:=⟨by omega,λj hj=>by rw[cL j (by omega),bY.get j (by omega),ay.get j hj]⟩
   refine(zs5 (gl:=gl) (n:=(zp (zw t x.2.1)).1) bE (R:=λr=>r=bl (Yl (zp (zw t x.2.1)).1)) rfl).go hM (aE.keep bJ) (yu (a:=Arg.mk tN _) ⟨[_,_,_],rfl,[_],[_,_],rfl,rfl,[_],[_],rfl,rfl,rfl⟩ j9) λv2 bT M2 r2 L2 cH bU=>⟨r2,z6f cH,?_⟩
   subst bU
   rw[zi]
   exact bi bT _ (bJ.trans (c:=bT) (m:=af.size) ⟨L2.keep.size,λj hj=>L2.keep.get j (by omega)⟩ (Ad _)) (by rw[eT,if_neg q2,if_pos q3])
  ·have q2:¬x.1=2:=by simpa using q2
   have q3:¬x.1=3:=by simpa using q3
   have q4:x.1=4:=by simpa using q4
   refine(za9 (gl:=gl) (t:=zw t x.2.1) (by omega) (R:=λr=>r=(bl (Qs (zw t x.2.1)).1,((Qs (zw t x.2.1)).2.1:Int),(Qs (zw t x.2.1)).2.2)) rfl).go hM aE (yu (a:=Arg.mk .str _) (rdStr _) j9) λv bP M' r Lt hv hr=>?_
   subst hr
   obtain⟨vs,⟨v1,rest,rfl,bg,v2,a7,rfl,bj,v3,rfl,bh⟩,rfl⟩:=hv
   rw[Zo bg,qo bj,qo bh]
   refine⟨_,_,_,rfl,?_⟩
   rw[zi]
   exact bi bP _ Lt.keep (by rw[eT,if_neg q2,if_neg q3,if_pos q4])
  ·have q2:¬x.1=2:=by simpa using q2
   have q3:¬x.1=3:=by simpa using q3
   have q4:¬x.1=4:=by simpa using q4
   refine aY ae.size af rfl (by omega) aJ ?_
   have:Jx x.1 (zw t x.2.1)=[]:=by rw[eT,if_neg q2,if_neg q3,if_neg q4]
   rw[this]
   exact aO
end
end
end Go.X
end
