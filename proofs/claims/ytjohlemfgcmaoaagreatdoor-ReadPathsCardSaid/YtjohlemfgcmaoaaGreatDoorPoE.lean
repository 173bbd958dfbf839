/- A part of the proof: nothing is stated here for its own sake. -/
import Derived.Test.YtjohlemfgcmaoaaGreatDoorPoD
import Derived.Lib.AppendZerosOnto
import Derived.RangeFuncCalls
open _root_.Go.Addr renaming add->Al
open _root_.Array renaming getD_eq_getD_getElem?->A7,getElem?_append_left->Ck,getElem?_eq_getElem->AI,getElem?_eq_some_iff->Ac,getElem?_push->BV,getElem?_setIfInBounds_ne->AN,getElem?_setIfInBounds_self_of_lt->Cj,getElem?_toList->Bw,length_toList->CE,push->CO,replicate->Ba,size->AM,size_push->Ak,size_setIfInBounds->AU
open _root_.Bool renaming and_eq_false_iff->CJ,and_eq_true->AY,and_true->C7,eq_iff_iff->AH,false_eq_true->A3,false_or->Dx,or_eq_false_iff->BZ,or_eq_true->BN
open _root_.Go.Builtin renaming append_->AB
open _root_.Classical renaming byContradiction->CG
open _root_.Go.Code renaming cond->Ee,region->CW
open _root_.Go.Deferred renaming ofValue->Df
open _root_.False renaming elim->Dr
open _root_.Go.Instr renaming storeAt->An
open _root_.Int renaming toNat_natCast->Ah
open _root_.Go.IntKind renaming wrap->Ab
open _root_.List renaming all_cons->C6,all_eq_true->AX,any_eq_true->DT,append_assoc->AQ,append_nil->AW,cons_append->AO,drop_drop->BR,drop_eq_getElem_cons->AF,drop_eq_nil_of_le->Bj,drop_take->C9,drop_zero->BQ,exists_cons_of_ne_nil->A6,ext_getElem?->Bm,getElem?_append_left->Bq,getElem?_append_right->A5,getElem?_drop->AE,getElem?_eq_getElem->Ai,getElem?_eq_none->BH,getElem?_eq_some_iff->Av,getElem?_map->BS,getElem?_modify->BM,getElem?_take->Az,getElem_append_left->CQ,getElem_append_right->CH,getElem_mem->AL,length->Dd,length_append->Ap,length_cons->Aw,length_drop->AC,length_eq_zero_iff->A8,length_map->A0,length_nil->BE,length_pos_iff->Bn,length_take->A1,map_append->Cr,mem_append->As,mem_append_left->Am,mem_append_right->Au,mem_cons->Af,mem_cons_of_mem->Ae,mem_cons_self->Aj,mem_flatMap->Bi,mem_of_getElem?->Bh,mem_range->BL,mem_singleton->Bf,nil_append->Bc,nodup_append->Bl,nodup_nil->DI,range->Bv,take_length->Bb,take_of_length_le->Co,take_succ_cons->Be,take_succ_eq_append_getElem->AD,take_take->CX,take_zero->Dg
open _root_.List.cons renaming injEq->Bu
open _root_.Nat renaming add_assoc->Eg,add_zero->Cu,eq_of_beq_eq_true->Ag,le_of_ble_eq_true->BG,le_refl->Ad,lt_or_ge->AR,min_eq_left->CF,mul_le_mul_right->AK,mul_one->Dc,one_mul->DK,sub_self->Ed,sub_zero->Dn,succ_mul->C5,zero_add->Ay,zero_le->CV,zero_mul->Db
open _root_.Option renaming bind_some->CK,map_some->Dw
open _root_.Option.some renaming inj->Aq,injEq->Aa
open _root_.Go.Region renaming wanted->Bo
open _root_.UInt8 renaming ofNat->BX
open _root_.Go.Value renaming int->Ep,string->Cv
open _root_.Go.Value.slice renaming injEq->AP
set_option linter.unusedVariables false
set_option maxRecDepth 100000
namespace Go.X
end Go.X
namespace Go.Proofs
end Go.Proofs
open Go Go.X Go.Proofs
section
namespace Go.X
open Go Go.X Go.Proofs Go.RowKit
section
variable {gl:Fr} {l:Bs}
theorem zyk{gl M:Fr}(hg:zk7 gl)(hM:Fr.le gl M){h:za}(ag:AgM M h){fn s:Bt}(hs:s.size<=281474976710656){b n:Int}{K:Value->za->Prop}(hK:∀t u h',Keep h.size h h'->K (.iface t u) h'):
  XC Tp 267 #[.string fn,.string s,.int .i64 b,.int .i64 n,.iface 287 (.int .i64 2)] h K:=by
 obtain⟨⟨cs,ev,e1,e2,e3⟩,_⟩:=hg
 refine XC.of_calls λB d=>(Yr fn s b n ev (mk B d h) hs (AgM.glob (w:=mk B d h) ag (hM _ _ e1) e2) e3).mono ?_
 rintro e w' ⟨N,rfl,h1,h2,Z⟩
 exact⟨_,rfl,Z.os,Z.tape,Z.output,hK _ _ _ ⟨Z.size,Z.block⟩⟩
theorem zlr:∀{l:Bs} {c:UInt8} (n:Nat),c∈l->zhg c=none->zh2 n l=none
 |x::l,c,n,hc,hv=>by
  show(match zhg x with|some d=>zh2 (16*n+d) l|none=>none)=none
  rcases Af.1 hc with rfl|hc
  ·rw[hv]
  ·cases zhg x with
   |none=>rfl
   |some d=>exact zlr _ hc hv
theorem zsp{c:UInt8}(h:c.toNat<48\/c=95\/128<=c.toNat):zhg c=none:=by
 have h':c.toNat<48\/c.toNat=95\/128<=c.toNat:=by rcases h with h|rfl|h <;> simp[*]
 unfold zhg
 rw[if_neg (by omega),if_neg (by omega),if_neg (by omega)]
theorem zoa(hg:GL gl)(hl:l.length=4){R:Int×Bool->Prop}(h1:∀n:Nat,zh2 0 l=some n->R ((n:Int),true))(h2:zh2 0 l=none->R (0,false)):
  PC Tp gl 329 [Arg.mk .str (bl l),Arg.mk (.int .i64) 16,Arg.mk (.int .i64) 32] [.int .u64,.err] R:=by
 intro h M vs hM ag ha
 match vs,ha with
 |[u1,u2,u3],⟨a1,a2,a3,_⟩=>
  obtain rfl:=Xq a1
  obtain rfl:=yo a2
  obtain rfl:=yo a3
  apply PX.of
  apply X4
  refine zqn hl (λn h' e k=>?_) (λh' e k=>?_)
  ·exact⟨(n:Int),.nilIface,rfl,rfl,λhx=>(by cases hx),λ_=>⟨M,((n:Int),true),Later.same ag k,zgs _ _,h1 n e⟩⟩
  ·refine⟨0,.iface _ _,rfl,rfl,λ_=>?_,λhx=>(by cases hx)⟩
   refine zyk hg.err hM (ag.keep k) (by rw[zj];omega) λt u h3 k3=>⟨_,rfl,M,(0,false),Later.same ag (k.trans k3 k.size),zgr _ _ _ _,h2 e⟩
theorem zyl(hg:GL gl)(hl:l.length<=1152921504606846976){R:Int×Bool->Prop}(h1:∀n:Nat,zex l=some n->R ((n:Int),true))(h2:zex l=none->∀v,R (v,false)):
  PC Tp gl 328 [Arg.mk .str (bl l)] [.int .i32,.bool] R:=by
 apply zlq
 simp only[zj,xu,show(0:Int).toNat=0 from rfl,show(4:Int).toNat=4 from rfl,BQ,Dn]
 by_cases h4:l.length<4
 ·have e:decide (((l.length:Nat):Int)<4)=true:=by rw[decide_eq_true_eq];omega
  have e9:zex l=none:=by unfold zex;rw[if_neg (by omega)]
  simp only[e]
  exact⟨λhx=>(by cases hx),λ_=>True,λhx=>(by cases hx),λr _=>⟨λ_=>h2 e9 0,λhx=>(by cases hx)⟩⟩
 ·have e:decide (((l.length:Nat):Int)<4)=false:=by rw[decide_eq_false_iff_not];omega
  simp only[e]
  have Z:zex l=zh2 0 (l.take 4):=by unfold zex;rw[if_pos (by omega)]
  have ht:(l.take 4).length=4:=by rw[A1];omega
  refine⟨λ_=>⟨by omega,by omega,by omega⟩,λr=>r=true->zex l=none,λ_=>?_,λr hr=>⟨λhx=>h2 (hr rfl hx) 0,λhx=>⟨⟨by omega,by omega,by omega⟩,?_⟩⟩⟩
  ·refine zyi (l:=l.take 4) (by omega) (λha hb=>?_) (λha b hb=>?_)
   ·obtain⟨c,hc,aa⟩:=DT.1 hb
    rw[Z]
    refine zlr 0 hc (zsp ?_)
    simp at aa
    rcases aa with rfl|rfl|rfl
    ·left;decide
    ·left;decide
    ·right;left;rfl
   ·rw[Z]
    have:∃c∈l.take 4,128<=c.toNat:=by
     refine CG λhn=>ha λc hc=>?_
     refine CG λh9=>hn ⟨c,hc,by omega⟩
    obtain⟨c,hc,aa⟩:=this
    exact zlr 0 hc (zsp (.inr (.inr aa)))
  ·refine zoa hg ht (λn e1=>?_) (λe1=>h2 (Z.trans e1) _)
   have hn:=zdq (Z.trans e1)
   have:=h1 n (Z.trans e1)
   rw[Wy (by omega) (by omega)]
   exact this
end
section
variable {gl:Fr} {l:Bs} {n:Nat}
theorem zob{s p:Bs}{R:Bool->Prop}(h:R (p.isPrefixOf s)):PC Tp gl 156 [Arg.mk .str (bl s),Arg.mk .str (bl p)] [.bool] R:=
 PC.of_scal rfl (λ_=>zr1 _) (r:=p.isPrefixOf s) h λw hw=>by
  have:=zay (bl s) (bl p) w
  have e1:(bl s).data.toList=s:=y9 s
  have e2:(bl p).data.toList=p:=y9 p
  rw[e1,e2]at this
  exact this.mono λe w' ⟨h1,h2⟩=>⟨h1,h2 ▸ Below.refl _ _⟩
theorem z7i{a b:UInt8}(l:Bs):[a,b].isPrefixOf l=decide (l.take 2=[a,b]):=by
 match l with
 |[]=>rfl
 |[x]=>simp[List.isPrefixOf]
 |x::y::l=>
  simp only[List.isPrefixOf,Be,Dg,C7,Bu,and_true]
  rw[AH,AY,beq_iff_eq,beq_iff_eq,decide_eq_true_eq]
  constructor <;> (rintro⟨rfl,rfl⟩;exact⟨rfl,rfl⟩)
theorem z1u(h:zex l=some n):4<=l.length:=by
 unfold zex at h
 split at h
 ·assumption
 ·cases h
theorem zus(hg:GL gl)(h2:2<=l.length)(hl:l.length<=1152921504606846976){R:Int×Int->Prop}(h:R (match z1d (l.drop 2)with|some (r,n)=>((r:Int),(n:Int))|none=>(0,0))):
  PC Tp gl 324 [Arg.mk .str (bl l)] [.int .i32,.int .i64] R:=by
 apply ze1
 simp only[zj,znr (show(2:Int)=((2:Nat):Int)from rfl),znr (show(6:Int)=((6:Nat):Int)from rfl),znr (show(8:Int)=((8:Nat):Int)from rfl)]
 refine⟨⟨by omega,by omega,by omega⟩,?_⟩
 unfold z1d at h
 refine zyl hg (by rw[AC];omega) (λn e=>?_) (λe v=>?_)
 ·rw[e]at h
  have hn:=zdq e
  have h4:=z1u e
  rw[AC]at h4
  dsimp only at h
  intro K hK
  refine⟨λhx=>(by cases hx),λ_=>hK _ ?_⟩
  refine⟨λhx=>?_,λhx=>⟨λhy=>?_,λhy=>⟨⟨by omega,by omega,by omega⟩,?_⟩⟩⟩
  ·simp only[Bool.cond_eq_ite,Bool.if_false_right,AY,decide_eq_true_eq]at hx
   rw[if_pos (by omega)]at h
   exact h
  ·simp only[Bool.cond_eq_ite,Bool.if_false_right,CJ,decide_eq_false_iff_not,Bool.if_true_left,BN,decide_eq_true_eq]at hx hy
   rw[if_neg (by omega),if_pos (by omega)]at h
   exact h
  ·simp only[Bool.cond_eq_ite,Bool.if_false_right,CJ,decide_eq_false_iff_not,Bool.if_true_left,BZ,decide_eq_true_eq]at hx hy
   rw[if_neg (by omega),if_neg (by omega)]at h
   rw[BR,BR]at h
   refine zob ?_
   rw[z7i]
   refine⟨λhz=>?_,λhz=>⟨⟨by omega,?_,by omega⟩,?_⟩⟩
   ·rw[if_neg (by simpa using hz)]at h
    exact h
   ·have Z:(l.drop 6).take 2=[92,117]:=by simpa using hz
    have:=congrArg Dd Z
    simp only[A1,AC,Aw,BE]at this
    omega
   ·have Z:(l.drop 6).take 2=[92,117]:=by simpa using hz
    rw[if_pos Z]at h
    refine zyl hg (by rw[AC];omega) (λm e2=>?_) (λe2 v=>?_)
    ·rw[show 2+6=8 from rfl,e2]at h
     have hm:=zdq e2
     dsimp only at h
     refine⟨λhw=>?_,λhw=>?_⟩
     ·simp only[Bool.cond_eq_ite,Bool.if_true_left,BN,decide_eq_true_eq,Bool.not_true,A3,false_or]at hw
      rw[if_neg (show¬(56320<=m/\m<57344)by omega)]at h
      exact h
     ·simp only[Bool.cond_eq_ite,Bool.if_true_left,BZ,decide_eq_false_iff_not,Bool.not_true,A3,decide_false,decide_eq_true_eq,Dx]at hw
      rw[if_pos (show 56320<=m/\m<57344 by omega)]at h
      dsimp only at h
      rw[Wy (n:=(n:Int)-55296) (by omega) (by omega),Wy (n:=((n:Int)-55296)*1024) (by omega) (by omega),Wy (n:=65536+((n:Int)-55296)*1024) (by omega) (by omega),
       Wy (n:=65536+((n:Int)-55296)*1024+(m:Int)) (by omega) (by omega),Wy (by omega) (by omega)]
      have e5:(((65536+(n-55296)*1024+(m-56320):Nat):Int))=65536+((n:Int)-55296)*1024+(m:Int)-56320:=by omega
      rw[e5]at h
      exact h
    ·rw[show 2+6=8 from rfl,e2]at h
     exact⟨λ_=>h,λhw=>by simp at hw⟩
 ·rw[e]at h
  intro K hK
  exact⟨λ_=>hK _ ⟨λ_=>h,λhx=>by cases hx⟩,λhx=>by cases hx⟩
theorem u8i{c:UInt8}(hn:n<256):((c.toNat:Int)==(n:Int))=decide (c=BX n):=by
 rw[AH,beq_iff_eq,decide_eq_true_eq,u8n hn];omega
theorem z1v{c:UInt8}{R:Int×Bool->Prop}(h:R (match z1c c with|some r=>((r:Int),true)|none=>(0,false))):PC Tp gl 323 [Arg.mk (.int .u8) (c.toNat:Int)] [.int .i32,.bool] R:=by
 apply zh8
 have hc:=c.toNat_lt
 have q:∀n:Nat,n<256->((c.toNat:Int)==(n:Int))=decide (c=BX n):=λn hn=>u8i hn
 have af:=q 34 (by omega);have aj:=q 92 (by omega);have ai:=q 47 (by omega);have ah:=q 98 (by omega);have ae:=q 102 (by omega);have ab:=q 110 (by omega);have aa:=q 114 (by omega);have Z:=q 116 (by omega)
 simp only[Int.cast_ofNat_Int,show BX 34=34 from rfl,show BX 92=92 from rfl,show BX 47=47 from rfl,show BX 98=98 from rfl,show BX 102=102 from rfl,show BX 110=110 from rfl,show BX 114=114 from rfl,show BX 116=116 from rfl]at af aj ai ah ae ab aa Z
 rw[af,aj,ai,ah,ae,ab,aa,Z]
 unfold z1c at h
 intro K hK
 have yes:(c=34\/c=92\/c=47)->K true:=by
  intro h1
  apply hK
  rw[if_pos h1]at h
  rw[Wy (by omega) (by omega)]
  exact⟨λ_=>h,λhx=>by cases hx⟩
 refine⟨λh1=>by rw[h1];exact yes (.inl (by simpa using h1)),λh1=>⟨λh2=>by rw[h2];exact yes (.inr (.inl (by simpa using h2))),λh2=>?_⟩⟩
 by_cases h3:c=47
 ·rw[decide_eq_true h3];exact yes (.inr (.inr h3))
 ·have hn:¬(c=34\/c=92\/c=47):=by
   rw[decide_eq_false_iff_not]at h1 h2
   rintro(h|h|h)
   ·exact h1 h
   ·exact h2 h
   ·exact h3 h
  rw[if_neg hn]at h
  rw[decide_eq_false h3]
  apply hK
  refine⟨λhx=>(by cases hx),λ_=>?_⟩
  by_cases a1:c=98
  ·rw[if_pos a1]at h;rw[decide_eq_true a1];exact⟨λ_=>h,λhx=>by cases hx⟩
  rw[if_neg a1]at h;rw[decide_eq_false a1];refine⟨λhx=>(by cases hx),λ_=>?_⟩
  by_cases a2:c=102
  ·rw[if_pos a2]at h;rw[decide_eq_true a2];exact⟨λ_=>h,λhx=>by cases hx⟩
  rw[if_neg a2]at h;rw[decide_eq_false a2];refine⟨λhx=>(by cases hx),λ_=>?_⟩
  by_cases a3:c=110
  ·rw[if_pos a3]at h;rw[decide_eq_true a3];exact⟨λ_=>h,λhx=>by cases hx⟩
  rw[if_neg a3]at h;rw[decide_eq_false a3];refine⟨λhx=>(by cases hx),λ_=>?_⟩
  by_cases a4:c=114
  ·rw[if_pos a4]at h;rw[decide_eq_true a4];exact⟨λ_=>h,λhx=>by cases hx⟩
  rw[if_neg a4]at h;rw[decide_eq_false a4];refine⟨λhx=>(by cases hx),λ_=>?_⟩
  by_cases a5:c=116
  ·rw[if_pos a5]at h;rw[decide_eq_true a5];exact⟨λ_=>h,λhx=>by cases hx⟩
  rw[if_neg a5]at h;rw[decide_eq_false a5];exact⟨λhx=>(by cases hx),λ_=>h⟩
end
section
variable {gl M:Fr} {l:Bs}
theorem zym(hg:GL gl)(hl:l.length<=1152921504606846976){R:Int×Int->Prop}(h:R (match z6r l with|some (r,n)=>((r:Int),(n:Int))|none=>(0,0))):
  PC Tp gl 315 [Arg.mk .str (bl l)] [.int .i32,.int .i64] R:=by
 apply zg5
 rw[zj]
 match l,hl,h with
 |[],_,h=>exact⟨λ_=>h,λhx=>by simp at hx⟩
 |[a],_,h=>exact⟨λ_=>h,λhx=>by simp at hx⟩
 |a::c::t,hl,h=>
  have Z:((a::c::t).length:Int)=t.length+2:=by simp;omega
  refine⟨λhx=>(by rw[decide_eq_true_eq]at hx;omega),λ_=>⟨⟨by omega,by omega⟩,?_⟩⟩
  have e1:zb (bl (a::c::t)) (1:Int).toNat=(c.toNat:Int):=by rw[jk];rfl
  rw[e1]
  refine z1v ?_
  unfold z6r at h
  dsimp only at h
  cases e:z1c c with
  |some r=>
   rw[e]at h
   exact⟨λ_=>h,λhx=>(by cases hx)⟩
  |none=>
   rw[e]at h
   dsimp only at h
   refine⟨λhx=>(by cases hx),λ_=>⟨⟨by omega,by omega⟩,?_⟩⟩
   have e2:((c.toNat:Int)==117)=decide (c=117):=u8i (n:=117) (by omega)
   rw[e2]
   refine⟨λhx=>?_,λhx=>?_⟩
   ·rw[if_pos (by simpa using hx)]at h
    refine zus hg (by simp) hl ?_
    exact h
   ·rw[if_neg (by simpa using hx)]at h
    exact h
theorem qdb(h:l≠[]):Lib.decodeGo (bl l)=dec l:=by
 unfold Lib.decodeGo
 have hp:=Bn.2 h
 rw[if_neg (by rw[zj];omega),zr3,y9,BQ]
theorem z7j(hg:GL gl)(Z:l≠[])(hl:l.length<=1152921504606846976){R:Int×Int->Prop}(h:R (match J9 l with|some (r,n)=>((r:Int),(n:Int))|none=>(0,0))):
  PC Tp gl 291 [Arg.mk .str (bl l)] [.int .i32,.int .i64] R:=by
 apply zlp
 have hp:=Bn.2 Z
 rw[zj,jk,show(0:Int).toNat=0 from rfl,zr5 hp]
 refine⟨⟨by omega,by omega⟩,?_⟩
 have e2:((l[0].toNat:Int)==92)=decide (l[0]=92):=u8i (n:=92) (by omega)
 have hh:l.head?=some l[0]:=by cases l with
  |nil=>exact absurd rfl Z
  |cons a t=>rfl
 rw[e2]
 unfold J9 at h
 rw[hh]at h
 refine⟨λhx=>?_,λhx=>?_⟩
 ·rw[if_pos (by rw[of_decide_eq_true hx])]at h
  exact zym hg hl h
 ·rw[if_neg (by rw[Aa];exact of_decide_eq_false hx)]at h
  refine znm hg.tabs ?_
  rw[qdb Z]
  have eb:(bif (decide (((dec l).1:Int)<32))then true else(bif (((dec l).1:Int)==65533)then(((dec l).2:Int)==1)else false))=decide ((dec l).1<32\/zej (dec l)=true):=by
   rw[AH]
   unfold zej
   simp only[Bool.cond_eq_ite,Bool.if_true_left,Bool.if_false_right,BN,AY,decide_eq_true_eq,beq_iff_eq]
   constructor
   ·rintro(h1|⟨h1,h2⟩)
    ·left;omega
    ·right;exact⟨by omega,by omega⟩
   ·rintro(h1|⟨h1,h2⟩)
    ·left;omega
    ·right;exact⟨by omega,by omega⟩
  rw[eb]
  refine⟨λhx=>?_,λhx=>?_⟩
  ·rw[if_pos (of_decide_eq_true hx)]at h;exact h
  ·rw[if_neg (of_decide_eq_false hx)]at h;exact h
theorem zsq(s:Bt)(i j:Int):zcu M [.str,.int .i64,.int .i64] (s,i,j) (.tuple #[.string s,.int .i64 i,.int .i64 j]):=
 ⟨[_,_,_],⟨_,_,rfl,rdStr s,_,_,rfl,Xv _ i,_,rfl,Xv _ j⟩,rfl⟩
theorem zoc{k:IntKind}{r:Int×Int}{v:Value}(h:zcu M [.int k,.int .i64] r v):v=.tuple #[.int k r.1,.int .i64 r.2]:=by
 obtain⟨vs,⟨v1,rest,rfl,hx,v2,rfl,hy⟩,rfl⟩:=h
 rw[yo hx,yo hy];rfl
set_option maxHeartbeats 1000000 in
theorem zsr(hg:GL gl){t:Bs}{a:Nat}(an:a<=1152921504606846976)(hl:t.length<=1099511627776){R:Bt×Int×Int->Prop}(hR:R (bl (yj t a).1,((yj t a).2.1:Int),(yj t a).2.2)):
  PC Tp gl 253 [Arg.mk .str (bl t),Arg.mk (.int .i64) (a:Int)] [.str,.int .i64,.int .i64] R:=by
 intro h M vs hM ag ha
 match vs,ha with
 |[u1,u2],⟨a1,a2,_⟩=>
  obtain rfl:=Xq (s:=bl t) a1
  obtain rfl:=yo (i:=(a:Int)) a2
  apply PX.of
  apply zlk
  rw[zj,jk,Ah]
  have aa:∀{k:Nat},k<t.length->(t.drop k).head?=some (t[k]?.getD 0):=λ {k} hk=>by
   rw[List.head?_drop,Ai hk];rfl
  have ai:∀k:Nat,(((t[k]?.getD 0).toNat:Int)==34)=decide (t[k]?.getD 0=34):=λk=>u8i (n:=34) (by omega)
  have aj:(((t[a]?.getD 0).toNat:Int) != 34)=!decide (t[a]?.getD 0=34):=by rw[bne,ai]
  rw[aj]
  refine⟨λhx=>?_,λhx=>?_,λhx=>?_⟩
  ·have:¬((a:Int)>=(t.length:Int)):=by simpa using hx
   exact⟨by omega,by omega⟩
  ·have hn:¬(t.drop a).head?=some 34:=by
    intro e
    have ae:a<t.length:=by
     rcases AR a t.length with h1|h1
     ·exact h1
     ·rw[Bj h1]at e;cases e
    rw[aa ae]at e
    have e:=Aq e
    have hd:decide ((a:Int)>=(t.length:Int))=false:=by rw[decide_eq_false_iff_not];omega
    rw[hd,e]at hx
    simp at hx
   have e:yj t a=([],a,2):=by unfold yj;rw[if_neg hn]
   rw[e]at hR
   exact⟨M,(bl [],(a:Int),2),Later.refl ag,zsq _ _ _,hR⟩
  ·have ae:a<t.length:=by
    rcases AR a t.length with h1|h1
    ·exact h1
    ·have hd:decide ((a:Int)>=(t.length:Int))=true:=by rw[decide_eq_true_eq];omega
     rw[hd]at hx;cases hx
   have hd:decide ((a:Int)>=(t.length:Int))=false:=by rw[decide_eq_false_iff_not];omega
   have hq:(t.drop a).head?=some 34:=by
    rw[aa ae]
    rw[hd]at hx
    congr 1
    simpa using hx
   have eA:yj t a=(let q:=Yy (t.drop (a+1));if q.2.2 then(q.1,a+1+q.2.1,0)else([],a+1+q.2.1,2)):=by unfold yj;rw[if_pos hq]
   rw[Xy ae (by omega)]
   intro h1
   have B1:Bld h1 h.size []:=Bld.new h
   have k1:Keep h.size h h1:=Keep.push _ _ (Ad _)
   clear_value h1
   refine⟨λi g=>∃(k:Nat) (out:Bs),i=(k:Int)/\k<=t.length/\out.length<=4*k/\Bld g h.size out/\Keep h.size h g/\yj t a=(let q:=Yy (t.drop k);if q.2.2 then(out++q.1,k+q.2.1,0)else([],k+q.2.1,2)),λi _=>t.length-i.toNat,⟨a+1,[],rfl,by omega,by simp,B1,k1,by rw[eA];rfl⟩,?_⟩
   rintro i g ⟨k,out,rfl,hk,ho,B,kg,er⟩
   simp only[Ah]
   refine⟨λhx=>?_,λhx=>?_⟩
   ·have ab:k<t.length:=by rw[decide_eq_true_eq]at hx;omega
    have ah:t.drop k≠[]:=by rw[<-Bn,AC];omega
    refine⟨⟨by omega,by omega⟩,?_⟩
    rw[jk,ai]
    have Z:=Z4 ah
    rw[aa ab]at Z
    refine⟨λaf=>?_,λaf=>⟨⟨by omega,by omega,by omega⟩,?_⟩⟩
    ·rw[if_pos (by rw[of_decide_eq_true af])]at Z
     rw[Z]at er
     refine z1r B λh7 k7=>⟨_,rfl,M,(bl out,((k+1:Nat):Int),0),Later.same ag (kg.trans k7 (Ad _)),?_,?_⟩
     ·rw[Xy ab (by omega)];exact zsq _ _ _
     ·rw[er]at hR
      simpa using hR
    ·rw[if_neg (by rw[Aa];exact of_decide_eq_false af)]at Z
     have ex:(bl t).extract k t.length=bl (t.drop k):=znr (n:=(k:Int)) rfl
     rw[ex]
     refine(z7j hg ah (by rw[AC];omega) (R:=λr=>r=(match J9 (t.drop k)with|some (r,n)=>((r:Int),(n:Int))|none=>(0,0))) rfl).go hM (ag.keep kg) (jc (a:=Arg.mk .str _) (rdStr _) xb) λv h9 M9 r L hv hr=>?_
     obtain rfl:=zoc hv
     cases ep:J9 (t.drop k)with
     |none=>
      rw[ep]at hr Z
      dsimp only at hr
      subst hr
      refine⟨_,_,rfl,λ_=>?_,λhz=>by cases hz⟩
      dsimp only at Z
      rw[Z]at er
      refine⟨M,(bl [],(k:Int),2),Later.same ag (kg.trans L.keep kg.size),zsq _ _ _,?_⟩
      rw[er]at hR
      simpa using hR
     |some x=>
      obtain⟨c,n⟩:=x
      rw[ep]at hr Z
      dsimp only at hr
      subst hr
      obtain⟨n1,n2,n3,n4⟩:=wa ah ep
      rw[AC]at n3
      dsimp only at Z
      refine⟨(c:Int),(n:Int),rfl,λhz=>?_,λ_=>?_⟩
      ·simp only[beq_iff_eq]at hz;omega
      refine zql (B.keep L.keep) (by omega) (by omega) (by omega) λap m am ak=>⟨_,_,rfl,?_,?_⟩
      ·refine⟨k+n,out++Lib.encodeRune (c:Int),?_,by omega,?_,am,?_,?_⟩
       ·rw[w64 (by omega)];omega
       ·have h4:(Lib.encodeRune (c:Int)).length<=4:=by
         have:=(Lib.encodeRuneZ_length (c:Int)).2
         rw[Lib.encodeRune,A0];exact this
        rw[Ap];omega
       ·exact(kg.trans L.keep kg.size).trans ak (Ad _)
       ·rw[er,Z,BR]
        dsimp only
        rw[AQ,Eg]
      ·show t.length-(Ab .i64 ((k:Int)+(n:Int))).toNat<t.length-((k:Nat):Int).toNat
       rw[w64 (by omega)]
       omega
   ·have ab:k=t.length:=by rw[decide_eq_false_iff_not]at hx;omega
    rw[ab,List.drop_length,zxr]at er
    refine⟨M,(bl [],(t.length:Int),2),Later.same ag kg,zsq _ _ _,?_⟩
    rw[er]at hR
    simpa using hR
end
section
variable {t:Bs} {gl:Fr}
def qa0(t:Bs)(a:Int):Int×Int:=if a<0\/(t.length:Int)<a then(0,2)else((yj t a.toNat).2.1,(yj t a.toNat).2.2)
theorem z7k{R:Bt×Int×Int->Prop}(h:R (bl (Wh t).1,((Wh t).2.1:Int),(Wh t).2.2)):
  ((bif ((yj t 0).2.2==0)then(decide (((yj t 0).2.1:Int)<(t.length:Int)))else false)=true->R (bl [],((yj t 0).2.1:Int),2))/\((bif ((yj t 0).2.2==0)then(decide (((yj t 0).2.1:Int)<(t.length:Int)))else false)=false->R (bl (yj t 0).1,((yj t 0).2.1:Int),(yj t 0).2.2)):=by
 have e:(bif ((yj t 0).2.2==0)then(decide (((yj t 0).2.1:Int)<(t.length:Int)))else false)=decide ((yj t 0).2.2=0/\(yj t 0).2.1<t.length):=by
  rw[AH]
  simp only[Bool.cond_eq_ite,Bool.if_false_right,AY,decide_eq_true_eq,beq_iff_eq]
  omega
 rw[e]
 unfold Wh at h
 refine⟨λhx=>?_,λhx=>?_⟩
 ·rw[if_pos (of_decide_eq_true hx)]at h;exact h
 ·rw[if_neg (of_decide_eq_false hx)]at h;exact h
theorem zdv(hg:GL gl)(hl:t.length<=1099511627776){R:Bt×Int×Int->Prop}(h:R (bl (Wh t).1,((Wh t).2.1:Int),(Wh t).2.2)):
  PC Tp gl 196 [Arg.mk .str (bl t)] [.str,.int .i64,.int .i64] R:=by
 apply ze0
 rw[zj]
 exact zsr hg (a:=0) (by omega) hl (z7k h)
theorem qa1(hg:GL gl){a:Int}(hl:t.length<=1099511627776){R:Int×Int->Prop}(h:R (qa0 t a)):PC Tp gl 258 [Arg.mk .str (bl t),Arg.mk (.int .i64) a] [.int .i64,.int .i64] R:=by
 apply zn5
 rw[zj]
 have e:(bif (decide (a<0))then true else(decide (a>(t.length:Int))))=decide (a<0\/(t.length:Int)<a):=by
  rw[AH];simp only[Bool.cond_eq_ite,Bool.if_true_left,BN,decide_eq_true_eq]
 rw[e]
 unfold qa0 at h
 refine⟨λhx=>?_,λhx=>?_⟩
 ·rw[if_pos (of_decide_eq_true hx)]at h;exact h
 ·have hn:=of_decide_eq_false hx
  rw[if_neg hn]at h
  have ea:a=((a.toNat:Nat):Int):=by omega
  have:=zsr hg (t:=t) (a:=a.toNat) (by omega) hl (R:=λZ=>R (Z.2.1,Z.2.2)) h
  rw[<-ea]at this
  exact this
end
end Go.X
end
section
namespace Go.X
open Go Go.RowKit
section
variable {n k rb:Nat} {h:za} {x:Tr}
def qa2(v:Tr)(k:Nat)(x:Tr):Tr:=.mk v.kind v.text v.keys (v.items.set k x)
theorem zls{bf:Nat->List Nat}:((Bv n).flatMap bf).Nodup↔(∀i,i<n->(bf i).Nodup)/\∀i j,i<j->j<n->∀x∈bf i,∀y∈bf j,x≠y:=by
 unfold List.Nodup
 rw[List.pairwise_flatMap,List.pairwise_iff_getElem]
 constructor
 ·rintro⟨h1,h2⟩
  refine⟨λi hi=>h1 i (by simpa using hi),λi j Z hj=>?_⟩
  have:=h2 i j (by simp;omega) (by simpa using hj) Z
  simpa using this
 ·rintro⟨h1,h2⟩
  refine⟨λi hi=>h1 i (by simpa using hi),λi j hi hj Z=>?_⟩
  simp at hi hj
  simpa using h2 i j Z hj
theorem zss{cs:Array Value}{o n:Nat}(h:o+n<=cs.size):upd cs o (cut cs o n)=cs:=by
 have hl:(cut cs o n).length=n:=by unfold cut;simp;omega
 apply Array.ext'
 apply Bm
 intro q
 rw[zlg (by rw[hl];exact h)]
 split
 ·rfl
 ·split
  ·rw[qg,if_pos (by omega)];congr 1;omega
  ·rfl
theorem OT.put1{v:Tr}{bs:List Nat}{cells:List Value}(H:OT h v bs cells)(hk:k<v.items.length):
  ∃(b:Nat) (cs:Array Value) (si:Sl) (bx:List Nat),cells[3]?=some (slV si)/\si.a=some ⟨b,0,none⟩/\si.len=v.items.length/\Blk h b cs/\v.items.length*4<=cs.size/\b∈bs/\OT h v.items[k] bx (cut cs (k*4) 4)/\b∉bx/\(∀c∈bx,c∈bs) /\
   ∀(h':za) (x':Tr) (aa:List Value) (b':List Nat),(∀c∈bs,c∉bx->c≠b->h'[c]?=h[c]?)->Blk h' b (upd cs (k*4) aa)->OT h' x' b' aa->(∀c∈b',c∈bx\/c∉bs)->∃bn,OT h' (qa2 v k x') bn cells/\∀c∈bn,c∈bs\/c∈b':=by
 cases H with
 | @mk kd s ks xs sk si bk bb b cs bf hkk hn hz hi hd=>
  have hk:k<xs.length:=hk
  rcases hz with⟨h0,_⟩|⟨rfl,e1,hb,ay⟩
  ·rw[h0]at hk;simp at hk
  have aF:xs.length*4<=cs.size:=by have:=hn.2.2;omega
  rw[Bl]at hd
  obtain⟨aH,am,ak⟩:=hd
  rw[Bl]at am
  obtain⟨aJ,aE,aA⟩:=am
  have nf:=zls.1 aE
  have ai:∀i,i<xs.length->b∉bf i:=λi hi hm=>aA b (by simp) b (Bi.2 ⟨i,by simpa using hi,hm⟩) rfl
  have ah:∀i,i<xs.length->∀c∈bf i,c∈bk++([b]++(Bv xs.length).flatMap bf):=λi hi c hc=>by
   simp only[As,Bi,BL]
   exact .inr (.inr ⟨i,hi,hc⟩)
  refine⟨b,cs,si,bf k,rfl,e1,hn.1,hb,aF,by simp,hi k hk,ai k hk,ah k hk,λh' x' aa b' hf aC ho aj=>?_⟩
  have aB:aa.length=4:=ho.len
  have az:∀c∈b',∀i,i<xs.length->i≠k->c∉bf i:=λc hc i ab aI hm=>by
   rcases aj c hc with hx|hx
   ·rcases Nat.lt_or_gt_of_ne aI with ae|ae
    ·exact nf.2 i k ae hk c hm c hx rfl
    ·exact nf.2 k i ae ab c hx c hm rfl
   ·exact hx (ah i ab c hm)
  have ap:b∉b':=λhm=>by
   rcases aj b hm with hx|hx
   ·exact ai k hk hx
   ·exact hx (by simp)
  have au:∀c∈bk,c∉b':=λc hc hm=>by
   rcases aj c hm with hx|hx
   ·exact ak c hc c (by rw[As];exact .inr (Bi.2 ⟨k,by simpa using hk,hx⟩)) rfl
   ·exact hx (by simp[hc])
  have ar:∀c∈bk,c≠b:=λc hc e=>ak c hc b (by simp) e
  have ax:∀c∈bk,∀i,i<xs.length->c∉bf i:=λc hc i ab hm=>ak c hc c (by rw[As];exact .inr (Bi.2 ⟨i,by simpa using ab,hm⟩)) rfl
  have af:(xs.set k x').length=xs.length:=by simp
  have hu:k*4+aa.length<=cs.size:=by omega
  refine⟨bk++([b]++(Bv (xs.set k x').length).flatMap (λi=>if i=k then b' else bf i)),?_,λc hc=>?_⟩
  ·refine OT.mk (b:=b) (cs:=upd cs (k*4) aa) (hkk.frame λc hc=>hf c (by simp[hc]) (ax c hc k hk) (ar c hc)) (by rw[af];exact hn) (.inr ⟨rfl,e1,aC,by rw[zfd hu];exact ay⟩) (λi hx=>?_) ?_
   ·rw[af]at hx
    by_cases Z:i=k
    ·subst Z
     rw[if_pos rfl]
     have:=zx4 hu
     rw[aB]at this
     rw[this,List.getElem_set_self];exact ho
    ·rw[if_neg Z,List.getElem_set_ne (by omega),zdt hu (by omega)]
     refine(hi i hx).frame λc hc=>hf c (ah i hx c hc) (λhm=>?_) (λe=>ai i hx (e ▸ hc))
     rcases Nat.lt_or_gt_of_ne Z with ae|ae
     ·exact nf.2 i k ae hk c hc c hm rfl
     ·exact nf.2 k i ae hx c hm c hc rfl
   ·rw[af,Bl]
    refine⟨aH,?_,λx hx y hy=>?_⟩
    ·rw[Bl]
     refine⟨by simp,zls.2 ⟨λi ab=>?_,λi j aG hj x hx y hy e=>?_⟩,λx hx y hy=>?_⟩
     ·by_cases Z:i=k
      ·rw[if_pos Z];exact ho.nodup
      ·rw[if_neg Z];exact nf.1 i ab
     ·subst e
      by_cases Z:i=k
      ·rw[if_pos Z]at hx
       rw[if_neg (by omega)]at hy
       exact az x hx j hj (by omega) hy
      ·rw[if_neg Z]at hx
       by_cases an:j=k
       ·rw[if_pos an]at hy
        exact az x hy i (by omega) Z hx
       ·rw[if_neg an]at hy
        exact nf.2 i j aG hj x hx x hy rfl
     ·simp at hx;subst hx
      obtain⟨i,ab,hy⟩:=Bi.1 hy
      simp at ab
      intro e;subst e
      by_cases Z:i=k
      ·rw[if_pos Z]at hy;exact ap hy
      ·rw[if_neg Z]at hy;exact ai i ab hy
    ·intro e;subst e
     rw[As]at hy
     rcases hy with hy|hy
     ·simp at hy;exact ar x hx hy
     ·obtain⟨i,ab,hy⟩:=Bi.1 hy
      simp at ab
      by_cases Z:i=k
      ·rw[if_pos Z]at hy;exact au x hx hy
      ·rw[if_neg Z]at hy;exact ax x hx i ab hy
  ·rw[af,As,As]at hc
   rcases hc with hc|hc|hc
   ·exact .inl (by simp[hc])
   ·exact .inl (by simp at hc;simp[hc])
   ·obtain⟨i,ab,hc⟩:=Bi.1 hc
    simp at ab
    by_cases Z:i=k
    ·rw[if_pos Z]at hc;exact .inr hc
    ·rw[if_neg Z]at hc;exact .inl (ah i ab c hc)
def Foc(h:za)(base rb:Nat)(p:Addr)(x:Tr)(T:Tr->Tr):Prop:=
 ∃(b o:Nat) (cs:Array Value) (bx:List Nat),p=⟨b,o,none⟩/\Blk h b cs/\o+4<=cs.size/\OT h x bx (cut cs o 4)/\b∉bx/\base<=b/\(∀c∈bx,base<=c) /\
  ∀(h':za) (x':Tr) (Z:List Value) (b':List Nat),(∀c,c≠b->c∉bx->c<h.size->h'[c]?=h[c]?)->Blk h' b (upd cs o Z)->OT h' x' b' Z->(∀c∈b',c∈bx\/h.size<=c) ->
   ∃cs' aa,Blk h' rb cs'/\cs'.size=4/\OT h' (T x') aa cs'.toList/\∀c∈aa,base<=c/\c≠rb
theorem Foc.step{base rb:Nat}{p:Addr}{T:Tr->Tr}(H:Foc h base rb p x T)(hk:k<x.items.length):
  ∃(si:Sl) (a:Addr),zd h (p.add 3)=some (slV si)/\si.a=some a/\si.len=x.items.length/\Foc h base rb (a.add (k*4)) x.items[k] (λy=>T (qa2 x k y)):=by
 obtain⟨b,o,cs,bx,rfl,hb,ho,ot,ah,ar,ab,af⟩:=H
 obtain⟨b2,aA,si,ay,e3,ea,el,ap,aG,ae,aC,aF,Z,ak⟩:=ot.put1 hk
 refine⟨si,⟨b2,0,none⟩,?_,ea,el,b2,k*4,aA,ay,by rw[zq,Ay],ap,by omega,aC,aF,ab b2 ae,λc hc=>ab c (Z c hc),λh' x' aa b' hf az an aj=>?_⟩
 ·rw[zq]
  refine hb.cell ?_
  rw[qg,if_pos (by omega)]at e3
  rw[<-Bw];exact e3
 ·have aB:b≠b2:=λe=>ah (e ▸ ae)
  obtain⟨bn,au,am⟩:=ak h' x' aa b' (λc hc ax aE=>hf c aE ax (ot.lt c hc)) az an (λc hc=>(aj c hc).imp id λhx hm=>by have:=ot.lt c hm;omega)
  refine af h' (qa2 x k x') (cut cs o 4) bn (λc hc ai af=>hf c (λe=>ai (e ▸ ae)) (λhm=>ai (Z c hm)) af) ?_ au λc hc=>?_
  ·rw[zss ho]
   exact hb.keep (hf b aB (λhm=>ah (Z b hm)) hb.lt)
  ·rcases am c hc with hx|hx
   ·exact .inl hx
   ·rcases aj c hx with hy|hy
    ·exact .inl (Z c hy)
    ·exact .inr hy
theorem Foc.put{base rb:Nat}{p:Addr}{T:Tr->Tr}(H:Foc h base rb p x T){h1:za}(k:Keep h.size h h1){w:Tr}{bw:List Nat}{cw:List Value}(ow:OT h1 w bw cw)(ae:∀c∈bw,h.size<=c):
  ∃(b o:Nat) (cs:Array Value),p=⟨b,o,none⟩/\base<=b/\b<h.size/\Blk h1 b cs/\o+4<=cs.size/\∀h2:za,Blk h2 b (upd cs o cw)->h2.size=h1.size->(∀j,j≠b->h2[j]?=h1[j]?) ->
   ∃cs' af,Blk h2 rb cs'/\cs'.size=4/\OT h2 (T w) af cs'.toList/\∀c∈af,base<=c/\c≠rb:=by
 obtain⟨b,o,cs,bx,rfl,hb,ho,ot,am,Z,aj,aa⟩:=H
 have ai:=hb.lt
 refine⟨b,o,cs,rfl,Z,ai,hb.ofKeep k,ho,λh2 ah ak ab=>?_⟩
 refine aa h2 w cw bw (λc hc _ aa=>(ab c hc).trans (k.get c aa)) ah (ow.frame λc hc=>ab c (λe=>by have:=ae c hc;omega)) λc hc=>.inr (ae c hc)
theorem Foc.keep{h h':za}{base rb:Nat}{p:Addr}{T:Tr->Tr}(H:Foc h base rb p x T)(k:Keep h.size h h'):Foc h' base rb p x T:=by
 obtain⟨b,o,cs,bx,rfl,hb,ho,ot,ai,aa,ab,ah⟩:=H
 have hz:=k.size
 refine⟨b,o,cs,bx,rfl,hb.ofKeep k,ho,ot.frame λc hc=>k.get c (ot.lt c hc),ai,aa,ab,λh2 x' Z b' hf am ae af=>ah h2 x' Z b' (λc hc ak aj=>(hf c hc ak (by omega)).trans (k.get c aj)) am ae λc hc=>(af c hc).imp id λhx=>by omega⟩
end
section
variable {h h':za} {v x:Tr} {sk si si' sk':Sl} {bk bb bk' D:List Nat} {b n i k rb:Nat} {cs cs':Array Value} {c cw:List Value} {α:Type} {ks':List Bt}
structure OTp (h:za) (v:Tr) (sk si:Sl) (bk bb:List Nat) (b:Nat) (cs:Array Value) (bf:Nat->List Nat):Prop where
 keys:OKeys h v.keys bk sk
 hn:si.len=v.items.length/\v.items.length<=140737488355328/\v.items.length<=si.cap
 hz:(v.items=[]/\bb=[]/\si.cap=0)\/(bb=[b]/\si.a=some ⟨b,0,none⟩/\Blk h b cs/\si.cap*4<=cs.size)
 hi:∀i (hx:i<v.items.length),OT h v.items[i] (bf i) (cut cs (i*4) 4)
 nk:bk.Nodup
 d1:∀c∈bk,c∉bb
 d2:∀c∈bk,∀i,i<v.items.length->c∉bf i
 d3:∀c∈bb,∀i,i<v.items.length->c∉bf i
 d4:∀i j,i<v.items.length->j<v.items.length->i≠j->∀c∈bf i,c∉bf j
def xj(v:Tr)(sk si:Sl):List Value:=[.int .i64 v.kind,.string v.text,slV sk,slV si]
theorem OTp.ot{bf:Nat->List Nat}(H:OTp h v sk si bk bb b cs bf):OT h v (bk++(bb++(Bv v.items.length).flatMap bf)) (xj v sk si):=by
 obtain⟨k,s,ks,xs⟩:=v
 refine OT.mk (b:=b) (cs:=cs) H.keys H.hn H.hz H.hi ?_
 rw[Bl]
 refine⟨H.nk,?_,λx hx y hy e=>?_⟩
 ·rw[Bl]
  refine⟨?_,zls.2 ⟨λi hi=>(H.hi i hi).nodup,λi j Z hj x hx y hy e=>?_⟩,λx hx y hy e=>?_⟩
  ·rcases H.hz with⟨_,e,_⟩|⟨e,_⟩
   ·rw[e];exact DI
   ·rw[e];simp
  ·subst e;exact H.d4 i j (Nat.lt_trans Z hj) hj (by omega) x hx hy
  ·subst e
   obtain⟨i,hi,hy⟩:=Bi.1 hy
   exact H.d3 x hx i (by simpa using hi) hy
 ·subst e
  rcases As.1 hy with hy|hy
  ·exact H.d1 x hx hy
  ·obtain⟨i,hi,hy⟩:=Bi.1 hy
   exact H.d2 x hx i (by simpa using hi) hy
theorem OT.p{bs:List Nat}{cells:List Value}(H:OT h v bs cells):∃(sk si:Sl) (bk bb:List Nat) (b:Nat) (cs:Array Value) (bf:Nat->List Nat),cells=xj v sk si/\OTp h v sk si bk bb b cs bf/\bs=bk++(bb++(Bv v.items.length).flatMap bf):=by
 cases H with
 | @mk kd s ks xs sk si bk bb b cs bf hk hn hz hi hd=>
  rw[Bl]at hd
  obtain⟨ah,aa,ab⟩:=hd
  rw[Bl]at aa
  obtain⟨aj,af,ae⟩:=aa
  have nf:=zls.1 af
  refine⟨sk,si,bk,bb,b,cs,bf,rfl,⟨hk,hn,hz,hi,ah,λc hc hm=>ab c hc c (Am _ hm) rfl,λc hc i hi hm=>ab c hc c (Au _ (Bi.2 ⟨i,by simpa using hi,hm⟩)) rfl,λc hc i hi hm=>ae c hc c (Bi.2 ⟨i,by simpa using hi,hm⟩) rfl,λi j hi hj ai c hc hm=>?_⟩,rfl⟩
  rcases Nat.lt_or_gt_of_ne ai with Z|Z
  ·exact nf.2 i j Z hj c hc c hm rfl
  ·exact nf.2 j i Z hi c hm c hc rfl
theorem zyn{bf:Nat->List Nat}{n c:Nat}:c∈bk++(bb++(Bv n).flatMap bf)↔c∈bk\/c∈bb\/∃i,i<n/\c∈bf i:=by
 simp only[As,Bi,BL]
theorem Xt(h:i+4<=n):cut cs i 4=((cut cs 0 n).drop i).take 4:=by
 unfold cut
 rw[BQ,C9,CX,CF (by omega)]
theorem z7l{xs:List α}{w:α}(hk:k<=xs.length)(h:i<(xs.take k++w::xs.drop k).length):
  (i<k/\∃h':i<xs.length,(xs.take k++w::xs.drop k)[i]=xs[i])\/(i=k/\(xs.take k++w::xs.drop k)[i]=w)\/(k<i/\∃h':i-1<xs.length,(xs.take k++w::xs.drop k)[i]=xs[i-1]):=by
 have hl:(xs.take k).length=k:=by rw[A1];omega
 simp only[Ap,Aw,hl,AC]at h
 rcases Nat.lt_trichotomy i k with h1|h1|h1
 ·refine .inl ⟨h1,by omega,?_⟩
  rw[CQ (by rw[hl];exact h1),List.getElem_take]
 ·refine .inr (.inl ⟨h1,?_⟩)
  subst h1
  rw[CH (by rw[hl];exact Ad _)]
  simp[hl]
 ·refine .inr (.inr ⟨h1,by omega,?_⟩)
  rw[CH (by rw[hl];omega)]
  simp only[hl]
  have e:i-k=(i-1-k)+1:=by omega
  simp only[e,List.getElem_cons_succ,List.getElem_drop]
  congr 1;omega
theorem z7m(hc:c.length=n*4)(hw:cw.length=4)(hk:k<=n):
  (∀i,i<k->((c.take (k*4)++cw++c.drop (k*4)).drop (i*4)).take 4=(c.drop (i*4)).take 4)/\((c.take (k*4)++cw++c.drop (k*4)).drop (k*4)).take 4=cw/\∀i,k<i->((c.take (k*4)++cw++c.drop (k*4)).drop (i*4)).take 4=(c.drop ((i-1)*4)).take 4:=by
 have hl:(c.take (k*4)).length=k*4:=by rw[A1];omega
 refine⟨λi hi=>?_,?_,λi hi=>?_⟩
 ·apply Bm
  intro j
  rw[Az,Az]
  split
  ·rw[AE,AE,AQ,Bq (by rw[hl];omega),Az,if_pos (by omega)]
  ·rfl
 ·rw[AQ,List.drop_append,Bj (by rw[hl];exact Ad _),Bc,hl,Ed,BQ,List.take_append,hw,Ed,Dg,AW,Co (by omega)]
 ·rw[List.drop_append,Bj (by rw[Ap,hl,hw];omega),Bc,Ap,hl,hw,BR]
  congr 2;omega
theorem OTp.ins{bf:Nat->List Nat}(H:OTp h v sk si bk bb b cs bf)(hk:k<=v.items.length){w:Tr}{bw:List Nat}(ow:OT h' w bw cw)
  (hf:∀i,i<v.items.length->∀c∈bf i,h'[c]?=h[c]?) {b':Nat} (e1:si'.a=some ⟨b',0,none⟩) (e2:Blk h' b' cs') (e3:si'.len=v.items.length+1) (e4:v.items.length+1<=si'.cap) (e5:si'.cap*4<=cs'.size) (e6:v.items.length+1<=140737488355328)
  (e7:cut cs' 0 ((v.items.length+1)*4)=(cut cs 0 (v.items.length*4)).take (k*4)++cw++(cut cs 0 (v.items.length*4)).drop (k*4)) (ai:∀i,i<v.items.length->b'∉bf i) (ah:b'∉bw) (hw:∀c∈bw,∀i,i<v.items.length->c∉bf i) (ok:OKeys h' ks' bk' sk') (nk:bk'.Nodup) (an:b'∉bk') (aj:∀c∈bk',∀i,i<v.items.length->c∉bf i) (ar:∀c∈bk',c∉bw):
  OTp h' (.mk v.kind v.text ks' (v.items.take k++w::v.items.drop k)) sk' si' bk' [b'] b' cs' (λi=>if i<k then bf i else if i=k then bw else bf (i-1)):=by
 have Z:(v.items.take k++w::v.items.drop k).length=v.items.length+1:=by simp;omega
 have ak:∀i (hx:i<v.items.length),(cut cs 0 (v.items.length*4)).length=v.items.length*4:=by
  intro i hx
  rcases H.hz with⟨h0,_⟩|⟨_,_,_,ay⟩
  ·rw[h0]at hx;simp at hx
  ·unfold cut;simp;have:=H.hn.2.2;omega
 have ae:(cut cs 0 (v.items.length*4)).length=v.items.length*4:=by
  by_cases h0:0<v.items.length
  ·exact ak 0 h0
  ·have:v.items.length=0:=by omega
   rw[this];unfold cut;simp
 have ap:cw.length=4:=ow.len
 obtain⟨c1,c2,c3⟩:=z7m ae ap hk
 have ab:∀i,i<v.items.length+1->∀c,c∈(if i<k then bf i else if i=k then bw else bf (i-1))->(∃j,j<v.items.length/\c∈bf j)\/c∈bw:=by
  intro i hi c hc
  split at hc
  ·exact .inl ⟨i,by omega,hc⟩
  ·split at hc
   ·exact .inr hc
   ·exact .inl ⟨i-1,by omega,hc⟩
 refine⟨ok,⟨by show si'.len=(v.items.take k++w::v.items.drop k).length;rw[Z];exact e3,by show(v.items.take k++w::v.items.drop k).length<=_;rw[Z];exact e6,by show(v.items.take k++w::v.items.drop k).length<=_;rw[Z];exact e4⟩,.inr ⟨rfl,e1,e2,e5⟩,λi hx=>?_,nk,λc hc hm=>?_,λc hc i hi hm=>?_,λc hc i hi hm=>?_,λi j hi hj am c hc hm=>?_⟩
 ·have af:i<(v.items.take k++w::v.items.drop k).length:=hx
  have ax:i<v.items.length+1:=by rw[<-Z];exact af
  rw[Xt (n:=(v.items.length+1)*4) (by omega),e7]
  show OT h' (v.items.take k++w::v.items.drop k)[i] _ _
  rcases z7l hk af with⟨hi,h2,e⟩|⟨hi,e⟩|⟨hi,h2,e⟩
  ·rw[e,if_pos hi,c1 i hi,<-Xt (by omega)]
   exact(H.hi i h2).frame (hf i h2)
  ·subst hi
   rw[e,if_neg (by omega),if_pos rfl,c2];exact ow
  ·rw[e,if_neg (by omega),if_neg (by omega),c3 i hi,<-Xt (by omega)]
   exact(H.hi (i-1) h2).frame (hf (i-1) h2)
 ·simp at hm;subst hm;exact an hc
 ·have aa:i<v.items.length+1:=by rw[<-Z];exact hi
  rcases ab i aa c hm with⟨j,hj,hm⟩|hm
  ·exact aj c hc j hj hm
  ·exact ar c hc hm
 ·have aa:i<v.items.length+1:=by rw[<-Z];exact hi
  simp at hc;subst hc
  rcases ab i aa c hm with⟨j,hj,hm⟩|hm
  ·exact ai j hj hm
  ·exact ah hm
 ·have aa:i<v.items.length+1:=by rw[<-Z];exact hi
  have au:j<v.items.length+1:=by rw[<-Z];exact hj
  try simp only at hc hm
  split at hc
  ·split at hm
   ·exact H.d4 i j (by omega) (by omega) am c hc hm
   ·split at hm
    ·exact hw c hm i (by omega) hc
    ·exact H.d4 i (j-1) (by omega) (by omega) (by omega) c hc hm
  ·split at hc
   ·split at hm
    ·exact hw c hc j (by omega) hm
    ·split at hm
     ·omega
     ·exact hw c hc (j-1) (by omega) hm
   ·split at hm
    ·exact H.d4 (i-1) j (by omega) (by omega) (by omega) c hc hm
    ·split at hm
     ·exact hw c hm (i-1) (by omega) hc
     ·exact H.d4 (i-1) (j-1) (by omega) (by omega) (by omega) c hc hm
theorem z7n{xs:List α}(hk:k<xs.length)(h:i<(xs.take k++xs.drop (k+1)).length):
  (i<k/\∃h':i<xs.length,(xs.take k++xs.drop (k+1))[i]=xs[i])\/(k<=i/\∃h':i+1<xs.length,(xs.take k++xs.drop (k+1))[i]=xs[i+1]):=by
 have hl:(xs.take k).length=k:=by rw[A1];omega
 simp only[Ap,hl,AC]at h
 rcases AR i k with h1|h1
 ·refine .inl ⟨h1,by omega,?_⟩
  rw[CQ (by rw[hl];exact h1),List.getElem_take]
 ·refine .inr ⟨h1,by omega,?_⟩
  rw[CH (by rw[hl];omega)]
  simp only[hl,List.getElem_drop]
  congr 1;omega
theorem z7o(hc:c.length=n*4)(hk:k<n):
  (∀i,i<k->((c.take (k*4)++c.drop ((k+1)*4)).drop (i*4)).take 4=(c.drop (i*4)).take 4)/\∀i,k<=i->((c.take (k*4)++c.drop ((k+1)*4)).drop (i*4)).take 4=(c.drop ((i+1)*4)).take 4:=by
 have hl:(c.take (k*4)).length=k*4:=by rw[A1];omega
 refine⟨λi hi=>?_,λi hi=>?_⟩
 ·apply Bm
  intro j
  rw[Az,Az]
  split
  ·rw[AE,AE,Bq (by rw[hl];omega),Az,if_pos (by omega)]
  ·rfl
 ·rw[List.drop_append,Bj (by rw[hl];omega),Bc,hl,BR]
  congr 2;omega
theorem OTp.del{bf:Nat->List Nat}(H:OTp h v sk si bk bb b cs bf)(hk:k<v.items.length)
  (hf:∀i,i<v.items.length->∀c∈bf i,h'[c]?=h[c]?) (e1:si'.a=si.a) (e2:Blk h' b cs') (e3:si'.len+1=v.items.length) (e4:si'.cap=si.cap) (e5:cs'.size=cs.size)
  (e7:cut cs' 0 ((v.items.length-1)*4)=(cut cs 0 (v.items.length*4)).take (k*4)++(cut cs 0 (v.items.length*4)).drop ((k+1)*4)) (ok:OKeys h' ks' bk' sk') (aa:∀c∈bk',c∈bk) (nk:bk'.Nodup):
  OTp h' (.mk v.kind v.text ks' (v.items.take k++v.items.drop (k+1))) sk' si' bk' [b] b cs' (λi=>if i<k then bf i else bf (i+1)):=by
 have Z:(v.items.take k++v.items.drop (k+1)).length=v.items.length-1:=by simp;omega
 rcases H.hz with⟨h0,_⟩|⟨ah,ha,hb,ai⟩
 ·rw[h0]at hk;simp at hk
 obtain⟨n1,n2,n3⟩:=H.hn
 have aj:(cut cs 0 (v.items.length*4)).length=v.items.length*4:=by unfold cut;simp;omega
 obtain⟨c1,c2⟩:=z7o aj hk
 have ab:b∈bb:=by rw[ah];simp
 refine⟨ok,⟨by show si'.len=(v.items.take k++v.items.drop (k+1)).length;rw[Z];omega,by show(v.items.take k++v.items.drop (k+1)).length<=_;rw[Z];omega,by show(v.items.take k++v.items.drop (k+1)).length<=_;rw[Z];omega⟩,.inr ⟨rfl,by rw[e1];exact ha,e2,by rw[e4,e5];exact ai⟩,λi hx=>?_,nk,λc hc hm=>?_,λc hc i hi hm=>?_,λc hc i hi hm=>?_,λi j hi hj ak c hc hm=>?_⟩
 ·have ae:i<(v.items.take k++v.items.drop (k+1)).length:=hx
  have an:i<v.items.length-1:=by rw[<-Z];exact ae
  rw[Xt (n:=(v.items.length-1)*4) (by omega),e7]
  show OT h' (v.items.take k++v.items.drop (k+1))[i] _ _
  rcases z7n hk ae with⟨hi,h2,e⟩|⟨hi,h2,e⟩
  ·rw[e,if_pos hi,c1 i hi,<-Xt (by omega)]
   exact(H.hi i h2).frame (hf i h2)
  ·rw[e,if_neg (by omega),c2 i hi,<-Xt (by omega)]
   exact(H.hi (i+1) h2).frame (hf (i+1) h2)
 ·simp at hm;subst hm;exact H.d1 c (aa c hc) ab
 ·have af:i<v.items.length-1:=by rw[<-Z];exact hi
  try simp only at hm
  split at hm
  ·exact H.d2 c (aa c hc) i (by omega) hm
  ·exact H.d2 c (aa c hc) (i+1) (by omega) hm
 ·have af:i<v.items.length-1:=by rw[<-Z];exact hi
  simp at hc;subst hc
  try simp only at hm
  split at hm
  ·exact H.d3 c ab i (by omega) hm
  ·exact H.d3 c ab (i+1) (by omega) hm
 ·have af:i<v.items.length-1:=by rw[<-Z];exact hi
  have am:j<v.items.length-1:=by rw[<-Z];exact hj
  try simp only at hc hm
  split at hc
  ·split at hm
   ·exact H.d4 i j (by omega) (by omega) ak c hc hm
   ·exact H.d4 i (j+1) (by omega) (by omega) (by omega) c hc hm
  ·split at hm
   ·exact H.d4 (i+1) j (by omega) (by omega) (by omega) c hc hm
   ·exact H.d4 (i+1) (j+1) (by omega) (by omega) (by omega) c hc hm
structure Doc (h:za) (rb:Nat) (v:Tr) (D:List Nat):Prop where
 ex:∃cs:Array Value,Blk h rb cs/\cs.size=4/\OT h v D cs.toList
 no:rb∉D
def Plc(h:za)(D:List Nat)(rb:Nat)(p:Addr)(x:Tr)(T:Tr->Tr):Prop:=
 ∃(b o:Nat) (cs:Array Value) (bx:List Nat),p=⟨b,o,none⟩/\Blk h b cs/\o+4<=cs.size/\OT h x bx (cut cs o 4)/\b∉bx/\(b=rb\/b∈D)/\(∀c∈bx,c∈D)/\rb∉D/\(∀c∈D,c<h.size) /\
  ∀(h':za) (x':Tr) (Z:List Value) (b':List Nat),(∀c,c≠b->c∉bx->(c=rb\/c∈D)->h'[c]?=h[c]?)->Blk h' b (upd cs o Z)->OT h' x' b' Z->(∀c∈b',c∈bx\/(c≠rb/\c∉D)) ->
   ∃D',Doc h' rb (T x') D'/\∀c∈D',c∈D\/c∈b'
theorem Plc.step{p:Addr}{T:Tr->Tr}(H:Plc h D rb p x T)(hk:k<x.items.length):
  ∃(si:Sl) (a:Addr),zd h (p.add 3)=some (slV si)/\si.a=some a/\si.len=x.items.length/\Plc h D rb (a.add (k*4)) x.items[k] (λy=>T (qa2 x k y)):=by
 obtain⟨b,o,cs,bx,rfl,hb,ho,ot,aj,ah,Z,ar,aE,ai⟩:=H
 obtain⟨b2,aB,si,az,e3,ea,el,au,aJ,af,aG,aI,aa,an⟩:=ot.put1 hk
 refine⟨si,⟨b2,0,none⟩,?_,ea,el,b2,k*4,aB,az,by rw[zq,Ay],au,by omega,aG,aI,.inr (Z b2 af),λc hc=>Z c (aa c hc),ar,aE,λh' x' ab b' hf aA ap am=>?_⟩
 ·rw[zq]
  refine hb.cell ?_
  rw[qg,if_pos (by omega)]at e3
  rw[<-Bw];exact e3
 ·have aF:b≠b2:=λe=>aj (e ▸ af)
  obtain⟨bn,ax,ae⟩:=an h' x' ab b' (λc hc ay aH=>hf c aH ay (.inr (Z c hc))) aA ap (λc hc=>(am c hc).imp id λhx hm=>hx.2 (Z c hm))
  obtain⟨D',hD,aC⟩:=ai h' (qa2 x k x') (cut cs o 4) bn (λc hc ak ai=>hf c (λe=>ak (e ▸ af)) (λhm=>ak (aa c hm)) ai) (by
   rw[zss ho]
   exact hb.keep (hf b aF (λhm=>aj (aa b hm)) ah)) ax λc hc=>by
    rcases ae c hc with hx|hx
    ·exact .inl hx
    ·rcases am c hx with hy|hy
     ·exact .inl (aa c hy)
     ·exact .inr hy
  refine⟨D',hD,λc hc=>?_⟩
  rcases aC c hc with hx|hx
  ·exact .inl hx
  ·rcases ae c hx with hy|hy
   ·exact .inl (Z c hy)
   ·exact .inr hy
theorem Plc.keep{p:Addr}{T:Tr->Tr}(H:Plc h D rb p x T)(k:∀c,c=rb\/c∈D->h'[c]?=h[c]?)(hs:h.size<=h'.size):Plc h' D rb p x T:=by
 obtain⟨b,o,cs,bx,rfl,hb,ho,ot,aj,Z,ab,ai,ak,ah⟩:=H
 refine⟨b,o,cs,bx,rfl,hb.keep (k b Z),ho,ot.frame λc hc=>k c (.inr (ab c hc)),aj,Z,ab,ai,λc hc=>by have:=ak c hc;omega,λh2 x' aa b' hf an ae af=>ah h2 x' aa b' (λc hc am hl=>(hf c hc am hl).trans (k c hl)) an ae af⟩
theorem Doc.keep(H:Doc h rb v D)(k:∀c,c=rb\/c∈D->h'[c]?=h[c]?):Doc h' rb v D:=by
 obtain⟨⟨cs,hb,Z,ot⟩,aa⟩:=H
 exact⟨⟨cs,hb.keep (k rb (.inl rfl)),Z,ot.frame λc hc=>k c (.inr hc)⟩,aa⟩
theorem Doc.lt(H:Doc h rb v D):∀c,c=rb\/c∈D->c<h.size:=by
 obtain⟨⟨cs,hb,Z,ot⟩,aa⟩:=H
 rintro c (rfl|hc)
 ·exact hb.lt
 ·exact ot.lt c hc
end
section
variable {cs:Array Value} {o n b:Nat} {h:za}
theorem zbe(h:o+n<=cs.size):(cut cs o n).length=n:=by unfold cut;simp;omega
theorem zyo(H:Blk h b cs):Arr h.size h (some ⟨b,o,none⟩) (cut cs o n):=by
 refine .inr ⟨b,o,rfl,H.lt,λi v hv=>H.cell ?_⟩
 rw[qg]at hv
 split at hv
 ·rw[<-Bw];exact hv
 ·cases hv
theorem zyp{P:Program}(H:Blk h b cs){vs:List Value}(hl:o+vs.length<=cs.size)(h1:∀u∈vs,u.oneCell'=true)(B:World)(d:Nat):
  ∃h',(storeCells ⟨b,o,none⟩ vs 0).run P (mk B d h)=.ok () (mk B d h')/\Blk h' b (upd cs o vs)/\h'.size=h.size/\∀j,j≠b->h'[j]?=h[j]?:=by
 obtain⟨T,e⟩:=H
 obtain⟨h',r1,r2,r3,r4⟩:=zm1 (P:=P) e hl h1 B d
 exact⟨h',r1,⟨T,r2⟩,r3,r4⟩
end
section
variable {cs:Array Value} {vs:List Value}
structure RowO (h:za) (s:Sl) (b:Nat) (cs:Array Value) (sz:Nat):Prop where
 le:s.len<=s.cap
 at_:(s.len=0/\s.cap=0)\/(s.a=some ⟨b,0,none⟩/\Blk h b cs/\s.cap*sz<=cs.size)
structure RowN (h h':za) (s':Sl) (b b':Nat) (cs':Array Value) (sz n:Nat) (cells:List Value):Prop where
 a:s'.a=some ⟨b',0,none⟩
 len:s'.len=n
 cap:n<=s'.cap
 blk:Blk h' b' cs'
 size:s'.cap*sz<=cs'.size
 cut:cut cs' 0 (n*sz)=cells
 new:b'=b\/h.size<=b'
 grow:h.size<=h'.size
 old:∀j,j<h.size->j≠b'->h'[j]?=h[j]?
theorem z7p{n m:Nat}(hl:n+vs.length<=cs.size)(hm:m=n+vs.length):cut (upd cs n vs) 0 m=cut cs 0 n++vs:=by
 subst hm
 have Z:(cut cs 0 n).length=n:=zbe (by omega)
 apply Bm
 intro q
 rw[qg]
 split
 ·rename_i hq
  rw[Ay,zlg hl]
  split
  ·rename_i h1
   rw[Bq (by rw[Z];exact h1),qg,if_pos h1,Ay]
  ·rename_i h1
   rw[A5 (by rw[Z];omega),Z]
 ·rename_i hq
  rw[BH]
  rw[Ap,Z];omega
theorem zlt{P:Program}{t e:TypeId}{z:Value}{sz bytes:Nat}(T:ElemT P t e z sz bytes){ty:TypeId}{h:za}{s:Sl}{b:Nat}(H:RowO h s b cs sz){bv cv:Nat}(hv:Blk h bv vs.toArray)(aa:vs.length=sz)(h1:∀u∈vs,u.oneCell'=true)(hb:(s.len+1)*bytes<=140737488355328)(hm:s.len+1<=140737488355328){K:Value->za->Prop}
  (hK:∀(s':Sl) (h':za) (b':Nat) (cs':Array Value),RowN h h' s' b b' cs' sz (s.len+1) (cut cs 0 (s.len*sz)++vs)->K (.slice s'.a s'.len s'.cap) h'):
  XRun P (AB #[t,t] ty #[.slice s.a s.len s.cap,.slice (some ⟨bv,0,none⟩) 1 cv]) h K:=by
 intro B d
 have af:Arr h.size h (some ⟨bv,0,none⟩) vs:=by
  have:=zyo hv (o:=0) (n:=vs.length)
  rw[show cut vs.toArray 0 vs.length=vs by unfold cut;simp]at this
  exact this
 have hS:∀B d,Src P sz t (.slice (some ⟨bv,0,none⟩) 1 cv) 1 vs (mk B d h):=λB d=>zm0 (P:=P) (s:=⟨some ⟨bv,0,none⟩,1,cv⟩) af (by simp[aa]) T.pos h1 T.slice B d
 have m0:(s.len+1)*sz=s.len*sz+sz:=C5 _ _
 by_cases hr:s.len+1<=s.cap
 ·rcases H.at_ with⟨_,h0⟩|⟨ha,ab,hc⟩
  ·omega
  have m1:(s.len+1)*sz<=s.cap*sz:=AK _ hr
  obtain⟨h',r1,r2,r3,r4⟩:=zyp (P:=P) ab (o:=s.len*sz) (vs:=vs) (by rw[aa];omega) h1 B d
  have ae:=Qd (P:=P) (ty:=ty) T (s:=s) (h':=h') (hS B d) hr (λp hp=>by
   rw[ha]at hp
   cases hp
   rw[zq,Ay];exact r1) (λhn=>by rw[ha]at hn;cases hn)
  refine⟨_,d,h',ae,hK ⟨s.a,s.len+1,s.cap⟩ h' b _ ⟨ha,rfl,hr,r2,by rw[zfd (by rw[aa];omega)];exact hc,z7p (by rw[aa];omega) (by rw[aa];exact m0),.inl rfl,by omega,λj hj ah=>r4 j ah⟩⟩
 ·have Z:Arr h.size h s.a (cut cs 0 (s.len*sz))/\(cut cs 0 (s.len*sz)).length=s.len*sz:=by
   rcases H.at_ with⟨h0,_⟩|⟨ha,ab,hc⟩
   ·rw[h0,Db];exact⟨.inl (by unfold cut;simp),by unfold cut;simp⟩
   ·have m1:s.len*sz<=s.cap*sz:=AK _ H.le
    rw[ha];exact⟨zyo ab,zbe (by omega)⟩
  obtain⟨c,blk,q1,q2,q3,q4,q5⟩:=Ji (P:=P) (ty:=ty) (base:=0) T Z.2 (λB d=>Qc Z.1 Z.2 T.pos B d) hS hb hm (CV _) (by omega) B d
  refine⟨_,d+1,_,q1,hK ⟨some ⟨h.size,0,none⟩,s.len+1,c⟩ _ h.size blk ⟨rfl,rfl,q2,Blk.new _ _ _,by rw[q4];exact Ad _,by unfold cut;rw[BQ];exact q5,.inr (Ad _),by simp,λj hj ah=>by rw[BV,if_neg (by omega)]⟩⟩
end
end Go.X
end
section
namespace Go.X
section
variable {lo:Nat} {h h':za} {M M':Fr} {s:Sl} {bs:List Nat}
def ORow(lo:Nat)(h:za)(M:Fr)(T:Ty)(xs:List (El T))(s:Sl)(bs:List Nat):Prop:=
 (xs=[]/\s.len=0/\s.cap=0/\bs=[])\/∃(b:Nat) (cs:Array Value),bs=[b]/\s.a=some ⟨b,0,none⟩/\s.len=xs.length/\s.len<=s.cap/\Blk h b cs/\s.cap*sz T<=cs.size/\lo<=b/\M b=none/\∀i (hi:i<xs.length),Rd M T xs[i] (cut cs (i*sz T) (sz T))
theorem ORow.nil{T:Ty}:ORow lo h M T [] ⟨none,0,0⟩ []:=.inl ⟨rfl,rfl,rfl,rfl⟩
theorem ORow.len{T:Ty}{xs:List (El T)}(H:ORow lo h M T xs s bs):s.len=xs.length:=by
 rcases H with⟨rfl,h1,_⟩|⟨b,cs,_,_,h1,_⟩
 ·exact h1
 ·exact h1
theorem ORow.own{T:Ty}{xs:List (El T)}(H:ORow lo h M T xs s bs):∀c∈bs,lo<=c/\c<h.size/\M c=none:=by
 rcases H with⟨_,_,_,rfl⟩|⟨b,cs,rfl,_,_,_,e,_,h1,h2,_⟩
 ·intro c hc;cases hc
 ·intro c hc
  rw[Bf.1 hc]
  exact⟨h1,e.lt,h2⟩
theorem ORow.frame{T:Ty}{xs:List (El T)}(H:ORow lo h M T xs s bs)(f:∀c∈bs,h'[c]?=h[c]?)(le:Fr.le M M')(no:∀c∈bs,M' c=none):ORow lo h' M' T xs s bs:=by
 rcases H with H|⟨b,cs,rfl,h1,h2,h3,h4,h5,h6,h7,h8⟩
 ·exact .inl H
 ·refine .inr ⟨b,cs,rfl,h1,h2,h3,?_,h5,h6,no b (by simp),λi hi=>Rd.mono le (h8 i hi)⟩
  unfold Blk at h4 ⊢
  rw[f b (by simp)];exact h4
theorem ORow.call{T:Ty}{xs:List (El T)}(H:ORow lo h M T xs s bs)(L:Later h M h' M'):ORow lo h' M' T xs s bs:=by
 refine H.frame (λc hc=>L.keep.get c (H.own c hc).2.1) L.le λc hc=>?_
 rw[L.old c (H.own c hc).2.1];exact(H.own c hc).2.2
theorem ORow.rd{T:Ty}{xs:List (El T)}{bs all:List Nat}(H:ORow lo h M T xs s bs)(ag:AgM M h)(ha:∀c∈bs,c∈all)(hn:xs.length<=1000000):Rd (MxL M h all) (.row T) xs [slV s]:=by
 rcases H with⟨rfl,h1,h2,rfl⟩|⟨b,cs,rfl,h1,h2,h3,h4,h5,h6,h7,h8⟩
 ·refine⟨_,rfl,s.a,s.cap,?_,⟨by simp,by simp⟩,.inl rfl⟩
  show slV s=_
  unfold slV;rw[h1];rfl
 ·refine⟨_,rfl,s.a,s.cap,?_,⟨by omega,by omega⟩,?_⟩
  ·unfold slV;rw[h2]
  ·by_cases he:xs=[]
   ·exact .inl he
   ·refine .inr ⟨b,0,cs,h1,MxL.at (ha b (by simp)) h4,λi hi=>?_⟩
    rw[Ay]
    exact Rd.mono (zsl ag all) (h8 i hi)
theorem ORow.app{t e:TypeId}{z:Value}{bytes:Nat}{T:Ty}(E:ElemT Tp t e z (sz T) bytes)(am:bytes<=1000){ty:TypeId}{xs:List (El T)}(ag:AgM M h)(H:ORow lo h M T xs s bs)(az:lo<=h.size){bv cv:Nat}{vs:List Value}{x:El T}(hv:Blk h bv vs.toArray)(hx:Rd M T x vs)(hn:xs.length<=1000000){K:Value->za->Prop}
  (hK:∀(s':Sl) (h':za) (af:List Nat),ORow lo h' M T (xs++[x]) s' af->h.size<=h'.size->(∀c∈af,c∈bs\/h.size<=c)->(∀j,j<h.size->j∉bs->h'[j]?=h[j]?)->K (.slice s'.a s'.len s'.cap) h'):
  XRun Tp (AB #[t,t] ty #[.slice s.a s.len s.cap,.slice (some ⟨bv,0,none⟩) 1 cv]) h K:=by
 have ap:vs.length=sz T:=Rd.len hx
 have h1:∀u∈vs,u.oneCell'=true:=Rd.one hx
 have ab:=H.len
 have ak:∀c,h.size<=c->M c=none:=by
  intro c hc
  cases e:M c with
  |none=>rfl
  |some cs=>have:=ag.lt e;omega
 obtain⟨b,cs,Z,hb,ar⟩:∃b cs,RowO h s b cs (sz T)/\((bs=[b]/\lo<=b/\M b=none)\/(b=h.size/\bs=[]))/\∀i (hi:i<xs.length),i*sz T+sz T<=cs.size/\Rd M T xs[i] (cut cs (i*sz T) (sz T)):=by
  rcases H with⟨rfl,e1,e2,rfl⟩|⟨b,cs,rfl,e1,e2,e3,e4,e5,e6,e7,e8⟩
  ·exact⟨h.size,#[],⟨by omega,.inl ⟨e1,e2⟩⟩,.inr ⟨rfl,rfl⟩,λi hi=>by simp at hi⟩
  ·refine⟨b,cs,⟨e3,.inr ⟨e1,e4,e5⟩⟩,.inl ⟨rfl,e6,e7⟩,λi hi=>⟨?_,e8 i hi⟩⟩
   have:(i+1)*sz T<=s.cap*sz T:=AK _ (by omega)
   rw[C5]at this;omega
 have ae:(s.len+1)*bytes<=140737488355328:=by
  have:(s.len+1)*bytes<=1000001*1000:=Nat.mul_le_mul (by omega) am
  omega
 refine zlt E Z hv ap h1 ae (by omega) λs' h' b' cs' N=>?_
 have aa:(b'∈bs/\lo<=b'/\M b'=none)\/h.size<=b':=by
  rcases N.new with e|e
  ·rcases hb with⟨q1,q2,q3⟩|⟨q1,_⟩
   ·subst e;exact .inl ⟨by rw[q1];simp,q2,q3⟩
   ·exact .inr (by omega)
  ·exact .inr e
 refine hK s' h' [b'] (.inr ⟨b',cs',rfl,N.a,by rw[N.len,Ap,ab];rfl,by rw[N.len];exact N.cap,N.blk,N.size,?_,?_,λi hi=>?_⟩) N.grow (λc hc=>?_) λj hj hn=>N.old j hj λe=>?_
 ·rcases aa with q|q
  ·exact q.2.1
  ·omega
 ·rcases aa with q|q
  ·exact q.2.2
  ·exact ak b' q
 ·have ai:=N.cut
  have aB:i<xs.length+1:=by simpa using hi
  have hm:(i+1)*sz T<=(s.len+1)*sz T:=AK _ (by omega)
  have aA:(i+1)*sz T=i*sz T+sz T:=C5 _ _
  have ay:(s.len+1)*sz T=s.len*sz T+sz T:=C5 _ _
  have key:∀q,q<sz T->(cut cs' (i*sz T) (sz T))[q]?=(cut cs 0 (s.len*sz T)++vs)[i*sz T+q]?:=by
   intro q hq
   rw[qg,if_pos hq,<-ai,qg,if_pos (by omega),Ay]
  by_cases ah:i<xs.length
  ·rw[CQ ah]
   obtain⟨g1,g2⟩:=ar i ah
   have ax:(i+1)*sz T<=s.len*sz T:=AK _ (by omega)
   have e:cut cs' (i*sz T) (sz T)=cut cs (i*sz T) (sz T):=by
    apply Bm
    intro q
    by_cases hq:q<sz T
    ·rw[key q hq,Bq ?_,qg,qg,if_pos hq,if_pos (by omega),Ay]
     have aj:s.len*sz T<=cs.size:=by
      rcases Z.at_ with⟨q1,q2⟩|⟨_,_,q3⟩
      ·omega
      ·have:s.len*sz T<=s.cap*sz T:=AK _ Z.le
       omega
     rw[zbe (by omega)];omega
    ·rw[qg,qg,if_neg hq,if_neg hq]
   rw[e];exact g2
  ·have au:i=xs.length:=by omega
   subst au
   rw[CH (Ad _)]
   have an:(cut cs 0 (s.len*sz T)).length=xs.length*sz T:=by
    rcases Z.at_ with⟨q1,q2⟩|⟨_,_,q3⟩
    ·have:xs.length=0:=by omega
     rw[q1,this];unfold cut;simp
    ·have:s.len*sz T<=s.cap*sz T:=AK _ Z.le
     rw[zbe (by omega),ab]
   have e:cut cs' (xs.length*sz T) (sz T)=vs:=by
    apply Bm
    intro q
    by_cases hq:q<sz T
    ·rw[key q hq,A5 (by omega),an]
     congr 1;omega
    ·rw[qg,if_neg hq,BH (by omega)]
   rw[e]
   simpa using hx
 ·rw[Bf.1 hc]
  rcases aa with q|q
  ·exact .inl q.1
  ·exact .inr q
 ·rcases aa with q|q
  ·exact hn (by rw[e];exact q.1)
  ·omega
end
end Go.X
end
section
namespace Go.X
open Go Go.X Go.Proofs Go.RowKit
section
variable {cs:Array Value} {o n q z b bv cv lo c:Nat} {l:List Value} {g g':za} {t e ty:TypeId} {zv v:Value} {K:Value -> za -> Prop} {M:Fr}
abbrev tSp:Ty:=.pair (.int .i64) (.int .i64)
abbrev tNd:Ty:=.pair (.int .i64) (.pair tSp (.pair tSp (.pair (.row (.int .i64)) (.row tSp))))
structure Ax where
 ks:Sl
 kb:List Nat
 ps:Sl
 pb:List Nat
def ax0:Ax:=⟨⟨none,0,0⟩,[],⟨none,0,0⟩,[]⟩
def ndC(p:Nd×Ax):List Value:=[.int .i64 p.1.1,.int .i64 p.1.2.1.1,.int .i64 p.1.2.1.2,.int .i64 p.1.2.2.1.1,.int .i64 p.1.2.2.1.2,slV p.2.ks,slV p.2.ps]
structure CR (g:za) (z:Nat) (els:List (List Value)) (sl:Sl) (b:Nat) (cs:Array Value):Prop where
 ro:RowO g sl b cs z
 ln:sl.len=els.length
 el:∀(i:Nat) (e:List Value),els[i]?=some e->(i+1)*z<=cs.size/\cut cs (i*z) z=e
theorem zqs(hl:l.length=n)(h:∀q,q<n->cs.toList[o+q]?=l[q]?):cut cs o n=l:=by
 apply Bm
 intro q
 rw[qg]
 split
 ·rename_i hq;exact h q hq
 ·rename_i hq;rw[BH (by omega)]
theorem zst(h:cut cs o n=l)(hq:q<n):cs.toList[o+q]?=l[q]?:=by rw[<-h,qg,if_pos hq]
theorem CR.blk{els:List (List Value)}{sl:Sl}(H:CR g z els sl b cs)(hn:els≠[]):sl.a=some ⟨b,0,none⟩/\Blk g b cs:=by
 rcases H.ro.at_ with⟨h1,_⟩|⟨h1,h2,_⟩
 ·have:=H.ln;rw[h1]at this;exact absurd (A8.1 this.symm) hn
 ·exact⟨h1,h2⟩
theorem CR.frame{els:List (List Value)}{sl:Sl}(H:CR g z els sl b cs)(f:els≠[]\/sl.cap≠0->g'[b]?=g[b]?):CR g' z els sl b cs:=by
 refine⟨⟨H.ro.le,?_⟩,H.ln,H.el⟩
 rcases H.ro.at_ with h1|⟨h1,h2,h3⟩
 ·exact .inl h1
 ·by_cases hc:sl.cap=0
  ·exact .inl ⟨by have:=H.ro.le;omega,hc⟩
  ·exact .inr ⟨h1,h2.keep (f (.inr hc)),h3⟩
theorem CR.app{bytes z:Nat}(E:ElemT Tp t e zv z bytes)(ak:bytes<=1000){els:List (List Value)}{sl:Sl}(H:CR g z els sl b cs){vs:List Value}(hv:Blk g bv vs.toArray)(af:vs.length=z)(h1:∀u∈vs,u.oneCell'=true)(hn:els.length<=1000000)
  (hK:∀(s':Sl) (g':za) (b':Nat) (cs':Array Value),CR g' z (els++[vs]) s' b' cs'->g.size<=g'.size->((b'=b/\¬(sl.len=0/\sl.cap=0))\/g.size<=b')->b'<g'.size->(∀j,j<g.size->j≠b'->g'[j]?=g[j]?)->K (.slice s'.a s'.len s'.cap) g'):
  XRun Tp (AB #[t,t] ty #[.slice sl.a sl.len sl.cap,.slice (some ⟨bv,0,none⟩) 1 cv]) g K:=by
 have Z:=H.ln
 have ae:(sl.len+1)*bytes<=140737488355328:=by
  have:(sl.len+1)*bytes<=1000001*1000:=Nat.mul_le_mul (by omega) ak
  omega
 obtain⟨b0,aa,aj,am,ah⟩:∃b0 aa,RowO g sl b0 aa z/\((b0=b/\¬(sl.len=0/\sl.cap=0))\/g.size<=b0)/\(∀(i:Nat) (e:List Value),els[i]?=some e->(i+1)*z<=aa.size/\cut aa (i*z) z=e):=by
  by_cases h0:sl.len=0/\sl.cap=0
  ·have he:els=[]:=A8.1 (by omega)
   exact⟨g.size,#[],⟨H.ro.le,.inl h0⟩,.inr (Ad _),λi e hi=>by rw[he]at hi;cases hi⟩
  ·exact⟨b,cs,H.ro,.inl ⟨rfl,h0⟩,H.el⟩
 refine zlt E aj hv af h1 ae (by omega) λs' g' b' cs' N=>hK s' g' b' cs' ⟨⟨by rw[N.len];exact N.cap,.inr ⟨N.a,N.blk,N.size⟩⟩,by rw[N.len,Ap,Z];rfl,λi e hi=>?_⟩ N.grow ?_ N.blk.lt N.old
 ·have ay:i<els.length+1:=by
   have:=(Av.1 hi).1
   rw[Ap]at this;exact this
  have hm:(i+1)*z<=(sl.len+1)*z:=AK _ (by omega)
  have ar:(sl.len+1)*z<=s'.cap*z:=AK _ N.cap
  have ax:(i+1)*z=i*z+z:=C5 _ _
  have au:(sl.len+1)*z=sl.len*z+z:=C5 _ _
  have:=N.size
  refine⟨by omega,?_⟩
  have ai:=N.cut
  have key:∀q,i*z+q<(sl.len+1)*z->cs'.toList[i*z+q]?=(cut aa 0 (sl.len*z)++vs)[i*z+q]?:=λq hq=>by rw[<-ai,qg,if_pos hq,Ay]
  have ab:(cut aa 0 (sl.len*z)).length=sl.len*z:=by
   by_cases h0:els=[]
   ·have:sl.len=0:=by rw[Z,h0];rfl
    rw[this,Db];unfold cut;simp
   ·have hl:els.length-1<els.length:=by have:=Bn.2 h0;omega
    have:=(ah (els.length-1) _ (Ai hl)).1
    rw[show els.length-1+1=els.length by omega,<-Z]at this
    exact zbe (by omega)
  by_cases ap:i<els.length
  ·rw[Bq ap]at hi
   obtain⟨q1,q2⟩:=ah i e hi
   have az:(i+1)*z<=sl.len*z:=AK _ (by omega)
   refine zqs (by rw[<-q2];exact zbe (by omega)) λq hq=>?_
   rw[key q (by omega),Bq (by rw[ab];omega),qg,if_pos (by omega),Ay]
   exact zst q2 hq
  ·have an:i=els.length:=by omega
   subst an
   rw[A5 (Ad _),Ed]at hi
   cases hi
   refine zqs af λq hq=>?_
   have e1:els.length*z=sl.len*z:=by rw[Z]
   rw[key q (by omega),A5 (by rw[ab];omega),ab]
   congr 1;omega
 ·rcases N.new with e|e
  ·rcases am with q|q
   ·exact .inl ⟨e.trans q.1,q.2⟩
   ·exact .inr (by omega)
  ·exact .inr e
theorem CR.set{els:List (List Value)}{sl:Sl}(H:CR g z els sl b cs)(hn:n<els.length)(hq:q<z)(B:Blk g' b (cs.setIfInBounds (n*z+q) v)):CR g' z (els.modify n (·.set q v)) sl b (cs.setIfInBounds (n*z+q) v):=by
 have ae:els≠[]:=λh=>by rw[h]at hn;simp at hn
 have h1:=(H.blk ae).1
 refine⟨⟨H.ro.le,?_⟩,by rw[List.length_modify];exact H.ln,λi e hi=>?_⟩
 ·rcases H.ro.at_ with⟨h2,_⟩|⟨h2,_,h3⟩
  ·have:=H.ln;omega
  ·exact .inr ⟨h2,B,by rw[AU];exact h3⟩
 ·rw[BM]at hi
  cases hx:els[i]? with
  |none=>rw[hx]at hi;cases hi
  |some x=>
   rw[hx]at hi
   obtain⟨q1,q2⟩:=H.el i x hx
   have af:(i+1)*z=i*z+z:=C5 _ _
   have ab:x.length=z:=by rw[<-q2];exact zbe (by omega)
   rw[AU]
   refine⟨q1,?_⟩
   have hi:(if n=i then x.set q v else x)=e:=by simpa using hi
   rw[<-hi]
   refine zqs (by split <;> simp[ab]) λr hr=>?_
   rw[Array.toList_setIfInBounds,List.getElem?_set]
   by_cases Z:n=i
   ·subst Z
    rw[if_pos rfl,List.getElem?_set]
    by_cases aa:q=r
    ·subst aa
     rw[if_pos rfl,if_pos rfl,if_pos (by rw[CE];omega),if_pos (by omega)]
    ·rw[if_neg (by omega),if_neg aa];exact zst q2 hr
   ·rw[if_neg Z,if_neg ?_]
    ·exact zst q2 hr
    ·intro he
     rcases Nat.lt_or_gt_of_ne Z with h|h
     ·have:(n+1)*z<=i*z:=AK _ h
      rw[C5]at this;omega
     ·have:(i+1)*z<=n*z:=AK _ h
      omega
abbrev NA:=List (Nd×Ax)
def axO(p:Nd×Ax)(c:Nat):Prop:=c∈p.2.kb\/c∈p.2.pb
def nsO(na:NA)(sl:Sl)(b c:Nat):Prop:=(sl.cap≠0/\c=b)\/∃p∈na,axO p c
structure NdI (lo:Nat) (g:za) (M:Fr) (p:Nd×Ax):Prop where
 kk:ORow lo g M (.int .i64) p.1.2.2.2.1 p.2.ks p.2.kb
 pp:ORow lo g M tSp p.1.2.2.2.2 p.2.ps p.2.pb
 dd:∀c∈p.2.kb,c∉p.2.pb
structure NS (lo:Nat) (g:za) (M:Fr) (na:NA) (sl:Sl) (b:Nat) (cs:Array Value):Prop where
 cr:CR g 7 (na.map ndC) sl b cs
 lb:sl.cap≠0->lo<=b/\b<g.size/\M b=none
 nd:∀p∈na,NdI lo g M p
 dj:∀(i j:Nat) (p p':Nd×Ax) (c:Nat),na[i]?=some p->na[j]?=some p'->axO p c->axO p' c->i=j
 nb:∀p∈na,¬axO p b
theorem NS.len{na:NA}{sl:Sl}(H:NS lo g M na sl b cs):sl.len=na.length:=by rw[H.cr.ln,A0]
theorem NdI.own{p:Nd×Ax}(H:NdI lo g M p)(h:axO p c):lo<=c/\c<g.size/\M c=none:=by
 rcases h with h|h
 ·exact H.kk.own c h
 ·exact H.pp.own c h
theorem NS.own{na:NA}{sl:Sl}(H:NS lo g M na sl b cs)(h:nsO na sl b c):lo<=c/\c<g.size/\M c=none:=by
 rcases h with⟨h1,rfl⟩|⟨p,hp,h⟩
 ·exact H.lb h1
 ·exact(H.nd p hp).own h
theorem NdI.frame{p:Nd×Ax}(H:NdI lo g M p)(f:∀c,axO p c->g'[c]?=g[c]?):NdI lo g' M p:=
 ⟨H.kk.frame (λc hc=>f c (.inl hc)) (Fr.le.refl _) λc hc=>(H.kk.own c hc).2.2,H.pp.frame (λc hc=>f c (.inr hc)) (Fr.le.refl _) λc hc=>(H.pp.own c hc).2.2,H.dd⟩
theorem NS.frame{na:NA}{sl:Sl}(H:NS lo g M na sl b cs)(hz:g.size<=g'.size)(f:∀c,nsO na sl b c->g'[c]?=g[c]?):NS lo g' M na sl b cs:=by
 refine⟨H.cr.frame λh=>f b (.inl ⟨?_,rfl⟩),λh=>by have:=H.lb h;exact⟨this.1,by omega,this.2.2⟩,λp hp=>(H.nd p hp).frame λc hc=>f c (.inr ⟨p,hp,hc⟩),H.dj,H.nb⟩
 rcases h with h|h
 ·have:=H.cr.ln
  have h2:=H.cr.ro.le
  have:=Bn.2 h
  omega
 ·exact h
theorem NS.nil:NS lo g M [] ⟨none,0,0⟩ b cs:=
 ⟨⟨⟨Ad _,.inl ⟨rfl,rfl⟩⟩,rfl,λi e h=>(by cases h)⟩,λh=>absurd rfl h,λp hp=>(by cases hp),λi j p p' c h=>(by cases h),λp hp=>(by cases hp)⟩
theorem zyq(p:Nd×Ax):∀u∈ndC p,u.oneCell'=true:=by
 intro u hu
 unfold ndC slV at hu
 simp at hu
 rcases hu with rfl|rfl|rfl|rfl|rfl|rfl|rfl <;> rfl
theorem NS.push{bytes:Nat}(E:ElemT Tp t e zv 7 bytes)(aj:bytes<=1000)(ag:AgM M g)(an:lo<=g.size){na:NA}{sl:Sl}(H:NS lo g M na sl b cs){x:Nd}(am:x.2.2.2.1=[])(ak:x.2.2.2.2=[])(hv:Blk g bv (ndC (x,ax0)).toArray)(hn:na.length<=1000000)
  (hK:∀(s':Sl) (g':za) (b':Nat) (cs':Array Value),NS lo g' M (na++[(x,ax0)]) s' b' cs'->g.size<=g'.size->(∀c,nsO (na++[(x,ax0)]) s' b' c->nsO na sl b c\/g.size<=c)->(∀j,j<g.size->¬nsO na sl b j->g'[j]?=g[j]?)->K (.slice s'.a s'.len s'.cap) g'):
  XRun Tp (AB #[t,t] ty #[.slice sl.a sl.len sl.cap,.slice (some ⟨bv,0,none⟩) 1 cv]) g K:=by
 have ai:∀c,g.size<=c->M c=none:=by
  intro c hc
  cases e:M c with
  |none=>rfl
  |some cs=>have:=ag.lt e;omega
 refine CR.app E aj H.cr hv rfl (zyq _) (by rw[A0];exact hn) λs' g' b' cs' C z1 ab ah fr=>?_
 have aa:nsO na sl b b'\/g.size<=b':=by
  rcases ab with⟨e1,e2⟩|e1
  ·exact .inl (.inl ⟨by have:=H.cr.ro.le;omega,e1⟩)
  ·exact .inr e1
 have af:∀p∈na,¬axO p b':=λp hp hc=>by
  rcases ab with⟨e1,_⟩|e1
  ·rw[e1]at hc;exact H.nb p hp hc
  ·have:=((H.nd p hp).own hc).2.1;omega
 have Z:∀c,¬axO (x,ax0) c:=λc hc=>by
  rcases hc with hc|hc <;> exact absurd hc (by simp[ax0])
 have mem:∀p∈na++[(x,ax0)],p∈na\/p=(x,ax0):=λp hp=>by simpa using hp
 refine hK s' g' b' cs' ⟨by rw[Cr];exact C,λ_=>?_,λp hp=>?_,?_,λp hp=>?_⟩ z1 (λc hc=>?_) (λj hj hn=>fr j hj λe=>?_)
 ·rcases aa with h|h
  ·have:=H.own h;exact⟨this.1,ah,this.2.2⟩
  ·exact⟨by omega,ah,ai b' h⟩
 ·rcases mem p hp with hp|rfl
  ·exact(H.nd p hp).frame λc hc=>fr c ((H.nd p hp).own hc).2.1 λe=>af p hp (e ▸ hc)
  ·refine⟨?_,?_,λc hc=>by simp[ax0]at hc⟩
   ·show ORow lo g' M (.int .i64) x.2.2.2.1 _ _;rw[am];exact .nil
   ·show ORow lo g' M tSp x.2.2.2.2 _ _;rw[ak];exact .nil
 ·intro i j p p' c hi hj hc ae
  have q:∀(i:Nat) (p:Nd×Ax),(na++[(x,ax0)])[i]?=some p->axO p c->na[i]?=some p:=λi p hi hc=>by
   rw[List.getElem?_append]at hi
   split at hi
   ·exact hi
   ·have:=Bh hi
    rw[Bf]at this
    subst this
    exact absurd hc (Z c)
  exact H.dj i j p p' c (q i p hi hc) (q j p' hj ae) hc ae
 ·rcases mem p hp with hp|rfl
  ·exact af p hp
  ·exact Z _
 ·rcases hc with⟨_,rfl⟩|⟨p,hp,hc⟩
  ·exact aa
  ·rcases mem p hp with hp|rfl
   ·exact .inl (.inr ⟨p,hp,hc⟩)
   ·exact absurd hc (Z c)
 ·subst e
  rcases aa with h|h
  ·exact hn h
  ·omega
theorem NS.upd{na:NA}{sl:Sl}(H:NS lo g M na sl b cs)(hn:n<na.length){f:Nd×Ax->Nd×Ax}(hq:q<7)(B:Blk g' b (cs.setIfInBounds (n*7+q) v))(hz:g.size<=g'.size)(hc:ndC (f na[n])=(ndC na[n]).set q v)(hI:NdI lo g' M (f na[n]))(ho:∀c,axO (f na[n]) c->axO na[n] c\/g.size<=c)(fr:∀j,j<g.size->j≠b->¬axO na[n] j->g'[j]?=g[j]?):
  NS lo g' M (na.modify n f) sl b (cs.setIfInBounds (n*7+q) v)/\∀c,nsO (na.modify n f) sl b c->nsO na sl b c\/g.size<=c:=by
 have Z:na[n]?=some na[n]:=Ai hn
 have mem:∀p∈na.modify n f,p=f na[n]\/∃j,j≠n/\na[j]?=some p:=λp hp=>by
  obtain⟨j,hj⟩:=List.mem_iff_getElem?.1 hp
  rw[BM]at hj
  by_cases e:n=j
  ·subst e;rw[Z]at hj;left;simpa using hj.symm
  ·right;refine⟨j,λh=>e h.symm,?_⟩
   simpa[e]using hj
 have af:sl.cap≠0:=by have:=H.len;have:=H.cr.ro.le;omega
 have ae:=H.lb af
 refine⟨⟨?_,λh=>⟨ae.1,by omega,ae.2.2⟩,λp hp=>?_,?_,λp hp=>?_⟩,λc h=>?_⟩
 ·have:=H.cr.set (n:=n) (q:=q) (v:=v) (by rw[A0];exact hn) hq B
  have e:(na.modify n f).map ndC=(na.map ndC).modify n (·.set q v):=by
   apply Bm
   intro i
   rw[BS,BM,BM,BS]
   by_cases e:n=i
   ·subst e;rw[Z];simp[hc]
   ·simp[e]
  rw[e];exact this
 ·rcases mem p hp with rfl|⟨j,hj,aa⟩
  ·exact hI
  ·have ab:=Bh aa
   exact(H.nd p ab).frame λc hc=>fr c ((H.nd p ab).own hc).2.1 (λe=>H.nb p ab (e ▸ hc)) λh=>hj (H.dj j n p _ c aa Z hc h)
 ·intro i j p p' c hi hj hc ah
  have q:∀(i:Nat) (p:Nd×Ax),(na.modify n f)[i]?=some p->axO p c->∃p0,na[i]?=some p0/\((axO p0 c)\/(i=n/\g.size<=c)):=λi p hi hc=>by
   rw[BM]at hi
   by_cases e:n=i
   ·subst e
    rw[Z]at hi
    have:f na[n]=p:=by simpa using hi
    subst this
    rcases ho c hc with h|h
    ·exact⟨_,Z,.inl h⟩
    ·exact⟨_,Z,.inr ⟨rfl,h⟩⟩
   ·exact⟨p,by simpa[e]using hi,.inl hc⟩
  obtain⟨p0,a1,a2⟩:=q i p hi hc
  obtain⟨p1,b1,b2⟩:=q j p' hj ah
  rcases a2 with a2|⟨a2,a3⟩
  ·rcases b2 with b2|⟨b2,b3⟩
   ·exact H.dj i j p0 p1 c a1 b1 a2 b2
   ·have:=((H.nd p0 (Bh a1)).own a2).2.1;omega
  ·rcases b2 with b2|⟨b2,b3⟩
   ·have:=((H.nd p1 (Bh b1)).own b2).2.1;omega
   ·omega
 ·rcases mem p hp with rfl|⟨j,hj,aa⟩
  ·intro hc
   rcases ho b hc with h|h
   ·exact H.nb _ (Bh Z) h
   ·omega
  ·exact H.nb p (Bh aa)
 ·rcases h with⟨h1,h2⟩|⟨p,hp,h⟩
  ·exact .inl (.inl ⟨h1,h2⟩)
  ·rcases mem p hp with rfl|⟨j,hj,aa⟩
   ·rcases ho c h with h|h
    ·exact .inl (.inr ⟨_,Bh Z,h⟩)
    ·exact .inr h
   ·exact .inl (.inr ⟨p,Bh aa,h⟩)
end
section
variable {t:Bs} {gl:Fr}
abbrev zqt:Ty:=.pair .str (.row tNd)
theorem slice_form{p:Sp}{R:Bt->Prop}(h:R (bl (qq t p))):
  ((bif (bif (decide ((p.1:Int)<0))then true else(decide ((p.1:Int)>p.2)))then true else(decide ((p.2:Int)>((bl t).size:Int))))=true->R (⟨#[]⟩:Bt)) /\
  ((bif (bif (decide ((p.1:Int)<0))then true else(decide ((p.1:Int)>p.2)))then true else(decide ((p.2:Int)>((bl t).size:Int))))=false->(0<=(p.1:Int)/\(p.1:Int)<=p.2/\(p.2:Int)<=((bl t).size:Int))/\R ((bl t).extract (p.1:Int).toNat (p.2:Int).toNat)):=by
 rw[zj]
 have e:(bif (bif (decide ((p.1:Int)<0))then true else(decide ((p.1:Int)>p.2)))then true else(decide ((p.2:Int)>(t.length:Int))))=decide (p.1<0\/p.2<p.1\/(t.length:Int)<p.2):=by
  rw[AH]
  simp only[Bool.cond_eq_ite,Bool.if_true_left,BN,decide_eq_true_eq]
  omega
 rw[e]
 unfold qq at h
 refine⟨λhx=>?_,λhx=>?_⟩
 ·rw[if_pos (of_decide_eq_true hx)]at h;exact h
 ·have hx:=of_decide_eq_false hx
  rw[if_neg hx]at h
  refine⟨by omega,?_⟩
  rw[xu];exact h
theorem zlu{nodes:List Nd}{p:Sp}{R:Bt->Prop}(h:R (bl (qq t p))):PC Tp gl 31 [Arg.mk zqt (bl t,nodes),Arg.mk tSp p] [.str] R:=by
 apply zlm
 exact slice_form h
theorem zyr(hg:GL gl)(ht:t.length<=65536){nodes:List Nd}{k:Nat}{x:Nd}(hx:nodes[k]?=some x){R:Bt->Prop}(h:R (bl (zu5 t x))):PC Tp gl 112 [Arg.mk zqt (bl t,nodes),Arg.mk (.int .i64) (k:Int)] [.str] R:=by
 apply zqi
 refine⟨x,⟨by omega,by rw[Ah];exact hx⟩,?_⟩
 refine zlu (p:=x.2.2.1) ?_
 have:=zds t x.2.2.1
 exact zdv hg (by omega) h
theorem z1w(hg:GL gl){k:Int}(ht:t.length<=65536){R:Bt->Prop}(h:R (bl (Jx k t))):PC Tp gl 111 [Arg.mk (.int .i64) k,Arg.mk .str (bl t)] [.str] R:=by
 apply zn4
 unfold Jx at h
 refine⟨λh1=>?_,λh1=>⟨λh2=>?_,λh2=>⟨λh3=>?_,λh3=>?_⟩⟩⟩
 ·rw[if_pos (by simpa using h1)]at h;exact h
 ·rw[if_neg (by simpa using h1),if_pos (by simpa using h2)]at h
  exact zfb (by omega) (zp6 hg.pow (Q3 t (by omega)) h)
 ·rw[if_neg (by simpa using h1),if_neg (by simpa using h2),if_pos (by simpa using h3)]at h
  exact zdv hg (by omega) h
 ·rw[if_neg (by simpa using h1),if_neg (by simpa using h2),if_neg (by simpa using h3)]at h;exact h
end
end Go.X
end
section
namespace Go.X
section
variable {h:za} {sk si:Sl} {bk bb:List Nat} {b bv cv:Nat} {cs:Array Value} {K:Value -> za -> Prop}
theorem OTp.row{v:Tr}{bf:Nat->List Nat}(H:OTp h v sk si bk bb b cs bf){h':za}(k:∀c∈bb,h'[c]?=h[c]?):RowO h' si b cs 4:=by
 refine⟨by have:=H.hn;omega,?_⟩
 rcases H.hz with⟨h0,_,h2⟩|⟨Z,ha,hb,hc⟩
 ·exact .inl ⟨by rw[H.hn.1,h0];rfl,h2⟩
 ·exact .inr ⟨ha,hb.keep (k b (by rw[Z];simp)),hc⟩
theorem zut(x:Tr)(sk si:Sl):∀u∈xj x sk si,u.oneCell'=true:=by
 intro u hu
 simp[xj]at hu
 rcases hu with rfl|rfl|rfl|rfl <;> simp[Value.oneCell',slV]
theorem z7q{ks:List Bt}(H:OKeys h ks bk sk){s:Bt}(hv:Blk h bv #[.string s])(hn:ks.length<=1048576)
  (hK:∀(sk':Sl) (h':za) (kb:Nat),OKeys h' (ks++[s]) [kb] sk'->(kb∈bk\/h.size<=kb)->h.size<=h'.size->(∀c,c<h.size->c∉bk->h'[c]?=h[c]?)->K (.slice sk'.a sk'.len sk'.cap) h'):
  XRun Tp (AB #[23,23] 23 #[.slice sk.a sk.len sk.cap,.slice (some ⟨bv,0,none⟩) 1 cv]) h K:=by
 obtain⟨l1,l2,l3,l4⟩:=H
 obtain⟨b,cs,aa,hb,Z⟩:∃b cs,RowO h sk b cs 1/\(b∈bk\/h.size<=b)/\cut cs 0 (sk.len*1)=ks.map Cv:=by
  rcases l4 with⟨rfl,rfl,h0⟩|⟨b,cs,rfl,e1,e2,e3,e4⟩
  ·refine⟨h.size,#[],⟨by omega,.inl ⟨l1,h0⟩⟩,.inr (Ad _),?_⟩
   rw[l1];rfl
  ·exact⟨b,cs,⟨by omega,.inr ⟨e1,e2,by omega⟩⟩,.inl (by simp),by rw[l1,Dc];exact e4⟩
 have ab:∀c∈bk,c<h.size:=by
  intro c hc
  rcases l4 with⟨_,rfl,_⟩|⟨b,cs,rfl,_,e2,_⟩
  ·cases hc
  ·simp at hc;subst hc;exact e2.lt
 refine zlt (vs:=[.string s]) zx5 aa hv rfl (λu hu=>by simp at hu;subst hu;simp[Value.oneCell']) (by omega) (by omega) λs' h' b' cs' N=>?_
 rw[Z]at N
 have hl:(ks++[s]).length=sk.len+1:=by simp[l1]
 refine hK s' h' b' ⟨by rw[hl];exact N.len,by rw[hl];omega,by rw[hl];exact N.cap,.inr ⟨b',cs',rfl,N.a,N.blk,by have:=N.size;omega,?_⟩⟩ ?_ N.grow λc hc hn=>N.old c hc λe=>?_
 ·rw[hl]
  have:=N.cut
  rw[Dc]at this
  rw[this];simp
 ·rcases N.new with e|e
  ·rw[e];exact hb
  ·exact .inr e
 ·rcases N.new with e2|e2
  ·rcases hb with e3|e3
   ·exact hn (by rw[e,e2];exact e3)
   ·omega
  ·omega
theorem z1x{g h:za}{x:Tr}{bf:Nat->List Nat}(H:OTp g x sk si bk bb b cs bf)(kb:∀c∈bb,h[c]?=g[c]?){w:Tr}{wk wi:Sl}(hv:Blk h bv (xj w wk wi).toArray)(hn:x.items.length<=1000000000)
  (hK:∀(si':Sl) (h':za) (b':Nat) (cs':Array Value),si'.a=some ⟨b',0,none⟩->si'.len=x.items.length+1->x.items.length+1<=si'.cap->Blk h' b' cs'->si'.cap*4<=cs'.size->cut cs' 0 ((x.items.length+1)*4)=cut cs 0 (x.items.length*4)++xj w wk wi ->
   ((b'=b/\b∈bb)\/h.size<=b')->h.size<=h'.size->(∀c,c<h.size->c∉bb->h'[c]?=h[c]?)->K (.slice si'.a si'.len si'.cap) h'):
  XRun Tp (AB #[24,24] 24 #[.slice si.a si.len si.cap,.slice (some ⟨bv,0,none⟩) 1 cv]) h K:=by
 have Z:=H.hn.1
 obtain⟨b0,ab,ah⟩:∃b0,RowO h si b0 cs 4/\((b0=b/\b∈bb)\/b0=h.size):=by
  have aa:=OTp.row H (h':=h) kb
  rcases H.hz with⟨h0,_,h2⟩|⟨af,_⟩
  ·exact⟨h.size,⟨aa.le,.inl ⟨by rw[Z,h0];rfl,h2⟩⟩,.inr rfl⟩
  ·exact⟨b,aa,.inl ⟨rfl,by rw[af];simp⟩⟩
 refine zlt (vs:=xj w wk wi) zsm ab hv rfl (zut w wk wi) (by omega) (by omega) λs' h' b' cs' N=>?_
 rw[Z]at N
 have ae:(b'=b/\b∈bb)\/h.size<=b':=by
  rcases N.new with e|e
  ·rcases ah with⟨e2,hm⟩|e2
   ·exact .inl ⟨by rw[e,e2],hm⟩
   ·exact .inr (by omega)
  ·exact .inr e
 refine hK s' h' b' cs' N.a N.len N.cap N.blk N.size N.cut ae N.grow λc hc hn=>N.old c hc λe=>?_
 rcases ae with⟨e2,hm⟩|e2
 ·exact hn (by rw[e,e2];exact hm)
 ·omega
end
section
variable {g':za} {s:Bt} {bv cv:Nat} {K:za -> Prop}
structure BT (lo hi:Nat) (g:za) (b0:Nat) (v:Tr) (sk si:Sl) (bk bb:List Nat) (b:Nat) (cs:Array Value) (bf:Nat->List Nat):Prop where
 box:Blk g b0 (xj v sk si).toArray
 p:OTp g v sk si bk bb b cs bf
 ok:∀c∈bk,lo<=c/\c<hi/\c≠b0
 ob:∀c∈bb,lo<=c/\c<hi/\c≠b0
 oi:∀i,i<v.items.length->∀c∈bf i,lo<=c/\c<hi/\c≠b0
 lb:lo<=b0
 hg:hi<=g.size
def Own(lo hi:Nat)(g:za)(b0:Nat)(v:Tr)(sk si:Sl):Prop:=∃(bk bb:List Nat) (b:Nat) (cs:Array Value) (bf:Nat->List Nat),BT lo hi g b0 v sk si bk bb b cs bf
section
variable {lo hi : Nat} {g : za} {b0 : Nat} {v : Tr} {sk si : Sl}
theorem Own.box(H:Own lo hi g b0 v sk si):Blk g b0 (xj v sk si).toArray:=by
 obtain⟨bk,bb,b,cs,bf,B⟩:=H;exact B.box
theorem Own.low(H:Own lo hi g b0 v sk si):lo<=b0:=by
 obtain⟨bk,bb,b,cs,bf,B⟩:=H;exact B.lb
theorem BT.move{bk bb:List Nat}{b:Nat}{cs:Array Value}{bf:Nat->List Nat}(B:BT lo hi g b0 v sk si bk bb b cs bf)(f:∀c,c∈bk\/c∈bb\/(∃i,i<v.items.length/\c∈bf i)->g'[c]?=g[c]?):OTp g' v sk si bk bb b cs bf:=
 ⟨B.p.keys.frame λc hc=>f c (.inl hc),B.p.hn,by
  rcases B.p.hz with h|⟨h1,h2,h3,h4⟩
  ·exact .inl h
  ·exact .inr ⟨h1,h2,h3.keep (f b (.inr (.inl (by rw[h1];simp)))),h4⟩,λi hi=>(B.p.hi i hi).frame λc hc=>f c (.inr (.inr ⟨i,hi,hc⟩)),B.p.nk,B.p.d1,B.p.d2,B.p.d3,B.p.d4⟩
theorem Own.keep(H:Own lo hi g b0 v sk si)(k:Keep g.size g g'):Own lo hi g' b0 v sk si:=by
 obtain⟨bk,bb,b,cs,bf,B⟩:=H
 have hz:=k.size
 have hg:=B.hg
 refine⟨bk,bb,b,cs,bf,B.box.ofKeep k,B.move λc hc=>k.get c ?_,B.ok,B.ob,B.oi,B.lb,by omega⟩
 rcases hc with hc|hc|⟨i,hi,hc⟩
 ·have:=(B.ok c hc).2.1;omega
 ·have:=(B.ob c hc).2.1;omega
 ·have:=(B.oi i hi c hc).2.1;omega
theorem Own.ot(H:Own lo hi g b0 v sk si):∃bs:List Nat,OT g v bs (xj v sk si)/\∀c∈bs,lo<=c/\c≠b0:=by
 obtain⟨bk,bb,b,cs,bf,B⟩:=H
 refine⟨_,B.p.ot,λc hc=>?_⟩
 rcases zyn.1 hc with h|h|⟨i,hi,h⟩
 ·exact⟨(B.ok c h).1,(B.ok c h).2.2⟩
 ·exact⟨(B.ob c h).1,(B.ob c h).2.2⟩
 ·exact⟨(B.oi i hi c h).1,(B.oi i hi c h).2.2⟩
theorem Own.new{k:Int}(B:Blk g b0 (xj (.mk k s [] []) ⟨none,0,0⟩ ⟨none,0,0⟩).toArray)(h:lo<=b0)(hh:hi<=g.size):Own lo hi g b0 (.mk k s [] []) ⟨none,0,0⟩ ⟨none,0,0⟩:=
 ⟨[],[],0,#[],λ_=>[],B,⟨⟨rfl,CV _,CV _,.inl ⟨rfl,rfl,rfl⟩⟩,⟨rfl,CV _,CV _⟩,.inl ⟨rfl,rfl,rfl⟩,λi hi=>absurd hi (Nat.not_lt_zero i),DI,λc hc=>(by cases hc),λc hc=>(by cases hc),λc hc=>(by cases hc),λi j hi=>absurd hi (Nat.not_lt_zero i)⟩,λc hc=>(by cases hc),λc hc=>(by cases hc),λi hi=>absurd hi (Nat.not_lt_zero i),h,hh⟩
theorem qef:qd Tp 23=true:=by kernel_rfl
theorem qeg:qt Tp 23=1:=by kernel_rfl
theorem qeh:qd Tp 24=true:=by kernel_rfl
theorem qei:qt Tp 24=1:=by kernel_rfl
theorem Own.key(H:Own lo hi g b0 v sk si)(ak:lo<=g.size)(hn:v.keys.length<=1048576)(hv:Blk g bv #[.string s])
  (hK:∀(g':za) (s':Sl),Own lo g'.size g' b0 (.mk v.kind v.text (v.keys++[s]) v.items) s' si->Keep lo g g'->g.size<=g'.size->K g'):
  XRun Tp (AB #[23,23] 23 #[.slice sk.a sk.len sk.cap,.slice (some ⟨bv,0,none⟩) 1 cv]) g (λw g1=>∃x:Sl,w=.slice x.a x.len x.cap/\XRunU Tp (An 23 (.pointer (some ⟨b0,2,none⟩)) (.slice x.a x.len x.cap)) g1 K):=by
 obtain⟨bk,bb,b,cs,bf,B⟩:=H
 refine z7q B.p.keys hv hn λs' g1 kb ko kn z1 f1=>⟨s',rfl,?_⟩
 have aj:=B.box.lt
 have hg:=B.hg
 have aa:∀c∈bk,lo<=c/\c<g.size/\c≠b0:=λc hc=>by have:=B.ok c hc;exact⟨this.1,by omega,this.2.2⟩
 have Z:∀c∈bb,lo<=c/\c<g.size/\c≠b0:=λc hc=>by have:=B.ob c hc;exact⟨this.1,by omega,this.2.2⟩
 have ab:∀i,i<v.items.length->∀c∈bf i,lo<=c/\c<g.size/\c≠b0:=λi hi c hc=>by have:=B.oi i hi c hc;exact⟨this.1,by omega,this.2.2⟩
 have ah:b0∉bk:=λh=>(aa b0 h).2.2 rfl
 refine xh qef qeg (B.box.keep (f1 b0 aj ah)) (by show 2<4;omega) rfl λg2 u1 u2 u3=>?_
 have am:kb<g1.size:=by
  obtain⟨_,_,_,h|⟨b',cs',e,_,h,_⟩⟩:=ko
  ·exact absurd h.1 (by simp)
  ·rw[Bu]at e;rw[e.1];exact h.lt
 have af:lo<=kb/\kb≠b0:=by
  rcases kn with h|h
  ·exact⟨(aa kb h).1,(aa kb h).2.2⟩
  ·exact⟨by omega,by omega⟩
 have ae:∀c,c<g.size->c∉bk->c≠kb:=λc hc hn e=>by
  subst e
  rcases kn with h|h
  ·exact hn h
  ·omega
 have fr:∀c,c<g.size->c∉bk->c≠b0->g2[c]?=g[c]?:=λc hc hn h0=>(u3 c h0).trans (f1 c hc hn)
 have ai:∀i,i<v.items.length->∀c∈bf i,c∉bk:=λi hi c hc h=>B.p.d2 c h i hi hc
 refine hK g2 s' ⟨[kb],bb,b,cs,bf,u1,⟨ko.frame λc hc=>u3 c ?_,B.p.hn,?_,λi hi=>(B.p.hi i hi).frame λc hc=>fr c (ab i hi c hc).2.1 (ai i hi c hc) (ab i hi c hc).2.2,by simp,λc hc=>?_,λc hc i hi hm=>?_,B.p.d3,B.p.d4⟩,λc hc=>?_,λc hc=>?_,λi hi c hc=>?_,B.lb,Ad _⟩ ⟨by omega,λj hj=>fr j (by omega) (λh=>?_) ?_⟩ (by omega)
 ·rw[Bf.1 hc];exact af.2
 ·rcases B.p.hz with h|⟨h1,h2,h3,h4⟩
  ·exact .inl h
  ·have hm:b∈bb:=by rw[h1];simp
   exact .inr ⟨h1,h2,h3.keep (fr b (Z b hm).2.1 (λh=>B.p.d1 b h hm) (Z b hm).2.2),h4⟩
 ·rw[Bf.1 hc]
  intro hm
  exact ae kb (Z kb hm).2.1 (λh=>B.p.d1 kb h hm) rfl
 ·rw[Bf.1 hc]at hm
  exact ae kb (ab i hi kb hm).2.1 (ai i hi kb hm) rfl
 ·rw[Bf.1 hc];exact⟨af.1,by omega,af.2⟩
 ·have:=Z c hc;exact⟨this.1,by omega,this.2.2⟩
 ·have:=ab i hi c hc;exact⟨this.1,by omega,this.2.2⟩
 ·have:=(aa j h).1;omega
 ·have:=B.lb;omega
theorem Own.item(H:Own lo hi g b0 v sk si)(ap:lo<=g.size)(hn:v.items.length<=1000000){w:Tr}{wk wi:Sl}(hv:Blk g bv (xj w wk wi).toArray){bw:List Nat}(ow:OT g w bw (xj w wk wi))(an:bv∉bw)(hw:∀c∈bw,lo<=c/\c≠b0/\hi<=c)
  (hK:∀(g':za) (s':Sl),Own lo g'.size g' b0 (.mk v.kind v.text v.keys (v.items++[w])) sk s'->Keep lo g g'->g.size<=g'.size->K g'):
  XRun Tp (AB #[24,24] 24 #[.slice si.a si.len si.cap,.slice (some ⟨bv,0,none⟩) 1 cv]) g (λu g1=>∃x:Sl,u=.slice x.a x.len x.cap/\XRunU Tp (An 24 (.pointer (some ⟨b0,3,none⟩)) (.slice x.a x.len x.cap)) g1 K):=by
 obtain⟨bk,bb,b,cs,bf,B⟩:=H
 refine z1x B.p (λc hc=>rfl) hv (by omega) λs' g1 b' cs' e1 e2 e3 e4 e5 e6 ai z1 f1=>⟨s',rfl,?_⟩
 have am:=B.box.lt
 have hg:=B.hg
 have ab:∀c∈bk,lo<=c/\c<g.size/\c≠b0:=λc hc=>by have:=B.ok c hc;exact⟨this.1,by omega,this.2.2⟩
 have ah:∀c∈bb,lo<=c/\c<g.size/\c≠b0:=λc hc=>by have:=B.ob c hc;exact⟨this.1,by omega,this.2.2⟩
 have ae:∀i,i<v.items.length->∀c∈bf i,lo<=c/\c<g.size/\c≠b0:=λi hi c hc=>by have:=B.oi i hi c hc;exact⟨this.1,by omega,this.2.2⟩
 have aa:∀c∈bw,c∉bk/\c∉bb/\∀i,i<v.items.length->c∉bf i:=λc hc=>by
  have h1:=(hw c hc).2.2
  exact⟨λh=>by have:=(B.ok c h).2.1;omega,λh=>by have:=(B.ob c h).2.1;omega,λi hi h=>by have:=(B.oi i hi c h).2.1;omega⟩
 have ak:b0∉bb:=λh=>(B.ob b0 h).2.2 rfl
 refine xh qeh qei (B.box.keep (f1 b0 am ak)) (by show 3<4;omega) rfl λg2 u1 u2 u3=>?_
 have Z:lo<=b'/\b'≠b0:=by
  rcases ai with⟨h,hm⟩|h
  ·rw[h];exact⟨(ah b hm).1,(ah b hm).2.2⟩
  ·exact⟨by omega,by omega⟩
 have af:∀c,c<g.size->c∉bb->c≠b':=λc hc hn e=>by
  subst e
  rcases ai with⟨h,hm⟩|h
  ·rw[h]at hn;exact hn hm
  ·omega
 have fr:∀c,c<g.size->c∉bb->c≠b0->g2[c]?=g[c]?:=λc hc hn h0=>(u3 c h0).trans (f1 c hc hn)
 have aj:∀i,i<v.items.length->∀c∈bf i,c∉bb:=λi hi c hc h=>B.p.d3 c h i hi hc
 have N:=OTp.ins (h':=g2) B.p (k:=v.items.length) (Ad _) (w:=w) (bw:=bw) (cw:=xj w wk wi) (ow.frame λc hc=>fr c (ow.lt c hc) (aa c hc).2.1 (hw c hc).2.1)
  (λi hi c hc=>fr c (ae i hi c hc).2.1 (aj i hi c hc) (ae i hi c hc).2.2) e1 (e4.keep (u3 b' Z.2)) e2 e3 e5 (by omega)
  (by
   have hl:(cut cs 0 (v.items.length*4)).length<=v.items.length*4:=by unfold cut;rw[A1];omega
   rw[e6,Co hl,Bj hl,AW])
  (λi hi hm=>af b' (ae i hi b' hm).2.1 (aj i hi b' hm) rfl) (λhm=>af b' (ow.lt b' hm) (aa b' hm).2.1 rfl) (λc hc i hi=>(aa c hc).2.2 i hi)
  (B.p.keys.frame λc hc=>fr c (ab c hc).2.1 (B.p.d1 c hc) (ab c hc).2.2) B.p.nk (λhm=>af b' (ab b' hm).2.1 (B.p.d1 b' hm) rfl) (λc hc i hi=>B.p.d2 c hc i hi) (λc hc hm=>(aa c hm).1 hc)
 rw[Bb,List.drop_length]at N
 refine hK g2 s' ⟨bk,[b'],b',cs',_,u1,N,λc hc=>?_,λc hc=>?_,λi hi c hc=>?_,B.lb,Ad _⟩ ⟨by omega,λj hj=>fr j (by omega) (λh=>?_) ?_⟩ (by omega)
 ·have:=ab c hc;exact⟨this.1,by omega,this.2.2⟩
 ·rw[Bf.1 hc];exact⟨Z.1,by have:=e4.lt;omega,Z.2⟩
 ·have hc:c∈(if i<v.items.length then bf i else if i=v.items.length then bw else bf (i-1)):=hc
  have hi:i<v.items.length+1:=by
   have:(v.items++[w]).length=v.items.length+1:=by simp
   rw[<-this];exact hi
  split at hc
  ·rename_i h;have:=ae i h c hc;exact⟨this.1,by omega,this.2.2⟩
  ·rw[if_pos (by omega)]at hc
   have:=ow.lt c hc
   exact⟨(hw c hc).1,by omega,(hw c hc).2.1⟩
 ·have:=(ah j h).1;omega
 ·have:=B.lb;omega
end
end
end Go.X
end
section
namespace Go.X
open Go Go.X Go.Proofs Go.RowKit
section
variable {h:za} {l:Bs} {K:Value -> za -> Prop} {lo:Nat}
theorem zbf{c:UInt8}(hK:K (.int .i64 (Lib.indexByte l c)) h):XC Tp 212 #[.string (bl l),.int .u8 (c.toNat:Int)] h K:=by
 refine XC.of_calls λB d=>(ja (bl l) (c.toNat:Int) (mk B d h)).mono ?_
 rintro e w' ⟨rfl,rfl⟩
 refine⟨_,rfl,rfl,rfl,rfl,?_⟩
 have e1:(bl l).data.toList=l:=y9 l
 rw[e1,z97];exact hK
def zys(F:FuncId)(A C:Array Value)(lo:Nat)(p:UInt8->Bool)(h0:za):Prop:=
 zp Tp F=true/\∀(c:UInt8) (h:za) (K:Value->za->Prop),Keep lo h0 h->(∀h',Keep lo h h'->K (.bool (p c)) h')->XC Tp F (A++#[.int .u8 (c.toNat:Int)]++C) h K
theorem z7r{F:FuncId}{A C:Array Value}{p:UInt8->Bool}(H:zys F A C lo p h)(hl:l.length<=1152921504606846976)(hK:∀h',Keep lo h h'->K (.int .i64 (Zh p l:Int)) h'):
  XC Tp 256 #[.string (bl l),.func (.func F) A C] h K:=by
 obtain⟨hF,H⟩:=H
 apply zuq
 rw[zj]
 refine⟨λi g=>∃k:Nat,i=(k:Int)/\k<=l.length/\Keep lo h g/\∀j (hj:j<k) (aa:j<l.length),p l[j]=true,λi _=>l.length-i.toNat,⟨0,rfl,by omega,Keep.refl _ _,λj hj=>by omega⟩,?_⟩
 rintro i g ⟨k,rfl,hk,kg,hp⟩
 refine⟨λhx=>?_,λhx=>?_⟩
 ·have Z:k<l.length:=by have:=of_decide_eq_true hx;omega
  refine⟨⟨by omega,by omega⟩,hF,?_⟩
  rw[jk,Ah,zr5 Z]
  refine H _ _ _ kg λh' k'=>⟨_,rfl,λhz=>?_,λhz=>?_⟩
  ·have e:Zh p l=k:=zqc hk (λj hj=>hp j hj (by omega)) (λ_=>by simpa using hz)
   rw[<-e];exact hK h' (kg.trans k' (Ad _))
  ·rw[Xy Z (by omega)]
   refine⟨⟨k+1,rfl,by omega,kg.trans k' (Ad _),λj hj aa=>?_⟩,by show l.length-((k+1:Nat):Int).toNat<l.length-((k:Nat):Int).toNat;omega⟩
   rcases AR j k with h9|h9
   ·exact hp j h9 aa
   ·have:j=k:=by omega
    subst this
    simpa using hz
 ·have Z:k=l.length:=by have:=of_decide_eq_false hx;omega
  have e:Zh p l=l.length:=zqc (Ad _) (λj hj=>hp j (by omega) hj) (λhh=>absurd hh (by omega))
  rw[<-e];exact hK g kg
theorem zg7{b:Nat}(hb:Blk h b #[.string (bl l)])(Z:b<lo):zys 292 #[] #[.pointer (some ⟨b,0,none⟩)] lo (xe l) h:=by
 refine⟨by kernel_rfl,λc g K kg hK=>?_⟩
 show XC Tp 292 #[.int .u8 (c.toNat:Int),.pointer (some ⟨b,0,none⟩)] g K
 apply zh6
 have aa:Blk g b #[.string (bl l)]:=by
  obtain⟨T,e⟩:=hb
  exact⟨T,by rw[kg.get b Z];exact e⟩
 refine⟨bl l,aa.cell rfl,zbf ⟨_,rfl,?_⟩⟩
 have e:decide (Lib.indexByte l c>=0)=xe l c:=by
  unfold xe
  rw[AH,decide_eq_true_eq,decide_eq_true_eq]
  exact(wy c l).2
 rw[e];exact hK g (Keep.refl _ _)
theorem zqu{gl M:Fr}(hM:Fr.le gl M)(ag:AgM M h):zys 259 #[] #[] h.size (xe js) h:=by
 refine⟨by kernel_rfl,λc g K kg hK=>?_⟩
 have e:(bif decide ((c.toNat:Int)>=97)then decide ((c.toNat:Int)<=122)else false)=xe js c:=by
  have Z:(Bv 256).all (λn=>(bif decide ((n:Int)>=97)then decide ((n:Int)<=122)else false)==xe js (BX n))=true:=by kernel_rfl
  have:=AX.1 Z c.toNat (BL.2 c.toNat_lt)
  rw[beq_iff_eq,UInt8.ofNat_toNat]at this
  exact this
 refine(PC.px (gl:=gl) (args:=[Arg.mk (.int .u8) (c.toNat:Int)]) (rt:=[.bool]) (R:=λb=>b=xe js c) ?_ hM (ag.keep kg) (jc (a:=Arg.mk (.int .u8) _) (Xv _ _) xb)).go λv h' M' r L hv hr=>?_
 ·apply zn6;exact e
 ·obtain rfl:=zr2 hv
  rw[hr]
  exact hK h' (L.keep.mono kg.size)
end
section
variable {K:Value -> za -> Prop} {h:za} {a e:Int} {M:Fr} {v:Value}
theorem qdc:qd Tp 90=true:=by kernel_rfl
theorem qdd:qt Tp 90=3:=by kernel_rfl
abbrev zod(k f t:Int):List Value:=[.int .i64 k,.int .i64 f,.int .i64 t]
theorem z7s{g:za}{b:Nat}{x y z p q r:Int}(B:Blk g b (zod x y z).toArray){K:za->Prop}(hK:∀g',(∀j,j≠b->g'[j]?=g[j]?)->g'.size=g.size->Blk g' b (zod p q r).toArray->K g'):
  XRunU Tp (An 90 (.pointer (some ⟨b,0,none⟩)) (.agg #[.int .i64 p,.int .i64 q,.int .i64 r])) g K:=by
 refine J6 (vs:=zod p q r) qdc B rfl qdd (Ad 3) (λu hu=>?_) λg' q1 q2 q3=>hK g' q3 q2 q1
 simp at hu
 rcases hu with rfl|rfl|rfl <;> rfl
theorem zyt{c:Nat}{a k t:Int}(hc:Blk h c #[.int .i64 a])(hK:∀h',Keep h.size h h'->K (.tuple #[.agg #[.int .i64 k,.int .i64 a,.int .i64 t],.int .i64 0]) h'):
  XC Tp 254 #[.int .i64 k,.int .i64 t,.pointer (some ⟨c,0,none⟩)] h K:=by
 apply zll
 intro h1
 have k1:Keep h.size h h1:=Keep.push _ _ (Ad _)
 have B1:Blk h1 h.size (zod 0 0 0).toArray:=Blk.new _ _ _
 have Z:Blk h1 c #[.int .i64 a]:=hc.ofKeep k1
 refine⟨a,Z.cell rfl,z7s B1 λg' q1 q2 q3=>⟨k,a,t,q3.ld,hK g' (k1.trans ⟨by omega,λi hi=>q1 i (by omega)⟩ (Ad _))⟩⟩
theorem qde{x:Int×Int×Int}(h:zcu M [.pair (.int .i64) (.pair (.int .i64) (.int .i64)),.int .i64] (x,e) v):v=.tuple #[.agg #[.int .i64 x.1,.int .i64 x.2.1,.int .i64 x.2.2],.int .i64 e]:=by
 obtain⟨vs,⟨v1,rest,rfl,hx,v2,rfl,hy⟩,rfl⟩:=h
 rw[yo hy]
 unfold RdV at hx
 simp only[zhf,if_true]at hx
 obtain⟨cs,rfl,c1,c2,rfl,e1,c3,c4,rfl,e3,e4⟩:=hx
 have e1:c1=[.int .i64 x.1]:=e1
 have e3:c3=[.int .i64 x.2.1]:=e3
 have e4:c4=[.int .i64 x.2.2]:=e4
 subst e1 e3 e4
 rfl
theorem zyu{gl M:Fr}(hM:Fr.le gl M)(ag:AgM M h)(hK:∀h',Keep h.size h h'->K (.tuple #[.agg #[.int .i64 0,.int .i64 a,.int .i64 a],.int .i64 e]) h'):
  XC Tp 255 #[.int .i64 a,.int .i64 e] h K:=by
 refine(PC.px (gl:=gl) (args:=[Arg.mk (.int .i64) a,Arg.mk (.int .i64) e]) (rt:=[.pair (.int .i64) (.pair (.int .i64) (.int .i64)),.int .i64]) (R:=λr=>r=((0,(a,a)),e)) ?_ hM ag (jc (a:=Arg.mk (.int .i64) _) (Xv _ _) (jc (a:=Arg.mk (.int .i64) _) (Xv _ _) xb))).go λv h' M' r L hv hr=>?_
 ·apply zlo;rfl
 ·subst hr
  rw[qde hv]
  exact hK h' L.keep
theorem zyv{l:Bs}(hK:∀h',Keep h.size h h'->h'.size=h.size+1->Blk h' h.size #[.string (bl l)]->K (.func (.func 292) #[] #[.pointer (some ⟨h.size,0,none⟩)]) h'):
  XC Tp 257 #[.string (bl l)] h K:=by
 apply zn2
 intro h1
 exact hK h1 (Keep.push _ _ (Ad _)) (Ak _) (Blk.new _ _ _)
def zoe(s:Bs)(a:Nat):Value:=if(Zi s a).2.2=0 then .tuple #[.agg #[.int .i64 (Zi s a).1,.int .i64 (a:Int),.int .i64 ((Zi s a).2.1:Int)],.int .i64 0]else .tuple #[.agg #[.int .i64 0,.int .i64 ((Zi s a).2.1:Int),.int .i64 ((Zi s a).2.1:Int)],.int .i64 (Zi s a).2.2]
theorem qej{x:Bool×Bt×Int}(h:zcu M [.pair .bool (.pair .str (.int .i64)),.int .i64] (x,e) v):v=.tuple #[.agg #[.bool x.1,.string x.2.1,.int .i64 x.2.2],.int .i64 e]:=by
 obtain⟨vs,⟨v1,rest,rfl,hx,v2,rfl,hy⟩,rfl⟩:=h
 rw[yo hy]
 unfold RdV at hx
 simp only[zhf,if_true]at hx
 obtain⟨cs,rfl,c1,c2,rfl,e1,c3,c4,rfl,e3,e4⟩:=hx
 have e1:c1=[.bool x.1]:=e1
 have e3:c3=[.string x.2.1]:=e3
 have e4:c4=[.int .i64 x.2.2]:=e4
 subst e1 e3 e4
 rfl
end
section
variable {gl:Fr} {s:Bs} {a t:Nat} {k:Int}
theorem qa3(l:Bs)(c:UInt8):decide (Lib.indexByte l c>=0)=xe l c:=by
 unfold xe
 rw[AH,decide_eq_true_eq,decide_eq_true_eq]
 exact(wy c l).2
theorem z1y:(Bv 256).all (λn=>(bif ((n:Int)==45)then true else(bif decide ((n:Int)>=48)then decide ((n:Int)<=57)else false))==xe zxs (BX n))=true:=by kernel_rfl
theorem z7t(c:UInt8):(bif ((c.toNat:Int)==45)then true else(bif decide ((c.toNat:Int)>=48)then decide ((c.toNat:Int)<=57)else false))=xe zxs c:=by
 have:=AX.1 z1y c.toNat (BL.2 c.toNat_lt)
 rw[beq_iff_eq,UInt8.ofNat_toNat]at this
 exact this
theorem z1z{R:Int->Prop}(h:R (Wa s)):PC Tp gl 260 [Arg.mk .str (bl s)] [.int .i64] R:=by
 apply zqj
 have e:∀l:Bs,((bl s:Bt).toList==((⟨l.toArray⟩:Bt):Bt).toList)=decide (s=l):=λl=>zev s l
 have e1:=e [116,114,117,101];have e2:=e [102,97,108,115,101];have e3:=e [110,117,108,108]
 rw[e1,e2,e3]
 unfold Wa at h
 refine⟨λhx=>?_,λhx=>⟨λhy=>?_,λhy=>⟨λhz=>?_,λhz=>?_⟩⟩⟩
 ·rw[if_pos (of_decide_eq_true hx)]at h;exact h
 ·rw[if_neg (of_decide_eq_false hx),if_pos (of_decide_eq_true hy)]at h;exact h
 ·rw[if_neg (of_decide_eq_false hx),if_neg (of_decide_eq_false hy),if_pos (of_decide_eq_true hz)]at h;exact h
 ·rw[if_neg (of_decide_eq_false hx),if_neg (of_decide_eq_false hy),if_neg (of_decide_eq_false hz)]at h;exact h
theorem zyw{c:UInt8}{t:Bs}(h:s.drop a=c::t):Zi s a=
  if c∈X0 then(2+Lib.indexByte X0 c,a+1,0)
  else if c∈zaa then(1,a+Zh (xe zaa) (s.drop a),0)
  else if c=34 then(if(yj s a).2.2=0 then(8,(yj s a).2.1,0)else(0,(yj s a).2.1,(yj s a).2.2))
  else if c∈zxs then(if(zn ((s.drop a).take (Zh (xe zhh) (s.drop a)))).2=0 then(9,a+Zh (xe zhh) (s.drop a),0)else(0,a,(zn ((s.drop a).take (Zh (xe zhh) (s.drop a)))).2))
  else if Wa ((s.drop a).take (Zh (xe js) (s.drop a)))=0 then(0,a,2)else(Wa ((s.drop a).take (Zh (xe js) (s.drop a))),a+Zh (xe js) (s.drop a),0):=by
 unfold Zi;rw[h]
theorem zcn(h:Zi s a=(k,t,0)):zoe s a=.tuple #[.agg #[.int .i64 k,.int .i64 (a:Int),.int .i64 (t:Int)],.int .i64 0]:=by unfold zoe;rw[h];rfl
theorem zfe{k e:Int}(h:Zi s a=(k,t,e))(he:¬e=0):zoe s a=.tuple #[.agg #[.int .i64 0,.int .i64 (t:Int),.int .i64 (t:Int)],.int .i64 e]:=by unfold zoe;rw[h,if_neg he]
set_option maxHeartbeats 2000000 in
theorem qa4{gl M:Fr}(hg:GL gl)(hM:Fr.le gl M){h:za}(ag:AgM M h)(hs:s.length<=65536)(ha:a<s.length){K:Value->za->Prop}(hK:∀h',Keep h.size h h'->K (zoe s a) h'):
  XC Tp 198 #[.string (bl s),.int .i64 (a:Int)] h K:=by
 have hd:s.drop a=s[a]::s.drop (a+1):=AF ha
 have ax:s.drop a≠[]:=by rw[hd];exact List.cons_ne_nil _ _
 have ay:(s.drop a).length=s.length-a:=AC
 have eV:=zyw hd
 generalize hc:s[a]=c at eV hd
 apply zqg
 intro h1 h2
 have z1:h1.size=h.size+1:=Ak _
 have z2:h2.size=h1.size+1:=Ak _
 have k1:Keep h.size h h1:=Keep.push _ _ (Ad _)
 have k2:Keep h1.size h1 h2:=Keep.push _ _ (Ad _)
 have ak:Keep h.size h h2:=k1.trans k2 (by omega)
 have B0:Blk h2 h.size #[.int .i64 (a:Int)]:=(Blk.new h #[.int .i64 (a:Int)] 3).ofKeep k2
 have B1:Blk h2 h1.size (zod 0 0 0).toArray:=Blk.new _ _ _
 clear_value h1 h2
 have ab:AgM M h2:=ag.keep ak
 have done:∀(k f t e:Int) (g:za),Keep h2.size h2 g->.tuple #[.agg #[.int .i64 k,.int .i64 f,.int .i64 t],.int .i64 e]=zoe s a ->
   XRunU Tp (An 90 (.pointer (some ⟨h1.size,0,none⟩)) (.agg #[.int .i64 k,.int .i64 f,.int .i64 t])) g (λg'=>∃r1 r2 r3:Int,ze g' ⟨h1.size,0,none⟩ 0 [.int .i64 r1,.int .i64 r2,.int .i64 r3]/\K (.tuple #[.agg #[.int .i64 r1,.int .i64 r2,.int .i64 r3],.int .i64 e]) g'):=by
  intro k f t e g kg he
  refine z7s (B1.ofKeep kg) λg' q1 q2 q3=>⟨k,f,t,q3.ld,?_⟩
  rw[he]
  have hz:=kg.size
  exact hK g' ((ak.trans kg (by omega)).trans (c:=g') (m:=h.size) ⟨by omega,λi hi=>q1 i (by omega)⟩ (Ad _))
 have ex:(bl s).extract (a:Int).toNat (s.length:Int).toNat=bl (s.drop a):=znr (n:=(a:Int)) rfl
 have b0:zb (bl (s.drop a)) (0:Int).toNat=(c.toNat:Int):=by rw[jk,hd];rfl
 rw[zj]
 refine⟨(a:Int),B0.cell rfl,?_⟩
 rw[ex,zj,b0]
 refine⟨⟨by omega,by omega,by omega⟩,⟨by omega,by omega⟩,?_⟩
 have bs:(⟨#[123,125,91,93,44,58]⟩:Bt)=bl X0:=rfl
 have bb:(⟨#[32,9,10,13]⟩:Bt)=bl zaa:=rfl
 have bn:(⟨#[45,43,46,48,49,50,51,52,53,54,55,56,57,101,69]⟩:Bt)=bl zhh:=rfl
 rw[bs,bb,bn]
 have ah:∀n:Nat,n<=s.length->Ab .i64 ((a:Int)+(n:Int))=((a+n:Nat):Int):=λn hn=>by rw[w64 (by omega)];omega
 refine zbf ⟨_,rfl,?_⟩
 rw[qa3]
 refine⟨λhx=>?_,λhx=>?_⟩
 ·have hx:=of_decide_eq_true hx
  rw[if_pos hx]at eV
  have hr:0<=Lib.indexByte X0 c/\Lib.indexByte X0 c<6:=by
   have:∀c∈X0,0<=Lib.indexByte X0 c/\Lib.indexByte X0 c<6:=by decide
   exact this c hx
  refine⟨(a:Int),B0.cell rfl,by kernel_rfl,?_⟩
  refine zyt B0 λg kg=>⟨_,_,_,_,rfl,done _ _ _ _ g kg ?_⟩
  rw[zcn eV,w64 (n:=2+Lib.indexByte X0 c) (by omega),show Ab .i64 ((a:Int)+1)=((a+1:Nat):Int)from ah 1 (by omega)]
 have hx:=of_decide_eq_false hx
 rw[if_neg hx]at eV
 refine zbf ⟨_,rfl,?_⟩
 rw[qa3]
 have aj:=λp=>zxt p (s.drop a)
 refine⟨λhy=>?_,λhy=>?_⟩
 ·have hy:=of_decide_eq_true hy
  rw[if_pos hy]at eV
  refine⟨(a:Int),B0.cell rfl,zyv λg kg zg Bg=>⟨_,rfl,kg.get h.size (by omega),?_⟩⟩
  refine z7r (lo:=g.size) (zg7 Bg (by omega)) (by omega) λg2 Z=>⟨_,rfl,?_,by kernel_rfl,?_⟩
  ·rw[Z.get h.size (by omega)];exact kg.get h.size (by omega)
  have k3:Keep h2.size h2 g2:=kg.trans Z (by omega)
  refine zyt (B0.ofKeep k3) λg3 au=>⟨_,_,_,_,rfl,done _ _ _ _ g3 (k3.trans au k3.size) ?_⟩
  have:=aj (xe zaa)
  rw[zcn eV,ah _ (by omega)]
 have hy:=of_decide_eq_false hy
 rw[if_neg hy]at eV
 rw[show((c.toNat:Int)==34)=decide (c=34)from u8i (n:=34) (by omega),z7t]
 refine⟨λhz=>?_,λhz=>⟨λhw=>?_,λhw=>?_⟩⟩
 ·have hz:=of_decide_eq_true hz
  rw[if_pos hz]at eV
  refine⟨(a:Int),B0.cell rfl,?_⟩
  refine((qa1 hg (t:=s) (a:=(a:Int)) (by omega) (R:=λr=>r=qa0 s (a:Int)) rfl).px hM ab (jc (a:=Arg.mk .str _) (rdStr _) (jc (a:=Arg.mk (.int .i64) _) (Xv _ _) xb))).go λv g M' r L hv hr=>?_
  have he:qa0 s (a:Int)=(((yj s a).2.1:Int),(yj s a).2.2):=by
   unfold qa0;rw[if_neg (by omega),Ah]
  rw[he]at hr
  subst hr
  rw[zoc hv]
  refine⟨_,_,rfl,λaa=>⟨by kernel_rfl,?_⟩,λaa=>⟨by kernel_rfl,?_⟩⟩
  ·refine zyu hM (ab.keep L.keep) λg2 Z=>⟨_,_,_,_,rfl,done _ _ _ _ g2 (L.keep.trans Z L.keep.size) ?_⟩
   have hn:¬(yj s a).2.2=0:=by simpa using aa
   rw[if_neg hn]at eV
   rw[zfe eV hn]
  ·refine zyt (B0.ofKeep L.keep) λg2 Z=>⟨_,_,_,_,rfl,done _ _ _ _ g2 (L.keep.trans Z L.keep.size) ?_⟩
   have hn:(yj s a).2.2=0:=by simpa using aa
   rw[if_pos hn]at eV
   rw[zcn eV]
 ·have hz:=of_decide_eq_false hz
  have hw:=of_decide_eq_true hw
  rw[if_neg hz,if_pos hw]at eV
  refine⟨(a:Int),B0.cell rfl,zyv λg kg zg Bg=>⟨_,rfl,kg.get h.size (by omega),?_⟩⟩
  have am:=aj (xe zhh)
  refine z7r (lo:=g.size) (zg7 Bg (by omega)) (by omega) λg2 Z=>⟨_,rfl,?_,?_⟩
  ·rw[Z.get h.size (by omega)];exact kg.get h.size (by omega)
  have k3:Keep h2.size h2 g2:=kg.trans Z (by omega)
  rw[ah _ (by omega)]
  have ai:(bl s).extract (a:Int).toNat ((a+Zh (xe zhh) (s.drop a):Nat):Int).toNat=bl ((s.drop a).take (Zh (xe zhh) (s.drop a))):=by
   rw[Ah,Ah,xu,show a+Zh (xe zhh) (s.drop a)-a=Zh (xe zhh) (s.drop a)by omega]
  refine⟨(a:Int),(B0.ofKeep k3).cell rfl,⟨by omega,by omega,by omega⟩,?_⟩
  rw[ai]
  refine((zfb (gl:=gl) (s:=(s.drop a).take (Zh (xe zhh) (s.drop a))) (by rw[A1];omega) (R:=λr=>r=(nmB (zn ((s.drop a).take (Zh (xe zhh) (s.drop a)))).1,(zn ((s.drop a).take (Zh (xe zhh) (s.drop a)))).2)) rfl).px hM (ab.keep k3) (jc (a:=Arg.mk .str _) (rdStr _) xb)).go λv g3 M' r L hv hr=>?_
  subst hr
  rw[qej hv]
  generalize hq:(s.drop a).take (Zh (xe zhh) (s.drop a))=w at eV
  refine⟨_,_,_,_,rfl,?_⟩
  intro af
  have ar:Keep g3.size g3 af:=Keep.push _ _ (Ad _)
  have an:Blk af g3.size #[.bool false,.string ⟨#[]⟩,.int .i64 0]:=Blk.new _ _ _
  have k4:Keep h2.size h2 af:=(k3.trans L.keep k3.size).trans ar (by have:=L.keep.size;have:=k3.size;omega)
  clear_value af
  refine J6 (vs:=[.bool (nmB (zn w).1).1,.string (nmB (zn w).1).2.1,.int .i64 (nmB (zn w).1).2.2]) (by kernel_rfl) an rfl (by kernel_rfl) (Ad 3) (λu hu=>?_) λap q1 q2 q3=>?_
  ·simp at hu
   rcases hu with rfl|rfl|rfl <;> rfl
  have k5:Keep h2.size h2 ap:=k4.trans ⟨by omega,λi hi=>q3 i (by have:=L.keep.size;have:=k3.size;omega)⟩ (Ad _)
  refine⟨λaa=>⟨(a:Int),(B0.ofKeep k5).cell rfl,by kernel_rfl,?_⟩,λaa=>⟨by kernel_rfl,?_⟩⟩
  ·refine zyu hM (ab.keep k5) λg4 ae=>⟨_,_,_,_,rfl,done _ _ _ _ g4 (k5.trans ae k5.size) ?_⟩
   have hn:¬(zn w).2=0:=by simpa using aa
   rw[if_neg hn]at eV
   rw[zfe eV hn]
  ·refine zyt (B0.ofKeep k5) λg4 ae=>⟨_,_,_,_,rfl,done _ _ _ _ g4 (k5.trans ae k5.size) ?_⟩
   have hn:(zn w).2=0:=by simpa using aa
   rw[if_pos hn]at eV
   rw[zcn eV]
 ·have hz:=of_decide_eq_false hz
  have hw:=of_decide_eq_false hw
  rw[if_neg hz,if_neg hw]at eV
  have am:=aj (xe js)
  refine z7r (lo:=h2.size) (zqu hM ab) (by omega) λg2 Z=>⟨_,rfl,⟨by omega,by omega,by omega⟩,?_⟩
  have ai:(bl (s.drop a)).extract (0:Int).toNat ((Zh (xe js) (s.drop a):Nat):Int).toNat=bl ((s.drop a).take (Zh (xe js) (s.drop a))):=by
   rw[Ah,xu];rfl
  rw[ai]
  refine((z1z (gl:=gl) (s:=(s.drop a).take (Zh (xe js) (s.drop a))) (R:=λr=>r=Wa ((s.drop a).take (Zh (xe js) (s.drop a)))) rfl).px hM (ab.keep Z) (jc (a:=Arg.mk .str _) (rdStr _) xb)).go λv g3 M' r L hv hr=>?_
  subst hr
  rw[qb6 hv]
  generalize hq:(s.drop a).take (Zh (xe js) (s.drop a))=w at eV
  have k5:Keep h2.size h2 g3:=Z.trans L.keep Z.size
  refine⟨_,rfl,λaa=>⟨(a:Int),(B0.ofKeep k5).cell rfl,by kernel_rfl,?_⟩,λaa=>⟨(a:Int),(B0.ofKeep k5).cell rfl,by kernel_rfl,?_⟩⟩
  ·refine zyt (B0.ofKeep k5) λg4 ae=>⟨_,_,_,_,rfl,done _ _ _ _ g4 (k5.trans ae k5.size) ?_⟩
   have hn:¬Wa w=0:=by simpa using aa
   rw[if_neg hn]at eV
   rw[zcn eV,ah _ (by omega)]
  ·refine zyu hM (ab.keep k5) λg4 ae=>⟨_,_,_,_,rfl,done _ _ _ _ g4 (k5.trans ae k5.size) ?_⟩
   have hn:Wa w=0:=by simpa using aa
   rw[if_pos hn]at eV
   rw[zfe eV (by decide)]
end
end Go.X
end
section
namespace Go.X
open Go Go.Code
section
variable {ro:Option Nat} {n:Nat} {P:Program} {f:FuncId} {args:Array Value} {w:World} {o:Oper} {a:Act} {e:Env} {h:za}
abbrev rf(ro:Option Nat):Fence:={ Fence.wide with round:=ro }
def zco(K:Act->World->Prop):Exit->Act->World->Prop
 |.normal,a,w=>K a w
 |_,_,_=>False
theorem Ql{K:Act->World->Prop}:¬LetsOut (zco K):=λ⟨_,_,h⟩=>h
theorem z14{R:Ending->World->Prop}(h:Calls P f args w R):CallsIn (rf ro) n P f args w R:=by
 have h1:CallsIn Fence.wide n P f args w R:=callsIn_wide.2 h
 exact h1
theorem z7u{row:String}{R:Value->World->Prop}(h:Rows P row args w R):RowsIn (rf ro) n P row args w R:=by
 have h1:RowsIn Fence.wide n P row args w R:=λc cs _=>let ⟨v,w',r,s⟩:=h c cs;⟨v,w',r,stepsIn_wide.2 s⟩
 exact h1
def yb(o:Oper):Bool:=match o.op with
 |.defer _=>false
 |_=>true
theorem zqv(h:yb o=true):∀c,o.op≠.defer c:=by
 intro c e
 unfold yb at h
 rw[e]at h;cases h
theorem qa5(hd:yb o=true){K:Act->World->Prop}{Q:Exit->Act->World->Prop}(h:o.wp P a w K Q):o.wpIn (rf ro) n P a w K Q:=by
 refine⟨λ_ _=>trivial,?_⟩
 rw[Oper.semAt_eq _ _ _ (zqv hd)]
 unfold Oper.wp at h
 generalize (execOp a.eval o).run P w=r at *
 cases r with
 |ok x w'=>
  cases x with
  |enter f args=>exact⟨λhx=>(by cases hx),z14 h⟩
  |row row args=>exact⟨λhx=>(by cases hx),z7u h⟩
  |value v=>exact h
  |skip=>exact h
  |defer d=>exact h
  |_=>exact h.elim
 |halt x w'=>cases x <;> first|exact h|exact h.elim
theorem zdw{ro:Option Nat}{n:Nat}{P:Program}{ops:Array Oper}{K:Act->World->Prop}{Q:Exit->Act->World->Prop}: ∀(l l2:List Oper) (a:Act) (w:World),l.all yb=true->wpList P ops (zco K) l a w->(∀a w,K a w->wpListIn (rf ro) n P ops Q l2 a w)->wpListIn (rf ro) n P ops Q (l++l2) a w
 |[],l2,a,w,_,h,hK=>hK a w h
 |o::l,l2,a,w,hd,h,hK=>by
  rw[C6,AY]at hd
  rw[AO]
  unfold wpListIn
  unfold wpList at h
  by_cases hw:Bo o (yielded ops a.tmps)=true
  ·rw[if_pos hw]at h ⊢
   rcases h with h|⟨_,h⟩
   ·have h1:=qa5 (ro:=ro) (n:=n) hd.1 h
    have h2:=Oper.wpIn_mono (λa w hq=>zdw l l2 a w hd.2 hq hK) h1
    refine⟨h2.1,?_⟩
    have h3:=h2.2
    revert h3
    generalize (o.semAt (rf ro).round a.eval).run P w=r
    cases r with
    |ok x w'=>
     cases x with
     |enter f args=>exact λh3=>⟨h3.1,CallsIn.mono h3.2 λe Z he=>by cases e <;> first|exact he|exact he.elim|exact(Ql he).elim⟩
     |round l f tmps assign body=>exact λh3=>⟨h3.1,RoundIn.mono h3.2 λe Z he=>by cases e <;> first|exact he|exact he.elim|exact(Ql he).elim⟩
     |_=>exact λh3=>h3
    |halt x w'=>cases x <;> first|exact λh3=>h3|exact λh3=>h3.elim
   ·exact(Ql h).elim
  ·rw[if_neg hw]at h ⊢
   exact⟨λ_ _=>trivial,zdw l l2 _ _ hd.2 h hK⟩
theorem zof{ro:Option Nat}{n:Nat}{P:Program}{md:Region.Mode}{ops:Array Oper}{K:Act->World->Prop}(hd:∀(i:Nat) (o:Oper),ops[i]?=some o->yb o=true):∀(fuel:Nat) (listed:Array Bool) (a:Act) (w:World),wpAny P md ops (zco K) fuel listed a w->wpAnyIn (rf ro) n P md ops (zco K) fuel listed a w
 |0,_,_,_,h=>h
 |fuel+1,listed,a,w,h=>by
  refine⟨h.1,λi hi=>?_⟩
  have h2:=h.2 i hi
  unfold wpOp at h2
  unfold wpOpIn
  split at h2
  ·rename_i ho
   rw[ho];exact zof hd fuel _ _ _ h2
  ·rename_i o ho
   rw[ho]
   simp only
   by_cases hw:Bo o (yielded ops a.tmps)=true
   ·rw[if_pos hw]at h2 ⊢
    rcases h2 with h2|⟨_,h2⟩
    ·exact Oper.wpIn_mono (λa w hq=>zof hd fuel _ a w hq) (qa5 (hd i o ho) h2)
    ·exact(Ql h2).elim
   ·rw[if_neg hw]at h2 ⊢
    exact⟨λ_ _=>trivial,zof hd fuel _ _ _ h2⟩
def Q4(D:List Deferred)(a:Act):Act:={ a with defers:=a.defers++D }
theorem z3u{D:List Deferred}{K:Act->World->Prop}{R:Act->World->Prop}(h:o.wp P a w K (zco R)):o.wp P (Q4 D a) w (λa1 w1=>∃a0,a1=Q4 D a0/\K a0 w1) (zco λa1 w1=>∃a0,a1=Q4 D a0/\R a0 w1):=by
 unfold Oper.wp at h ⊢
 have he:(Q4 D a).eval=a.eval:=rfl
 rw[he]
 have hp:∀d v,(Q4 D a).put d v=Q4 D (a.put d v):=λd v=>by cases d <;> rfl
 generalize (execOp a.eval o).run P w=r at *
 cases r with
 |ok x w'=>
  cases x with
  |enter f args=>exact Calls.mono h λe Z he=>by cases e with
    |returned v=>exact⟨_,hp _ _,he⟩
    |panicked ch=>exact he
    |outgrown=>exact(Ql he).elim
  |row row args=>exact Rows.mono h λv Z he=>⟨_,hp _ _,he⟩
  |value v=>exact⟨_,hp _ _,h⟩
  |skip=>exact⟨_,hp _ _,h⟩
  |defer d=>exact⟨(Act.put { a with defers:=d::a.defers } o.dst undef),(by cases o.dst <;> rfl),(show K (Act.put { a with defers:=d::a.defers } o.dst undef) w' from h)⟩
  |_=>exact h.elim
 |halt x w'=>cases x <;> first|exact h|exact h.elim
theorem zg8{P:Program}{md:Region.Mode}{ops:Array Oper}{D:List Deferred}{K:Act->World->Prop}:∀(fuel:Nat) (listed:Array Bool) (a:Act) (w:World),wpAny P md ops (zco K) fuel listed a w->wpAny P md ops (zco λa1 w1=>∃a0,a1=Q4 D a0/\K a0 w1) fuel listed (Q4 D a) w
 |0,_,a,_,h=>⟨h.1,a,rfl,h.2⟩
 |fuel+1,listed,a,w,h=>by
  refine⟨λhn=>⟨a,rfl,h.1 hn⟩,λi hi=>?_⟩
  have h2:=h.2 i hi
  unfold wpOp at h2 ⊢
  have hy:yielded ops (Q4 D a).tmps=yielded ops a.tmps:=rfl
  split at h2
  ·exact zg8 fuel _ _ _ h2
  ·rename_i o ho
   rw[hy]
   by_cases hw:Bo o (yielded ops a.tmps)=true
   ·rw[if_pos hw]at h2 ⊢
    rcases h2 with h2|⟨_,h2⟩
    ·exact .inl (Oper.wp_mono (λa1 w1 ⟨a0,e,hq⟩=>by rw[e];exact zg8 fuel _ a0 w1 hq) (z3u h2))
    ·exact(Ql h2).elim
   ·rw[if_neg hw]at h2 ⊢
    have hp:(Q4 D a).put o.dst undef=Q4 D (a.put o.dst undef):=by cases o.dst <;> rfl
    rw[hp]
    exact zg8 fuel _ _ _ h2
def YX(P:Program)(l:Nat)(args:Array Value)(h:za)(K:Value->za->Prop):Prop:=
 ∀(m:Nat) (B:World) (d:Nat),∃fn tmps assign body,(Instr.yield l args).run P (mk B d h)=.ok (.round l fn tmps assign body) (mk B d h) /\
  RoundIn (rf none) m P l fn tmps assign body (mk B d h) λe w'=>∃v d' h',e=.returned v/\w'=mk B d' h'/\K v h'
def qd2(o:Oper):Bool:=match o.op with
 |.call c=>match c.callee with
  |.value x=>!(Y5 x)
  |_=>false
 |_=>false
def zog:List Oper->Option (List Oper×Oper×List Oper)
 |[]=>none
 |o::l=>bif qd2 o then some ([],o,l)else match zog l with
  |some (pre,o',post)=>some (o::pre,o',post)
  |none=>none
theorem zyx{l:List Oper}:∀{pre post:List Oper} {o:Oper},zog l=some (pre,o,post)->l=pre++o::post:=by
 induction l with
 |nil=>intro pre post o h;cases h
 |cons x l ih=>
  intro pre post o h
  rw[zog]at h
  cases hd:qd2 x with
  |true=>
   rw[hd,cond_true]at h
   have h:=Aq h
   have h1:=congrArg Prod.fst h
   have h2:=congrArg (λq=>q.2.1) h
   have h3:=congrArg (λq=>q.2.2) h
   simp only at h1 h2 h3
   rw[<-h1,<-h2,<-h3];rfl
  |false=>
   rw[hd,cond_false]at h
   cases hs:zog l with
   |none=>rw[hs]at h;cases h
   |some q=>
    obtain⟨aa,o',Z⟩:=q
    rw[hs]at h
    have h:=Aq h
    have h1:=congrArg Prod.fst h
    have h2:=congrArg (λq=>q.2.1) h
    have h3:=congrArg (λq=>q.2.2) h
    simp only at h1 h2 h3
    rw[ih hs,<-h1,<-h2,<-h3];rfl
def zsu(P:Program)(o:Oper)(e:Env)(h:za)(K:Value->za->Prop):Prop:=match o.op with
 |.call c=>match c.callee with
  |.value x=>match Y4 e [] x with
   |some (.func (.yield l) A C)=>bif (bif (Nat.beq A.size 0)then(Nat.beq C.size 0)else false)then(bif known e [] c.args.toList then YX P l (c.args.map (rho e [])) h λv h'=>typed P o.type v λv'=>K v' h' else False)else False
   |_=>False
  |_=>False
 |_=>False
theorem zoh{n m:Nat}{K:Value->za->Prop}(H:zsu P o e h K)(hs:Sat n e a)(B:World)(d:Nat){next:Act->World->Prop}{Q:Exit->Act->World->Prop}
  (hn:∀v d' h',K v h'->next (a.put o.dst v) (mk B d' h')):o.wpIn (rf none) m P a (mk B d h) next Q:=by
 unfold zsu at H
 split at H
 ·rename_i c ho
  split at H
  ·rename_i x hx
   split at H
   ·rename_i l A C hl
    obtain⟨hA,hC,H⟩:A=#[]/\C=#[]/\(bif known e [] c.args.toList then YX P l (c.args.map (rho e [])) h λv h'=>typed P o.type v λv'=>K v' h' else False):=by
     cases h1:Nat.beq A.size 0 with
     |false=>rw[h1]at H;exact Dr H
     |true=>
      cases h2:Nat.beq C.size 0 with
      |false=>rw[h1,h2]at H;exact Dr H
      |true=>rw[h1,h2]at H;exact⟨Array.eq_empty_of_size_eq_zero (Ag h1),Array.eq_empty_of_size_eq_zero (Ag h2),H⟩
    subst hA;subst hC
    cases hk:known e [] c.args.toList with
    |false=>rw[hk]at H;exact Dr H
    |true=>
     rw[hk]at H
     simp only[cond_true]at H
     obtain⟨fn,tmps,assign,body,h1,h2⟩:=H (m-1) B d
     have hv:a.eval x=.func (.yield l) #[] #[]:=qy hs (c:=[]) trivial hl
     have Z:c.args.map a.eval=c.args.map (rho e []):=by
      apply Array.map_congr_left
      intro y hy
      exact j7 hs (c:=[]) trivial hk y (by simpa using hy)
     have hr:(o.semAt (rf none).round a.eval).run P (mk B d h)=.ok (.round l fn tmps assign body) (mk B d h):=by
      show(execOp a.eval o).run P (mk B d h)=_
      simp only[execOp,ho,resolve,hx,hv,Df,Sem.run_bind,Sem.run_pure,Result.andThen_ok,invoke]
      rw[Z]
      simpa using h1
     refine⟨λ_ _=>trivial,?_⟩
     rw[hr]
     refine⟨λhx=>(by cases hx),h2.mono ?_⟩
     rintro e' w' ⟨v,d',h',rfl,rfl,h3⟩
     exact hn _ _ _ (wu h3)
   ·exact Dr H
  ·exact Dr H
 ·exact Dr H
def zqw(P:Program)(n:Nat)(tl:List (Nat×Nat))(id:Nat)(ops:Array Oper)(Z:Bool)(K:Env->za->Prop)(e:Env)(h:za):Prop:=
 match zog ops.toList with
 |none=>regionF P n tl id ops Z K e h
 |some (pre,o,post)=>bif Z then False else bif (pre.all yb&&post.all yb)then(match o.guard with
  |none=>bif qi n [] o.dst then wR P n ops (λe1 h1=>zsu P o e1 h1 λv h2=>wR P n ops K post (putO e1 o.dst [] v) h2) pre e h else False
  |some _=>False)else False
theorem zlv(hm:P.follows .mixedOrders=true){tl:List (Nat×Nat)}{id:Nat}{ops:Array Oper}{Z:Bool}{K:Env->za->Prop}
  (H:zqw P n tl id ops Z K e h) (m:Nat) (B:World) (d:Nat) (hs:Sat n e a) {Q:Exit->Act->World->Prop}
  (hQ:∀e' a' d' h',Sat n e' a'->Same (yn ops.toList) a a'->K e' h'->Q .normal a' (mk B d' h')):(CW id ops Z).wpIn (rf none) m P Q a (mk B d h):=by
 unfold zqw at H
 split at H
 ·exact wpIn_wide.2 (zbs hm H B d hs hQ)
 ·rename_i pre o post af
  have hl:=zyx af
  cases Z with
  |true=>exact Dr H
  |false=>
   simp only[cond_false]at H
   cases hnd:(pre.all yb&&post.all yb)with
   |false=>rw[hnd]at H;exact Dr H
   |true=>
    rw[hnd]at H
    simp only[cond_true]at H
    rw[AY]at hnd
    split at H
    ·rename_i hg
     cases hd:qi n [] o.dst with
     |false=>rw[hd]at H;exact Dr H
     |true=>
      rw[hd]at H
      simp only[cond_true]at H
      refine wpIn_region_list ?_
      have ae:∀x∈yn pre,x∈yn ops.toList:=λx hx=>by rw[hl,xq];exact Am _ hx
      have aa:∀i,o.dst=some i->i∈yn ops.toList:=λi hi=>by rw[hl,xq];exact Au _ (by simp[yn,hi])
      have ah:∀x∈yn post,x∈yn ops.toList:=λx hx=>by
       rw[hl,xq]
       refine Au _ ?_
       unfold yn
       split
       ·exact Ae _ hx
       ·exact hx
      rw[hl]
      refine zdw (K:=λa1 w1=>∃e1 d1 h1,w1=mk B d1 h1/\Sat n e1 a1/\Same (yn ops.toList) a a1/\zsu P o e1 h1 λv h2=>wR P n ops K post (putO e1 o.dst [] v) h2) pre (o::post) a _ hnd.1 (Qu B pre e h a d H hs λe' a' d' h' q1 q2 q3=>⟨e',d',h',rfl,q1,q2.mono ae,q3⟩) ?_
      rintro a1 w1 ⟨e1,d1,h1,rfl,s1,m1,q1⟩
      unfold wpListIn
      have ab:Bo o (yielded ops a1.tmps)=true:=by simp[Bo,hg]
      rw[if_pos ab]
      refine zoh q1 s1 B d1 λv d2 h2 q2=>?_
      have s2:Sat n (putO e1 o.dst [] v) (a1.put o.dst v):=s1.putO hd (λ_=>rfl) (λhv=>absurd trivial hv)
      rw[<-AW post]
      refine zdw (K:=λa' w'=>Q .normal a' w') post [] _ _ hnd.2 (Qu B post _ _ _ _ q2 s2 λe' a' d' h' r1 r2 r3=>?_) λa w h=>h
      exact hQ e' a' d' h' r1 ((m1.trans (Same.put a1 o.dst v aa)).trans (r2.mono ah)) r3
    ·exact Dr H
def WI(P:Program)(n:Nat)(pl:Plan):Code->zah->Env->za->Prop
 |.skip,Q,e,h=>Q .normal e h
 |.ret,Q,e,h=>Q .ret e h
 |.exit id,Q,e,h=>Q (.exit id) e h
 |.label _,Q,e,h=>Q .normal e h
 |.goto l,Q,e,h=>Q (.goto l) e h
 |.region id ops draw,Q,e,h=>zqw P n pl.tails id ops draw (λe h=>Q .normal e h) e h
 |.seq x y,Q,e,h=>match z0c pl.joins (jh y)with
  |none=>WI P n pl x (zpd (λe h=>WI P n pl y Q e h) Q) e h
  |some J=>z9f J (λe h=>WI P n pl y Q e h) (λK=>WI P n pl x (zpd K Q) e h) (Wp (Zq x) e)
 |.cond c x y,Q,e,h=>match Y4 e [] c with
  |some (.bool b)=>(b=true->WI P n pl x Q e h)/\(b=false->WI P n pl y Q e h)
  |_=>False
 |.block id x,Q,e,h=>WI P n pl x (zfz id Q) e h
 |.loop x,Q,e,h=>match z0c pl.loops (jh x)with
  |some J=>z9g J (λQn e h=>WI P n pl x (zpd Qn Q) e h) (Wp (Zq x) e) e h
  |none=>False
 |_,_,_,_=>False
theorem z15(hm:P.follows .mixedOrders=true){pl:Plan}:∀(c:Code) (Q:zah) (e:Env) (h:za),WI P n pl c Q e h ->
  ∀(m:Nat) (B:World) (d:Nat) (a:Act),Sat n e a->c.wpIn (rf none) m P (z9h n B (Zq c) a Q) a (mk B d h):=by
 intro c
 induction c with
 |skip=>exact λQ e h H m B d a hs=>wpIn_skip ⟨e,d,h,rfl,hs,Same.refl _ _,H⟩
 |ret=>exact λQ e h H m B d a hs=>wpIn_ret ⟨e,d,h,rfl,hs,Same.refl _ _,H⟩
 |exit id=>exact λQ e h H m B d a hs=>wpIn_exit ⟨e,d,h,rfl,hs,Same.refl _ _,H⟩
 |label l=>exact λQ e h H m B d a hs=>wpIn_label ⟨e,d,h,rfl,hs,Same.refl _ _,H⟩
 |goto l=>exact λQ e h H m B d a hs=>wpIn_goto ⟨e,d,h,rfl,hs,Same.refl _ _,H⟩
 |region id ops aB=>
  exact λQ e h H m B d a hs=>zlv hm H m B d hs λe' a' d' h' q1 q2 q3=>⟨e',d',h',rfl,q1,q2,q3⟩
 |seq x y aa ab=>
  intro Q e h H m B d a hs
  simp only[WI]at H
  have hl:∀i∈Zq x,i∈Zq (x.seq y):=λi hi=>Am _ hi
  have hr:∀i∈Zq y,i∈Zq (x.seq y):=λi hi=>Au _ hi
  split at H
  ·refine wpIn_seq (wpIn_mono (aa _ _ _ H m B d a hs) ?_)
   rintro ex a1 w1 ⟨e1,d1,h1,rfl,s1,m1,q1⟩
   cases ex with
   |normal=>
    refine wpIn_mono (ab _ _ _ q1 m B d1 a1 s1) ?_
    rintro ex a2 w2 ⟨e2,d2,h2,rfl,s2,m2,q2⟩
    exact⟨e2,d2,h2,rfl,s2,(m1.mono hl).trans (m2.mono hr),q2⟩
   |_=>exact⟨e1,d1,h1,rfl,s1,m1.mono hl,q1⟩
  ·rename_i J hJ
   have H':=H (mkC (jr J) λvs=>λh=>WI P n pl y Q (Qx J vs++Wp (Zq x) e) h) (zkd λvs h hq=>hq)
   refine wpIn_seq (wpIn_mono (aa _ _ _ H' m B d a hs) ?_)
   rintro ex a1 w1 ⟨e1,d1,h1,rfl,s1,m1,q1⟩
   cases ex with
   |normal=>
    obtain⟨vs,q,hv,hq,hk⟩:=zc2 q1
    have ar:=zkc hq
    subst ar
    have aA:Sat n (Qx J vs++Wp (Zq x) e) a1:=zbt hs s1.defers s1.size m1 (jf s1 hv)
    refine wpIn_mono (ab _ _ _ hk m B d1 a1 aA) ?_
    rintro ex a2 w2 ⟨e2,d2,h2,rfl,s2,m2,q2⟩
    exact⟨e2,d2,h2,rfl,s2,(m1.mono hl).trans (m2.mono hr),q2⟩
   |_=>exact⟨e1,d1,h1,rfl,s1,m1.mono hl,q1⟩
 |cond c x y aa ab=>
  intro Q e h H m B d a hs
  simp only[WI]at H
  have hl:∀i∈Zq x,i∈Zq (Ee c x y):=λi hi=>Am _ hi
  have hr:∀i∈Zq y,i∈Zq (Ee c x y):=λi hi=>Au _ hi
  split at H
  ·rename_i b hb
   refine wpIn_cond_split (qy hs (c:=[]) trivial hb) (λaz=>?_) (λax=>?_)
   ·refine wpIn_mono (aa _ _ _ (H.1 az) m B d a hs) ?_
    rintro ex a2 w2 ⟨e2,d2,h2,rfl,s2,m2,q2⟩
    exact⟨e2,d2,h2,rfl,s2,m2.mono hl,q2⟩
   ·refine wpIn_mono (ab _ _ _ (H.2 ax) m B d a hs) ?_
    rintro ex a2 w2 ⟨e2,d2,h2,rfl,s2,m2,q2⟩
    exact⟨e2,d2,h2,rfl,s2,m2.mono hr,q2⟩
  ·exact H.elim
 |block id x ih=>
  intro Q e h H m B d a hs
  refine wpIn_block (wpIn_mono (ih _ _ _ H m B d a hs) ?_)
  rintro ex a1 w1 ⟨e1,d1,h1,rfl,s1,m1,q1⟩
  cases ex with
  |exit i=>
   simp only[zfz]at q1
   simp only[Exit.inBlock]
   by_cases hb:Nat.beq i id=true
   ·rw[if_pos (Ag hb)]
    simp only[hb,cond_true]at q1
    exact⟨e1,d1,h1,rfl,s1,m1,q1⟩
   ·rw[if_neg (λhe=>hb (by rw[he];simp))]
    simp only[hb,cond_false]at q1
    exact⟨e1,d1,h1,rfl,s1,m1,q1⟩
  |_=>exact⟨e1,d1,h1,rfl,s1,m1,q1⟩
 |loop x ih=>
  intro Q e h H m B d a hs
  simp only[WI]at H
  split at H
  ·rename_i J hJ
   obtain⟨I,μ,h0,ae⟩:=H
   obtain⟨ai,p0,ay,ah,au⟩:=zc2 h0
   let F:=zte (jr J) I μ
   let at_:Act->Option ((za->Prop)×(za->Nat)):=λa1=>(Xu (λi=>some (zl a1 i)) J).bind λvs=>zmg (jr J) vs F
   refine wpIn_loop (λa1 w1=>∃d1 h1 vs p,w1=mk B d1 h1/\a1.defers=[]/\a1.tmps.size=n/\Same (Zq x) a a1/\Xu (λi=>some (zl a1 i)) J=some vs/\zmg (jr J) vs F=some p/\p.1 h1)
    (λa1 w1=>match at_ a1 with|some p=>p.2 w1.heap|none=>0) ⟨d,h,ai,p0,rfl,hs.defers,hs.size,Same.refl _ _,jf hs ay,ah,au⟩ ?_
   rintro a1 w1 ⟨d1,h1,vs,p,rfl,ak,am,Z,hv,hp,hI⟩
   have s1:Sat n (Qx J vs++Wp (Zq x) e) a1:=zbt hs ak am Z hv
   have hb:=zfy hp ae h1 hI
   refine wpIn_mono (ih _ _ _ hb m B d1 a1 s1) ?_
   rintro ex a2 w2 ⟨e2,d2,h2,rfl,s2,m2,q2⟩
   cases ex with
   |normal=>
    obtain⟨aj,q,af,hq,an,ap⟩:=zc2 q2
    refine⟨⟨d2,h2,aj,q,rfl,s2.defers,s2.size,Z.trans m2,jf s2 af,hq,an⟩,?_⟩
    have e1:at_ a1=some p:=by simp only[at_,hv,CK];exact hp
    have e2:at_ a2=some q:=by simp only[at_,jf s2 af,CK];exact hq
    rw[e1,e2]
    exact ap
   |_=>exact⟨e2,d2,h2,rfl,s2,Z.trans m2,q2⟩
  ·exact H.elim
 |_=>exact λQ e h H=>H.elim
def XCI(P:Program)(f:FuncId)(args:Array Value)(h:za)(R:Value->za->Prop):Prop:=
 ∀(m:Nat) (B:World) (d:Nat),CallsIn (rf none) m P f args (mk B d h) λe w'=>∃v d' h',e=.returned v/\w'=mk B d' h'/\R v h'
theorem zg9(hm:P.follows .mixedOrders=true)(pl:Plan)(vs:List Value){fn:Func}{rs:List ResultVar}(hf:P.funcs[f]?=some fn)(hb:Z9 fn=true)(hr:fn.results.toList=rs)(hn:fn.ntmps=n)
  (hz:Nat.ble vs.length n=true) {R:Value->za->Prop} (H:WI P n pl (codeOf fn) (qbx P rs R) (ztf 0 vs) h):XCI P f vs.toArray h R:=by
 have aa:fn.body=some (codeOf fn):=by
  unfold Z9 at hb
  unfold codeOf
  split at hb
  ·rename_i c hc;rw[hc]
  ·cases hb
 intro m B d
 subst hn
 refine callsIn_of_wp hf aa trivial ?_ rfl
 have ab:vs.length<=fn.ntmps:=BG hz
 have hs:Sat fn.ntmps (ztf 0 vs) { tmps:=vs.toArray++Ba (fn.ntmps-vs.toArray.size) undef,defers:=[] }:=by
  refine⟨rfl,by simp;omega,?_⟩
  refine Yh vs.toArray _ vs 0 λj v hj=>?_
  have Z:j<vs.length:=by
   rcases AR j vs.length with h|h
   ·exact h
   ·rw[BH h]at hj;cases hj
  simp only[Ay,A7]
  rw[Ck (by simpa using Z)]
  simp[hj]
 refine wpIn_mono (z15 hm (codeOf fn) _ _ _ H m B d _ hs) ?_
 rintro ex a w ⟨e1,d1,h1,rfl,s1,m1,q1⟩
 cases ex with
 |normal=>
  obtain⟨v,hv,hq⟩:=xr s1 hr q1
  exact⟨s1.defers,v,hq B d1,v,d1,h1,rfl,rfl,hv⟩
 |ret=>
  obtain⟨v,hv,hq⟩:=xr s1 hr q1
  exact⟨s1.defers,v,hq B d1,v,d1,h1,rfl,rfl,hv⟩
 |_=>exact q1.elim
end
end Go.X
end
section
namespace Go.X
section
variable {P:Program} {n m id:Nat} {ro:Option Nat} {e:Env} {h:za} {a:Act}
theorem zlw{P:Program}{ops:Array Oper}{D:List Deferred}{K:Act->World->Prop}:∀(l:List Oper) (a:Act) (w:World),wpList P ops (zco K) l a w->wpList P ops (zco λa1 w1=>∃a0,a1=Q4 D a0/\K a0 w1) l (Q4 D a) w
 |[],a,w,h=>⟨a,rfl,h⟩
 |o::l,a,w,h=>by
  unfold wpList at h ⊢
  have hy:yielded ops (Q4 D a).tmps=yielded ops a.tmps:=rfl
  rw[hy]
  by_cases hw:Bo o (yielded ops a.tmps)=true
  ·rw[if_pos hw]at h ⊢
   rcases h with h|⟨_,h⟩
   ·exact .inl (Oper.wp_mono (λa1 w1 ⟨a0,e,hq⟩=>by rw[e];exact zlw l a0 w1 hq) (z3u h))
   ·exact(Ql h).elim
  ·rw[if_neg hw]at h ⊢
   have hp:(Q4 D a).put o.dst undef=Q4 D (a.put o.dst undef):=by cases o.dst <;> rfl
   rw[hp]
   exact zlw l _ w h
def qca(P:Program)(n:Nat)(ops:Array Oper)(Z:Bool)(K:Env->za->Prop)(e:Env)(h:za):Prop:=
 bif ops.toList.all yb then(bif Z then(bif zhj ops then wI P n h true ops (λe'=>wB7 P n ops h K true (hvL ops).length [] (hvL ops) e' h) (Qw [] (Q6 ops [] ops.size) ops.size) e else False)else wR P n ops K ops.toList e h)else False
theorem zjt(hm:P.follows .mixedOrders=true){D:List Deferred}{ops:Array Oper}{Z:Bool}{K:Env->za->Prop}(H:qca P n ops Z K e h)(B:World)(d:Nat)(hs:Sat n e a){Q:Exit->Act->World->Prop}
  (hQ:∀e' a' d' h',Sat n e' a'->K e' h'->Q .normal (Q4 D a') (mk B d' h')):(CW id ops Z).wpIn (rf ro) m P Q (Q4 D a) (mk B d h):=by
 unfold qca at H
 cases hd:ops.toList.all yb with
 |false=>rw[hd]at H;exact H.elim
 |true=>
  rw[hd,cond_true]at H
  have aa:∀a1 w1,(∃a0,a1=Q4 D a0/\∃e' d' h',w1=mk B d' h'/\Sat n e' a0/\K e' h')->Q .normal a1 w1:=by
   rintro a1 w1 ⟨a0,rfl,e',d',h',rfl,q1,q2⟩;exact hQ e' a0 d' h' q1 q2
  cases Z with
  |false=>
   refine wpIn_region_list ?_
   rw[<-AW ops.toList]
   exact zdw _ [] _ _ hd (zlw (K:=λa0 w1=>∃e' d' h',w1=mk B d' h'/\Sat n e' a0/\K e' h') _ _ _ (Qu B _ _ _ _ _ H hs λe' a' d' h' q1 q2 q3=>⟨e',d',h',rfl,q1,q3⟩)) aa
  |true=>
   rw[cond_true]at H
   cases hB:zhj ops with
   |false=>rw[hB]at H;exact H.elim
   |true=>
    rw[hB]at H
    have h0:wpAny P .any ops (zco λa0 w1=>∃e' d' h',w1=mk B d' h'/\Sat n e' a0/\K e' h') ops.size (Ba ops.size false) a (mk B (d+1) h):=
     zc0 B hB H hs (λe' a' d' h' q1 q2 q3=>⟨e',d',h',rfl,q1,q3⟩) (d+1)
    refine wpIn_mono (wpIn_region_any (Q:=zco λa1 w1=>∃a0,a1=Q4 D a0/\∃e' d' h',w1=mk B d' h'/\Sat n e' a0/\K e' h') hm (zof (λi o ho=>?_) _ _ _ _ (zg8 _ _ _ _ h0))) λx a' w' hx=>?_
    ·rw[AX]at hd
     obtain⟨ab,e⟩:=Ac.1 ho
     exact hd o (by rw[<-e];simp)
    ·cases x with
     |normal=>exact aa _ _ hx
     |_=>exact hx.elim
def WG(P:Program)(n:Nat):Code->zah->Env->za->Prop
 |.skip,Q,e,h=>Q .normal e h
 |.ret,Q,e,h=>Q .ret e h
 |.exit id,Q,e,h=>Q (.exit id) e h
 |.region _ ops draw,Q,e,h=>qca P n ops draw (λe h=>Q .normal e h) e h
 |.seq x y,Q,e,h=>WG P n x (zpd (λe h=>WG P n y Q e h) Q) e h
 |.cond c x y,Q,e,h=>match Y4 e [] c with
  |some (.bool b)=>(b=true->WG P n x Q e h)/\(b=false->WG P n y Q e h)
  |_=>False
 |.block id x,Q,e,h=>WG P n x (zfz id Q) e h
 |_,_,_,_=>False
def z7v(n:Nat)(B:World)(D:List Deferred)(Q:zah):Exit->Act->World->Prop:=
 λx a w=>∃e d h a0,a=Q4 D a0/\w=mk B d h/\Sat n e a0/\Q x e h
theorem qa6{B:World}{D:List Deferred}{Q:zah}:∀ex a w,z7v n B D (zfz id Q) ex a w->Exit.inBlock id (z7v n B D Q) ex a w:=by
 rintro ex a1 w1 ⟨e1,d1,h1,a0,rfl,rfl,s1,q1⟩
 cases ex with
 |exit i=>
  simp only[zfz]at q1
  simp only[Exit.inBlock]
  by_cases hb:Nat.beq i id=true
  ·rw[if_pos (Ag hb)]
   simp only[hb,cond_true]at q1
   exact⟨e1,d1,h1,a0,rfl,rfl,s1,q1⟩
  ·rw[if_neg (λhe=>hb (by rw[he];simp))]
   simp only[hb,cond_false]at q1
   exact⟨e1,d1,h1,a0,rfl,rfl,s1,q1⟩
 |_=>exact⟨e1,d1,h1,a0,rfl,rfl,s1,q1⟩
theorem zsv(hm:P.follows .mixedOrders=true){D:List Deferred}:∀(c:Code) (Q:zah) (e:Env) (h:za),WG P n c Q e h ->
  ∀(B:World) (d:Nat) (a:Act),Sat n e a->c.wpIn (rf ro) m P (z7v n B D Q) (Q4 D a) (mk B d h):=by
 intro c
 induction c with
 |skip=>exact λQ e h H B d a hs=>wpIn_skip ⟨e,d,h,a,rfl,rfl,hs,H⟩
 |ret=>exact λQ e h H B d a hs=>wpIn_ret ⟨e,d,h,a,rfl,rfl,hs,H⟩
 |exit id=>exact λQ e h H B d a hs=>wpIn_exit ⟨e,d,h,a,rfl,rfl,hs,H⟩
 |region id ops af=>exact λQ e h H B d a hs=>zjt hm H B d hs λe' a' d' h' q1 q2=>⟨e',d',h',a',rfl,rfl,q1,q2⟩
 |seq x y Z aa=>
  intro Q e h H B d a hs
  refine wpIn_seq (wpIn_mono (Z _ _ _ H B d a hs) ?_)
  rintro ex a1 w1 ⟨e1,d1,h1,a0,rfl,rfl,s1,q1⟩
  cases ex with
  |normal=>exact aa _ _ _ q1 B d1 a0 s1
  |_=>exact⟨e1,d1,h1,a0,rfl,rfl,s1,q1⟩
 |cond c x y Z aa=>
  intro Q e h H B d a hs
  simp only[WG]at H
  split at H
  ·rename_i b hb
   have hc:(Q4 D a).eval c=.bool b:=qy hs (c:=[]) trivial hb
   exact wpIn_cond_split hc (λae=>Z _ _ _ (H.1 ae) B d a hs) (λab=>aa _ _ _ (H.2 ab) B d a hs)
  ·exact H.elim
 |block id x ih=>
  intro Q e h H B d a hs
  exact wpIn_block (wpIn_mono (ih _ _ _ H B d a hs) qa6)
 |_=>exact λQ e h H=>H.elim
abbrev zu6:=LoopState->Option Code->Loop
def qek(rec:zu6)(l:Nat)(K:Value->za->Prop):zah
 |.normal,_,h=>h[l]?=some (.loop (rec .busy none))/\K (.bool true) (h.setIfInBounds l (.loop (rec .ready none)))
 |.ret,_,h=>h[l]?=some (.loop (rec .busy none))/\K (.bool false) (h.setIfInBounds l (.loop (rec .done (some .ret))))
 |_,_,_=>False
def zha(P:Program)(n:Nat)(Z bd:Code)(rec:zu6)(l:Nat)(K:Value->za->Prop)(e:Env)(h:za):Prop:=
 WG P n Z (λx e1 h1=>match x with
  |.normal=>h1[l]?=some (.loop (rec .ready none))/\WG P n bd (qek rec l K) e1 (h1.setIfInBounds l (.loop (rec .busy none)))
  |_=>False) e h
theorem zsw(a:Act):Q4 [] a=a:=by unfold Q4;rw[AW]
theorem qa7(hm:P.follows .mixedOrders=true){n l p1 p2:Nat}{ab bd:Code}{fn:FuncId}{D:Nat}(am:qi n [] (some p1)=true)(aj:qi n [] (some p2)=true)
  {rec:zu6} (Z:rec=λst pe=>{ state:=st,pending:=pe,fn:=fn,tmps:=a.tmps,params:=#[p1,p2],assign:=ab,body:=bd,defers:=D })
  {v1 v2:Value} (hs:Sat n e a) (hl:h[l]?=some (.loop (rec .ready none))) {K:Value->za->Prop}
  (H:zha P n ab bd rec l K (putO (putO e (some p1) [] v1) (some p2) [] v2) h):YX P l #[v1,v2] h K:=by
 intro m B d
 have ai:(mk B d h).heap[l]?=some (.loop (rec .ready none)):=hl
 have hy:=run_yield (P:=P) (w:=mk B d h) (args:=#[v1,v2]) ai (by rw[Z];rfl)
 refine⟨_,_,_,_,hy,?_⟩
 rw[Z]at hy ⊢
 have s2:Sat n (putO (putO e (some p1) [] v1) (some p2) [] v2) ((a.put (some p1) v1).put (some p2) v2):=(hs.putO am (λ_=>rfl) (λhv=>absurd trivial hv)).putO aj (λ_=>rfl) (λhv=>absurd trivial hv)
 have ha:((a.put (some p1) v1).put (some p2) v2)={ tmps:=(a.tmps.setIfInBounds p1 v1).setIfInBounds p2 v2,defers:=[] }:=by
  have:=hs.defers
  cases a;simp only at this;subst this;rfl
 have key:RoundIn (rf none) m P l fn ((a.tmps.setIfInBounds p1 v1).setIfInBounds p2 v2) ab bd (mk B d h) (λe w'=>∃v d' h',e=.returned v/\w'=mk B d' h'/\K v h'):=by
  refine roundIn_of_wpIn (F:=rf none) trivial ?_
  have hF:(rf none).inRound l=rf (some l):=rfl
  rw[hF,<-ha,<-zsw ((a.put (some p1) v1).put (some p2) v2)]
  refine wpIn_mono (zsv hm ab _ _ _ H B d _ s2) ?_
  rintro ex a1 w1 ⟨e1,d1,h1,a0,rfl,rfl,s1,q1⟩
  cases ex with
  |normal=>
   obtain⟨k3,k4⟩:=q1
   have ak:(mk B d1 h1).heap[l]?=some (.loop (rec .ready none)):=k3
   have hb:=run_beginRound (P:=P) ak (by rw[Z])
   refine⟨_,hb,?_⟩
   have af:({ rec .ready none with state:=.busy }:Loop)=rec .busy none:=by rw[Z]
   rw[af]
   refine wpIn_mono (zsv hm bd _ _ _ k4 B d1 a0 s1) ?_
   rintro ex a2 w2 ⟨e2,d2,h2,a3,rfl,rfl,s3,q2⟩
   cases ex with
   |normal=>
    obtain⟨k6,k7⟩:=q2
    have ah:(mk B d2 h2).heap[l]?=some (.loop (rec .busy none)):=k6
    have aa:=run_endRound (P:=P) none ah
    refine⟨_,_,aa,.bool true,d2,h2.setIfInBounds l (.loop (rec .ready none)),rfl,?_,k7⟩
    have ae:({ rec .busy none with state:=if(none:Option Code).isNone then .ready else .done,pending:=none }:Loop)=rec .ready none:=by rw[Z];rfl
    rw[ae];rfl
   |ret=>
    obtain⟨k6,k7⟩:=q2
    have ah:(mk B d2 h2).heap[l]?=some (.loop (rec .busy none)):=k6
    have aa:=run_endRound (P:=P) (some .ret) ah
    refine⟨_,_,aa,.bool false,d2,h2.setIfInBounds l (.loop (rec .done (some .ret))),rfl,?_,k7⟩
    have ae:({ rec .busy none with state:=if(some Code.ret:Option Code).isNone then .ready else .done,pending:=some .ret }:Loop)=rec .done (some .ret):=by rw[Z];rfl
    rw[ae];rfl
   |_=>exact q2.elim
  |_=>exact q1.elim
 show RoundIn (rf none) m P l fn (Array.foldl (λ(t:Array Value) (x:Tmp×Value)=>t.setIfInBounds x.1 x.2) a.tmps (#[p1,p2].zip #[v1,v2])) _ _ _ _
 have zs:Array.foldl (λ(t:Array Value) (x:Tmp×Value)=>t.setIfInBounds x.1 x.2) a.tmps (#[p1,p2].zip #[v1,v2])=(a.tmps.setIfInBounds p1 v1).setIfInBounds p2 v2:=by simp
 rw[zs]
 exact key
def rfA:Code->Code
 |.rangeFunc _ _ x _=>x
 |.seq x y=>match rfA x with
  |.skip=>rfA y
  |c=>c
 |.block _ x=>rfA x
 |_=>.skip
def rfB:Code->Code
 |.rangeFunc _ _ _ y=>y
 |.seq x y=>match rfB x with
  |.skip=>rfB y
  |c=>c
 |.block _ x=>rfB x
 |_=>.skip
def marks(ds:List Nat):List Deferred:=ds.map λb=>{ target:=.collected b,args:=#[] }
abbrev zlx:=Exit->List Nat->Env->za->Prop
def qdf(K:List Nat->Env->za->Prop)(Q:zlx):zlx
 |.normal,ds,e,h=>K ds e h
 |x,ds,e,h=>Q x ds e h
def z3v(id:Nat)(Q:zlx):zlx
 |.exit i,ds,e,h=>bif Nat.beq i id then Q .normal ds e h else Q (.exit i) ds e h
 |x,ds,e,h=>Q x ds e h
def zyy(rec:zu6)(l:Nat)(N R:za->Prop)(h:za):Prop:=
 (h[l]?=some (.loop (rec .ready none))/\N (h.setIfInBounds l (.loop (rec .exhausted none))))\/(h[l]?=some (.loop (rec .done (some .ret)))/\R (h.setIfInBounds l (.loop (rec .exhausted (some .ret)))))
def z3w(P:Program)(n:Nat)(p1 p2:Nat)(Z bd:Code)(v:Value)(Q:zlx)(ds:List Nat)(e:Env)(h:za):Prop:=
 bif qi n [] (some p1)&&qi n [] (some p2)then(∃g lb,v=.func (.func g) #[] lb/\zp P g=true/\∀rec:zu6,
  (∀{v1 v2:Value} {h2:za} {K:Value->za->Prop},h2[h.size+1]?=some (.loop (rec .ready none))->zha P n Z bd rec (h.size+1) K (putO (putO e (some p1) [] v1) (some p2) [] v2) h2->YX P (h.size+1) #[v1,v2] h2 K) ->
  XCI P g (#[.func (.yield (h.size+1)) #[] #[]]++lb) ((h.push (.deferred (some []))).push (.loop (rec .ready none))) λ_ h5=>zyy rec (h.size+1) (λh6=>Q .normal (h.size::ds) e h6) (λh6=>Q .ret (h.size::ds) e h6) h5)else False
def WD(P:Program)(n:Nat):Code->zlx->List Nat->Env->za->Prop
 |.skip,Q,ds,e,h=>Q .normal ds e h
 |.ret,Q,ds,e,h=>Q .ret ds e h
 |.exit id,Q,ds,e,h=>Q (.exit id) ds e h
 |.region _ ops draw,Q,ds,e,h=>qca P n ops draw (λe h=>Q .normal ds e h) e h
 |.seq x y,Q,ds,e,h=>WD P n x (qdf (λds e h=>WD P n y Q ds e h) Q) ds e h
 |.cond c x y,Q,ds,e,h=>match Y4 e [] c with
  |some (.bool b)=>(b=true->WD P n x Q ds e h)/\(b=false->WD P n y Q ds e h)
  |_=>False
 |.block id x,Q,ds,e,h=>WD P n x (z3v id Q) ds e h
 |.rangeFunc g ps asg bd,Q,ds,e,h=>match Y4 e [] g,ps.toList with
  |some v,[p1,p2]=>z3w P n p1 p2 asg bd v Q ds e h
  |_,_=>False
 |_,_,_,_,_=>False
def qdg(n:Nat)(B:World)(Q:zlx):Exit->Act->World->Prop:=
 λx a w=>∃ds e d h a0,a=Q4 (marks ds) a0/\w=mk B d h/\Sat n e a0/\Q x ds e h
theorem z16(hm:P.follows .mixedOrders=true)(ak:1<=m):∀(c:Code) (Q:zlx) (ds:List Nat) (e:Env) (h:za),WD P n c Q ds e h ->
  ∀(B:World) (d:Nat) (a:Act),Sat n e a->c.wpIn (rf none) m P (qdg n B Q) (Q4 (marks ds) a) (mk B d h):=by
 intro c
 induction c with
 |skip=>exact λQ ds e h H B d a hs=>wpIn_skip ⟨ds,e,d,h,a,rfl,rfl,hs,H⟩
 |ret=>exact λQ ds e h H B d a hs=>wpIn_ret ⟨ds,e,d,h,a,rfl,rfl,hs,H⟩
 |exit id=>exact λQ ds e h H B d a hs=>wpIn_exit ⟨ds,e,d,h,a,rfl,rfl,hs,H⟩
 |region id ops az=>exact λQ ds e h H B d a hs=>zjt hm H B d hs λe' a' d' h' q1 q2=>⟨ds,e',d',h',a',rfl,rfl,q1,q2⟩
 |seq x y ae af=>
  intro Q ds e h H B d a hs
  refine wpIn_seq (wpIn_mono (ae _ _ _ _ H B d a hs) ?_)
  rintro ex a1 w1 ⟨ab,e1,d1,h1,a0,rfl,rfl,s1,q1⟩
  cases ex with
  |normal=>exact af _ _ _ _ q1 B d1 a0 s1
  |_=>exact⟨ab,e1,d1,h1,a0,rfl,rfl,s1,q1⟩
 |cond c x y ae af=>
  intro Q ds e h H B d a hs
  simp only[WD]at H
  split at H
  ·rename_i b hb
   have hc:(Q4 (marks ds) a).eval c=.bool b:=qy hs (c:=[]) trivial hb
   exact wpIn_cond_split hc (λau=>ae _ _ _ _ (H.1 au) B d a hs) (λap=>af _ _ _ _ (H.2 ap) B d a hs)
  ·exact H.elim
 |block id x ih=>
  intro Q ds e h H B d a hs
  refine wpIn_block (wpIn_mono (ih _ _ _ _ H B d a hs) ?_)
  rintro ex a1 w1 ⟨ab,e1,d1,h1,a0,rfl,rfl,s1,q1⟩
  cases ex with
  |exit i=>
   simp only[z3v]at q1
   simp only[Exit.inBlock]
   by_cases hb:Nat.beq i id=true
   ·rw[if_pos (Ag hb)]
    simp only[hb,cond_true]at q1
    exact⟨ab,e1,d1,h1,a0,rfl,rfl,s1,q1⟩
   ·rw[if_neg (λhe=>hb (by rw[he];simp))]
    simp only[hb,cond_false]at q1
    exact⟨ab,e1,d1,h1,a0,rfl,rfl,s1,q1⟩
  |_=>exact⟨ab,e1,d1,h1,a0,rfl,rfl,s1,q1⟩
 |rangeFunc g ps ax bd aB aA=>
  intro Q ds e h H B d a hs
  simp only[WD]at H
  split at H
  ·rename_i v p1 p2 hv ar
   have ai:ps=#[p1,p2]:=by rw[<-Array.toList_inj];exact ar
   subst ai
   unfold z3w at H
   cases hok:(qi n [] (some p1)&&qi n [] (some p2))with
   |false=>rw[hok]at H;exact H.elim
   |true=>
    rw[hok]at H
    rw[AY]at hok
    obtain⟨gf,lb,rfl,hg,HR⟩:=H
    have hc:(Q4 (marks ds) a).eval g=.func (.func gf) #[] lb:=qy hs (c:=[]) trivial hv
    refine wpIn_rangeFunc λay _=>?_
    obtain⟨rec,Z⟩:∃rec:zu6,rec=λst pe=>{ state:=st,pending:=pe,fn:=ay,tmps:=a.tmps,params:=#[p1,p2],assign:=ax,body:=bd,defers:=h.size }:=⟨_,rfl⟩
    have an:=HR rec (λ {v1 v2 h2 K} hl am=>qa7 hm hok.1 hok.2 Z hs hl am)
    refine⟨h.size+1,[{ target:=.collected h.size,args:=#[] }],mk B d ((h.push (.deferred (some []))).push (.loop (rec .ready none))),{ target:=.fn (.func gf) lb,args:=#[.func (.yield (h.size+1)) #[] #[]] },mk B d ((h.push (.deferred (some []))).push (.loop (rec .ready none))),gf,
     #[.func (.yield (h.size+1)) #[] #[]]++lb,mk B d ((h.push (.deferred (some []))).push (.loop (rec .ready none))),?_,?_,λ_ _=>trivial,?_,λ_=>ak,?_⟩
    ·rw[Z];exact run_enterLoop_outer _ _ _ _ _
    ·simp only[resolve,hc]
     simp[go_sem,Df]
    ·simp only[invoke]
     exact Qt hg _ _
    ·have ha:({ Q4 (marks ds) a with defers:=[{ target:=.collected h.size,args:=#[] }]++(Q4 (marks ds) a).defers }:Act)=Q4 (marks (h.size::ds)) a:=by
      unfold Q4 marks;simp only[hs.defers];rfl
     rw[ha]
     refine CallsIn.mono (an (m-1) B d) ?_
     rintro e' w' ⟨v,d5,h5,rfl,rfl,aj⟩
     rcases aj with⟨ah,hN⟩|⟨ah,hR⟩
     ·have aa:(mk B d5 h5).heap[h.size+1]?=some (.loop (rec .ready none)):=ah
      have he:=run_endLoop (P:=P) aa (by rw[Z];intro hx;cases hx)
      have e1:({ rec .ready none with state:=.exhausted }:Loop)=rec .exhausted none:=by rw[Z]
      have e2:(rec .ready none).pending=none:=by rw[Z]
      rw[e1,e2]at he
      exact⟨none,_,he,_,e,d5,_,a,rfl,rfl,hs,hN⟩
     ·have aa:(mk B d5 h5).heap[h.size+1]?=some (.loop (rec .done (some .ret))):=ah
      have he:=run_endLoop (P:=P) aa (by rw[Z];intro hx;cases hx)
      have e1:({ rec .done (some .ret)with state:=.exhausted }:Loop)=rec .exhausted (some .ret):=by rw[Z]
      have e2:(rec .done (some .ret)).pending=some .ret:=by rw[Z]
      rw[e1,e2]at he
      exact⟨some .ret,_,he,wpIn_ret ⟨_,e,d5,_,a,rfl,rfl,hs,hR⟩⟩
  ·exact H.elim
 |_=>exact λQ ds e h H=>H.elim
def takeD:List Nat->(za->Prop)->za->Prop
 |[],K,h=>K h
 |b::ds,K,h=>h[b]?=some (.deferred (some []))/\takeD ds K (h.setIfInBounds b (.deferred none))
def qel(P:Program)(rs:List ResultVar)(R:Value->za->Prop):zlx
 |.normal,ds,e,h=>takeD ds (λh'=>ztg P h' e rs λvs=>R (zc3 vs) h') h
 |.ret,ds,e,h=>takeD ds (λh'=>ztg P h' e rs λvs=>R (zc3 vs) h') h
 |_,_,_,_=>False
theorem zbg{P:Program}{fn:Func}{n:Nat}{rs:List ResultVar}(hr:fn.results.toList=rs){e:Env}{a:Act}(hs:Sat n e a){B:World}{R:Value->za->Prop}{D:Nat}:∀(ds:List Nat) (d:Nat) (h:za),takeD ds (λh'=>ztg P h' e rs λvs=>R (zc3 vs) h') h ->
  LeavesInM Fence.wide D P fn a.tmps (λe w'=>∃v d' h',e=.returned v/\w'=mk B d' h'/\R v h') (marks ds) .returning (mk B d h)
 |[],d,h,H=>by
  obtain⟨v,hv,hq⟩:=xr hs hr H
  exact⟨v,hq B d,v,d,h,rfl,rfl,hv⟩
 |b::ds,d,h,⟨h1,H⟩=>by
  have Z:(mk B d h).heap[b]?=some (.deferred (some [])):=h1
  exact⟨by simp,.inl ⟨_,_,rfl,run_takeDeferred (P:=P) Z,zbg hr hs ds d _ H⟩⟩
theorem zqx(hm:P.follows .mixedOrders=true)(vs:List Value){f:FuncId}{fn:Func}{rs:List ResultVar}(hf:P.funcs[f]?=some fn)(hb:Z9 fn=true)(hr:fn.results.toList=rs)(hn:fn.ntmps=n)(hz:Nat.ble vs.length n=true){R:Value->za->Prop}{F:Prop}(H:F)(ef:F=WD P n (codeOf fn) (qel P rs R) [] (ztf 0 vs) h):XC P f vs.toArray h R:=by
 have aa:fn.body=some (codeOf fn):=by
  unfold Z9 at hb
  unfold codeOf
  split at hb
  ·rename_i c hc;rw[hc]
  ·cases hb
 intro B d
 refine callsIn_wide.1 (callsIn_of_wp_marks (F:=Fence.wide) (n:=1) hf aa trivial ?_ rfl)
 subst hn
 have ab:vs.length<=fn.ntmps:=BG hz
 have hs:Sat fn.ntmps (ztf 0 vs) { tmps:=vs.toArray++Ba (fn.ntmps-vs.toArray.size) undef,defers:=[] }:=by
  refine⟨rfl,by simp;omega,?_⟩
  refine Yh vs.toArray _ vs 0 λj v hj=>?_
  have Z:j<vs.length:=by
   rcases AR j vs.length with h|h
   ·exact h
   ·rw[BH h]at hj;cases hj
  simp only[Ay,A7]
  rw[Ck (by simpa using Z)]
  simp[hj]
 have:=z16 hm (m:=1) (by omega) (codeOf fn) _ [] _ _ (ef ▸ H) B d _ hs
 rw[show marks []=[]from rfl,zsw]at this
 refine wpIn_mono this ?_
 rintro ex a w ⟨ds,e1,d1,h1,a0,rfl,rfl,s1,q1⟩
 have hd:(Q4 (marks ds) a0).defers=marks ds:=by unfold Q4;rw[s1.defers];rfl
 have ht:(Q4 (marks ds) a0).tmps=a0.tmps:=rfl
 cases ex with
 |normal=>show LeavesInM _ _ _ _ _ _ _ _ _;rw[hd,ht];exact zbg hr s1 ds d1 h1 q1
 |ret=>show LeavesInM _ _ _ _ _ _ _ _ _;rw[hd,ht];exact zbg hr s1 ds d1 h1 q1
 |_=>exact q1.elim
end
section
theorem zoi(aa:Nat)(c1:Addr)(h:za)(R:Value->za->Prop)
  (H:∃az:Bt,zd h c1=some (.string az)/\((decide ((((az).size:Int):Int)>65536))=true->YX Tp aa #[.agg #[.int .i64 0,.int .i64 0,.int .i64 0],.int .i64 3] h (λaJ aI=>∃aC:Bool,aJ=.bool aC/\R (.tuple #[]) aI))/\((decide ((((az).size:Int):Int)>65536))=false->∃(aB:Int->za->Prop) (aH:Int->za->Nat),aB 0 h/\∀ab:Int,∀ay:za,aB ab ay->(∃ah:Bt,zd ay c1=some (.string ah)/\((decide ((ab:Int)<((ah).size:Int)))=true->∃aj:Bt,zd ay c1=some (.string aj)/\XC Tp 198 #[.string aj,.int .i64 ab] ay (λaG ak=>∃au:Int,∃ar:Int,∃am:Int,∃Z:Int,aG=.tuple #[.agg #[.int .i64 au,.int .i64 ar,.int .i64 am],.int .i64 Z]/\let aF:za:=CO ak (.cells #[.int .i64 0,.int .i64 0,.int .i64 0] 90);XRunU Tp (An 90 (.pointer (some ⟨AM ak,0,none⟩)) (.agg #[.int .i64 au,.int .i64 ar,.int .i64 am])) aF (λaA=>∃ax:Int,∃an:Int,∃ap:Int,ze aA ⟨AM ak,0,none⟩ 0 [.int .i64 ax,.int .i64 an,.int .i64 ap]/\YX Tp aa #[.agg #[.int .i64 ax,.int .i64 an,.int .i64 ap],.int .i64 Z] aA (λaE ai=>∃ae:Bool,aE=.bool ae/\((bif (!ae)then true else((Z:Int) != 0))=true->R (.tuple #[]) ai)/\((bif (!ae)then true else((Z:Int) != 0))=false->∃af:Int,zd ai (Al (Al ⟨AM ak,0,none⟩ 1) 1)=some (.int .i64 af)/\(aB af ai/\aH af ai<aH ab ay))))))/\((decide ((ab:Int)<((ah).size:Int)))=false->R (.tuple #[]) ay)))):
  XCI Tp 197 #[.func (.yield aa) #[] #[],.pointer (some c1)] h R:=
 zg9 Tryz.mixed ⟨[],[(3,[(3,.one (.int .i64))])],[]⟩ [.func (.yield aa) #[] #[],.pointer (some c1)] (rs:=[]) (n:=34) Tryz.func197 (by kernel_rfl) (by kernel_rfl) (by kernel_rfl) (by kernel_rfl) (Eq.mp (by kernel_rfl) H)
theorem zly(s0:Bt)(h:za)(R:Value->za->Prop)
  (H:let an:za:=CO h (.cells #[.slice none 0 0] 83);let ap:za:=CO an (.cells #[.int .i64 0] 3);let aC:za:=CO ap (.cells #[.int .i64 0] 27);let aJ:za:=CO aC (.cells #[.slice none 0 0] 83);XC Tp 113 #[.string s0] aJ (λaI aa=>∃aj:Value,aI=aj/\∃(ak:FuncId) (am:Array Value),aj=.func (.func ak) #[] am/\zp Tp ak=true/\∀ah:zu6,(∀{ar au:Value} {aE:za} {az:Value->za->Prop},aE[(AM aa+1)]?=some (.loop (ah .ready none))->zha Tp 25 (rfA (codeOf Tryz.f60)) (rfB (codeOf Tryz.f60)) ah (AM aa+1) az (putO (putO [(9,[],aj),(8,[],.string s0),(5,[],.pointer (some ⟨AM aC,0,none⟩)),(4,[],.pointer (some ⟨AM ap,0,none⟩)),(3,[],.pointer (some ⟨AM an,0,none⟩)),(2,[],.pointer (some ⟨AM h,0,none⟩)),(0,[],.string s0)] (some 10) [] ar) (some 11) [] au) aE->YX Tp (AM aa+1) #[ar,au] aE az)->XCI Tp ak (#[.func (.yield (AM aa+1)) #[] #[]]++am) (CO (CO aa (.deferred (some []))) (.loop (ah .ready none))) λ_ aH=>zyy ah (AM aa+1) (λab=>∃Z:Sl,zd ab ⟨AM aC,0,none⟩=some (.slice Z.a Z.len Z.cap)/\XRunU Tp (An 83 (.pointer (some ⟨AM h,0,none⟩)) (.slice Z.a Z.len Z.cap)) ab (λaF=>XRunU Tp (An 3 (.pointer (some ⟨AM an,0,none⟩)) (.int .i64 ((s0).size:Int))) aF (λaG=>XRunU Tp (An 27 (.pointer (some ⟨AM ap,0,none⟩)) (.int .i64 0)) aG (λai=>(ai)[AM aa]?=some (.deferred (some []))/\∃af:Sl,zd (Array.setIfInBounds ai (AM aa) (.deferred none)) ⟨AM h,0,none⟩=some (.slice af.a af.len af.cap)/\∃aB:Int,zd (Array.setIfInBounds ai (AM aa) (.deferred none)) ⟨AM an,0,none⟩=some (.int .i64 aB)/\∃aA:Int,zd (Array.setIfInBounds ai (AM aa) (.deferred none)) ⟨AM ap,0,none⟩=some (.int .i64 aA)/\R (.tuple #[.slice af.a af.len af.cap,.int .i64 aB,.int .i64 aA]) (Array.setIfInBounds ai (AM aa) (.deferred none)))))) (λab=>(ab)[AM aa]?=some (.deferred (some []))/\∃ae:Sl,zd (Array.setIfInBounds ab (AM aa) (.deferred none)) ⟨AM h,0,none⟩=some (.slice ae.a ae.len ae.cap)/\∃ay:Int,zd (Array.setIfInBounds ab (AM aa) (.deferred none)) ⟨AM an,0,none⟩=some (.int .i64 ay)/\∃ax:Int,zd (Array.setIfInBounds ab (AM aa) (.deferred none)) ⟨AM ap,0,none⟩=some (.int .i64 ax)/\R (.tuple #[.slice ae.a ae.len ae.cap,.int .i64 ay,.int .i64 ax]) (Array.setIfInBounds ab (AM aa) (.deferred none))) aH)):
  XC Tp 60 #[.string s0] h R:=
 zqx Tryz.mixed [.string s0] (rs:=[.cell 2 83,.cell 3 3,.cell 4 27]) (n:=25) Tryz.func60 (by kernel_rfl) (by kernel_rfl) (by kernel_rfl) (by kernel_rfl) H (by kernel_rfl)
theorem zcp(x9:Value)(x8:Value)(x5:Addr)(x4:Addr)(x3:Addr)(x2:Addr)(x0:Value)(aj:Int)(am:Int)(ak:Int)(an:Int)(rec:zu6)(l:Nat)(K:Value->za->Prop)(h:za)
  (H:let ay:za:=CO h (.cells #[.int .i64 0,.int .i64 0,.int .i64 0] 90);XRunU Tp (An 90 (.pointer (some ⟨AM h,0,none⟩)) (.agg #[.int .i64 aj,.int .i64 am,.int .i64 ak])) ay (λau=>(au)[l]?=some (.loop (rec .ready none))/\let ab:za:=Array.setIfInBounds au l (.loop (rec .busy none));(((an:Int) != 0)=true->∃ai:Int,zd ab (Al (Al ⟨AM h,0,none⟩ 1) 0)=some (.int .i64 ai)/\XRunU Tp (An 83 (.pointer (some x2)) (.slice none 0 0)) ab (λax=>(ax)[((Al (Al ⟨AM h,0,none⟩ 1) 0):Addr).block]?=(ab)[((Al (Al ⟨AM h,0,none⟩ 1) 0):Addr).block]?/\XRunU Tp (An 3 (.pointer (some x3)) (.int .i64 ai)) ax (λaB=>XRunU Tp (An 27 (.pointer (some x4)) (.int .i64 an)) aB (λap=>(ap)[l]?=some (.loop (rec .busy none))/\K (.bool false) (Array.setIfInBounds ap l (.loop (rec .done (some .ret))))))))/\(((an:Int) != 0)=false->∃aa:Sl,zd ab x5=some (.slice aa.a aa.len aa.cap)/\∃ae:Int,∃af:Int,∃ah:Int,ze ab ⟨AM h,0,none⟩ 0 [.int .i64 ae,.int .i64 af,.int .i64 ah]/\let aA:za:=CO ab (.cells #[.int .i64 ae,.int .i64 af,.int .i64 ah] 90);XRun Tp (AB #[83,83] 83 #[.slice aa.a aa.len aa.cap,.slice (some ⟨AM ab,0,none⟩) 1 1]) aA (λaz aC=>∃Z:Sl,az=.slice Z.a Z.len Z.cap/\XRunU Tp (An 83 (.pointer (some x5)) (.slice Z.a Z.len Z.cap)) aC (λar=>(ar)[l]?=some (.loop (rec .busy none))/\K (.bool true) (Array.setIfInBounds ar l (.loop (rec .ready none)))))))):
  zha Tp 25 (rfA (codeOf Tryz.f60)) (rfB (codeOf Tryz.f60)) rec l K [(11,[],.int .i64 an),(10,[],.agg #[.int .i64 aj,.int .i64 am,.int .i64 ak]),(9,[],x9),(8,[],x8),(5,[],.pointer (some x5)),(4,[],.pointer (some x4)),(3,[],.pointer (some x3)),(2,[],.pointer (some x2)),(0,[],x0)] h:=
 Eq.mp (by kernel_rfl) H
end
end Go.X
end
section
namespace Go.X
open Go Go.X Go.Proofs Go.RowKit
section
variable {g:za} {i:Nat} {k f t:Int} {x9 x8 x0:Value} {K:Value -> za -> Prop}
abbrev tTk:Ty:=.pair (.int .i64) (.pair (.int .i64) (.int .i64))
theorem z3x:ElemT Tp 83 90 (.agg #[.int .i64 0,.int .i64 0,.int .i64 0]) (sz tTk) 24:=⟨by kernel_rfl,⟨Tryz.t90,by kernel_rfl,by kernel_rfl,by kernel_rfl,by kernel_rfl⟩,rfl,by decide⟩
theorem z7w:qd Tp 83=true:=by kernel_rfl
theorem z7x:qt Tp 83=1:=by kernel_rfl
theorem qa8:qd Tp 3=true:=by kernel_rfl
theorem qa9:qt Tp 3=1:=by kernel_rfl
theorem qba:qd Tp 27=true:=by kernel_rfl
theorem qbb:qt Tp 27=1:=by kernel_rfl
theorem z3y{M:Fr}(k f t:Int):Rd M tTk (k,(f,t)) (zod k f t):=⟨[.int .i64 k],[.int .i64 f,.int .i64 t],rfl,rfl,[.int .i64 f],[.int .i64 t],rfl,rfl,rfl⟩
structure TkS (h:za) (M:Fr) (b2 b3 b4 b5 bc D l:Nat) (rec:zu6) (s:Bs) (out:List Tk) (sl:Sl) (bs:List Nat) (g:za):Prop where
 keep:Keep h.size h g
 c:Blk g bc #[.string (bl s)]
 d:g[D]?=some (.deferred (some []))
 rc:g[l]?=some (.loop (rec .ready none))
 r2:Blk g b2 #[.slice none 0 0]
 r3:Blk g b3 #[.int .i64 0]
 r4:Blk g b4 #[.int .i64 0]
 r5:Blk g b5 #[slV sl]
 o:ORow (l+1) g M tTk out sl bs
structure Apart (h:za) (b2 b3 b4 b5 bc D l:Nat):Prop where
 lo:h.size<=b2
 a3:b2<b3
 a4:b3<b4
 a5:b4<b5
 ac:b5<bc
 aD:bc<D
 al:l=D+1
theorem yk{i j:Nat}{o:Obj}(h:j≠i):(g.setIfInBounds i o)[j]?=g[j]?:=AN (Ne.symm h)
theorem set_self{o:Obj}(h:i<g.size):(g.setIfInBounds i o)[i]?=some o:=Cj h
theorem Blk.fr{g g':za}{b:Nat}{cs:Array Value}(H:Blk g b cs)(e:g'[b]?=g[b]?):Blk g' b cs:=H.keep e
theorem lt_of_some{o:Obj}(h:g[i]?=some o):i<g.size:=(Ac.1 h).1
section
variable {h : za} {M : Fr} {b2 b3 b4 b5 bc D l : Nat} {rec : zu6} {s : Bs} {out : List Tk} {sl : Sl} {bs : List Nat} {g : za}
set_option maxRecDepth 100000 in
set_option maxHeartbeats 1000000 in
theorem TkS.round(A:Apart h b2 b3 b4 b5 bc D l)(ag:AgM M h)(S:TkS h M b2 b3 b4 b5 bc D l rec s out sl bs g)(hn:out.length<=100000)
  (hK:∀g' aH ah,TkS h M b2 b3 b4 b5 bc D l rec s (out++[(k,(f,t))]) aH ah g'->g.size<=g'.size->(∀j,j<g.size->j≠b5->j≠l->j∉bs->g'[j]?=g[j]?)->K (.bool true) g'):
  zha Tp 25 (rfA (codeOf Tryz.f60)) (rfB (codeOf Tryz.f60)) rec l K [(11,[],.int .i64 0),(10,[],.agg #[.int .i64 k,.int .i64 f,.int .i64 t]),(9,[],x9),(8,[],x8),(5,[],.pointer (some ⟨b5,0,none⟩)),(4,[],.pointer (some ⟨b4,0,none⟩)),(3,[],.pointer (some ⟨b3,0,none⟩)),(2,[],.pointer (some ⟨b2,0,none⟩)),(0,[],x0)] g:=by
 apply zcp
 intro ab
 have aA:Keep g.size g ab:=Keep.push _ _ (Ad _)
 have aJ:ab.size=g.size+1:=Ak _
 have aI:Blk ab g.size (zod 0 0 0).toArray:=Blk.new _ _ _
 clear_value ab
 have ll:=lt_of_some S.rc
 have:=A.lo;have:=A.a3;have:=A.a4;have:=A.a5;have:=A.ac;have:=A.aD;have:=A.al
 refine z7s aI λap q1 q2 q3=>?_
 have ar:∀j,j<g.size->ap[j]?=g[j]?:=λj hj=>by rw[q1 j (by omega)];exact aA.get j hj
 refine⟨by rw[ar l ll];exact S.rc,?_⟩
 intro Z
 have ae:∀j,j≠l->Z[j]?=ap[j]?:=λj hj=>yk hj
 have aF:Z[l]?=some (.loop (rec .busy none)):=set_self (by omega)
 have aL:Z.size=ap.size:=AU
 clear_value Z
 refine⟨λhx=>by simp at hx,λ_=>?_⟩
 have B5:Blk Z b5 #[slV sl]:=S.r5.keep (by rw[ae b5 (by omega),ar b5 (by omega)])
 have Bt:Blk Z g.size (zod k f t).toArray:=q3.keep (ae g.size (by omega))
 refine⟨sl,B5.cell rfl,k,f,t,Bt.ld,?_⟩
 intro aa
 have ai:Keep Z.size Z aa:=Keep.push _ _ (Ad _)
 have aN:aa.size=Z.size+1:=Ak _
 have aB:Blk aa Z.size (zod k f t).toArray:=Blk.new _ _ _
 clear_value aa
 have af:∀j,j<g.size->j≠l->aa[j]?=g[j]?:=λj hj hl=>by rw[ai.get j (by omega),ae j hl,ar j hj]
 have ax:AgM M aa:=λb c e=>by
  obtain⟨T,m,e'⟩:=(ag.keep S.keep) b c e
  have hb:=ag.lt e
  exact⟨T,m,by rw[af b (by have:=S.keep.size;omega) (by omega)];exact e'⟩
 have aG:ORow (l+1) aa M tTk out sl bs:=S.o.frame (λc hc=>by
  have:=S.o.own c hc
  exact af c this.2.1 (by omega)) (Fr.le.refl _) (λc hc=>(S.o.own c hc).2.2)
 refine ORow.app z3x (by omega) ax aG (by omega) aB (z3y k f t) (by omega) λs' aC ah aj aO aM ak=>⟨s',rfl,?_⟩
 have an:∀c∈bs,l+1<=c:=λc hc=>(S.o.own c hc).1
 have aE:Blk aC b5 #[slV sl]:=B5.keep (by
  rw[ak b5 (by omega) (λhm=>by have:=an _ hm;omega)]
  exact ai.get b5 (by omega))
 refine xh z7w z7x aE (by show 0<1;omega) rfl λam u1 u3 u2=>?_
 have au:∀j,j<g.size->j≠l->j≠b5->j∉bs->am[j]?=g[j]?:=λj hj hl h5 hm=>by rw[u2 j h5,ak j (by omega) hm,af j hj hl]
 have az:am[l]?=some (.loop (rec .busy none)):=by
  rw[u2 l (by omega),ak l (by omega) (λhm=>by have:=an _ hm;omega),ai.get l (by omega)];exact aF
 refine⟨az,hK _ s' ah ?_ ?_ ?_⟩
 ·have ay:=lt_of_some az
  have bx:∀j,j<l->j≠b5->(am.setIfInBounds l (.loop (rec .ready none)))[j]?=g[j]?:=λj hj h5=>by
   rw[yk (by omega)]
   exact au j (by omega) (by omega) h5 (λhm=>by have:=an _ hm;omega)
  refine⟨S.keep.trans ⟨?_,λj hj=>bx j (by omega) (by omega)⟩ (Ad _),S.c.keep (bx bc (by omega) (by omega)),(bx D (by omega) (by omega)).trans S.d,set_self ay,S.r2.keep (bx b2 (by omega) (by omega)),S.r3.keep (bx b3 (by omega) (by omega)),S.r4.keep (bx b4 (by omega) (by omega)),?_,?_⟩
  ·rw[AU]
   have:=S.keep.size;omega
  ·exact Blk.keep u1 (yk (by omega))
  ·refine aj.frame (λc hc=>?_) (Fr.le.refl _) (λc hc=>(aj.own c hc).2.2)
   have:=(aj.own c hc).1
   rw[yk (by omega),u2 c (by omega)]
 ·rw[AU];omega
 ·intro j hj h5 hl hm
  rw[yk hl];exact au j hj hl h5 hm
set_option maxRecDepth 100000 in
set_option maxHeartbeats 1000000 in
theorem TkS.err(A:Apart h b2 b3 b4 b5 bc D l)(S:TkS h M b2 b3 b4 b5 bc D l rec s out sl bs g){k f t e:Int}(he:¬e=0)
  (hK:∀g',Keep h.size h g'->g'[D]?=some (.deferred (some []))->g'[l]?=some (.loop (rec .done (some .ret)))->Blk g' b2 #[.slice none 0 0]->Blk g' b3 #[.int .i64 f]->Blk g' b4 #[.int .i64 e]->K (.bool false) g'):
  zha Tp 25 (rfA (codeOf Tryz.f60)) (rfB (codeOf Tryz.f60)) rec l K [(11,[],.int .i64 e),(10,[],.agg #[.int .i64 k,.int .i64 f,.int .i64 t]),(9,[],x9),(8,[],x8),(5,[],.pointer (some ⟨b5,0,none⟩)),(4,[],.pointer (some ⟨b4,0,none⟩)),(3,[],.pointer (some ⟨b3,0,none⟩)),(2,[],.pointer (some ⟨b2,0,none⟩)),(0,[],x0)] g:=by
 apply zcp
 intro ab
 have aj:Keep g.size g ab:=Keep.push _ _ (Ad _)
 have ap:ab.size=g.size+1:=Ak _
 have an:Blk ab g.size (zod 0 0 0).toArray:=Blk.new _ _ _
 clear_value ab
 have ll:=lt_of_some S.rc
 have:=A.lo;have:=A.a3;have:=A.a4;have:=A.a5;have:=A.ac;have:=A.aD;have:=A.al
 refine z7s an λae q1 q2 q3=>?_
 have ah:∀j,j<g.size->ae[j]?=g[j]?:=λj hj=>by rw[q1 j (by omega)];exact aj.get j hj
 refine⟨by rw[ah l ll];exact S.rc,?_⟩
 intro aa
 have af:∀j,j≠l->aa[j]?=ae[j]?:=λj hj=>yk hj
 have am:aa[l]?=some (.loop (rec .busy none)):=set_self (by omega)
 have au:aa.size=ae.size:=AU
 clear_value aa
 refine⟨λ_=>?_,λhx=>by simp[he]at hx⟩
 have Bt:Blk aa g.size (zod k f t).toArray:=q3.keep (af g.size (by omega))
 have Z:∀j,j<g.size->j≠l->aa[j]?=g[j]?:=λj hj hl=>(af j hl).trans (ah j hj)
 refine⟨f,?_,?_⟩
 ·rw[qn,qn];exact Bt.cell rfl
 refine xh z7w z7x (S.r2.keep (Z b2 (by omega) (by omega))) (by show 0<1;omega) rfl λar u1 u3 u2=>⟨?_,?_⟩
 ·rw[qn,qn];exact u2 g.size (by omega)
 refine xh qa8 qa9 (S.r3.keep ((u2 b3 (by omega)).trans (Z b3 (by omega) (by omega)))) (by show 0<1;omega) rfl λax v1 v3 v2=>?_
 refine xh qba qbb (S.r4.keep ((v2 b4 (by omega)).trans ((u2 b4 (by omega)).trans (Z b4 (by omega) (by omega))))) (by show 0<1;omega) rfl λak w1 w3 w2=>?_
 have ai:ak[l]?=some (.loop (rec .busy none)):=by rw[w2 l (by omega),v2 l (by omega),u2 l (by omega)];exact am
 refine⟨ai,hK _ ?_ ?_ (set_self (lt_of_some ai)) ?_ ?_ ?_⟩
 ·refine S.keep.trans ⟨by rw[AU];have:=S.keep.size;omega,λj hj=>?_⟩ (Ad _)
  rw[yk (by omega),w2 j (by omega),v2 j (by omega),u2 j (by omega)]
  exact Z j (by have:=S.keep.size;omega) (by omega)
 ·rw[yk (by omega),w2 D (by omega),v2 D (by omega),u2 D (by omega),Z D (by omega) (by omega)];exact S.d
 ·exact Blk.keep u1 (by rw[yk (by omega),w2 b2 (by omega),v2 b2 (by omega)])
 ·exact Blk.keep v1 (by rw[yk (by omega),w2 b3 (by omega)])
 ·exact Blk.keep w1 (yk (by omega))
end
end
section
variable {M:Fr} {s:Bs} {g g':za} {k a e lf:Int} {O:Nat -> Prop} {lo bp b c:Nat} {rs:Sl} {cs:Array Value}
theorem z7y{t:Ty}{x:El t}{xs:List (El t)}{s:Sl}(h:Rd M (.row t) (x::xs) [slV s]):Rd M (.row t) xs [slV ⟨zq7 s.a (sz t) 1 s.cap,s.len-1,s.cap-1⟩]:=by
 obtain⟨h1,h2,h3⟩:=rowLen h
 rw[Aw]at h1 h2 h3
 refine⟨_,rfl,zq7 s.a (sz t) 1 s.cap,s.cap-1,?_,⟨by omega,by omega⟩,?_⟩
 ·show slV _=_
  unfold slV;rw[h1];rfl
 ·by_cases he:xs=[]
  ·exact .inl he
  ·have hp:=Bn.2 he
   obtain⟨b,o,cs,e1,e2,e3⟩:∃b o cs,s.a=some ⟨b,o,none⟩/\M b=some cs/\∀i (hi:i<(x::xs).length),Rd M t (x::xs)[i] (cut cs (o+i*sz t) (sz t)):=by
    obtain⟨w,e,a,c,q,hn,hx⟩:=h
    simp only[Bu,and_true]at e
    subst e
    simp only[slV,AP]at q
    rcases hx with hx|⟨b,o,cs,e1,e2,e3⟩
    ·cases hx
    ·exact⟨b,o,cs,by rw[q.1,e1],e2,e3⟩
   refine .inr ⟨b,o+sz t,cs,?_,e2,λi hi=>?_⟩
   ·unfold zq7
    rw[if_neg (by omega),e1,Dw,qn,DK]
   ·have:=e3 (i+1) (by simp;omega)
    rw[List.getElem_cons_succ]at this
    rw[show o+sz t+i*sz t=o+(i+1)*sz t by rw[C5];omega]
    exact this
theorem z8v(ag:AgM M g){xs:List Tk}{s:Sl}(H:Rd M (.row tTk) xs [slV s]){k:Nat}(hk:k<xs.length):∃b o,s.a=some ⟨b,o,none⟩/\zd g ⟨b,o+k*3,none⟩=some (.int .i64 xs[k].1)/\zd g ⟨b,o+k*3+1,none⟩=some (.int .i64 xs[k].2.1)/\zd g ⟨b,o+k*3+2,none⟩=some (.int .i64 xs[k].2.2):=by
 obtain⟨b,o,cs,e1,e2,e3⟩:=Go.X.rowAt H hk
 refine⟨b,o,e1,?_⟩
 obtain⟨c1,c2,e,h1,c3,c4,h2,h3,h4⟩:=e3
 have h1:c1=[.int .i64 xs[k].1]:=h1
 have h3:c3=[.int .i64 xs[k].2.1]:=h3
 have h4:c4=[.int .i64 xs[k].2.2]:=h4
 subst h1 h3 h4 h2
 have e:cut cs (o+k*3) 3=zod xs[k].1 xs[k].2.1 xs[k].2.2:=e
 have L:=zwv (vs:=zod xs[k].1 xs[k].2.1 xs[k].2.2) (o:=o+k*3) (i:=0) ag e2 (by rw[Cu];exact e)
 obtain⟨l1,l2,l3,_⟩:=L
 rw[qn]at l1 l2 l3
 exact⟨l1,l2,l3⟩
def ppC(s:Bs)(rs:Sl)(lf last:Int)(sl:Sl)(a e:Int):List Value:=[.string (bl s),slV rs,.int .i64 lf,.int .i64 last,slV sl,.int .i64 a,.int .i64 e]
def ppO(bp:Nat)(na:NA)(sl:Sl)(b c:Nat):Prop:=c=bp\/nsO na sl b c
structure PW (lo:Nat) (g:za) (M:Fr) (bp:Nat) (s:Bs) (rest:List Tk) (last a e:Int) (rs:Sl) (lf:Int) (na:NA) (sl:Sl) (b:Nat) (cs:Array Value):Prop where
 blk:Blk g bp (ppC s rs lf last sl a e).toArray
 rd:Rd M (.row tTk) rest [slV rs]
 ns:NS lo g M na sl b cs
 ag:AgM M g
 bl:lo<=bp/\M bp=none
 nb:¬nsO na sl b bp
def PaS(lo:Nat)(g:za)(M:Fr)(bp:Nat)(s:Bs)(st:PSt)(a e:Int)(O:Nat->Prop):Prop:=
 ∃(rs:Sl) (lf:Int) (na:NA) (sl:Sl) (b:Nat) (cs:Array Value),PW lo g M bp s st.rest st.last a e rs lf na sl b cs/\na.map (·.1)=st.nodes/\O=ppO bp na sl b
structure Stp (g:za) (O:Nat->Prop) (g':za) (O':Nat->Prop):Prop where
 le:g.size<=g'.size
 sub:∀c,O' c->O c\/g.size<=c
 fr:∀j,j<g.size->¬O j->g'[j]?=g[j]?
theorem Stp.refl(g:za)(O:Nat->Prop):Stp g O g O:=⟨Ad _,λc h=>.inl h,λj _ _=>rfl⟩
theorem Stp.trans{g g' aa:za}{O O' Z:Nat->Prop}(a:Stp g O g' O')(b:Stp g' O' aa Z):Stp g O aa Z:=by
 have:=a.le;have:=b.le
 refine⟨by omega,λc h=>?_,λj hj hn=>?_⟩
 ·rcases b.sub c h with h|h
  ·exact a.sub c h
  ·exact .inr (by omega)
 ·rw[b.fr j (by omega) (λh=>?_)]
  ·exact a.fr j hj hn
  ·rcases a.sub j h with h|h
   ·exact hn h
   ·omega
theorem Stp.keep(k:Keep g.size g g'):Stp g O g' O:=⟨k.size,λc h=>.inl h,λj hj _=>k.get j hj⟩
theorem PW.own{rest:List Tk}{last a e:Int}{na:NA}{sl:Sl}(H:PW lo g M bp s rest last a e rs lf na sl b cs)(h:ppO bp na sl b c):lo<=c/\c<g.size/\M c=none:=by
 rcases h with rfl|h
 ·exact⟨H.bl.1,H.blk.lt,H.bl.2⟩
 ·exact H.ns.own h
theorem PaS.own{st:PSt}(H:PaS lo g M bp s st a e O)(h:O c):lo<=c/\c<g.size/\M c=none:=by
 obtain⟨rs,lf,na,sl,b,cs,W,_,rfl⟩:=H
 exact W.own h
theorem zoj(ag:AgM M g)(f:∀j,j<g.size->M j≠none->g'[j]?=g[j]?):AgM M g':=λb c e=>by
 obtain⟨T,m,e'⟩:=ag b c e
 exact⟨T,m,by rw[f b (ag.lt e) (by rw[e];simp)];exact e'⟩
theorem PaS.frame{st:PSt}(H:PaS lo g M bp s st a e O)(hz:g.size<=g'.size)(f:∀c,c<g.size->(O c\/M c≠none)->g'[c]?=g[c]?):PaS lo g' M bp s st a e O:=by
 obtain⟨rs,lf,na,sl,b,cs,W,h1,rfl⟩:=H
 refine⟨rs,lf,na,sl,b,cs,⟨W.blk.keep (f bp W.blk.lt (.inl (.inl rfl))),W.rd,W.ns.frame hz λc hc=>f c (W.ns.own hc).2.1 (.inl (.inr hc)),zoj W.ag λj hj hm=>f j hj (.inr hm),W.bl,W.nb⟩,h1,rfl⟩
theorem PaS.keep{st:PSt}(H:PaS lo g M bp s st a e O)(k:Keep g.size g g'):PaS lo g' M bp s st a e O:=H.frame k.size λc hc _=>k.get c hc
theorem PaS.ag{st:PSt}(H:PaS lo g M bp s st a e O):AgM M g:=by
 obtain⟨rs,lf,na,sl,b,cs,W,_,_⟩:=H;exact W.ag
theorem PW.put{rest rest':List Tk}{last last' a a' e e':Int}{rs rs':Sl}{lf lf':Int}{na:NA}{sl:Sl}(H:PW lo g M bp s rest last a e rs lf na sl b cs)(B:Blk g' bp (ppC s rs' lf' last' sl a' e').toArray)(r:Rd M (.row tTk) rest' [slV rs'])(hz:g'.size=g.size)(f:∀j,j≠bp->g'[j]?=g[j]?):PW lo g' M bp s rest' last' a' e' rs' lf' na sl b cs:=
 ⟨B,r,H.ns.frame (by omega) λc hc=>f c λh=>H.nb (h ▸ hc),zoj H.ag λj _ hm=>f j λh=>hm (h ▸ H.bl.2),H.bl,H.nb⟩
section
variable {lo : Nat} {g : za} {M : Fr} {bp : Nat} {s : Bs} {st : PSt} {a e : Int} {O : Nat -> Prop} {K : Value -> za -> Prop}
theorem zlz(H:PaS lo g M bp s st a e O)(hK:K (.int .i64 st.kind) g):XC Tp 115 #[.pointer (some ⟨bp,0,none⟩)] g K:=by
 obtain⟨rs,lf,na,sl,b,cs,W,h1,rfl⟩:=H
 apply za7
 have hl:=(rowLen W.rd).1
 refine⟨_,rfl,rs,by rw[qn];exact W.blk.cell rfl,λhx=>?_,λhx=>⟨_,rfl,rs,by rw[qn];exact W.blk.cell rfl,?_⟩⟩
 ·have hx:rs.len=0:=by simpa using hx
  have:st.rest=[]:=A8.1 (by omega)
  unfold PSt.kind at hK
  rw[this]at hK;exact hK
 ·have hx:rs.len≠0:=by simpa using hx
  cases hr:st.rest with
  |nil=>rw[hr]at hl;exact absurd hl hx
  |cons t r=>
   have rd:=W.rd
   rw[hr]at rd
   obtain⟨tb,o,e1,e2,e3,e4⟩:=z8v W.ag rd (k:=0) (by simp)
   refine⟨_,⟨e1,by omega,by omega⟩,t.1,?_,?_⟩
   ·rw[qn,qn];exact e2
   ·unfold PSt.kind at hK;rw[hr]at hK;exact hK
theorem zyz(H:PaS lo g M bp s st a e O)(hK:K (.int .i64 (st.here s.length)) g):XC Tp 121 #[.pointer (some ⟨bp,0,none⟩)] g K:=by
 obtain⟨rs,lf,na,sl,b,cs,W,h1,rfl⟩:=H
 apply zbb
 have hl:=(rowLen W.rd).1
 refine⟨_,rfl,rs,by rw[qn];exact W.blk.cell rfl,λhx=>?_,λhx=>⟨_,rfl,rs,by rw[qn];exact W.blk.cell rfl,?_⟩⟩
 ·have hx:rs.len=0:=by simpa using hx
  have:st.rest=[]:=A8.1 (by omega)
  unfold PSt.here at hK
  rw[this]at hK
  refine⟨_,rfl,bl s,by rw[qn];exact W.blk.cell rfl,?_⟩
  rw[zj];exact hK
 ·have hx:rs.len≠0:=by simpa using hx
  cases hr:st.rest with
  |nil=>rw[hr]at hl;exact absurd hl hx
  |cons t r=>
   have rd:=W.rd
   rw[hr]at rd
   obtain⟨tb,o,e1,e2,e3,e4⟩:=z8v W.ag rd (k:=0) (by simp)
   refine⟨_,⟨e1,by omega,by omega⟩,t.2.1,?_,?_⟩
   ·rw[qn,qn,qn];exact e3
   ·unfold PSt.here at hK;rw[hr]at hK;exact hK
theorem z3z:qd Tp 3=true:=by kernel_rfl
theorem z4a:qt Tp 3=1:=by kernel_rfl
theorem qdh:qd Tp 27=true:=by kernel_rfl
theorem qdi:qt Tp 27=1:=by kernel_rfl
theorem qbc:qd Tp 58=true:=by kernel_rfl
theorem qbd:qt Tp 58=2:=by kernel_rfl
theorem qbe:qd Tp 83=true:=by kernel_rfl
theorem qbf:qt Tp 83=1:=by kernel_rfl
theorem Stp.same(hz:g'.size=g.size)(hb:O bp)(f:∀j,j≠bp->g'[j]?=g[j]?):Stp g O g' O:=⟨by omega,λc h=>.inl h,λj hj hn=>f j λe=>hn (e ▸ hb)⟩
theorem Jz(H:PaS lo g M bp s st a e O){x:Int}(hK:∀g',PaS lo g' M bp s st (st.here s.length) x O->Stp g O g' O->K (.bool false) g'):XC Tp 62 #[.pointer (some ⟨bp,0,none⟩),.int .i64 x] g K:=by
 apply za6
 refine zyz H ⟨_,rfl,_,rfl,?_⟩
 obtain⟨rs,lf,na,sl,b,cs,W,h1,rfl⟩:=H
 rw[qn]
 refine xh z3z z4a W.blk (by show 5<7;omega) rfl λg1 u1 u2 u3=>⟨_,rfl,?_⟩
 rw[qn]
 refine xh qdh qdi u1 (by show 6<7;omega) rfl λg2 v1 v2 v3=>?_
 have f:∀j,j≠bp->g2[j]?=g[j]?:=λj hj=>(v3 j hj).trans (u3 j hj)
 exact hK g2 ⟨rs,lf,na,sl,b,cs,W.put (rest':=st.rest) (last':=st.last) (a':=st.here s.length) (e':=x) (rs':=rs) (lf':=lf) v1 W.rd (by omega) f,h1,rfl⟩ (Stp.same (by omega) (.inl rfl) f)
theorem zqy(H:PaS lo g M bp s st a e O)(hr:st.rest≠[])(hK:∀g',PaS lo g' M bp s st.skip a e O->Stp g O g' O->K (.tuple #[]) g'):XC Tp 116 #[.pointer (some ⟨bp,0,none⟩)] g K:=by
 apply za8
 obtain⟨rs,lf,na,sl,b,cs,W,h1,rfl⟩:=H
 obtain⟨hl,_,hc⟩:=rowLen W.rd
 obtain⟨t,r,er⟩:=A6 hr
 have rd:=W.rd
 rw[er]at rd hl hc
 rw[Aw]at hl hc
 obtain⟨tb,o,e1,e2,e3,e4⟩:=z8v W.ag rd (k:=0) (by simp)
 refine⟨_,rfl,rs,by rw[qn];exact W.blk.cell rfl,_,⟨e1,by omega,by omega⟩,t.2.1,t.2.2,?_,_,rfl,rs,by rw[qn];exact W.blk.cell rfl,.inl rfl,⟨by omega,by omega,by omega,by omega⟩,_,rfl,?_⟩
 ·rw[qn,qn]
  exact⟨by rw[qn];exact e3,by rw[qn];exact e4,trivial⟩
 rw[qn]
 refine J6 (vs:=[.int .i64 t.2.1,.int .i64 t.2.2]) qbc W.blk rfl qbd (by show 2+2<=7;omega) (λu hu=>?_) λg1 u1 u2 u3=>⟨_,rfl,?_⟩
 ·simp at hu;rcases hu with rfl|rfl <;> rfl
 rw[qn]
 refine xh qbe qbf u1 (by rw[zfd (by show 2+2<=7;omega)];show 1<7;omega) rfl λg2 v1 v2 v3=>?_
 have f:∀j,j≠bp->g2[j]?=g[j]?:=λj hj=>(v3 j hj).trans (u3 j hj)
 have Z:=z7y rd
 rw[Ah,Ah]at v1
 have v1:Blk g2 bp (ppC s ⟨zq7 rs.a (sz tTk) 1 rs.cap,rs.len-1,rs.cap-1⟩ t.2.1 t.2.2 sl a e).toArray:=v1
 have es:st.skip=⟨r,t.2.2,st.nodes⟩:=by unfold PSt.skip;rw[er]
 rw[es]at hK
 exact hK g2 ⟨_,t.2.1,na,sl,b,cs,W.put v1 Z (by omega) f,h1,rfl⟩ (Stp.same (by omega) (.inl rfl) f)
theorem PSt.ne_of_kind{st:PSt}(h:st.kind=k)(hk:k≠0):st.rest≠[]:=λe=>by
 unfold PSt.kind at h;rw[e]at h;exact hk h.symm
theorem zff(H:PaS lo g M bp s st a e O)(hk:k≠0)(hY:st.kind=k->∀g',PaS lo g' M bp s st.skip a e O->Stp g O g' O->K (.bool true) g')(hN:st.kind≠k->K (.bool false) g):XC Tp 199 #[.pointer (some ⟨bp,0,none⟩),.int .i64 k] g K:=by
 apply X3
 refine zlz H ⟨_,rfl,λhx=>hN (by simpa using hx),λhx=>?_⟩
 have hx:st.kind=k:=by simpa using hx
 exact zqy H (PSt.ne_of_kind hx hk) λg' p q=>⟨rfl,hY hx g' p q⟩
end
end
section
variable {M:Fr} {g:za} {s:Sl} {k b f:Nat} {t:Bs}
theorem qdj(ag:AgM M g){xs:List Int}(H:Rd M (.row (.int .i64)) xs [slV s])(hk:k<xs.length):∃b o,s.a=some ⟨b,o,none⟩/\zd g ⟨b,o+k*1,none⟩=some (.int .i64 xs[k]):=by
 obtain⟨b,o,cs,e1,e2,e3⟩:=Go.X.rowAt H hk
 exact⟨b,o,e1,zww ag e2 e3⟩
theorem qem(ag:AgM M g){xs:List Nd}(H:Rd M (.row tNd) xs [slV s])(hk:k<xs.length):∃(b o:Nat) (ks ps:Sl),s.a=some ⟨b,o,none⟩/\ze g ⟨b,o+k*7,none⟩ 0 [.int .i64 xs[k].1,.int .i64 xs[k].2.1.1,.int .i64 xs[k].2.1.2,.int .i64 xs[k].2.2.1.1,.int .i64 xs[k].2.2.1.2,slV ks,slV ps]/\Rd M (.row (.int .i64)) xs[k].2.2.2.1 [slV ks]:=by
 obtain⟨b,o,cs,e1,e2,e3⟩:=Go.X.rowAt H hk
 obtain⟨c1,r1,q1,a1,c2,r2,q2,⟨d1,d2,q3,a2,a3⟩,c3,r3,q4,⟨d3,d4,q5,a4,a5⟩,c4,c5,q6,a6,a7⟩:=e3
 have a1:c1=[.int .i64 xs[k].1]:=a1
 have a2:d1=[.int .i64 xs[k].2.1.1]:=a2
 have a3:d2=[.int .i64 xs[k].2.1.2]:=a3
 have a4:d3=[.int .i64 xs[k].2.2.1.1]:=a4
 have a5:d4=[.int .i64 xs[k].2.2.1.2]:=a5
 obtain⟨ks,rfl⟩:∃ks:Sl,c4=[slV ks]:=by
  obtain⟨w,e,a,c,q,_⟩:=a6
  exact⟨⟨a,_,c⟩,by rw[e,q];rfl⟩
 obtain⟨ps,rfl⟩:∃ps:Sl,c5=[slV ps]:=by
  obtain⟨w,e,a,c,q,_⟩:=a7
  exact⟨⟨a,_,c⟩,by rw[e,q];rfl⟩
 subst a1 a2 a3 a4 a5 q3 q5 q6 q4 q2
 refine⟨b,o,ks,ps,e1,?_,a6⟩
 exact zwv (o:=o+k*7) (i:=0) ag e2 (by rw[Cu];exact q1)
theorem qen:qd Tp 62=true:=by kernel_rfl
theorem qeo:qt Tp 62=7:=by kernel_rfl
theorem qdk:qd Tp 26=true:=by kernel_rfl
theorem qdl:qt Tp 26=4:=by kernel_rfl
theorem zdx{x y z w:Value}(B:Blk g b #[x,y,z,w]){k:Int}{s:Bt}{sk si:Sl}{K:za->Prop}(hK:∀g',(∀j,j≠b->g'[j]?=g[j]?)->g'.size=g.size->Blk g' b #[.int .i64 k,.string s,slV sk,slV si]->K g'):
  XRunU Tp (An 26 (.pointer (some ⟨b,0,none⟩)) (.agg #[.int .i64 k,.string s,slV sk,slV si])) g K:=by
 refine J6 (vs:=[.int .i64 k,.string s,slV sk,slV si]) qdk B rfl qdl (Ad _) (λu hu=>?_) λg' q1 q2 q3=>hK g' q3 q2 q1
 simp at hu;rcases hu with rfl|rfl|rfl|rfl <;> rfl
def We(t:Bs)(nodes:List Nd)(f:Nat)(x:Nd)(n:Nat):Tr:=.mk x.1 (bl (Jx x.1 (qq t x.2.1))) (if x.1=6 then(x.2.2.2.1.take n).map λc=>bl (zg3 t nodes c)else []) ((x.2.2.2.1.take n).map λc=>qw t nodes f c.toNat)
theorem zy0{nodes:List Nd}{x:Nd}(hx:nodes[k]?=some x):We t nodes f x x.2.2.2.1.length=qw t nodes (f+1) k:=by
 unfold We;rw[qw,hx,Bb]
theorem zuu{nodes:List Nd}{x:Nd}{n:Nat}(hn:n<x.2.2.2.1.length):We t nodes f x (n+1)=.mk x.1 (bl (Jx x.1 (qq t x.2.1))) (if x.1=6 then(We t nodes f x n).keys++[bl (zg3 t nodes x.2.2.2.1[n])]else(We t nodes f x n).keys) ((We t nodes f x n).items++[qw t nodes f x.2.2.2.1[n].toNat]):=by
 unfold We
 rw[AD hn,Cr,Cr]
 by_cases h6:x.1=6
 ·simp only[h6,if_true];rfl
 ·simp only[h6,if_false];rfl
section
variable {t : Bs} {nodes : List Nd} {lvs : List Nat} {gl : Fr}
theorem z7z{u v:Value}(B:Blk g b #[u,v]):ze g ⟨b,0,none⟩ 0 [u,v]:=B.ld (cs:=[u,v])
def qep(F:FuncId)(t:Bs)(nodes:List Nd)(gl:Fr)(k:Nat)(Z:List Value)(v:Tr):Prop:=
 ∀(h:za) (M:Fr) (ds:Sl),Fr.le gl M->AgM M h->Rd M (.row tNd) nodes [slV ds]->∀(K:Value->za->Prop),(∀(h':za) (bs:List Nat) (sk si:Sl),Keep h.size h h'->OT h' v bs (xj v sk si)->(∀b∈bs,h.size<=b)->K (.agg #[.int .i64 v.kind,.string v.text,slV sk,slV si]) h') ->
  XC Tp F ([Value.agg #[.string (bl t),slV ds],Ep .i64 (k:Int)]++Z).toArray h K
set_option maxRecDepth 100000 in
set_option maxHeartbeats 4000000 in
theorem zy1(hg:GL gl)(ht:t.length<=65536)(G:GoodN lvs nodes)(bM:∀x∈nodes,x.2.2.2.1.length<=200000):∀(f k l:Nat) (L:Int),lvs[k]?=some l->33-l<=f->1<=L->L<=(l:Int)->qep 59 t nodes gl k [.int .i64 L] (qw t nodes f k)
 |0,k,l,L,hl,hf,_,_=>by have:=G.lv k l hl;omega
 |f+1,k,l,L,hl,hf,hL1,hL2=>by
  intro h M ds hM ag rd K hK
  have bm:k<nodes.length:=by have:=(Av.1 hl).1;have:=G.len;omega
  have hx:nodes[k]?=some nodes[k]:=Ai bm
  have cJ:=G.lv k l hl
  have aO:=G.kid k l nodes[k] hx hl
  have bY:=bM _ (AL bm)
  generalize cz:nodes[k]=x at hx aO bY
  have c8:=(rowLen rd).1
  show XC Tp _ #[.agg #[.string (bl t),slV ds],.int .i64 (k:Int),.int .i64 L] h K
  apply zn1
  intro h1 h2
  have k1:Keep h.size h h1:=Keep.push _ _ (Ad _)
  have k2:Keep h1.size h1 h2:=Keep.push _ _ (Ad _)
  have z1:h1.size=h.size+1:=Ak _
  have z2:h2.size=h1.size+1:=Ak _
  have D1:Blk h1 h.size #[.string (bl t),slV ds]:=Blk.new _ _ _
  have R2:Blk h2 h1.size #[.int .i64 0,.string ⟨#[]⟩,.slice none 0 0,.slice none 0 0]:=Blk.new _ _ _
  clear_value h1 h2
  have bz:Keep h.size h h2:=k1.trans (c:=h2) (m:=h.size) ⟨k2.size,λj hj=>k2.get j (by omega)⟩ (Ad _)
  have D2:=D1.keep (k2.get h.size (by omega))
  have ck:=ag.keep bz
  obtain⟨nb,no,ks,ps,e1,e2,e3⟩:=qem ck rd bm
  rw[cz]at e2 e3
  have cB:=(rowLen e3).1
  refine⟨ds,by rw[qn];exact D2.cell rfl,_,⟨e1,by omega,by omega⟩,x.1,x.2.1.1,x.2.1.2,x.2.2.1.1,x.2.2.1.2,ks,ps,?_,?_⟩
  ·rw[qn,Ah];exact e2
  intro aV
  have bZ:Keep h2.size h2 aV:=Keep.push _ _ (Ad _)
  have cE:aV.size=h2.size+1:=Ak _
  have cy:Blk aV h2.size #[.int .i64 0,.int .i64 0,.int .i64 0,.int .i64 0,.int .i64 0,.slice none 0 0,.slice none 0 0]:=Blk.new _ _ _
  clear_value aV
  refine J6 (vs:=ndC (x,⟨ks,[],ps,[]⟩)) qen cy rfl qeo (Ad _) (zyq _) λZ ai cC cb=>?_
  have ai:Blk Z h2.size #[.int .i64 x.1,.int .i64 x.2.1.1,.int .i64 x.2.1.2,.int .i64 x.2.2.1.1,.int .i64 x.2.2.1.2,slV ks,slV ps]:=ai
  have ay:Keep h2.size h2 Z:=⟨by omega,λj hj=>(cb j (by omega)).trans (bZ.get j hj)⟩
  have aH:Keep h.size h Z:=bz.trans (c:=Z) (m:=h.size) ⟨ay.size,λj hj=>ay.get j (by omega)⟩ (Ad _)
  have bg:=D2.keep (ay.get h.size (by omega))
  have co:=R2.keep (ay.get h1.size (by omega))
  intro bD bE
  have bq:∀(vb:Nat) (aM:za),Z.size<=vb->Keep Z.size Z aM->Blk aM vb #[.int .i64 x.1,.string (bl (Jx x.1 (qq t x.2.1))),.slice none 0 0,.slice none 0 0]->bD ⟨vb,0,none⟩ aM:=by
   intro vb aM b8 br bC
   refine bE ⟨vb,0,none⟩ aM ?_
   have ca:=ai.keep (br.get h2.size (by omega))
   have cj:=bC.lt
   refine⟨ks,by rw[qn];exact ca.cell rfl,λi ae=>∃(n:Nat) (sk si:Sl),i=(n:Int)/\n<=x.2.2.2.1.length/\Own Z.size ae.size ae vb (We t nodes f x n) sk si/\Keep Z.size Z ae,λi _=>x.2.2.2.1.length-i.toNat,⟨0,⟨none,0,0⟩,⟨none,0,0⟩,rfl,by omega,?_,br⟩,?_⟩
   ·have e0:We t nodes f x 0=.mk x.1 (bl (Jx x.1 (qq t x.2.1))) [] []:=by unfold We;simp
    rw[e0]
    exact Own.new bC b8 (Ad _)
   rintro i ae ⟨n,sk,si,rfl,hn,ax,an⟩
   have bS:=ai.keep (an.get h2.size (by omega))
   have bn:=bg.keep (an.get h.size (by omega))
   have cm:=co.keep (an.get h1.size (by omega))
   have a7:Keep h.size h ae:=aH.trans (c:=ae) (m:=h.size) ⟨an.size,λj hj=>an.get j (by omega)⟩ (Ad _)
   have a6:=ag.keep a7
   have cZ:=an.size
   refine⟨λaE=>?_,λcu=>?_⟩
   ·have aE:n<x.2.2.2.1.length:=by have:=of_decide_eq_true aE;omega
    obtain⟨j,ej,cT,bi⟩:=aO _ (AL aE)
    have hj:j<nodes.length:=by have:=(Av.1 bi).1;have:=G.len;omega
    have cH:=G.lv j (l+1) bi
    obtain⟨ib,io,f1,f2⟩:=qdj a6 e3 aE
    rw[ej]at f2
    refine⟨ks,by rw[qn];exact bS.cell rfl,_,⟨f1,by omega,by omega⟩,(j:Int),by rw[qn,Ah];exact f2,ds,λ_=>by rw[qn];exact bn.cell rfl,?_⟩
    have hc:(bif (bif (decide ((j:Int)<0))then true else(decide ((j:Int)>=((ds.len:Nat):Int))))then true else(decide (L>32)))=false:=by
     rw[decide_eq_false (by omega),cond_false,decide_eq_false (by omega),cond_false,decide_eq_false (by omega)]
    rw[hc]
    refine⟨λh=>(by cases h),λ_=>?_⟩
    intro cc bu
    have bO:nodes[j]?=some nodes[j]:=Ai hj
    have bQ:zg3 t nodes x.2.2.2.1[n]=zu5 t nodes[j]:=by unfold zg3;rw[ej,Ah,bO]
    have aL:=zuu (t:=t) (nodes:=nodes) (f:=f) aE
    rw[bQ,ej,Ah]at aL
    have body:∀(aa:za) (ks':List Bt) (sk':Sl),ks'=(if x.1=6 then(We t nodes f x n).keys++[bl (zu5 t nodes[j])]else(We t nodes f x n).keys)->Own Z.size aa.size aa vb (.mk x.1 (bl (Jx x.1 (qq t x.2.1))) ks' (We t nodes f x n).items) sk' si->Keep Z.size Z aa->cc aa:=by
     intro aa ks' sk' cq a8 aQ
     refine bu aa ?_
     have cL:=aQ.size
     have cp:=bg.keep (aQ.get h.size (by omega))
     have bL:Keep h.size h aa:=aH.trans (c:=aa) (m:=h.size) ⟨aQ.size,λj hj=>aQ.get j (by omega)⟩ (Ad _)
     have aN:=a8.box.lt
     refine⟨si,by rw[qn];exact a8.box.cell rfl,bl t,ds,z7z cp,?_⟩
     rw[w64 (by omega)]
     refine zy1 hg ht G bM f j (l+1) (L+1) bi (by omega) (by omega) (by omega) aa M ds hM (ag.keep bL) rd _ λaS bw wk wi aY ow bh=>⟨_,_,_,_,rfl,?_⟩
     have cY:=aY.size
     refine⟨by rw[qn];exact aY.get vb aN,?_⟩
     intro am
     have aZ:Keep aS.size aS am:=Keep.push _ _ (Ad _)
     have cM:am.size=aS.size+1:=Ak _
     have cA:Blk am aS.size (xj (qw t nodes f j) wk wi).toArray:=Blk.new _ _ _
     clear_value am
     refine⟨by rw[qn];exact(aZ.get vb (by omega)).trans (aY.get vb aN),?_⟩
     have au:Keep aa.size aa am:=aY.trans (c:=am) (m:=aa.size) ⟨aZ.size,λj hj=>aZ.get j (by omega)⟩ (Ad _)
     have bI:Keep Z.size Z am:=aQ.trans (c:=am) (m:=Z.size) ⟨au.size,λj hj=>au.get j (by omega)⟩ (Ad _)
     have bH:(We t nodes f x n).items.length<=1000000:=by unfold We;simp;omega
     rw[qn]
     refine Own.item (a8.keep au) (by omega) bH cA (ow.frame λc hc=>aZ.get c (ow.lt c hc)) (λhm=>by have:=ow.lt _ hm;omega) (λc hc=>⟨by have:=bh c hc;omega,by have:=bh c hc;omega,bh c hc⟩) λg' s2 O' k' z'=>⟨⟨n+1,sk',s2,by rw[w64 (by omega)];omega,by omega,?_,bI.trans (c:=g') (m:=Z.size) k' (Ad _)⟩,?_⟩
     ·rw[aL,<-cq];exact O'
     ·show x.2.2.2.1.length-(Ab .i64 ((n:Int)+1)).toNat<x.2.2.2.1.length-(n:Int).toNat
      rw[w64 (by omega)];omega
    refine⟨x.1,by rw[qn];exact bS.cell rfl,λh6=>?_,λh6=>?_⟩
    ·have h6:x.1=6:=by simpa using h6
     have aG:=ax.box.lt
     refine⟨sk,by rw[qn];exact ax.box.cell rfl,bl t,ds,z7z bn,?_⟩
     refine(zyr hg ht (nodes:=nodes) (k:=j) bO (R:=λr=>r=bl (zu5 t nodes[j])) rfl).go hM a6 (jc (a:=Arg.mk zqt _) ⟨[.string (bl t),slV ds],rfl,[.string (bl t)],[slV ds],rfl,rfl,rd⟩ (jc (a:=Arg.mk (.int .i64) _) (Xv _ _) xb)) λv aT M' r Lt hv hr=>⟨r,qcz hv,?_⟩
     subst hr
     have aU:=Lt.keep
     have cP:=aU.size
     refine⟨by rw[qn];exact aU.get vb aG,?_⟩
     intro aj
     have be:Keep aT.size aT aj:=Keep.push _ _ (Ad _)
     have cF:aj.size=aT.size+1:=Ak _
     have bV:Blk aj aT.size #[.string (bl (zu5 t nodes[j]))]:=Blk.new _ _ _
     clear_value aj
     refine⟨by rw[qn];exact(be.get vb (by omega)).trans (aU.get vb aG),?_⟩
     have ar:Keep ae.size ae aj:=aU.trans (c:=aj) (m:=ae.size) ⟨be.size,λj hj=>be.get j (by omega)⟩ (Ad _)
     have bJ:Keep Z.size Z aj:=an.trans (c:=aj) (m:=Z.size) ⟨ar.size,λj hj=>ar.get j (by omega)⟩ (Ad _)
     have bP:(We t nodes f x n).keys.length<=1048576:=by unfold We;simp[h6];omega
     rw[qn]
     refine Own.key (ax.keep ar) (by omega) bP bV λg' s2 O' k' z'=>body g' _ s2 (by rw[if_pos h6]) O' (bJ.trans (c:=g') (m:=Z.size) k' (Ad _))
    ·have h6:¬x.1=6:=by simpa using h6
     exact body ae (We t nodes f x n).keys sk (by rw[if_neg h6]) ax an
   ·have cn:n=x.2.2.2.1.length:=by have:=of_decide_eq_false cu;omega
    subst cn
    have eN:=zy0 (t:=t) (f:=f) hx
    rw[eN]at ax
    refine⟨_,_,sk,si,ax.box.ld (cs:=xj _ sk si),?_⟩
    refine zdx cm λg2 f2 z2 B2=>⟨_,_,sk,si,B2.ld (cs:=[_,_,slV sk,slV si]),?_⟩
    obtain⟨bs,ot,bU⟩:=ax.ot
    refine hK g2 bs sk si (a7.trans (c:=g2) (m:=h.size) ⟨by omega,λj hj=>f2 j (by omega)⟩ (Ad _)) (ot.frame λc hc=>f2 c (by have:=(bU c hc).1;omega)) λc hc=>by have:=(bU c hc).1;omega
  have cV:=zds t x.2.1
  have bT:∀{g:za} {Q:Value->za->Prop},AgM M g->(∀g',Keep g.size g g'->Q (.string (bl (qq t x.2.1))) g')->XC Tp 31 #[.agg #[.string (bl t),slV ds],.agg #[.int .i64 x.2.1.1,.int .i64 x.2.1.2]] g Q:=λ {g Q} agg hQ=>by
   refine(zlu (gl:=gl) (t:=t) (nodes:=nodes) (p:=x.2.1) (R:=λr=>r=bl (qq t x.2.1)) rfl).go hM agg (jc (a:=Arg.mk zqt _) ⟨[.string (bl t),slV ds],rfl,[.string (bl t)],[slV ds],rfl,rfl,rd⟩ (jc (a:=Arg.mk tSp _) ⟨[.int .i64 x.2.1.1,.int .i64 x.2.1.2],rfl,_,_,rfl,rfl,rfl⟩ xb)) λv g' M' r L hv hr=>?_
   subst hr
   rw[qcz hv]
   exact hQ g' L.keep
  have bj:∀{g:za} {Q:Value->za->Prop},AgM M g->(∀g',Keep g.size g g'->Q (.string (bl (Jx x.1 (qq t x.2.1)))) g')->XC Tp 111 #[.int .i64 x.1,.string (bl (qq t x.2.1))] g Q:=λ {g Q} agg hQ=>by
   refine(z1w hg (k:=x.1) (t:=qq t x.2.1) (by omega) (R:=λr=>r=bl (Jx x.1 (qq t x.2.1))) rfl).go hM agg (jc (a:=Arg.mk (.int .i64) _) (Xv _ _) (jc (a:=Arg.mk .str _) (rdStr _) xb)) λv g' M' r L hv hr=>?_
   subst hr
   rw[qcz hv]
   exact hQ g' L.keep
  have ak:=ag.keep aH
  have af:∀(hh hA:za),Keep Z.size Z hh->Keep hh.size hh hA->Blk hA hh.size #[.int .i64 0,.string ⟨#[]⟩,.slice none 0 0,.slice none 0 0]->XRunU Tp (An 26 (.pointer (some ⟨hh.size,0,none⟩)) (.agg #[.int .i64 x.1,.string (bl (Jx x.1 (qq t x.2.1))),.slice none 0 0,.slice none 0 0])) hA (λg=>bD ⟨hh.size,0,none⟩ g):=λhh hA kh kA BA=>
   zdx (sk:=⟨none,0,0⟩) (si:=⟨none,0,0⟩) BA λg2 f2 z2 B2=>bq hh.size g2 kh.size (kh.trans (c:=g2) (m:=Z.size) ⟨by have:=kh.size;have:=kA.size;omega,λj hj=>by have:=kh.size;rw[f2 j (by omega)];exact kA.get j (by omega)⟩ (Ad _)) B2
  have hX:∀{g:za},Keep Z.size Z g->g[h2.size]?=Z[h2.size]?:=λk=>k.get h2.size (by omega)
  refine⟨x.1,by rw[qn];exact ai.cell rfl,x.1,by rw[qn];exact ai.cell rfl,bl t,ds,z7z bg,x.2.1.1,x.2.1.2,?_,bT ak λaI ab=>⟨_,rfl,by rw[qn];exact hX ab,by rw[qn];exact hX ab,bj (ak.keep ab) λah aB=>⟨_,rfl,?_,?_,?_⟩,?_⟩,?_⟩
  ·rw[qn];exact⟨by rw[qn];exact ai.cell rfl,by rw[qn];exact ai.cell rfl,trivial⟩
  ·rw[qn]
   exact hX (ab.trans (c:=ah) (m:=Z.size) ⟨aB.size,λj hj=>aB.get j (by have:=ab.size;omega)⟩ (Ad _))
  ·intro cd
   have kk:Keep Z.size Z ah:=ab.trans (c:=ah) (m:=Z.size) ⟨aB.size,λj hj=>aB.get j (by have:=ab.size;omega)⟩ (Ad _)
   exact af ah cd kk (Keep.push _ _ (Ad _)) (Blk.new _ _ _)
  ·intro bA
   have kk:Keep Z.size Z ah:=ab.trans (c:=ah) (m:=Z.size) ⟨aB.size,λj hj=>aB.get j (by have:=ab.size;omega)⟩ (Ad _)
   have bG:Keep ah.size ah bA:=Keep.push _ _ (Ad _)
   refine⟨by rw[qn];exact(bG.get h2.size (by have:=kk.size;omega)).trans (hX kk),?_⟩
   exact af ah bA kk bG (Blk.new _ _ _)
  ·intro aC
   have ba:Keep aI.size aI aC:=Keep.push _ _ (Ad _)
   have cG:aC.size=aI.size+1:=Ak _
   have b9:Blk aC aI.size #[.int .i64 0,.string ⟨#[]⟩,.slice none 0 0,.slice none 0 0]:=Blk.new _ _ _
   clear_value aC
   have c7:=ab.size
   have aA:Keep Z.size Z aC:=ab.trans (c:=aC) (m:=Z.size) ⟨ba.size,λj hj=>ba.get j (by omega)⟩ (Ad _)
   refine⟨by rw[qn];exact hX aA,by rw[qn];exact hX aA,bj (ak.keep aA) λbo aP=>⟨_,rfl,?_,?_⟩⟩
   ·rw[qn]
    exact hX (aA.trans (c:=bo) (m:=Z.size) ⟨aP.size,λj hj=>aP.get j (by omega)⟩ (Ad _))
   ·exact af aI bo ab ⟨by have:=aP.size;omega,λj hj=>by rw[aP.get j (by omega)];exact ba.get j hj⟩ (b9.keep (aP.get _ (by omega)))
  ·intro a1
   have ap:Keep Z.size Z a1:=Keep.push _ _ (Ad _)
   have cO:a1.size=Z.size+1:=Ak _
   have cg:Blk a1 Z.size #[.int .i64 0,.string ⟨#[]⟩,.slice none 0 0,.slice none 0 0]:=Blk.new _ _ _
   clear_value a1
   refine⟨by rw[qn];exact hX ap,ap.get h.size (by omega),by rw[qn];exact hX ap,by rw[qn];exact hX ap,bT (ak.keep ap) λbB aJ=>⟨_,rfl,?_⟩⟩
   have cQ:=aJ.size
   have az:Keep Z.size Z bB:=ap.trans (c:=bB) (m:=Z.size) ⟨aJ.size,λj hj=>aJ.get j (by omega)⟩ (Ad _)
   refine⟨by rw[qn];exact hX az,by rw[qn];exact hX az,bj (ak.keep az) λbF aF=>⟨_,rfl,?_,?_⟩⟩
   ·rw[qn]
    exact hX (az.trans (c:=bF) (m:=Z.size) ⟨aF.size,λj hj=>aF.get j (by omega)⟩ (Ad _))
   ·exact af Z bF (Keep.refl _ _) ⟨by have:=aF.size;omega,λj hj=>by rw[aF.get j (by omega),aJ.get j (by omega)];exact ap.get j hj⟩ ((cg.keep (aJ.get _ (by omega))).keep (aF.get _ (by omega)))
end
end
section
variable {n bv cv:Nat} {t el ty:TypeId} {zv:Value} {ks:Sl} {K:Value -> za -> Prop}
theorem NS.cell{lo:Nat}{g:za}{M:Fr}{na:NA}{sl:Sl}{b:Nat}{cs:Array Value}(H:NS lo g M na sl b cs)(hn:n<na.length):sl.a=some ⟨b,0,none⟩/\Blk g b cs/\sl.cap≠0/\n*7+7<=cs.size/\∀(q:Nat) (v:Value),q<7->(ndC na[n])[q]?=some v->zd g ⟨b,n*7+q,none⟩=some v:=by
 have Z:na.map ndC≠[]:=λh=>by rw[List.map_eq_nil_iff]at h;rw[h]at hn;simp at hn
 obtain⟨h1,h2⟩:=H.cr.blk Z
 obtain⟨h3,h4⟩:=H.cr.el n (ndC na[n]) (by rw[BS,Ai hn];rfl)
 refine⟨h1,h2,by have:=H.len;have:=H.cr.ro.le;omega,by omega,λq v hq hv=>h2.cell ?_⟩
 have:=zst h4 hq
 rw[hv]at this
 rw[<-this,Bw]
def axK(k:Int)(s':Sl)(Z:List Nat)(p:Nd×Ax):Nd×Ax:=((p.1.1,p.1.2.1,p.1.2.2.1,p.1.2.2.2.1++[k],p.1.2.2.2.2),⟨s',Z,p.2.ps,p.2.pb⟩)
def axP(k:Sp)(s':Sl)(Z:List Nat)(p:Nd×Ax):Nd×Ax:=((p.1.1,p.1.2.1,p.1.2.2.1,p.1.2.2.2.1,p.1.2.2.2.2++[k]),⟨p.2.ks,p.2.kb,s',Z⟩)
def axT(t:Int)(p:Nd×Ax):Nd×Ax:=(z6t t p.1,p.2)
theorem zbh{f:Nd×Ax->Nd×Ax}{f':Nd->Nd}(h:∀p,(f p).1=f' p.1)(na:NA)(n:Nat):(na.modify n f).map (·.1)=(na.map (·.1)).modify n f':=by
 apply Bm
 intro i
 rw[BS,BM,BM,BS]
 cases na[i]? with
 |none=>rfl
 |some p=>by_cases e:n=i <;> simp[e,h]
structure NSt (lo:Nat) (g:za) (M:Fr) (na:NA) (sl:Sl) (b:Nat) (g':za) (na':NA) (cs':Array Value):Prop where
 ns:NS lo g' M na' sl b cs'
 le:g.size<=g'.size
 sub:∀c,nsO na' sl b c->nsO na sl b c\/g.size<=c
 fr:∀j,j<g.size->¬nsO na sl b j->g'[j]?=g[j]?
section
variable {lo : Nat} {g : za} {M : Fr} {na : NA} {sl : Sl} {b : Nat} {cs : Array Value}
theorem NS.addK{bytes:Nat}(E:ElemT Tp t el zv (sz (.int .i64)) bytes)(ai:bytes<=1000)(ag:AgM M g)(ah:lo<=g.size)(H:NS lo g M na sl b cs)(hn:n<na.length){k:Int}(hv:Blk g bv #[.int .i64 k])(hb:na[n].1.2.2.2.1.length<=1000000)(ak:na[n].2.ks=ks)
  (hK:∀(s':Sl) (g1:za) (Z:List Nat),Blk g1 b cs->g.size<=g1.size->(∀j,j<g.size->¬nsO na sl b j->g1[j]?=g[j]?)->(∀g2:za,Blk g2 b (cs.setIfInBounds (n*7+5) (slV s'))->g2.size=g1.size->(∀j,j≠b->g2[j]?=g1[j]?)->NSt lo g M na sl b g2 (na.modify n (axK k s' Z)) (cs.setIfInBounds (n*7+5) (slV s')))->K (.slice s'.a s'.len s'.cap) g1):
  XRun Tp (AB #[t,t] ty #[.slice ks.a ks.len ks.cap,.slice (some ⟨bv,0,none⟩) 1 cv]) g K:=by
 subst ak
 obtain⟨h1,h2,h3,h4,h5⟩:=H.cell hn
 have hm:=AL hn
 have I:=H.nd _ hm
 have aj:=(H.lb h3).2.1
 refine ORow.app E ai ag I.kk ah hv rfl hb λs' g1 Z o1 z1 c1 f1=>?_
 have af:b∉na[n].2.kb:=λh=>H.nb _ hm (.inl h)
 have ae:b∉Z:=λh=>by
  rcases c1 b h with h|h
  ·exact af h
  ·omega
 refine hK s' g1 Z (h2.keep (f1 b aj af)) z1 (λj hj aa=>f1 j hj λh=>aa (.inr ⟨_,hm,.inl h⟩)) λg2 B2 z2 f2=>?_
 have ab:∀j,j<g.size->j≠b->¬axO na[n] j->g2[j]?=g[j]?:=λj hj h1 h2=>by rw[f2 j h1,f1 j hj λh=>h2 (.inl h)]
 have q1:NdI lo g2 M (axK k s' Z na[n]):=by
  refine⟨?_,?_,?_⟩
  ·exact o1.frame (λc hc=>f2 c λe=>ae (e ▸ hc)) (Fr.le.refl _) λc hc=>(o1.own c hc).2.2
  ·exact I.pp.frame (λc hc=>by have:=(I.pp.own c hc).2.1;rw[f2 c λe=>H.nb _ hm (.inr (e ▸ hc))];exact f1 c this λh=>I.dd c h hc) (Fr.le.refl _) λc hc=>(I.pp.own c hc).2.2
  ·intro c hc hp
   rcases c1 c hc with h|h
   ·exact I.dd c h hp
   ·have:=(I.pp.own c hp).2.1;omega
 have q2:∀c,axO (axK k s' Z na[n]) c->axO na[n] c\/g.size<=c:=by
  intro c hc
  rcases hc with hc|hc
  ·rcases c1 c hc with h|h
   ·exact .inl (.inl h)
   ·exact .inr h
  ·exact .inl (.inr hc)
 obtain⟨N,ow⟩:=H.upd hn (f:=axK k s' Z) (q:=5) (v:=slV s') (by omega) B2 (by omega) rfl q1 q2 ab
 exact⟨N,by omega,ow,λj hj aa=>ab j hj (λe=>aa (.inl ⟨h3,e⟩)) λh=>aa (.inr ⟨_,hm,h⟩)⟩
theorem NS.addP{bytes:Nat}(E:ElemT Tp t el zv (sz tSp) bytes)(ai:bytes<=1000)(ag:AgM M g)(ah:lo<=g.size)(H:NS lo g M na sl b cs)(hn:n<na.length){k:Sp}(hv:Blk g bv #[.int .i64 k.1,.int .i64 k.2])(hb:na[n].1.2.2.2.2.length<=1000000)(ak:na[n].2.ps=ks)
  (hK:∀(s':Sl) (g1:za) (Z:List Nat),Blk g1 b cs->g.size<=g1.size->(∀j,j<g.size->¬nsO na sl b j->g1[j]?=g[j]?)->(∀g2:za,Blk g2 b (cs.setIfInBounds (n*7+6) (slV s'))->g2.size=g1.size->(∀j,j≠b->g2[j]?=g1[j]?)->NSt lo g M na sl b g2 (na.modify n (axP k s' Z)) (cs.setIfInBounds (n*7+6) (slV s')))->K (.slice s'.a s'.len s'.cap) g1):
  XRun Tp (AB #[t,t] ty #[.slice ks.a ks.len ks.cap,.slice (some ⟨bv,0,none⟩) 1 cv]) g K:=by
 subst ak
 obtain⟨h1,h2,h3,h4,h5⟩:=H.cell hn
 have hm:=AL hn
 have I:=H.nd _ hm
 have aj:=(H.lb h3).2.1
 refine ORow.app E ai ag I.pp ah hv ⟨_,_,rfl,rfl,rfl⟩ hb λs' g1 Z o1 z1 c1 f1=>?_
 have af:b∉na[n].2.pb:=λh=>H.nb _ hm (.inr h)
 have ae:b∉Z:=λh=>by
  rcases c1 b h with h|h
  ·exact af h
  ·omega
 refine hK s' g1 Z (h2.keep (f1 b aj af)) z1 (λj hj aa=>f1 j hj λh=>aa (.inr ⟨_,hm,.inr h⟩)) λg2 B2 z2 f2=>?_
 have ab:∀j,j<g.size->j≠b->¬axO na[n] j->g2[j]?=g[j]?:=λj hj h1 h2=>by rw[f2 j h1,f1 j hj λh=>h2 (.inr h)]
 have q1:NdI lo g2 M (axP k s' Z na[n]):=by
  refine⟨?_,?_,?_⟩
  ·exact I.kk.frame (λc hc=>by have:=(I.kk.own c hc).2.1;rw[f2 c λe=>H.nb _ hm (.inl (e ▸ hc))];exact f1 c this λh=>I.dd c hc h) (Fr.le.refl _) λc hc=>(I.kk.own c hc).2.2
  ·exact o1.frame (λc hc=>f2 c λe=>ae (e ▸ hc)) (Fr.le.refl _) λc hc=>(o1.own c hc).2.2
  ·intro c hp hc
   rcases c1 c hc with h|h
   ·exact I.dd c hp h
   ·have:=(I.kk.own c hp).2.1;omega
 have q2:∀c,axO (axP k s' Z na[n]) c->axO na[n] c\/g.size<=c:=by
  intro c hc
  rcases hc with hc|hc
  ·exact .inl (.inl hc)
  ·rcases c1 c hc with h|h
   ·exact .inl (.inr h)
   ·exact .inr h
 obtain⟨N,ow⟩:=H.upd hn (f:=axP k s' Z) (q:=6) (v:=slV s') (by omega) B2 (by omega) rfl q1 q2 ab
 exact⟨N,by omega,ow,λj hj aa=>ab j hj (λe=>aa (.inl ⟨h3,e⟩)) λh=>aa (.inr ⟨_,hm,h⟩)⟩
theorem NS.toB(H:NS lo g M na sl b cs)(hn:n<na.length){x:Int}{g2:za}(B2:Blk g2 b (cs.setIfInBounds (n*7+2) (.int .i64 x)))(z2:g2.size=g.size)(f2:∀j,j≠b->g2[j]?=g[j]?):NSt lo g M na sl b g2 (na.modify n (axT x)) (cs.setIfInBounds (n*7+2) (.int .i64 x)):=by
 obtain⟨h1,h2,h3,h4,h5⟩:=H.cell hn
 have hm:=AL hn
 have I:=H.nd _ hm
 have q1:NdI lo g2 M (axT x na[n]):=by
  refine⟨?_,?_,I.dd⟩
  ·exact I.kk.frame (λc hc=>f2 c λe=>H.nb _ hm (.inl (e ▸ hc))) (Fr.le.refl _) λc hc=>(I.kk.own c hc).2.2
  ·exact I.pp.frame (λc hc=>f2 c λe=>H.nb _ hm (.inr (e ▸ hc))) (Fr.le.refl _) λc hc=>(I.pp.own c hc).2.2
 obtain⟨N,ow⟩:=H.upd hn (f:=axT x) (q:=2) (v:=.int .i64 x) (by omega) B2 (by omega) rfl q1 (λc hc=>.inl hc) λj hj h1 h2=>f2 j h1
 exact⟨N,by omega,ow,λj hj Z=>f2 j λe=>Z (.inl ⟨h3,e⟩)⟩
end
end
section
variable {J O O':Nat -> Prop} {g g':za} {lo bp:Nat} {M:Fr} {s:Bs} {a e:Int}
structure StJ (J:Nat->Prop) (g:za) (O:Nat->Prop) (g':za) (O':Nat->Prop):Prop where
 le:g.size<=g'.size
 sub:∀c,O' c->O c\/g.size<=c
 fr:∀j,j<g.size->¬O j->¬J j->g'[j]?=g[j]?
theorem Stp.j{J:Nat->Prop}{g g':za}{O O':Nat->Prop}(S:Stp g O g' O'):StJ J g O g' O':=⟨S.le,S.sub,λj h1 h2 _=>S.fr j h1 h2⟩
theorem StJ.trans{g g' aa:za}{O O' Z:Nat->Prop}(a:StJ J g O g' O')(b:StJ J g' O' aa Z):StJ J g O aa Z:=by
 have:=a.le;have:=b.le
 refine⟨by omega,λc h=>?_,λj hj hn hJ=>?_⟩
 ·rcases b.sub c h with h|h
  ·exact a.sub c h
  ·exact .inr (by omega)
 ·rw[b.fr j (by omega) (λh=>?_) hJ]
  ·exact a.fr j hj hn hJ
  ·rcases a.sub j h with h|h
   ·exact hn h
   ·omega
def Apt(J:Nat->Prop)(g:za)(O:Nat->Prop):Prop:=∀j,J j->j<g.size/\¬O j
theorem Apt.step{J D:Nat->Prop}(h:Apt D g O)(S:StJ J g O g' O'):Apt D g' O':=λj hj=>by
 obtain⟨h1,h2⟩:=h j hj
 have:=S.le
 refine⟨by omega,λho=>?_⟩
 rcases S.sub j ho with h|h
 ·exact h2 h
 ·omega
def Ans(r:PR PSt)(b:Bool)(st':PSt)(a e:Int):Prop:=match r with
 |.inl t=>b=true/\st'=t
 |.inr x=>b=false/\x=(a,e)
def qd3(r:PR (List Bs×PSt))(b:Bool)(σ:List Bs)(st':PSt)(a e:Int):Prop:=match r with
 |.inl t=>b=true/\t=(σ,st')
 |.inr x=>b=false/\x=(a,e)
def qbg(g:za)(bp:Nat):Nat:=match zd g ⟨bp,1,none⟩with
 |some (.slice _ n _)=>n
 |_=>0
theorem PaS.restLen{st:PSt}(H:PaS lo g M bp s st a e O):qbg g bp=st.rest.length:=by
 obtain⟨rs,lf,na,sl,b,cs,W,h1,rfl⟩:=H
 unfold qbg
 rw[W.blk.cell (o:=1) (v:=slV rs) rfl]
 exact(rowLen W.rd).1
theorem PW.nst{rest:List Tk}{last a e:Int}{rs:Sl}{lf:Int}{na na':NA}{sl:Sl}{b:Nat}{cs cs':Array Value}(W:PW lo g M bp s rest last a e rs lf na sl b cs)(N:NSt lo g M na sl b g' na' cs'):PW lo g' M bp s rest last a e rs lf na' sl b cs'/\Stp g (ppO bp na sl b) g' (ppO bp na' sl b):=by
 refine⟨⟨W.blk.keep (N.fr bp W.blk.lt W.nb),W.rd,N.ns,zoj W.ag λj hj hm=>N.fr j hj λh=>hm (W.ns.own h).2.2,W.bl,λh=>?_⟩,N.le,λc h=>?_,λj hj hn=>N.fr j hj λh=>hn (.inr h)⟩
 ·rcases N.sub bp h with h|h
  ·exact W.nb h
  ·have:=W.blk.lt;omega
 ·rcases h with h|h
  ·exact .inl (.inl h)
  ·rcases N.sub c h with h|h
   ·exact .inl (.inr h)
   ·exact .inr h
theorem qdm:ElemT Tp 59 3 (.int .i64 0) (sz (.int .i64)) 8:=⟨by kernel_rfl,⟨Tryz.t3,by kernel_rfl,by kernel_rfl,by kernel_rfl,by kernel_rfl⟩,rfl,by decide⟩
theorem qdn:ElemT Tp 60 58 (.agg #[.int .i64 0,.int .i64 0]) (sz tSp) 16:=⟨by kernel_rfl,⟨Tryz.t58,by kernel_rfl,by kernel_rfl,by kernel_rfl,by kernel_rfl⟩,rfl,by decide⟩
theorem qeq:qd Tp 59=true:=by kernel_rfl
theorem qer:qt Tp 59=1:=by kernel_rfl
theorem qes:qd Tp 60=true:=by kernel_rfl
theorem qet:qt Tp 60=1:=by kernel_rfl
def qd4(lo:Nat)(M:Fr)(bp:Nat)(s:Bs)(F:FuncId)(A C:Array Value)(lv:Int)(kid:zjo)(HI:List Bs->za->Prop)(J D:Nat->Prop):Prop:=
 ∀(σ:List Bs) (g:za) (st:PSt) (a e:Int) (O:Nat->Prop),PaS lo g M bp s st a e O->HI σ g->Apt D g O->st.nodes.length<=4096->st.T<=200000->(∀t∈st.rest,TkW s t) ->
  ∀K:Value->za->Prop,(∀b g' st' a' e' O' σ',PaS lo g' M bp s st' a' e' O'->StJ J g O g' O'->st.nodes.length<=st'.nodes.length->(b=true->HI σ' g')->qd3 (kid σ st) b σ' st' a' e'->K (.bool b) g')->XC Tp F (A++#[.int .i64 lv]++C) g K
section
variable {lo : Nat} {g : za} {M : Fr} {bp : Nat} {s : Bs} {st : PSt} {a e : Int} {O J D : Nat -> Prop} {K : Value -> za -> Prop} {HI : List Bs -> za -> Prop} {kid : zjo} {F : FuncId} {A C : Array Value}
set_option maxRecDepth 100000 in
set_option maxHeartbeats 4000000 in
theorem zy2(aN:∀σ g g',HI σ g->(∀j,D j->g'[j]?=g[j]?)->HI σ g'){ap lv:Int}(bA:Ab .i64 (ap+1)=lv)(hk:qd4 lo M bp s F A C lv kid HI J D)(aM:zul kid)(hF:zp Tp F=true)
  {closing:Int} (hc:closing≠0) (H:PaS lo g M bp s st a e O) (h0:HI [] g) (hJ:Apt D g O) (h4:st.nodes.length<=4096) (hT:st.T<=200000) (hw:∀t∈st.rest,TkW s t) {n:Nat} (hn:n<st.nodes.length)
  (hK:∀b g' st' a' e' O',PaS lo g' M bp s st' a' e' O'->StJ J g O g' O'->st.nodes.length<=st'.nodes.length->Ans (Wb s n closing kid st) b st' a' e'->K (.bool b) g'):
  XC Tp 117 #[.pointer (some ⟨bp,0,none⟩),.int .i64 (n:Int),.int .i64 ap,.int .i64 closing,.func (.func F) A C] g K:=by
 apply za9
 refine zff H hc (λhy g1 P1 S1=>⟨true,rfl,λ_=>?_,λh=>(by cases h)⟩) (λbh=>⟨false,rfl,λh=>(by cases h),λ_=>?_⟩)
 ·refine hK true g1 st.skip a e O P1 S1.j (by rw[yi];exact Ad _) ?_
  unfold Wb;rw[if_pos hy];exact⟨rfl,rfl⟩
 refine⟨λg'=>∃(f:Nat) (σ:List Bs) (st':PSt) (a' e':Int) (O':Nat->Prop),PaS lo g' M bp s st' a' e' O'/\HI σ g'/\Apt D g' O'/\StJ J g O g' O'/\Okk st st' 0/\st'.rest.length<f/\Wb s n closing kid st=Yz s n closing kid f σ st',λg'=>qbg g' bp,⟨st.rest.length+1,[],st,a,e,O,H,h0,hJ,(Stp.refl g O).j,Okk.refl st,by omega,by unfold Wb;rw[if_neg bh]⟩,?_⟩
 rintro h6 ⟨f,σ,Z,a1,e1,O1,P1,I1,J1,S1,ab,hf,hL⟩
 obtain⟨f,rfl⟩:∃f',f=f'+1:=⟨f-1,by omega⟩
 have bG:n<Z.nodes.length:=by have:=ab.n;omega
 have aU:Z.nodes.length<=4096:=ab.m h4
 have bC:Z.T<=200000:=by have:=ab.t;omega
 have aY:=P1.restLen
 have bF:=P1
 obtain⟨bS,bO,bV,aO,b1,bY,W1,bE,_⟩:=bF
 have l1:aO.len=Z.nodes.length:=by rw[W1.ns.len,<-bE,A0]
 refine⟨_,rfl,Z.last,by rw[qn,qn];exact W1.blk.cell rfl,_,rfl,aO,by rw[qn];exact W1.blk.cell rfl,hF,?_⟩
 rw[bA,l1]
 refine hk σ h6 Z a1 e1 O1 P1 I1 J1 aU bC (λt ht=>hw t (ab.w t ht)) _ λb g2 aa a2 e2 O2 σ2 P2 S2 n2 I2 A2=>⟨b,rfl,λhb=>?_,λhb=>?_⟩
 ·have hb:b=false:=by simpa using hb
  subst hb
  refine hK false g2 aa a2 e2 O2 P2 (S1.trans S2) (by have:=ab.n;omega) ?_
  rw[hL,Yz]
  cases hr:kid σ Z with
  |inl t=>rw[hr]at A2;exact absurd A2.1 (by simp)
  |inr x=>rw[hr]at A2;exact⟨rfl,A2.2⟩
 have hb:b=true:=by simpa using hb
 subst hb
 have hr:kid σ Z=.inl (σ2,aa):=by
  cases hr:kid σ Z with
  |inl t=>rw[hr]at A2;rw[A2.2]
  |inr x=>rw[hr]at A2;exact absurd A2.1 (by simp)
 have ok2:=aM _ _ _ _ hr
 have I2:=I2 rfl
 have J2:=J1.step S2
 rw[Yz,hr]at hL
 dsimp only at hL
 have a6:=P2
 obtain⟨rs,lf,na,sl,b,cs,W,h1,rfl⟩:=a6
 have bH:na.length=aa.nodes.length:=by rw[<-h1,A0]
 have az:n<na.length:=by omega
 obtain⟨q1,q2,q3,q4,q5⟩:=W.ns.cell az
 have br:ndW na[n].1<=200000:=by
  have h:na[n].1∈aa.nodes:=by rw[<-h1];exact List.mem_map_of_mem (AL az)
  have:=z6u h;have:=ok2.t;omega
 unfold ndW at br
 refine⟨_,rfl,sl,by rw[qn];exact W.blk.cell rfl,⟨b,0,none⟩,⟨q1,by omega,by have:=W.ns.len;omega⟩,⟨b,n*7,none⟩,by rw[qn,Ah,Ay],na[n].2.ks,?_,?_⟩
 ·rw[qn];exact q5 5 _ (by omega) rfl
 intro ai
 have aB:Keep g2.size g2 ai:=Keep.push _ _ (Ad _)
 have bP:ai.size=g2.size+1:=Ak _
 have ba:Blk ai g2.size #[.int .i64 (Z.nodes.length:Int)]:=Blk.new _ _ _
 clear_value ai
 have bm:NSt lo g2 M na sl b ai na cs:=⟨W.ns.frame aB.size λc hc=>aB.get c (W.ns.own hc).2.1,aB.size,λc h=>.inl h,λj hj _=>aB.get j hj⟩
 obtain⟨aA,aZ⟩:=W.nst bm
 have aS:lo<=ai.size:=by have:=(aA.own (.inl rfl));omega
 refine NS.addK qdm (by omega) aA.ag aS aA.ns az ba (by omega) rfl λs' bL an bi bT bJ bj=>⟨s',rfl,⟨b,n*7,none⟩,by rw[qn,Ah,Ay],?_⟩
 rw[qn]
 refine xh qeq qer bi (by omega) rfl λae u1 u2 u3=>?_
 obtain⟨ah,a8⟩:=aA.nst (bj ae u1 u2 u3)
 have aF:n<(na.modify n (axK (Z.nodes.length:Int) s' an)).length:=by rw[List.length_modify];exact az
 have aJ:(na.modify n (axK (Z.nodes.length:Int) s' an))[n]=axK (Z.nodes.length:Int) s' an na[n]:=by rw[List.getElem_modify,if_pos rfl]
 obtain⟨r1,r2,r3,r4,r5⟩:=ah.ns.cell aF
 rw[aJ]at r5
 refine⟨⟨b,n*7,none⟩,by rw[qn,Ah,Ay],na[n].2.ps,?_,?_⟩
 ·rw[qn];exact r5 6 _ (by omega) rfl
 have bB:PaS lo ae M bp s ⟨aa.rest,aa.last,(na.modify n (axK (Z.nodes.length:Int) s' an)).map (·.1)⟩ a2 e2 _:=⟨_,_,_,_,_,_,ah,rfl,rfl⟩
 refine zyz bB ⟨_,rfl,rfl,rfl,?_⟩
 intro af
 have aj:Keep ae.size ae af:=Keep.push _ _ (Ad _)
 have bM:af.size=ae.size+1:=Ak _
 have bz:Blk af ae.size #[.int .i64 Z.last,.int .i64 (aa.here s.length)]:=Blk.new _ _ _
 clear_value af
 have aV:=(ah.ns.own (.inl ⟨r3,rfl⟩)).2.1
 refine⟨by rw[qn];exact aj.get b aV,?_⟩
 have bn:NSt lo ae M _ sl b af _ _:=⟨ah.ns.frame aj.size λc hc=>aj.get c (ah.ns.own hc).2.1,aj.size,λc h=>.inl h,λj hj _=>aj.get j hj⟩
 obtain⟨ay,bg⟩:=ah.nst bn
 have aP:lo<=af.size:=by have:=(ay.own (.inl rfl));omega
 refine NS.addP qdn (by omega) ay.ag aP ay.ns aF (k:=(Z.last,aa.here s.length)) bz (by rw[aJ];show na[n].1.2.2.2.2.length<=_;omega) (by rw[aJ];rfl) λs2 bU bo a7 bI bQ aQ=>⟨s2,rfl,⟨b,n*7,none⟩,by rw[qn,Ah,Ay],?_⟩
 rw[qn]
 refine xh qes qet a7 (by omega) rfl λar v1 v2 v3=>?_
 obtain⟨bq,be⟩:=ay.nst (aQ ar v1 v2 v3)
 have au:((na.modify n (axK (Z.nodes.length:Int) s' an)).modify n (axP (Z.last,aa.here s.length) s2 bo)).map (·.1)=(aa.addKid n (Z.nodes.length:Int) (Z.last,aa.here s.length)).nodes:=by
  rw[zbh (f':=λx=>(x.1,x.2.1,x.2.2.1,x.2.2.2.1,x.2.2.2.2++[(Z.last,aa.here s.length)])) (λp=>rfl),zbh (f':=λx=>(x.1,x.2.1,x.2.2.1,x.2.2.2.1++[(Z.nodes.length:Int)],x.2.2.2.2)) (λp=>rfl),h1]
  unfold PSt.addKid
  apply Bm
  intro i
  rw[BM,BM,BM]
  cases aa.nodes[i]? with
  |none=>rfl
  |some x=>by_cases e:n=i <;> simp[e,zxu]
 have aH:PaS lo ar M bp s (aa.addKid n (Z.nodes.length:Int) (Z.last,aa.here s.length)) a2 e2 _:=⟨_,_,_,_,_,_,bq,au,rfl⟩
 have ak:=((aZ.trans a8).trans bg).trans be
 have bu:HI σ2 ar:=aN σ2 g2 ar I2 λj hj=>ak.fr j (J2 j hj).1 (J2 j hj).2
 have aL:=J2.step (ak.j (J:=J))
 have aT:=Y0 aa n (Z.nodes.length:Int) (Z.last,aa.here s.length)
 have ax:(aa.addKid n (Z.nodes.length:Int) (Z.last,aa.here s.length)).kind=aa.kind:=rfl
 have bD:(aa.addKid n (Z.nodes.length:Int) (Z.last,aa.here s.length)).here s.length=aa.here s.length:=rfl
 have am:=(S1.trans S2).trans ak.j
 have aE:st.nodes.length<=(aa.addKid n (Z.nodes.length:Int) (Z.last,aa.here s.length)).nodes.length:=by have:=ab.n;have:=ok2.n;omega
 refine zff aH hc (λhy g' P' S'=>⟨true,rfl,λ_=>?_,λh=>(by cases h)⟩) (λaC=>⟨false,rfl,λh=>(by cases h),λ_=>?_⟩)
 ·refine hK true g' _ _ _ _ P' (am.trans S'.j) (by rw[yi];exact aE) ?_
  rw[ax]at hy
  rw[hL,if_pos hy];exact⟨rfl,rfl⟩
 rw[ax]at aC
 rw[if_neg aC]at hL
 refine zff aH (by omega) (λhy g' P' S'=>⟨true,rfl,λh=>(by simp at h),λ_=>?_⟩) (λaG=>⟨false,rfl,λ_=>?_,λh=>(by simp at h)⟩)
 ·rw[ax]at hy
  rw[if_pos hy]at hL
  have aI:=zdr aM hr (n:=n) (k:=(Z.nodes.length:Int)) (p:=(Z.last,aa.here s.length)) (PSt.ne_kind hy (by omega))
  refine⟨⟨f,σ2,_,_,_,_,P',aN σ2 ar g' bu (λj hj=>S'.fr j (aL j hj).1 (aL j hj).2),aL.step (S'.j (J:=J)),am.trans S'.j,(ab.trans aI).le (by omega),?_,hL⟩,?_⟩
  ·have:=aI.r;omega
  ·have e1:=P'.restLen
   have:=aI.r
   show qbg g' bp<qbg h6 bp
   rw[e1,aY];omega
 ·rw[ax]at aG
  rw[if_neg aG]at hL
  refine Jz aH λg' P' S'=>⟨false,rfl,hK false g' _ _ _ _ P' (am.trans S'.j) aE ?_⟩
  rw[hL];exact⟨rfl,by rw[bD]⟩
end
end
section
variable {k b c:Nat} {ls:Sl} {cs:Array Value} {g':za}
def rpC(s:Bs)(ls:Sl)(k:Nat)(sl:Sl)(a e:Int):List Value:=[.string (bl s),slV ls,.int .i64 (k:Int),slV sl,.int .i64 a,.int .i64 e]
structure RW (lo:Nat) (g:za) (M:Fr) (bp:Nat) (s:Bs) (l:List Tk) (k:Nat) (a e:Int) (ls:Sl) (na:NA) (sl:Sl) (b:Nat) (cs:Array Value):Prop where
 blk:Blk g bp (rpC s ls k sl a e).toArray
 rd:Rd M (.row tTk) l [slV ls]
 ns:NS lo g M na sl b cs
 ag:AgM M g
 bl:lo<=bp/\M bp=none
 nb:¬nsO na sl b bp
structure AtK (l:List Tk) (k:Nat) (st:PSt):Prop where
 rest:st.rest=l.drop k
 le:k<=l.length
 last:∀t,0<k->l[k-1]?=some t->st.last=t.2.2
def RS(lo:Nat)(g:za)(M:Fr)(bp:Nat)(s:Bs)(l:List Tk)(st:PSt)(a e:Int)(O:Nat->Prop):Prop:=
 ∃(ls:Sl) (k:Nat) (na:NA) (sl:Sl) (b:Nat) (cs:Array Value),RW lo g M bp s l k a e ls na sl b cs/\AtK l k st/\na.map (·.1)=st.nodes/\O=ppO bp na sl b
theorem RW.own{lo:Nat}{g:za}{M:Fr}{bp:Nat}{s:Bs}{l:List Tk}{a e:Int}{na:NA}{sl:Sl}(H:RW lo g M bp s l k a e ls na sl b cs)(h:ppO bp na sl b c):lo<=c/\c<g.size/\M c=none:=by
 rcases h with rfl|h
 ·exact⟨H.bl.1,H.blk.lt,H.bl.2⟩
 ·exact H.ns.own h
section
variable {lo : Nat} {g : za} {M : Fr} {bp : Nat} {s : Bs} {l : List Tk} {st : PSt} {a e : Int} {O : Nat -> Prop} {K : Value -> za -> Prop}
theorem RS.own(H:RS lo g M bp s l st a e O)(h:O c):lo<=c/\c<g.size/\M c=none:=by
 obtain⟨ls,k,na,sl,b,cs,W,_,_,rfl⟩:=H
 exact W.own h
theorem RS.frame(H:RS lo g M bp s l st a e O)(hz:g.size<=g'.size)(f:∀c,c<g.size->(O c\/M c≠none)->g'[c]?=g[c]?):RS lo g' M bp s l st a e O:=by
 obtain⟨ls,k,na,sl,b,cs,W,h0,h1,rfl⟩:=H
 refine⟨ls,k,na,sl,b,cs,⟨W.blk.keep (f bp W.blk.lt (.inl (.inl rfl))),W.rd,W.ns.frame hz λc hc=>f c (W.ns.own hc).2.1 (.inl (.inr hc)),zoj W.ag λj hj hm=>f j hj (.inr hm),W.bl,W.nb⟩,h0,h1,rfl⟩
theorem RS.keep(H:RS lo g M bp s l st a e O)(k:Keep g.size g g'):RS lo g' M bp s l st a e O:=H.frame k.size λc hc _=>k.get c hc
theorem RS.ag(H:RS lo g M bp s l st a e O):AgM M g:=by
 obtain⟨ls,k,na,sl,b,cs,W,_,_,_⟩:=H;exact W.ag
theorem RW.put{k k':Nat}{a' e':Int}{na:NA}{sl:Sl}(H:RW lo g M bp s l k a e ls na sl b cs)(B:Blk g' bp (rpC s ls k' sl a' e').toArray)(hz:g'.size=g.size)(f:∀j,j≠bp->g'[j]?=g[j]?):RW lo g' M bp s l k' a' e' ls na sl b cs:=
 ⟨B,H.rd,H.ns.frame (by omega) λc hc=>f c λh=>H.nb (h ▸ hc),zoj H.ag λj _ hm=>f j λh=>hm (h ▸ H.bl.2),H.bl,H.nb⟩
theorem RW.nst{na na':NA}{sl:Sl}{cs cs':Array Value}(W:RW lo g M bp s l k a e ls na sl b cs)(N:NSt lo g M na sl b g' na' cs'):RW lo g' M bp s l k a e ls na' sl b cs'/\Stp g (ppO bp na sl b) g' (ppO bp na' sl b):=by
 refine⟨⟨W.blk.keep (N.fr bp W.blk.lt W.nb),W.rd,N.ns,zoj W.ag λj hj hm=>N.fr j hj λh=>hm (W.ns.own h).2.2,W.bl,λh=>?_⟩,N.le,λc h=>?_,λj hj hn=>N.fr j hj λh=>hn (.inr h)⟩
 ·rcases N.sub bp h with h|h
  ·exact W.nb h
  ·have:=W.blk.lt;omega
 ·rcases h with h|h
  ·exact .inl (.inl h)
  ·rcases N.sub c h with h|h
   ·exact .inl (.inr h)
   ·exact .inr h
theorem AtK.cons(A:AtK l k st){t:Tk}{r:List Tk}(h:st.rest=t::r):∃hk:k<l.length,l[k]=t:=by
 have h1:=A.rest
 rw[h]at h1
 have hk:k<l.length:=by
  rcases AR k l.length with hh|hh
  ·exact hh
  ·rw[Bj hh]at h1;cases h1
 refine⟨hk,?_⟩
 rw[AF hk]at h1
 injection h1 with h1 _;exact h1.symm
theorem AtK.nil(A:AtK l k st)(h:st.rest=[]):k=l.length:=by
 have h1:=A.rest
 rw[h]at h1
 have:=List.drop_eq_nil_iff.1 h1.symm
 have:=A.le;omega
theorem AtK.skip(A:AtK l k st)(h:st.rest≠[]):AtK l (k+1) st.skip:=by
 obtain⟨t,r,er⟩:=A6 h
 obtain⟨hk,e⟩:=A.cons er
 have h1:=A.rest
 rw[er,AF hk]at h1
 injection h1 with _ h2
 have es:st.skip=⟨r,t.2.2,st.nodes⟩:=by unfold PSt.skip;rw[er]
 rw[es]
 refine⟨h2,hk,λu _ hu=>?_⟩
 rw[Nat.add_sub_cancel,Ai hk,e]at hu
 cases hu;rfl
theorem AtK.same(A:AtK l k st){st':PSt}(h1:st'.rest=st.rest)(h2:st'.last=st.last):AtK l k st':=⟨h1.trans A.rest,A.le,λt a b=>h2.trans (A.last t a b)⟩
end
end
section
variable {gl:Fr}
theorem zok{k:Int}{R:Int->Prop}(h:R (zz k)):PC Tp gl 114 [Arg.mk (.int .i64) k] [.int .i64] R:=by
 apply zh7
 unfold zz at h
 refine⟨λhx=>?_,λhx K hK=>?_⟩
 ·rw[if_pos (by simpa using hx)]at h;exact h
 have hx:¬k=12:=by simpa using hx
 rw[if_neg hx]at h
 have key:∀b:Bool,b=decide (k=10\/k=11)->K b:=λb hb=>hK b ⟨λh1=>by
   rw[h1]at hb
   rw[if_pos (of_decide_eq_true hb.symm)]at h;exact h,λh1=>by
   rw[h1]at hb
   rw[if_neg (of_decide_eq_false hb.symm)]at h
   refine⟨λh2=>?_,λh2=>⟨λh3=>?_,λh3=>⟨λh4=>?_,λh4=>⟨λh5=>?_,λh5=>?_⟩⟩⟩⟩
   ·rw[if_pos (by simpa using h2)]at h;exact h
   ·rw[if_neg (by simpa using h2),if_pos (by simpa using h3)]at h;exact h
   ·rw[if_neg (by simpa using h2),if_neg (by simpa using h3),if_pos (by simpa using h4)]at h;exact h
   ·rw[if_neg (by simpa using h2),if_neg (by simpa using h3),if_neg (by simpa using h4),if_pos (by simpa using h5)]at h;exact h
   ·rw[if_neg (by simpa using h2),if_neg (by simpa using h3),if_neg (by simpa using h4),if_neg (by simpa using h5)]at h;exact h⟩
 refine⟨λh1=>key _ ?_,λh1=>key _ ?_⟩
 ·have:k=10:=by simpa using h1
  rw[h1,this];rfl
 ·have:¬k=10:=by simpa using h1
  rw[AH,beq_iff_eq,decide_eq_true_eq];omega
def qdo(lo:Nat)(M:Fr)(bp:Nat)(s:Bs)(lv:Int)(val:znx):Prop:=
 ∀(key:Sp) (g:za) (st:PSt) (a e:Int) (O:Nat->Prop),PaS lo g M bp s st a e O->st.nodes.length<=4096->st.T<=200000->(∀t∈st.rest,TkW s t) ->
  ∀K:Value->za->Prop,(∀b g' st' a' e' O',PaS lo g' M bp s st' a' e' O'->Stp g O g' O'->st.nodes.length<=st'.nodes.length->Ans (val key st) b st' a' e'->K (.bool b) g')->XC Tp 61 #[.pointer (some ⟨bp,0,none⟩),.int .i64 lv,.agg #[.int .i64 key.1,.int .i64 key.2]] g K
section
variable {lo : Nat} {g : za} {M : Fr} {bp : Nat} {s : Bs} {lv : Int} {val : znx}
theorem z8a(hv:qdo lo M bp s lv val):qd4 lo M bp s 118 #[.pointer (some ⟨bp,0,none⟩)] #[] lv (zch val) (λ_ _=>True) (λ_=>False) (λ_=>False):=by
 intro σ g st a e O P I J h4 hT hw K hK
 show XC Tp _ #[.pointer (some ⟨bp,0,none⟩),.int .i64 lv] g K
 apply zba
 refine hv (0,0) g st a e O P h4 hT hw _ λb g' st' a' e' O' P' S' n' A'=>⟨b,rfl,hK b g' st' a' e' O' σ P' S'.j n' (λ_=>trivial) ?_⟩
 unfold zch
 cases hr:val (0,0) st with
 |inl t=>rw[hr]at A';exact⟨A'.1,by rw[A'.2]⟩
 |inr x=>rw[hr]at A';exact A'
theorem z4b:MapT Tp 154 9 4 (.bool false):=⟨by kernel_rfl,by kernel_rfl,⟨Tryz.t4,by kernel_rfl,by kernel_rfl⟩⟩
def qcb(m:Nat)(σ:List Bs)(g:za):Prop:=∃l,MapAt g m l/\∀k:Bs,zo2 l (bl k)=if k∈σ then some (.bool true)else none
theorem zuv{M:Fr}{r:Bt×Int×Int}{v:Value}(h:zcu M [.str,.int .i64,.int .i64] r v):v=.tuple #[.string r.1,.int .i64 r.2.1,.int .i64 r.2.2]:=by
 obtain⟨vs,⟨v1,rest,rfl,hx,v2,Z,rfl,hy,v3,rfl,hz⟩,rfl⟩:=h
 rw[Xq hx,yo hy,yo hz]
 rfl
set_option maxRecDepth 100000 in
set_option maxHeartbeats 2000000 in
theorem qbh(hg:GL gl)(hM:Fr.le gl M)(hs:s.length<=65536)(hv:qdo lo M bp s lv val){m:Nat}{J:Nat->Prop}(hm:J m){σ:List Bs}{st:PSt}{a e:Int}{O:Nat->Prop}(P:PaS lo g M bp s st a e O)(I:qcb m σ g)(hJ:Apt J g O)(h4:st.nodes.length<=4096)(hT:st.T<=200000)(hw:∀t∈st.rest,TkW s t)(aO:∀j,J j->M j=none){K:Value->za->Prop}
  (hK:∀b g' st' a' e' O' σ',PaS lo g' M bp s st' a' e' O'->StJ (λj=>j=m) g O g' O'->st.nodes.length<=st'.nodes.length->(b=true->qcb m σ' g')->qd3 (zny s val σ st) b σ' st' a' e'->K (.bool b) g'):
  XC Tp 120 #[.pointer (some ⟨bp,0,none⟩),.int .i64 lv,.map (some m)] g K:=by
 have ae:=hJ m hm
 apply Xc
 refine zlz P ⟨_,rfl,λhx=>?_,λhx=>?_⟩
 ·have hx:¬st.kind=8:=by simpa using hx
  refine Jz P λg' P' S'=>⟨false,rfl,hK false g' st _ _ O σ P' S'.j (Ad _) (λh=>(by cases h)) ?_⟩
  unfold zny
  cases hr:st.rest with
  |nil=>exact⟨rfl,rfl⟩
  |cons t r=>
   have:¬t.1=8:=by unfold PSt.kind at hx;rw[hr]at hx;exact hx
   dsimp only
   rw[if_neg this];exact⟨rfl,rfl⟩
 have hx:st.kind=8:=by simpa using hx
 have ap:=PSt.ne_kind hx (by omega)
 obtain⟨t,r,er⟩:=A6 ap
 have aG:t.1=8:=by unfold PSt.kind at hx;rw[er]at hx;exact hx
 obtain⟨w1,w2,w3,_⟩:=hw t (by rw[er];simp)
 have aE:=Xb ap
 have P0:=P
 obtain⟨rs,lf,na,sl,b,cs,W,h1,eO⟩:=P0
 have rd:=W.rd
 have hl:=(rowLen W.rd).1
 rw[er]at rd hl
 rw[Aw]at hl
 obtain⟨tb,o,e1,e2,e3,e4⟩:=z8v W.ag rd (k:=0) (by simp)
 refine⟨_,rfl,rs,by rw[qn];exact W.blk.cell rfl,_,⟨e1,by omega,by omega⟩,t.2.1,t.2.2,?_,?_⟩
 ·rw[qn,qn]
  exact⟨by rw[qn];exact e3,by rw[qn];exact e4,trivial⟩
 intro ak
 have aN:Keep g.size g ak:=Keep.push _ _ (Ad _)
 have aV:ak.size=g.size+1:=Ak _
 have aQ:Blk ak g.size #[.int .i64 0,.int .i64 0]:=Blk.new _ _ _
 clear_value ak
 refine J6 (vs:=[.int .i64 t.2.1,.int .i64 t.2.2]) qbc aQ rfl qbd (Ad _) (λu hu=>?_) λay af aU aT=>⟨_,rfl,?_⟩
 ·simp at hu;rcases hu with rfl|rfl <;> rfl
 have af:Blk ay g.size #[.int .i64 t.2.1,.int .i64 t.2.2]:=af
 have ah:Keep g.size g ay:=⟨by omega,λj hj=>(aT j (by omega)).trans (aN.get j hj)⟩
 have aM:=P.keep ah
 have aJ:=W.blk.keep (ah.get bp W.blk.lt)
 refine⟨bl s,by rw[qn];exact aJ.cell rfl,t.2.1,by rw[qn];exact af.cell rfl,t.2.2,by rw[qn];exact af.cell rfl,⟨w1,by omega,by rw[zj];exact w3⟩,?_⟩
 have ex:(bl s).extract t.2.1.toNat t.2.2.toNat=bl (Q9 s t.2):=by rw[xu];rfl
 rw[ex]
 have aZ:(Q9 s t.2).length<=65536:=by unfold Q9;rw[A1,AC];omega
 refine(zdv hg (t:=Q9 s t.2) (by omega) (R:=λr=>r=(bl (Wh (Q9 s t.2)).1,((Wh (Q9 s t.2)).2.1:Int),(Wh (Q9 s t.2)).2.2)) rfl).go hM aM.ag (jc (a:=Arg.mk .str _) (rdStr _) xb) λv aC M' rr L aF hr=>?_
 subst hr
 rw[zuv aF]
 refine⟨_,_,_,rfl,?_⟩
 have Z:Keep g.size g aC:=ah.trans L.keep ah.size
 have az:=P.keep Z
 obtain⟨l,ml,mk⟩:=I
 have am:MapAt aC m l:=ml.keep (Z.get m ae.1)
 have aa:=zf1 z4b am (bl (Wh (Q9 s t.2)).1) false
 rw[if_neg (by simp)]at aa
 have aS:z0e l (bl (Wh (Q9 s t.2)).1) (.bool false)=.bool (decide ((Wh (Q9 s t.2)).1∈σ)):=by
  unfold z0e
  rw[mk]
  by_cases aj:(Wh (Q9 s t.2)).1∈σ
  ·rw[if_pos aj];simp[aj]
  ·rw[if_neg aj];simp[aj]
 rw[aS]at aa
 have eM:zny s val σ st=if(Wh (Q9 s t.2)).1∈σ then st.err s 7
   else if st.skip.kind=7 then match val t.2 st.skip.skip with
    |.inl st'=>.inl (σ++[(Wh (Q9 s t.2)).1],st')
    |.inr e=>.inr e
   else st.skip.err s 2:=by
  unfold zny;rw[er];dsimp only;rw[if_pos aG];rfl
 refine⟨_,aa,λhy=>?_,λhy=>?_⟩
 ·have hy:=of_decide_eq_true hy
  refine Jz az λg' P' S'=>⟨false,rfl,hK false g' st _ _ O σ P' ((Stp.keep (O:=O) Z).trans S').j (Ad _) (λh=>(by cases h)) ?_⟩
  rw[eM,if_pos hy];exact⟨rfl,rfl⟩
 have hy:=of_decide_eq_false hy
 rw[if_neg hy]at eM
 refine zmj z4b am (bl (Wh (Q9 s t.2)).1) (.bool true) λai aI aY an=>?_
 have aL:PaS lo ai M bp s st a e O:=az.frame (by omega) λc hc ho=>an c λh=>by
  subst h
  rcases ho with ho|ho
  ·exact ae.2 ho
  ·exact ho (aO _ hm)
 have au:StJ (λj=>j=m) g O ai O:=⟨by have:=Z.size;omega,λc h=>.inl h,λj hj hn hJ=>(an j hJ).trans (Z.get j hj)⟩
 have ar:∀g',g'[m]?=ai[m]?->qcb m (σ++[(Wh (Q9 s t.2)).1]) g':=λg' aH=>by
  refine⟨_,aI.keep aH,λk=>?_⟩
  rw[zmh,mk]
  by_cases hk:(Wh (Q9 s t.2)).1=k
  ·subst hk;simp
  ·have aP:¬bl (Wh (Q9 s t.2)).1=bl k:=λh=>hk (z3k.1 h)
   rw[if_neg aP]
   have:(k∈σ++[(Wh (Q9 s t.2)).1])↔k∈σ:=by simp;intro h;exact absurd h.symm hk
   simp only[this]
 have aB:m<ai.size:=by have:=ae.1;have:=Z.size;omega
 refine zqy aL ap λg3 P3 S3=>⟨rfl,?_⟩
 refine zff P3 (by omega) (λh7 g4 P4 S4=>⟨true,rfl,λh=>(by simp at h),λ_=>?_⟩) (λh7=>⟨false,rfl,λ_=>?_,λh=>(by simp at h)⟩)
 ·rw[if_pos h7]at eM
  have ok2:=Xb (PSt.ne_kind h7 (by omega))
  have ab:=aE.trans ok2
  have ax:¬O g.size:=λh=>by have:=(P.own h).2.1;omega
  have B4:Blk g4 g.size #[.int .i64 t.2.1,.int .i64 t.2.2]:=by
   refine af.keep ?_
   have a1:=ah.size
   rw[S4.fr _ (by have:=S3.le;have:=Z.size;have:=L.keep.size;omega) ax,S3.fr _ (by have:=Z.size;have:=L.keep.size;omega) ax,an _ (by have:=ae.1;omega)]
   exact L.keep.get _ (by omega)
  refine⟨t.2.1,t.2.2,B4.ld (cs:=[.int .i64 t.2.1,.int .i64 t.2.2]),?_⟩
  refine hv t.2 g4 st.skip.skip a e O P4 (by have:=ab.m h4;exact this) (by have:=ab.t;omega) (λx hx=>hw x (ab.w x hx)) _ λb g' st' a' e' O' P' S' n' A'=>⟨b,rfl,?_⟩
  have aA:=(S3.trans S4).trans S'
  refine hK b g' st' a' e' O' _ P' (au.trans aA.j) (by have:=ab.n;omega) (λ_=>ar g' (aA.fr m aB λh=>ae.2 h)) ?_
  rw[eM]
  cases hr:val t.2 st.skip.skip with
  |inl x=>rw[hr]at A';exact⟨A'.1,by rw[A'.2]⟩
  |inr x=>rw[hr]at A';exact A'
 ·rw[if_neg h7]at eM
  refine Jz P3 λg' P' S'=>⟨false,rfl,hK false g' _ _ _ O σ P' (au.trans (S3.trans S').j) (by rw[yi];exact Ad _) (λh=>(by cases h)) ?_⟩
  rw[eM];exact⟨rfl,rfl⟩
end
end
section
theorem RS.off{lo:Nat}{g g':za}{M:Fr}{bp:Nat}{s:Bs}{l:List Tk}{st:PSt}{a e:Int}{O:Nat->Prop}(H:RS lo g M bp s l st a e O){b:Nat}(hb:¬O b)(hm:M b=none)(hz:g'.size=g.size)(f:∀j,j≠b->g'[j]?=g[j]?):RS lo g' M bp s l st a e O:=
 H.frame (by omega) λc hc ho=>f c λh=>by
  subst h
  rcases ho with ho|ho
  ·exact hb ho
  ·exact ho hm
section
variable {lo : Nat} {g : za} {M gl : Fr} {bp : Nat} {s : Bs} {l : List Tk} {st : PSt} {a e : Int} {O : Nat -> Prop} {K : Value -> za -> Prop}
end
end
section
def qbi(g:za)(bp:Nat):Nat:=match zd g ⟨bp,1,none⟩,zd g ⟨bp,2,none⟩with
 |some (.slice _ n _),some (.int _ k)=>n-k.toNat
 |_,_=>0
theorem RS.left{lo:Nat}{g:za}{M:Fr}{bp:Nat}{s:Bs}{l:List Tk}{st:PSt}{a e:Int}{O:Nat->Prop}(H:RS lo g M bp s l st a e O):qbi g bp=st.rest.length:=by
 obtain⟨ls,k,na,sl,b,cs,W,A,h1,rfl⟩:=H
 unfold qbi
 rw[W.blk.cell (o:=1) (v:=slV ls) rfl,W.blk.cell (o:=2) (v:=.int .i64 (k:Int)) rfl]
 show ls.len-(k:Int).toNat=_
 rw[A.rest,AC,(rowLen W.rd).1,Ah]
section
variable {lo : Nat} {g : za} {M gl : Fr} {bp : Nat} {s : Bs} {l : List Tk} {st : PSt} {a e : Int} {O : Nat -> Prop} {K : Value -> za -> Prop} {val : znx}
end
end
section
theorem qdp:ElemT Tp 34 62 (.agg #[.int .i64 0,.int .i64 0,.int .i64 0,.int .i64 0,.int .i64 0,.slice none 0 0,.slice none 0 0]) 7 88:=⟨by kernel_rfl,⟨Tryz.t62,by kernel_rfl,by kernel_rfl,by kernel_rfl,by kernel_rfl⟩,rfl,by decide⟩
theorem qeu:qd Tp 34=true:=by kernel_rfl
theorem qev:qt Tp 34=1:=by kernel_rfl
theorem qew:qd Tp 154=true:=by kernel_rfl
theorem qex:qt Tp 154=1:=by kernel_rfl
section
variable {lo : Nat} {M gl : Fr} {bp : Nat} {s : Bs}
set_option maxRecDepth 100000 in
set_option maxHeartbeats 4000000 in
theorem z2a(hg:GL gl)(hM:Fr.le gl M)(hs:s.length<=65536):∀d:Nat,d<=32->qdo lo M bp s (33-(d:Int)) (Y3 s d):=by
 intro d
 induction d with
 |zero=>
  intro hd key g st a e O P h4 hT hw K hK
  apply Zs
  intro h1 h2
  have k1:Keep g.size g h1:=Keep.push _ _ (Ad _)
  have k2:Keep h1.size h1 h2:=Keep.push _ _ (Ad _)
  have z1:h1.size=g.size+1:=Ak _
  have B1:Blk h1 g.size #[.pointer (some ⟨bp,0,none⟩)]:=Blk.new _ _ _
  clear_value h1 h2
  have ab:Keep g.size g h2:=k1.trans k2 (by omega)
  have B2:=B1.keep (k2.get g.size (by omega))
  refine⟨_,B2.cell rfl,zlz (P.keep ab) ⟨_,rfl,?_⟩⟩
  refine(zok (k:=st.kind) (R:=λr=>r=zz st.kind) rfl).go hM (P.keep ab).ag (jc (a:=Arg.mk (.int .i64) _) (Xv _ _) xb) λv h8 M' r L hv hr=>⟨r,qb6 hv,?_⟩
  subst hr
  have ah:=L.keep
  have k8:Keep g.size g h8:=ab.trans ah ab.size
  have B8:=B2.keep (ah.get g.size (by have:=ab.size;have:=k2.size;omega))
  refine⟨λhx=>⟨_,B8.cell rfl,?_⟩,λhx=>⟨λhy=>⟨_,B8.cell rfl,?_⟩,λhy=>?_⟩⟩
  ·refine Jz (P.keep k8) λg' P' S'=>⟨false,rfl,hK false g' st _ _ O P' ((Stp.keep (O:=O) k8).trans S') (Ad _) ?_⟩
   rw[Y3,if_pos (by simpa using hx)];exact⟨rfl,rfl⟩
  ·refine Jz (P.keep k8) λg' P' S'=>⟨false,rfl,hK false g' st _ _ O P' ((Stp.keep (O:=O) k8).trans S') (Ad _) ?_⟩
   rw[Y3,if_neg (by simpa using hx)];exact⟨rfl,rfl⟩
  ·exact absurd (of_decide_eq_false hy) (by omega)
 |succ d ih=>
  intro hd key g st a e O P h4 hT hw K hK
  have ih:=ih (by omega)
  have aP:=znz s d
  apply Zs
  intro h1 h2
  have k1:Keep g.size g h1:=Keep.push _ _ (Ad _)
  have k2:Keep h1.size h1 h2:=Keep.push _ _ (Ad _)
  have z1:h1.size=g.size+1:=Ak _
  have z2:h2.size=h1.size+1:=Ak _
  have B1:Blk h1 g.size #[.pointer (some ⟨bp,0,none⟩)]:=Blk.new _ _ _
  have Bk2:Blk h2 h1.size #[.int .i64 key.1,.int .i64 key.2]:=Blk.new _ _ _
  clear_value h1 h2
  have ab:Keep g.size g h2:=k1.trans k2 (by omega)
  have B2:=B1.keep (k2.get g.size (by omega))
  refine⟨_,B2.cell rfl,zlz (P.keep ab) ⟨_,rfl,?_⟩⟩
  refine(zok (k:=st.kind) (R:=λr=>r=zz st.kind) rfl).go hM (P.keep ab).ag (jc (a:=Arg.mk (.int .i64) _) (Xv _ _) xb) λv h8 M' r L hv hr=>⟨r,qb6 hv,?_⟩
  subst hr
  have ah:=L.keep
  have k8:Keep g.size g h8:=ab.trans ah ab.size
  have z8:h2.size<=h8.size:=ah.size
  have B8:=B2.keep (ah.get g.size (by omega))
  have bC:=Bk2.keep (ah.get h1.size (by omega))
  have P8:=P.keep k8
  have S8:Stp g O h8 O:=Stp.keep k8
  refine⟨λhx=>⟨_,B8.cell rfl,?_⟩,λhx=>⟨λhy=>?_,λhy=>?_⟩⟩
  ·refine Jz P8 λg' P' S'=>⟨false,rfl,hK false g' st _ _ O P' (S8.trans S') (Ad _) ?_⟩
   rw[Y3,if_pos (by simpa using hx)];exact⟨rfl,rfl⟩
  ·have:=of_decide_eq_true hy;omega
  have hx:¬zz st.kind=0:=by simpa using hx
  have aA:=zfc hx
  obtain⟨t,r,er⟩:=A6 aA
  have bM:=P8
  obtain⟨rs,lf,na,sl,b,cs,W,aG,eO⟩:=bM
  have a7:na.length=st.nodes.length:=by rw[<-aG,A0]
  have aC:sl.len=st.nodes.length:=by rw[W.ns.len,a7]
  refine⟨_,B8.cell rfl,_,rfl,sl,by rw[qn];exact W.blk.cell rfl,?_⟩
  rw[aC]
  refine⟨λhz=>⟨_,B8.cell rfl,?_⟩,λhz=>?_⟩
  ·refine Jz P8 λg' P' S'=>⟨false,rfl,hK false g' st _ _ O P' (S8.trans S') (Ad _) ?_⟩
   have hz:st.nodes.length=4096:=by have:=of_decide_eq_true hz;omega
   rw[Y3,if_neg hx,if_pos hz];exact⟨rfl,rfl⟩
  have hz:¬st.nodes.length=4096:=λh=>by have:=of_decide_eq_false hz;omega
  have eV:Y3 s (d+1) key st=match zo3 s (Y3 s d) st.nodes.length (zz st.kind) (st.open key)with
   |.inl st'=>.inl (st'.setTo st.nodes.length)
   |.inr e=>.inr e:=by rw[Y3,if_neg hx,if_neg hz];rfl
  have rd:=W.rd
  have hl:=(rowLen W.rd).1
  rw[er]at rd hl
  rw[Aw]at hl
  obtain⟨tb,o,e1,e2,e3,e4⟩:=z8v W.ag rd (k:=0) (by simp)
  have br:st.kind=t.1:=by unfold PSt.kind;rw[er]
  have bm:bp<h8.size:=W.blk.lt
  have aO:∀c,O c->c<g.size:=λc h=>(P.own h).2.1
  refine⟨_,B8.cell rfl,_,rfl,sl,by rw[qn];exact W.blk.cell rfl,_,B8.cell rfl,_,B8.cell rfl,_,rfl,sl,by rw[qn];exact W.blk.cell rfl,_,B8.cell rfl,_,rfl,rs,by rw[qn];exact W.blk.cell rfl,_,⟨e1,by omega,by omega⟩,t.2.1,t.2.2,?_,key.1,key.2,bC.ld (cs:=[.int .i64 key.1,.int .i64 key.2]),rfl,rfl,rfl,?_⟩
  ·rw[qn,qn]
   exact⟨by rw[qn];exact e3,by rw[qn];exact e4,trivial⟩
  intro ai
  have af:Keep h8.size h8 ai:=Keep.push _ _ (Ad _)
  have b8:ai.size=h8.size+1:=Ak _
  have bG:Blk ai h8.size (ndC ((zz st.kind,t.2,key,[],[]),ax0)).toArray:=Blk.new _ _ _
  clear_value ai
  refine⟨by rw[qn];exact af.get bp bm,af.get g.size (by omega),af.get g.size (by omega),?_⟩
  have bJ:NSt lo h8 M na sl b ai na cs:=⟨W.ns.frame af.size λc hc=>af.get c (W.ns.own hc).2.1,af.size,λc h=>.inl h,λj hj _=>af.get j hj⟩
  obtain⟨aj,bF⟩:=W.nst bJ
  have aL:lo<=ai.size:=by have:=(aj.own (.inl rfl));omega
  refine NS.push qdp (by omega) aj.ag aL aj.ns (x:=(zz st.kind,t.2,key,[],[])) rfl rfl bG (by omega) λs' b9 b' cs' a8 bU aZ aB=>⟨s',rfl,_,rfl,?_⟩
  have bA:¬nsO na sl b g.size:=λh=>by have:=aO g.size (by rw[eO];exact .inr h);omega
  refine⟨(aB g.size (by omega) bA).trans (af.get g.size (by omega)),?_⟩
  rw[qn]
  have aF:¬nsO (na++[((zz st.kind,t.2,key,[],[]),ax0)]) s' b' bp:=λh=>by
   rcases aZ bp h with h|h
   ·exact W.nb h
   ·omega
  have aQ:=aj.blk.keep (aB bp (by omega) aj.nb)
  refine xh qeu qev aQ (by show 4<7;omega) rfl λaz u1 u2 u3=>?_
  have bQ:PW lo az M bp s st.rest st.last a e rs lf (na++[((zz st.kind,t.2,key,[],[]),ax0)]) s' b' cs':=by
   refine⟨u1,W.rd,a8.frame (by omega) λc hc=>u3 c λh=>aF (h ▸ hc),zoj aj.ag λj hj hm=>?_,W.bl,aF⟩
   rw[u3 j λh=>hm (h ▸ W.bl.2)]
   exact aB j hj λh=>hm (aj.ns.own h).2.2
  have ba:Stp ai (ppO bp na sl b) az (ppO bp (na++[((zz st.kind,t.2,key,[],[]),ax0)]) s' b'):=by
   refine⟨by omega,λc h=>?_,λj hj hn=>?_⟩
   ·rcases h with h|h
    ·exact .inl (.inl h)
    ·rcases aZ c h with h|h
     ·exact .inl (.inr h)
     ·exact .inr h
   ·rw[u3 j λh=>hn (.inl h)]
    exact aB j hj λh=>hn (.inr h)
  have aN:PaS lo az M bp s ⟨st.rest,st.last,st.nodes++[(zz st.kind,t.2,key,[],[])]⟩ a e (ppO bp (na++[((zz st.kind,t.2,key,[],[]),ax0)]) s' b'):=⟨rs,lf,_,_,_,_,bQ,by rw[Cr,aG];rfl,rfl⟩
  have ak:Stp h8 O az (ppO bp (na++[((zz st.kind,t.2,key,[],[]),ax0)]) s' b'):=by rw[eO];exact bF.trans ba
  generalize ppO bp (na++[((zz st.kind,t.2,key,[],[]),ax0)]) s' b'=O45 at aN ak
  have ap:¬O g.size:=λh=>by have:=aO _ h;omega
  have bL:=B8.keep (ak.fr g.size (by omega) ap)
  refine⟨_,bL.cell rfl,zqy aN aA λZ an bq=>⟨rfl,?_⟩⟩
  have bo:(⟨st.rest,st.last,st.nodes++[(zz st.kind,t.2,key,[],[])]⟩:PSt).skip=st.open key:=by
   unfold PSt.skip PSt.open
   rw[br]
   dsimp only
   rw[er]
  rw[bo]at an
  have ae:=ak.trans bq
  have bi:=ae.le
  have ar:∀c,c<h8.size->¬O c->¬O45 c:=λc hc hn h=>by
   rcases ak.sub c h with h|h
   ·exact hn h
   ·omega
  have ay:=B8.keep (ae.fr g.size (by omega) ap)
  have au:=zxx (key:=key) aA hz
  have bI:(st.open key).nodes.length=st.nodes.length+1:=zlc aA
  intro bH aJ
  have aI:∀(bb:Bool) (g':za) (st':PSt) (a' e':Int) (O':Nat->Prop),PaS lo g' M bp s st' a' e' O'->Stp g O g' O'->(st.open key).nodes.length<=st'.nodes.length->g'[g.size]?=Z[g.size]?->Ans (zo3 s (Y3 s d) st.nodes.length (zz st.kind) (st.open key)) bb st' a' e'->bH bb g':=by
   intro bb g' st' a' e' O' P' S' n' bP A'
   refine aJ bb g' ?_
   have B':=ay.keep bP
   obtain⟨bT,bS,aY,be,b1,cc,W1,ax,bj⟩:=P'
   have aS:st.nodes.length<aY.length:=by
    have:aY.length=st'.nodes.length:=by rw[<-ax,A0]
    omega
   obtain⟨q1,q2,q3,q4,q5⟩:=W1.ns.cell aS
   refine⟨_,B'.cell rfl,_,rfl,be,by rw[qn];exact W1.blk.cell rfl,_,B'.cell rfl,_,rfl,st'.last,by rw[qn,qn];exact W1.blk.cell rfl,⟨b1,0,none⟩,⟨q1,by omega,by have:=W1.ns.len;omega⟩,?_⟩
   rw[qn,qn,qn,Ah,Ay,aC]
   refine xh z3z z4a q2 (by omega) rfl λg2 u1 u2 u3=>?_
   obtain⟨W2,S2⟩:=W1.nst (W1.ns.toB aS u1 u2 u3)
   refine hK bb g2 (st'.setTo st.nodes.length) a' e' _ ⟨_,_,_,_,_,_,W2,?_,rfl⟩ (S'.trans (by rw[bj];exact S2)) (by rw[zci];omega) ?_
   ·rw[zbh (f':=z6t st'.last) (λp=>rfl),ax];rfl
   ·rw[eV]
    cases hr:zo3 s (Y3 s d) st.nodes.length (zz st.kind) (st.open key)with
    |inl x=>rw[hr]at A';exact⟨A'.1,by rw[A'.2]⟩
    |inr x=>rw[hr]at A';exact A'
  have aM:Ab .i64 (33-((d+1:Nat):Int)+1)=33-(d:Int):=by rw[w64 (by omega)];omega
  have bV:=au.t
  refine⟨λh5=>⟨_,ay.cell rfl,_,ay.cell rfl,?_⟩,λh5=>⟨λh6=>?_,λh6=>?_⟩⟩
  ·have h5:zz st.kind=5:=by simpa using h5
   refine zy2 (J:=λ_=>False) (D:=λ_=>False) (HI:=λ_ _=>True) (kid:=zch (Y3 s d)) (λ_ _ _ _ _=>trivial) aM (z8a ih) (zxw aP) (by kernel_rfl) (by omega) an trivial (λj hj=>hj.elim) (au.m h4) (by omega) (λx hx=>hw x (au.w x hx)) (by omega) λbb g' st' a' e' O' P' S' n' A'=>⟨bb,rfl,aI bb g' st' a' e' O' P' ?_ n' ?_ ?_⟩
   ·exact(S8.trans ae).trans ⟨S'.le,S'.sub,λj hj hn=>S'.fr j hj hn (λh=>h)⟩
   ·exact S'.fr g.size (by omega) (ar _ (by omega) ap) (λh=>h)
   ·rw[aC]at A';unfold zo3;rw[if_pos h5];exact A'
  ·have h5:¬zz st.kind=5:=by simpa using h5
   have h6:zz st.kind=6:=by simpa using h6
   intro aa aE
   have bz:Keep Z.size Z aa:=Keep.push _ _ (Ad _)
   have aT:Keep aa.size aa aE:=Keep.push _ _ (Ad _)
   have cb:aa.size=Z.size+1:=Ak _
   have bZ:aE.size=aa.size+1:=Ak _
   have bg:MapAt aa Z.size []:=MapAt.new _
   have bh:Blk aE aa.size #[.map none]:=Blk.new _ _ _
   clear_value aa aE
   refine xh qew qex bh (by show 0<1;omega) rfl λaH u1 u2 u3=>?_
   have am:Keep Z.size Z aH:=⟨by omega,λj hj=>by rw[u3 j (by omega),aT.get j (by omega),bz.get j hj]⟩
   have a6:MapAt aH Z.size []:=(bg.keep (aT.get _ (by omega))).keep (u3 _ (by omega))
   have bD:=an.keep am
   have aU:=ay.keep (am.get g.size (by omega))
   have ca:Stp Z O45 aH O45:=Stp.keep am
   have aV:∀c,O45 c->c<Z.size:=λc h=>(an.own h).2.1
   have bn:∀c,g.size<=c->M c=none:=λc hc=>by
    cases e:M c with
    |none=>rfl
    |some x=>have:=P.ag.lt e;omega
   refine⟨_,aU.cell rfl,?_⟩
   refine zy2 (J:=λj=>j=Z.size) (D:=λj=>j=g.size\/j=aa.size\/j=Z.size) (HI:=λσ g'=>Blk g' g.size #[.pointer (some ⟨bp,0,none⟩)]/\Blk g' aa.size #[.map (some Z.size)]/\qcb Z.size σ g') (kid:=zny s (Y3 s d)) (λσ x y hx hf=>⟨hx.1.keep (hf _ (.inl rfl)),hx.2.1.keep (hf _ (.inr (.inl rfl))),?_⟩) aM ?_ (z3s aP) (by kernel_rfl) (by omega) bD ⟨aU,u1,[],a6,λk=>rfl⟩ (λj hj=>?_) (au.m h4) (by omega) (λx hx=>hw x (au.w x hx)) (by omega) λbb g' st' a' e' O' P' S' n' A'=>⟨bb,rfl,aI bb g' st' a' e' O' P' ?_ n' ?_ ?_⟩
   ·obtain⟨l,ml,mk⟩:=hx.2.2
    exact⟨l,ml.keep (hf _ (.inr (.inr rfl))),mk⟩
   ·intro σ x bY a1 e1 O1 P1 I1 J1 bu bO bE K1 bB
    show XC Tp _ #[.int .i64 (33-(d:Int)),.pointer (some ⟨g.size,0,none⟩),.pointer (some ⟨aa.size,0,none⟩)] x K1
    apply Wc
    refine⟨_,I1.1.cell rfl,_,I1.2.1.cell rfl,?_⟩
    refine qbh hg hM hs ih (J:=λj=>j=g.size\/j=aa.size\/j=Z.size) (.inr (.inr rfl)) P1 I1.2.2 J1 bu bO bE (λj hj=>bn j (by omega)) λbb g' st' a' e' O' σ' P' S' n' H' A'=>⟨bb,rfl,bB bb g' st' a' e' O' σ' P' S' n' (λhb=>⟨I1.1.keep ?_,I1.2.1.keep ?_,H' hb⟩) A'⟩
    ·have:=J1 g.size (.inl rfl)
     exact S'.fr _ this.1 this.2 (by omega)
    ·have:=J1 aa.size (.inr (.inl rfl))
     exact S'.fr _ this.1 this.2 (by omega)
   ·refine⟨by omega,λh=>?_⟩
    have:=aV j h
    rcases hj with rfl|rfl|rfl
    ·exact ar _ (by omega) ap h
    ·omega
    ·omega
   ·refine(S8.trans ae).trans ⟨by have:=S'.le;omega,λc h=>?_,λj hj hn=>?_⟩
    ·rcases S'.sub c h with h|h
     ·exact .inl h
     ·exact .inr (by omega)
    ·rw[S'.fr j (by omega) hn (by omega)];exact am.get j hj
   ·rw[S'.fr g.size (by omega) (ar _ (by omega) ap) (by omega)];exact am.get _ (by omega)
   ·rw[aC]at A';unfold zo3;rw[if_neg h5,if_pos h6];exact A'
  ·have h5:¬zz st.kind=5:=by simpa using h5
   have h6:¬zz st.kind=6:=by simpa using h6
   refine aI true Z (st.open key) a e O45 an (S8.trans ae) (Ad _) rfl ?_
   unfold zo3;rw[if_neg h5,if_neg h6];exact⟨rfl,rfl⟩
end
end
section
variable {s:Bs} {f a t:Nat} {k:Int}
theorem TkS.frame{h:za}{M:Fr}{b2 b3 b4 b5 bc D l:Nat}{rec:zu6}{out:List Tk}{sl:Sl}{bs:List Nat}{g g':za}(S:TkS h M b2 b3 b4 b5 bc D l rec s out sl bs g)(A:Apart h b2 b3 b4 b5 bc D l)(hz:g.size<=g'.size)(f:∀j,j<g.size->g'[j]?=g[j]?):TkS h M b2 b3 b4 b5 bc D l rec s out sl bs g':=by
 have ll:=lt_of_some S.rc
 have:=A.lo;have:=A.a3;have:=A.a4;have:=A.a5;have:=A.ac;have:=A.aD;have:=A.al
 have kz:=S.keep.size
 exact⟨⟨by omega,λj hj=>(f j (by omega)).trans (S.keep.get j hj)⟩,S.c.keep (f _ (by omega)),(f _ (by omega)).trans S.d,(f _ ll).trans S.rc,S.r2.keep (f _ (by omega)),S.r3.keep (f _ (by omega)),S.r4.keep (f _ (by omega)),S.r5.keep (f _ (by omega)),S.o.frame (λc hc=>f c (S.o.own c hc).2.1) (Fr.le.refl _) λc hc=>(S.o.own c hc).2.2⟩
theorem z2b{o:List Tk}(ha:a<s.length)(h:Zi s a=(k,t,0)):Qj (f+1) s a o=Qj f s t (o++[(k,((a:Int),(t:Int)))]):=by
 rw[Qj,if_pos ha,h];rfl
theorem z2c{k e:Int}{o:List Tk}(ha:a<s.length)(h:Zi s a=(k,t,e))(he:¬e=0):Qj (f+1) s a o=([],t,e):=by
 rw[Qj,if_pos ha,h];simp only;rw[if_neg he]
theorem zy3{o:List Tk}(ha:¬a<s.length):Qj f s a o=(o,a,0):=by
 cases f with
 |zero=>rfl
 |succ f=>rw[Qj,if_neg ha]
section
variable {h : za} {M gl : Fr} {b2 b3 b4 b5 bc D l : Nat} {rec : zu6} {s : Bs} {sl : Sl} {bs : List Nat} {g : za}
abbrev qdq(b2 b3 b4 b5:Nat)(x9 x8 x0:Value):Env:=[(9,[],x9),(8,[],x8),(5,[],.pointer (some ⟨b5,0,none⟩)),(4,[],.pointer (some ⟨b4,0,none⟩)),(3,[],.pointer (some ⟨b3,0,none⟩)),(2,[],.pointer (some ⟨b2,0,none⟩)),(0,[],x0)]
set_option maxRecDepth 100000 in
set_option maxHeartbeats 4000000 in
theorem qdr(A:Apart h b2 b3 b4 b5 bc D l)(hg:GL gl)(hM:Fr.le gl M)(ag:AgM M h)(S:TkS h M b2 b3 b4 b5 bc D l rec s [] sl bs g){x9 x8 x0:Value}
  (af:∀{v1 v2:Value} {h2:za} {K:Value->za->Prop},h2[l]?=some (.loop (rec .ready none))->zha Tp 25 (rfA (codeOf Tryz.f60)) (rfB (codeOf Tryz.f60)) rec l K (putO (putO (qdq b2 b3 b4 b5 x9 x8 x0) (some 10) [] v1) (some 11) [] v2) h2->YX Tp l #[v1,v2] h2 K)
  {Q:za->Prop} (hN:∀g out sl bs,TkS h M b2 b3 b4 b5 bc D l rec s out sl bs g->ym s=(out,s.length,0)->out.length<=100000->Q g)
  (hE:∀(g:za) (t:Nat) (e:Int),¬e=0->ym s=([],t,e)->Keep h.size h g->g[D]?=some (.deferred (some []))->g[l]?=some (.loop (rec .done (some .ret)))->Blk g b2 #[.slice none 0 0]->Blk g b3 #[.int .i64 (t:Int)]->Blk g b4 #[.int .i64 e]->Q g):
  XCI Tp 197 #[.func (.yield l) #[] #[],.pointer (some ⟨bc,0,none⟩)] g (λ_ g'=>Q g'):=by
 have:=A.lo;have:=A.a3;have:=A.a4;have:=A.a5;have:=A.ac;have:=A.aD;have:=A.al
 apply zoi
 refine⟨bl s,S.c.cell rfl,λab=>?_,λam=>?_⟩
 ·have ae:65536<s.length:=by rw[zj]at ab;simp at ab;omega
  refine af S.rc (TkS.err A S (by omega) λg' q1 q2 q3 q4 q5 q6=>⟨false,rfl,?_⟩)
  refine hE g' 0 3 (by omega) ?_ q1 q2 q3 q4 q5 q6
  unfold ym;rw[if_pos ae]
 ·have aj:s.length<=65536:=by rw[zj]at am;simp at am;omega
  have hR:ym s=Qj s.length s 0 []:=by unfold ym;rw[if_neg (by omega)]
  refine⟨λk g'=>∃(a f:Nat) (out:List Tk) (ap:Sl) (ax:List Nat),k=(a:Int)/\a<=s.length/\s.length-a<=f/\out.length<=a/\ym s=Qj f s a out/\TkS h M b2 b3 b4 b5 bc D l rec s out ap ax g',λk _=>s.length-k.toNat,⟨0,s.length,[],sl,bs,rfl,by omega,by omega,Ad _,hR,S⟩,?_⟩
  rintro k g1 ⟨a,f,out,ar,au,rfl,ha,hf,ho,hT,S1⟩
  refine⟨bl s,S1.c.cell rfl,λai=>⟨bl s,S1.c.cell rfl,?_⟩,λak=>?_⟩
  ·have aa:a<s.length:=by rw[zj]at ai;simp at ai;omega
   obtain⟨f,rfl⟩:∃f',f=f'+1:=⟨f-1,by omega⟩
   have aA:AgM M g1:=ag.keep S1.keep
   refine qa4 hg hM aA aj aa λg2 k2=>?_
   obtain⟨tk,t,e,Z⟩:∃k t e,Zi s a=(k,t,e):=⟨_,_,_,rfl⟩
   have z2:=k2.size
   by_cases he:e=0
   ·subst he
    have hp:=Ze aa (by rw[Z])
    rw[Z]at hp
    have aC:a<t:=hp.1
    have an:t<=s.length:=hp.2
    have ev:zoe s a=.tuple #[.agg #[.int .i64 tk,.int .i64 (a:Int),.int .i64 (t:Int)],.int .i64 0]:=by unfold zoe;rw[Z,if_pos rfl]
    refine⟨tk,a,t,0,ev,?_⟩
    intro g3
    have k3:Keep g2.size g2 g3:=Keep.push _ _ (Ad _)
    have z3:g3.size=g2.size+1:=Ak _
    have B3:Blk g3 g2.size (zod 0 0 0).toArray:=Blk.new _ _ _
    clear_value g3
    refine z7s B3 λg4 q1 q2 q3=>⟨tk,a,t,q3.ld,?_⟩
    have f4:∀j,j<g1.size->g4[j]?=g1[j]?:=λj hj=>by rw[q1 j (by omega),k3.get j (by omega),k2.get j hj]
    have S4:=S1.frame A (by omega) f4
    have ll:=lt_of_some S1.rc
    refine af S4.rc (TkS.round A ag S4 (by omega) λg5 aB ay S5 z5 f5=>⟨true,rfl,λhx=>by simp at hx,λ_=>?_⟩)
    refine⟨t,?_,⟨t,f,_,aB,ay,rfl,an,by omega,?_,?_,S5⟩,?_⟩
    ·rw[qn,qn]
     refine(q3.keep (f5 g2.size (by omega) (by omega) (by omega) λhm=>?_)).cell rfl
     have:=(S1.o.own g2.size hm).2.1
     omega
    ·rw[Ap];show out.length+1<=t;omega
    ·rw[hT,z2b aa Z]
    ·show s.length-(t:Int).toNat<s.length-(a:Int).toNat
     rw[Ah,Ah];omega
   ·have ev:=zfe Z he
    refine⟨0,t,t,e,ev,?_⟩
    intro g3
    have k3:Keep g2.size g2 g3:=Keep.push _ _ (Ad _)
    have z3:g3.size=g2.size+1:=Ak _
    have B3:Blk g3 g2.size (zod 0 0 0).toArray:=Blk.new _ _ _
    clear_value g3
    refine z7s B3 λg4 q1 q2 q3=>⟨0,t,t,q3.ld,?_⟩
    have f4:∀j,j<g1.size->g4[j]?=g1[j]?:=λj hj=>by rw[q1 j (by omega),k3.get j (by omega),k2.get j hj]
    have S4:=S1.frame A (by omega) f4
    refine af S4.rc (TkS.err A S4 he λg5 w1 w2 w3 w4 w5 w6=>⟨false,rfl,λ_=>?_,λhx=>by simp at hx⟩)
    exact hE g5 t e he (by rw[hT,z2c aa Z he]) w1 w2 w3 w4 w5 w6
  ·have ah:¬a<s.length:=by rw[zj]at ak;simp at ak;omega
   have az:a=s.length:=by omega
   exact hN g1 out ar au S1 (by rw[hT,zy3 ah,az]) (by omega)
end
end
end Go.X
end
section
namespace Go.X
open Go Go.X Go.Proofs Go.RowKit
set_option maxRecDepth 100000 in
set_option maxHeartbeats 4000000 in
section
theorem z2d{gl M:Fr}(hg:GL gl)(hM:Fr.le gl M){h:za}(ag:AgM M h){s:Bs}{K:Value->za->Prop}
  (hK:∀(h':za) (M':Fr) (t:Sl),Later h M h' M'->Rd M' (.row tTk) (ym s).1 [slV t]->K (.tuple #[slV t,.int .i64 ((ym s).2.1:Nat),.int .i64 (ym s).2.2]) h'):
  XC Tp 60 #[.string (bl s)] h K:=by
 apply zly
 intro h1 h2 h3 h4
 have k1:Keep h.size h h1:=Keep.push _ _ (Ad _)
 have k2:Keep h1.size h1 h2:=Keep.push _ _ (Ad _)
 have k3:Keep h2.size h2 h3:=Keep.push _ _ (Ad _)
 have k4:Keep h3.size h3 h4:=Keep.push _ _ (Ad _)
 have z1:h1.size=h.size+1:=Ak _
 have z2:h2.size=h1.size+1:=Ak _
 have z3:h3.size=h2.size+1:=Ak _
 have z4:h4.size=h3.size+1:=Ak _
 have B1:Blk h1 h.size #[.slice none 0 0]:=Blk.new _ _ _
 have B2:Blk h2 h1.size #[.int .i64 0]:=Blk.new _ _ _
 have B3:Blk h3 h2.size #[.int .i64 0]:=Blk.new _ _ _
 have B4:Blk h4 h3.size #[.slice none 0 0]:=Blk.new _ _ _
 clear_value h4 h3 h2 h1
 apply zup
 intro h5
 have k5:Keep h4.size h4 h5:=Keep.push _ _ (Ad _)
 have z5:h5.size=h4.size+1:=Ak _
 have B5:Blk h5 h4.size #[.string (bl s)]:=Blk.new _ _ _
 clear_value h5
 refine⟨_,rfl,_,_,rfl,by kernel_rfl,λrec ae=>?_⟩
 have e5:∀j,j<h.size->h5[j]?=h[j]?:=λj hj=>by rw[k5.get j (by omega),k4.get j (by omega),k3.get j (by omega),k2.get j (by omega),k1.get j hj]
 have A:Apart h h.size h1.size h2.size h3.size h4.size h5.size (h5.size+1):=⟨by omega,by omega,by omega,by omega,by omega,by omega,rfl⟩
 obtain⟨g0,aa⟩:∃g0,g0=(h5.push (.deferred (some []))).push (.loop (rec .ready none)):=⟨_,rfl⟩
 have gz:g0.size=h5.size+2:=by rw[aa,Ak,Ak]
 have ge:∀j,j<h5.size->g0[j]?=h5[j]?:=λj hj=>by rw[aa,Array.getElem?_push_lt (by rw[Ak];omega)];rw[Array.getElem_push_lt hj,AI hj]
 have gD:g0[h5.size]?=some (.deferred (some [])):=by rw[aa,Array.getElem?_push_lt (by rw[Ak];omega),Array.getElem_push_eq]
 have ab:g0[h5.size+1]?=some (.loop (rec .ready none)):=by
  rw[aa]
  have:h5.size+1=(h5.push (.deferred (some []))).size:=by rw[Ak]
  rw[this,Array.getElem?_push_size]
 rw[<-aa]
 clear aa
 have S:TkS h M h.size h1.size h2.size h3.size h4.size h5.size (h5.size+1) rec s [] ⟨none,0,0⟩ [] g0:=
  ⟨⟨by omega,λj hj=>(ge j (by omega)).trans (e5 j hj)⟩,B5.keep (ge _ (by omega)),gD,ab,
   B1.keep (by rw[ge _ (by omega),k5.get _ (by omega),k4.get _ (by omega),k3.get _ (by omega),k2.get _ (by omega)]),
   B2.keep (by rw[ge _ (by omega),k5.get _ (by omega),k4.get _ (by omega),k3.get _ (by omega)]),
   B3.keep (by rw[ge _ (by omega),k5.get _ (by omega),k4.get _ (by omega)]),
   B4.keep (by rw[ge _ (by omega),k5.get _ (by omega)]),.nil⟩
 refine qdr A hg hM ag S (x9:=_) (x8:=_) (x0:=_) ae ?_ ?_
 ·intro g out sl bs S' hT ho
  have ll:=lt_of_some S'.rc
  refine .inl ⟨S'.rc,?_⟩
  obtain⟨g6,Z⟩:∃g6,g6=g.setIfInBounds (h5.size+1) (.loop (rec .exhausted none)):=⟨_,rfl⟩
  have z6:g6.size=g.size:=by rw[Z,AU]
  have f6:∀j,j≠h5.size+1->g6[j]?=g[j]?:=λj hj=>by rw[Z];exact yk hj
  rw[<-Z]
  clear Z
  refine⟨sl,(S'.r5.keep (f6 _ (by omega))).cell rfl,?_⟩
  refine xh z7w z7x (S'.r2.keep (f6 _ (by omega))) (by show 0<1;omega) rfl λg7 u1 u3 u2=>?_
  refine xh qa8 qa9 (S'.r3.keep ((u2 _ (by omega)).trans (f6 _ (by omega)))) (by show 0<1;omega) rfl λg8 v1 v3 v2=>?_
  refine xh qba qbb (S'.r4.keep ((v2 _ (by omega)).trans ((u2 _ (by omega)).trans (f6 _ (by omega))))) (by show 0<1;omega) rfl λg9 w1 w3 w2=>?_
  have f9:∀j,j≠h5.size+1->j≠h.size->j≠h1.size->j≠h2.size->g9[j]?=g[j]?:=λj a1 a2 a3 a4=>by rw[w2 j a4,v2 j a3,u2 j a2,f6 j a1]
  refine⟨(f9 _ (by omega) (by omega) (by omega) (by omega)).trans S'.d,?_⟩
  have fx:∀j,j≠h5.size->(g9.setIfInBounds h5.size (.deferred none))[j]?=g9[j]?:=λj hj=>yk hj
  have Bx:Blk (g9.setIfInBounds h5.size (.deferred none)) h.size #[slV sl]:=u1.keep (by rw[fx _ (by omega),w2 _ (by omega),v2 _ (by omega)])
  have By:Blk (g9.setIfInBounds h5.size (.deferred none)) h1.size #[.int .i64 (((bl s).size:Nat):Int)]:=v1.keep (by rw[fx _ (by omega),w2 _ (by omega)])
  have Bz:Blk (g9.setIfInBounds h5.size (.deferred none)) h2.size #[.int .i64 0]:=w1.keep (fx _ (by omega))
  refine⟨sl,Bx.cell rfl,_,By.cell rfl,0,Bz.cell rfl,?_⟩
  have kx:Keep h.size h (g9.setIfInBounds h5.size (.deferred none)):=by
   have:=S'.keep.size
   refine⟨by rw[AU];omega,λj hj=>?_⟩
   rw[fx j (by omega),f9 j (by omega) (by omega) (by omega) (by omega)];exact S'.keep.get j hj
  have ow:=S'.o.own
  have ox:=S'.o.frame (h':=g9.setIfInBounds h5.size (.deferred none)) (λc hc=>by have:=ow c hc;rw[fx c (by omega),f9 c (by omega) (by omega) (by omega) (by omega)]) (Fr.le.refl M) λc hc=>(ow c hc).2.2
  have:=hK _ (MxL M (g9.setIfInBounds h5.size (.deferred none)) bs) sl (MxL.later ag kx λc hc=>by have:=ow c hc;omega) (by rw[hT];exact ox.rd (ag.keep kx) (λc hc=>hc) (by omega))
  rw[hT]at this
  rw[zj]
  exact this
 ·intro g t e he hT kg gd gr q2 q3 q4
  refine .inr ⟨gr,?_⟩
  obtain⟨g6,Z⟩:∃g6,g6=g.setIfInBounds (h5.size+1) (.loop (rec .exhausted (some .ret))):=⟨_,rfl⟩
  have z6:g6.size=g.size:=by rw[Z,AU]
  have f6:∀j,j≠h5.size+1->g6[j]?=g[j]?:=λj hj=>by rw[Z];exact yk hj
  rw[<-Z]
  clear Z
  refine⟨(f6 _ (by omega)).trans gd,?_⟩
  have fx:∀j,j≠h5.size->(g6.setIfInBounds h5.size (.deferred none))[j]?=g6[j]?:=λj hj=>yk hj
  have Bx:Blk (g6.setIfInBounds h5.size (.deferred none)) h.size #[.slice none 0 0]:=q2.keep (by rw[fx _ (by omega),f6 _ (by omega)])
  have By:Blk (g6.setIfInBounds h5.size (.deferred none)) h1.size #[.int .i64 (t:Int)]:=q3.keep (by rw[fx _ (by omega),f6 _ (by omega)])
  have Bz:Blk (g6.setIfInBounds h5.size (.deferred none)) h2.size #[.int .i64 e]:=q4.keep (by rw[fx _ (by omega),f6 _ (by omega)])
  refine⟨⟨none,0,0⟩,Bx.cell rfl,_,By.cell rfl,e,Bz.cell rfl,?_⟩
  have kx:Keep h.size h (g6.setIfInBounds h5.size (.deferred none)):=by
   have:=kg.size
   refine⟨by rw[AU];omega,λj hj=>?_⟩
   rw[fx j (by omega),f6 j (by omega)];exact kg.get j hj
  have:=hK _ M ⟨none,0,0⟩ (Later.same ag kx) (by rw[hT];exact⟨_,rfl,none,0,rfl,⟨by simp,by simp⟩,.inl rfl⟩)
  rw[hT]at this
  exact this
end
end Go.X
end
section
namespace Go.X
open Go Go.X Go.Proofs Go.RowKit
section
theorem zol:∀(f:Nat) (s:Bs) (a:Nat) (o:List Tk),(Qj f s a o).1.length<=o.length+f
 |0,s,a,o=>Nat.le_add_right _ _
 |f+1,s,a,o=>by
  rw[Qj]
  split
  ·split
   ·have:=zol f s (Zi s a).2.1 (o++[((Zi s a).1,((a:Int),((Zi s a).2.1:Int)))])
    rw[Ap,List.length_singleton]at this;omega
   ·simp
  ·simp
end
section
variable {lo b:Nat} {g:za} {M:Fr} {cs:Array Value}
def zz0(na:NA)(b:Nat):List Nat:=if na.length=0 then []else b::na.flatMap λp=>p.2.kb++p.2.pb
theorem z2e{na:NA}{sl:Sl}(H:NS lo g M na sl b cs){c:Nat}(h:c∈zz0 na b):lo<=c:=by
 unfold zz0 at h
 split at h
 ·cases h
 rename_i h0
 rcases Af.1 h with rfl|h
 ·exact(H.lb (H.cell (n:=0) (by omega)).2.2.1).1
 ·obtain⟨p,hp,hc⟩:=Bi.1 h
  exact((H.nd p hp).own (As.1 hc)).1
theorem zqz{na:NA}(h:0<na.length):zz0 na b=b::na.flatMap λp=>p.2.kb++p.2.pb:=by unfold zz0;rw[if_neg (by omega)]
theorem NS.rd{na:NA}{sl:Sl}(H:NS lo g M na sl b cs)(ag:AgM M g)(hn:na.length<=4096)(hk:∀p∈na,ndW p.1<=1000000):Rd (MxL M g (zz0 na b)) (.row tNd) (na.map (·.1)) [slV sl]:=by
 have hl:=H.len
 have hc:=H.cr.ro.le
 refine⟨_,rfl,sl.a,sl.cap,?_,⟨by rw[A0];omega,by rw[A0];omega⟩,?_⟩
 ·show slV _=_
  unfold slV;rw[A0,hl]
 ·by_cases h0:na=[]
  ·left;rw[h0];rfl
  ·have hp:0<na.length:=Bn.2 h0
   obtain⟨h1,h2,h3,h4,h5⟩:=H.cell hp
   refine .inr ⟨b,0,cs,h1,MxL.at (by rw[zqz hp];exact Aj) h2,λi hi=>?_⟩
   rw[A0]at hi
   have hm:=AL hi
   obtain⟨q1,q2⟩:=H.cr.el i (ndC na[i]) (by rw[BS,Ai hi];rfl)
   rw[Ay,show sz tNd=7 from rfl,q2,List.getElem_map]
   have I:=H.nd _ hm
   have hw:=hk _ hm
   unfold ndW at hw
   have r1:=I.kk.rd ag (all:=zz0 na b) (λc hc=>by rw[zqz hp];exact Ae _ (Bi.2 ⟨_,hm,As.2 (.inl hc)⟩)) (by omega)
   have r2:=I.pp.rd ag (all:=zz0 na b) (λc hc=>by rw[zqz hp];exact Ae _ (Bi.2 ⟨_,hm,As.2 (.inr hc)⟩)) (by omega)
   refine⟨[.int .i64 na[i].1.1],[.int .i64 na[i].1.2.1.1,.int .i64 na[i].1.2.1.2,.int .i64 na[i].1.2.2.1.1,.int .i64 na[i].1.2.2.1.2,slV na[i].2.ks,slV na[i].2.ps],rfl,rfl,?_⟩
   refine⟨[.int .i64 na[i].1.2.1.1,.int .i64 na[i].1.2.1.2],[.int .i64 na[i].1.2.2.1.1,.int .i64 na[i].1.2.2.1.2,slV na[i].2.ks,slV na[i].2.ps],rfl,⟨_,_,rfl,rfl,rfl⟩,?_⟩
   refine⟨[.int .i64 na[i].1.2.2.1.1,.int .i64 na[i].1.2.2.1.2],[slV na[i].2.ks,slV na[i].2.ps],rfl,⟨_,_,rfl,rfl,rfl⟩,?_⟩
   exact⟨[slV na[i].2.ks],[slV na[i].2.ps],rfl,r1,r2⟩
theorem zy4{x:Bs}{l:List Nd}{sl:Sl}(i j:Int)(h:Rd M (.row tNd) l [slV sl]):zcu M [.pair .str (.row tNd),.int .i64,.int .i64] ((bl x,l),i,j) (.tuple #[.agg #[.string (bl x),slV sl],.int .i64 i,.int .i64 j]):=by
 refine⟨[.agg #[.string (bl x),slV sl],.int .i64 i,.int .i64 j],⟨_,_,rfl,?_,_,_,rfl,Xv _ i,_,rfl,Xv _ j⟩,rfl⟩
 exact⟨[.string (bl x),slV sl],rfl,[.string (bl x)],[slV sl],rfl,rfl,h⟩
theorem qbj{T:Ty}:Rd M (.row T) [] [slV ⟨none,0,0⟩]:=⟨_,rfl,none,0,rfl,⟨by simp,by simp⟩,.inl rfl⟩
theorem qds:qd Tp 36=true:=by kernel_rfl
theorem qdt:qt Tp 36=2:=by kernel_rfl
theorem zcq{x y:Value}(B:Blk g b #[x,y]){u:Bt}{v:Sl}{K:za->Prop}(hK:∀g',(∀j,j≠b->g'[j]?=g[j]?)->g'.size=g.size->Blk g' b #[.string u,slV v]->K g'):
  XRunU Tp (An 36 (.pointer (some ⟨b,0,none⟩)) (.agg #[.string u,slV v])) g K:=by
 refine J6 (vs:=[.string u,slV v]) qds B rfl qdt (Ad _) (λw hw=>?_) λg' q1 q2 q3=>hK g' q3 q2 q1
 simp at hw;rcases hw with rfl|rfl <;> rfl
theorem zom{l:List Tk}{k:Nat}(hk:k<l.length):qc (l.take (k+1))=qc (l.take k)++(if l[k].1≠1 then [l[k]]else []):=by
 unfold qc
 rw[AD hk,List.filter_append]
 congr 1
 by_cases h:l[k].1=1
 ·simp[h]
 ·simp[h]
end
end Go.X
end
