/- A part of the proof: nothing is stated here for its own sake. -/
import Derived.Test.YtplilfikcimcbaaGreatDoorPjC
import Derived.Lib.AppendZerosOnto
import Derived.RangeFuncCalls
open _root_.Go.Addr renaming add->YH
open _root_.Array renaming getD_eq_getD_getElem?->za3,getElem?_append_left->zca,getElem?_eq_some_iff->YZ,getElem?_toList->zb4,push->zbq,replicate->zbu,size->ZK,size_push->YW,size_setIfInBounds->zat
open _root_.Bool renaming and_eq_false_iff->zas,and_eq_true->YR,eq_iff_iff->ZI,or_eq_false_iff->zbs,or_eq_true->za1
open _root_.Go.Builtin renaming append_->YN
open _root_.Go.Code renaming cond->zdr,region->zdx
open _root_.Go.Deferred renaming ofValue->zde
open _root_.Go.Instr renaming storeAt->YI
open _root_.Int renaming toNat_natCast->YL
open _root_.List renaming all_eq_true->ZB,append_assoc->ZL,append_nil->ZY,cons_append->ZT,drop_drop->zap,drop_eq_getElem_cons->ZG,drop_eq_nil_of_le->zao,drop_length->zdf,drop_zero->zbi,exists_cons_of_ne_nil->zag,ext_getElem?->zar,getElem?_append_left->zcf,getElem?_append_right->zcb,getElem?_eq_getElem->YS,getElem?_eq_none->zcp,getElem?_eq_some_iff->ZN,getElem?_map->zav,getElem?_modify->zax,getElem?_take->zae,getElem_map->zby,getElem_mem->YY,getElem_of_mem->zbm,length->za6,length_append->YM,length_cons->YU,length_drop->ZE,length_eq_zero_iff->za2,length_map->YO,length_nil->ZW,length_pos_iff->zaj,length_take->ZV,map_append->zaa,map_cons->ZC,map_nil->zbg,mem_append->ZF,mem_append_left->YV,mem_append_right->ZH,mem_cons->YT,mem_cons_of_mem->ZA,mem_cons_self->ZD,mem_flatMap->zbz,mem_of_getElem?->zbj,mem_range->zaz,mem_singleton->za8,nil_append->zal,range->zac,take_left->zdp,take_length->ZX,take_succ_eq_append_getElem->YP
open _root_.List.cons renaming injEq->za7
open _root_.Nat renaming add_assoc->zc7,add_mul->zb8,add_sub_cancel_left->zcx,eq_of_beq_eq_true->ZJ,eq_zero_or_pos->zcg,le_of_ble_eq_true->zbn,le_of_lt->zdg,le_refl->YJ,le_trans->zbd,lt_or_ge->zam,mul_le_mul_right->ZP,mul_one->zbf,not_lt_zero->zcd,succ_mul->zc2,zero_add->ZO,zero_le->ZQ
open _root_.Option renaming bind_some->zbw
open _root_.Option.some renaming injEq->YK
open _root_.Go.Region renaming wanted->zah
open _root_.UInt8 renaming ofNat->ZR,toNat_inj->zcc
open _root_.Go.Utf8 renaming encode->zcy
open _root_.Go.Value renaming int->zad,string->ZS
open _root_.Go.Value.slice renaming injEq->zai
open _root_.Go renaming Program->EM,World->MN,FuncId->n5,Oper->n9
open _root_.Nat renaming beq->gc
open _root_.Decidable renaming decide->hV
open _root_.Array renaming setIfInBounds->o0
open _root_.Bool renaming cond_eq_ite->ph
open _root_.Go.X.Arg renaming mk->qr
open _root_.Go.X.Bk renaming push->rg
open _root_.Go.X.wr renaming same->up
open _root_.Go.X.Blk renaming new->v0
open _root_.List renaming length->DB
set_option linter.all false
set_option maxRecDepth 1000000
set_option maxHeartbeats 20000000
open Go.Proofs.Tryz
namespace Go.X
end Go.X
namespace Go.Proofs
end Go.Proofs
open Go Go.X Go.Proofs
open _root_.Bool renaming true->Ta,false->Tc
open _root_.Option renaming some->Td,none->Te
namespace Go.X
section
open Go.RowKit
section
variable {n:Nat} {gl:Fr}
theorem Ld(h:n<55296\/(57344<=n/\n<=1114111)):zcy (n:Int)=bl (Lib.encodeRune (n:Int)):=by
 have c:Utf8.valid (n:Int)=Ta:=by unfold Utf8.valid;simp only[za1,YR,zA];omega
 unfold zcy Lib.encodeRune;simp only[c,if_true,YL];have b:∀(z:Int) (k:Nat),z=(k:Int)->z.toNat.toUInt8=ZR k:=λz k e=>by subst e;rfl
 by_cases h1:n<128;rw[zi ω,Lib.encodeRuneZ_one ω ω];simp only[ZC,zbg,b (n:Int) n rfl];rw[za ω];by_cases h2:n<2048;rw[zi ω,Lib.encodeRuneZ_two ω ω];simp only[ZC,zbg,b (192+(n:Int) / 64) (192+n / 64) ω,b (128+(n:Int) % 64) (128+n % 64) ω];rw[za ω];by_cases f:n<65536;rw[zi ω,Lib.encodeRuneZ_three ω];simp only[ZC,zbg,b (224+(n:Int) / 4096) (224+n / 4096) ω,b (128+(n:Int) / 64 % 64) (128+n / 64 % 64) ω,b (128+(n:Int) % 64) (128+n % 64) ω];rw[za ω,Lib.encodeRuneZ_four ω ω];simp only[ZC,zbg,b (240+(n:Int) / 262144) (240+n / 262144) ω,b (128+(n:Int) / 4096 % 64) (128+n / 4096 % 64) ω,b (128+(n:Int) / 64 % 64) (128+n / 64 % 64) ω,b (128+(n:Int) % 64) (128+n % 64) ω]
def Hf(h:n<55296\/(57344<=n/\n<=1114111)){R:Bt->Prop}(b:R (bl (Lib.encodeRune (n:Int)))):aa5 gl 380 [qr q0 (n:Int)] [.str] R:=by apply Ry;rw[Qb ω ω,Ld h];exact b
def escF:Bs:=[34,92,47,98,102,110,114,116]
def escT:Bs:=[34,92,47,8,12,10,13,9]
def N8:∀k:Fin 8,hG (escF.getD k.val 0)=Td (escT.getD k.val 0).toNat:=ζ
theorem Ph{c:UInt8}(h:∀j:Nat,j<8->escF.getD j 0≠c):hG c=Te:=by have q:∀j:Nat,j<8->c≠escF.getD j 0:=λj n e=>h j n e.symm;have m:=q 0 ω;have o:=q 1 ω;have p:=q 2 ω;have k:=q 3 ω;have b:=q 4 ω;have l:=q 5 ω;have f:=q 6 ω;have i:=q 7 ω;simp only[escF,List.getD_cons_zero,List.getD_cons_succ]at m o p k b l f i;unfold hG;rw[za (by rintro(h|h|h) <;> contradiction),za k,za b,za l,za f,za i]
theorem TQ{a b:UInt8}:((a.toNat:Int)==(b.toNat:Int))=hV (a=b):=by rw[ZI,beq_iff_eq,zA,QV];omega
def Ps{t:Bs}{a:Nat}(H:a<DB t)(G:t.length<=1099511627776){R:Bt×Int->Prop}(h:R (match iO (t.drop a)with|some (r,n)=>(bl (Lib.encodeRune (r:Int)),(n:Int))|none=>(bl [],0))):aa5 gl 348 [qr .str (bl t),qr q0 (a:Int)] [.str,.int .i64] R:=by
 apply Ts;have U:(ad3:Bt)=bl escF:=rfl;have Q:(⟨#[34,92,47,8,12,10,13,9]⟩:Bt)=bl escT:=rfl;rw[U,Q];have P:(DB escF:Int)=8:=rfl;have lT:(DB escT:Int)=8:=rfl;simp only[zf,P,lT,bR (n:=(a:Int)+1) ω,bR (n:=(a:Int)+2) ω,bR (n:=(a:Int)+6) ω,bR (n:=(a:Int)+7) ω,bR (n:=(a:Int)+8) ω];refine⟨λu=>?_,λu=>?_⟩;have u:=zB u;have e:t.drop a=[t[a]]:=by rw[ZG H,zao ω]
 rw[e]at h;exact h;have u:=zC u;have h1:a+1<DB t:=ω
 have V:t.drop a=t[a]::t[a+1]::t.drop (a+2):=by rw[ZG H,ZG h1]
 rw[V]at h;unfold iO at h;dsimp only at h;have b1:ze (bl t) ((a:Int)+1).toNat=(t[a+1].toNat:Int):=by rw[zx,show((a:Int)+1).toNat=a+1 by omega,Yw h1]
 rw[b1];generalize t[a+1]=c at h b1 ⊢;refine⟨λi=>∃k:Nat,k<=8/\i=(k:Int)/\∀j,j<k->escF.getD j 0≠c,λi=>8-i.toNat,⟨0,ω,rfl,λj Y=>ω⟩,?_⟩;rintro i ⟨k,hk,rfl,M⟩;refine⟨λw=>?_,λw=>?_⟩;have w:=zB w;have b:k<8:=ω
 have b2:ze (bl escF) (k:Int).toNat=((escF.getD k 0).toNat:Int):=by rw[zx,YL,List.getD_eq_getElem?_getD]
 rw[b2,TQ,qo (n:=8) b ω];refine⟨⟨ω,ω⟩,⟨ω,ω⟩,λl=>⟨⟨ω,ω,ω⟩,?_⟩,λl=>⟨⟨k+1,ω,rfl,λj Y=>?_⟩,by show 8-((k+1:Nat):Int).toNat<8-((k:Nat):Int).toNat;omega⟩⟩;have l:=zB l;have y:=N8 ⟨k,b⟩;dsimp only at y;rw[<-l]at y;rw[y]at h;dsimp only at h;have ex:(bl escT).extract (k:Int).toNat ((k+1:Nat):Int).toNat=bl (Lib.encodeRune (((escT.getD k 0).toNat:Nat):Int)):=by
  rw[qa,YL,YL];have:∀k:Fin 8,(escT.drop k.val).take (k.val+1-k.val)=Lib.encodeRune (((escT.getD k.val 0).toNat:Nat):Int):=ζ
  rw[this ⟨k,b⟩]
 rw[ex];exact h;have l:=zC l;obtain N|N:=zam j k;exact M j N;have:j=k:=ω
 subst this;exact λe=>l e.symm;have w:=zC w;have b:k=8:=ω
 subst b;rw[Ph M]at h;dsimp only at h;have q:((c.toNat:Int) != 117)=!hV (c=117):=by rw[bne,show((c.toNat:Int)==117)=hV (c=117)from gV (n:=117) ω]
 rw[q];refine⟨⟨ω,ω⟩,λE=>?_,λE=>?_⟩;rw[za (ψ E)]at h;exact h;rw[zi (ψ E)]at h;unfold kL at h;have s2:(a:Int)+2=((a+2:Nat):Int):=rfl;have s8:(a:Int)+8=((a+8:Nat):Int):=rfl;rw[s2];refine Hp ω G ?_;cases e1:eS (t.drop (a+2))with
 |none=>rw[e1]at h;exact⟨λ_=>h,λo=>by simp at o⟩
 |some n=>
  rw[e1]at h;have Z:=jW e1;have C:=FQ e1;rw[ZE]at C;dsimp only at h ⊢;refine⟨λo=>?_,λo=>⟨λB=>?_,λB=>?_⟩⟩;simp only[ph,Bool.if_true_left,Bool.if_false_right,za1,YR,zA]at o;rw[zi ω]at h;exact h;simp only[ph,Bool.if_true_left,Bool.if_false_right,za1,zbs,zas,decide_eq_false_iff_not,zA]at o B;rw[za ω,zi ω]at h;exact Hf ω h;simp only[ph,Bool.if_true_left,Bool.if_false_right,zbs,zas,decide_eq_false_iff_not,zA]at o B;rw[za ω,za ω]at h;have J:∀k,a+k<DB t->ze (bl t) ((a:Int)+(k:Int)).toNat=((t[a+k]?.getD 0).toNat:Int):=λk hk=>by rw[zx,show((a:Int)+(k:Int)).toNat=a+k by omega]
  have I:=J 6;have F:=J 7;simp only[Int.cast_ofNat_Int]at I F;by_cases L:a+7<DB t;have z:hV ((a:Int)+7>=(DB t:Int))=Tc:=by rw[decide_eq_false_iff_not];omega
  rw[z,I ω,F L];have D:(((t[a+6]?.getD 0).toNat:Int) != 92)=!hV (t[a+6]?.getD 0=92):=by rw[bne,show(((t[a+6]?.getD 0).toNat:Int)==92)=hV (t[a+6]?.getD 0=92)from gV (n:=92) ω]
  have x:(((t[a+7]?.getD 0).toNat:Int) != 117)=!hV (t[a+7]?.getD 0=117):=by rw[bne,show(((t[a+7]?.getD 0).toNat:Int)==117)=hV (t[a+7]?.getD 0=117)from gV (n:=117) ω]
  rw[D,x];have A:((t.drop (a+2)).drop 4).take 2=[t[a+6]?.getD 0,t[a+7]?.getD 0]:=by rw[zap,show a+2+4=a+6 by omega,ZG ω,ZG ω,Yw ω,Yw L];rfl
  rw[A,zap]at h;refine⟨λ_=>⟨ω,ω⟩,λ_=>⟨ω,ω⟩,λf=>?_,λf=>?_⟩;rw[za (by intro p;simp only[za7,and_true]at p;rw[p.1,p.2]at f;simp at f)]at h;exact h;have p:t[a+6]?.getD 0=92/\t[a+7]?.getD 0=117:=ψ f
  rw[zi (by rw[p.1,p.2])]at h;rw[s8];refine Hp ω G ?_;rw[show a+2+6=a+8 by omega]at h;cases e4:eS (t.drop (a+8))with
  |none=>rw[e4]at h;exact⟨λ_=>h,λs=>by simp at s⟩
  |some m=>
   rw[e4]at h;have S:=jW e4;dsimp only at h ⊢;refine⟨λs=>?_,λs=>?_⟩;simp only[ph,Bool.if_true_left,za1,zA]at s;rw[za ω]at h;exact h;simp only[ph,Bool.if_true_left,zbs,decide_eq_false_iff_not,zA]at s;rw[zi ω]at h;rw[bR (n:=(n:Int)-55296) ω,bR (n:=1024*((n:Int)-55296)) ω,bR (n:=65536+1024*((n:Int)-55296)) ω,bR (n:=65536+1024*((n:Int)-55296)+(m:Int)) ω,bR ω];have O:65536+1024*((n:Int)-55296)+(m:Int)-56320=((65536+(n-55296)*1024+(m-56320):Nat):Int):=ω
   rw[O];exact Hf ω h
  have z:hV ((a:Int)+7>=(DB t:Int))=Ta:=by rw[zA];omega
  rw[z];have A:((t.drop (a+2)).drop 4).take 2≠[92,117]:=by intro e;have:=congrArg za6 e;simp only[ZV,ZE,YU,ZW]at this;omega
  rw[za A]at h;exact⟨λf=>(by cases f),λf=>(by cases f),λ_=>h,λf=>(by cases f)⟩
end
section
variable {t:Bs} {k:Nat} {gl:Fr}
def Iz{c:UInt8}{l:Bs}(h:128<=c.toNat):128<=(dec (c::l)).1:=by
 unfold dec;have e:((c::l).getD 0 0).toNat=c.toNat:=rfl;rw[e];unfold Lib.decodeN;have:=c.toNat_lt;repeat' split
 all_goals (simp only at *;omega)
theorem Pa(b:k<DB t):(t.drop k).head?=Td t[k]:=by rw[List.head?_drop,YS b]
def UC(b:k<DB t):t.drop k≠[]:=by rw[<-zaj,ZE];omega
theorem SD(c:k<DB t):hV ((dec (t.drop k)).1<32\/eF (dec (t.drop k))=Ta)=(cond (hV ((t[k].toNat:Int)<32)) Ta (!(!eF (dec (t.drop k))))):=by
 rw[Bool.not_not];have b:t.drop k=t[k]::t.drop (k+1):=ZG c;obtain h1|h1:=zam t[k].toNat 128;have e:dec (t.drop k)=(t[k].toNat,1):=by rw[b];exact Yv h1
 have f:eF (dec (t.drop k))=Tc:=by rw[b];exact XQ h1
 rw[f,e,ZI];cases hq:hV ((t[k].toNat:Int)<32)with
 |true=>have:=zB hq;simp;omega
 |false=>have:=zC hq;simp;omega
 have e:¬(dec (t.drop k)).1<32:=by rw[b];have:=Iz (l:=t.drop (k+1)) h1;omega
 have h:hV ((t[k].toNat:Int)<32)=Tc:=by rw[decide_eq_false_iff_not];omega
 rw[h,ZI];simp only[e,false_or,zA,zG]
def Fc{a:Nat}(G:a<=1099511627776)(J:t.length<=1099511627776){R:Bt×Int×Int->Prop}(l:R (bl (ye t a).1,((ye t a).2.1:Int),(ye t a).2.2)):aa5 gl 293 [qr .str (bl t),qr q0 (a:Int)] [.str,.int .i64,.int .i64] R:=by
 apply OO;have E:(⟨#[]⟩:Bt)=bl []:=rfl;rw[zf,E,YL];obtain s|B:=zam a (DB t);have C:hV ((a:Int)>=(DB t:Int))=Tc:=by rw[decide_eq_false_iff_not];omega
 have A:((ze (bl t) a) != 34)=!hV (t[a]=34):=by rw[zx,Yw s,bne,show((t[a].toNat:Int)==34)=hV (t[a]=34)from gV (n:=34) ω]
 rw[C,A];refine⟨λ_=>⟨ω,ω⟩,λm=>?_,λm=>?_⟩;have:¬t[a]=34:=ψ m
 have e:ye t a=([],a,2):=by unfold ye;rw[za (by rw[Pa s,YK];exact this)]
 rw[e]at l;exact l;have z:t[a]=34:=ψ m
 have N:ye t a=(let q:=gj (t.drop (a+1));ite q.2.2 (q.1,a+1+q.2.1,0) ([],a+1+q.2.1,2)):=by unfold ye;rw[zi (by rw[Pa s,z])]
 rw[qo s ω];refine⟨λo i=>∃(k:Nat) (out:Bs),i=(k:Int)/\o=bl out/\k<=DB t/\DB out<=4*k/\ye t a=(let q:=gj (t.drop k);ite q.2.2 (out++q.1,k+q.2.1,0) ([],k+q.2.1,2)),λ_ i=>DB t-i.toNat,⟨a+1,[],rfl,rfl,ω,ξ,π N⟩,?_⟩;rintro o i ⟨k,out,rfl,rfl,S,P,p⟩;simp only[YL,zf];refine⟨λm=>?_,λm=>?_⟩;have f:k<DB t:=χ (zB m)
 have u:=UC f;have b:=Yj u;rw[Pa f]at b;have b0:ze (bl t) k=(t[k].toNat:Int):=by rw[zx,Yw f]
 simp only[b0,show((t[k].toNat:Int)==34)=hV (t[k]=34)from gV (n:=34) ω,show((t[k].toNat:Int)==92)=hV (t[k]=92)from gV (n:=92) ω];refine⟨⟨ω,ω⟩,λw=>?_,λw=>⟨⟨ω,ω⟩,λD=>?_,λD=>?_⟩⟩;rw[zi (by rw[zB w])]at b;rw[b]at p;rw[qo f ω];rw[p]at l;simpa using l;rw[za (by rw[YK];exact zC w)]at b;have y:J4 (t.drop k)=iO (t.drop k):=by unfold J4;rw[zi (by rw[Pa f,zB D])]
 rw[y]at b;refine Ps f J ?_;cases e1:iO (t.drop k)with
 |none=>rw[e1]at b;refine⟨λ_=>?_,λr=>(ε r)⟩;dsimp only at b;rw[b]at p;rw[p]at l;simpa using l
 |some x=>
  have⟨c,n⟩:=x;rw[e1]at b;have⟨V,Y,F,Q⟩:=AF e1;rw[ZE]at F;have H:(Lib.encodeRune (c:Int)).length<=4:=by have:=(Lib.encodeRuneZ_length (c:Int)).2;rw[Lib.encodeRune,YO];exact this
  dsimp only at b ⊢;refine⟨λr=>by simp only[beq_iff_eq]at r;omega,λ_=>⟨ET (by rw[zf];omega),?_⟩⟩;rw[bR (n:=(k:Int)+(n:Int)) ω];refine⟨⟨k+n,out++Lib.encodeRune (c:Int),rfl,qf _ _,ω,by rw[YM];omega,?_⟩,ω⟩;rw[p,b,zap];dsimp only;rw[ZL,zc7]
 rw[za (by rw[YK];exact zC w)]at b;have y:J4 (t.drop k)=ite ((dec (t.drop k)).1<32\/eF (dec (t.drop k))=Ta) Te (Td (dec (t.drop k))):=by unfold J4;rw[za (by rw[Pa f,YK];exact zC D)]
 rw[y]at b;refine FV (a:=k) (by rw[zf];exact f) (by rw[zf];omega) ?_;have I:mz (bl t) k=!eF (dec (t.drop k)):=by unfold mz;rw[yr]
 rw[I,<-SD f];refine⟨⟨ω,ω⟩,λr=>?_,λr=>?_⟩;rw[zi (zB r)]at b;dsimp only at b;rw[b]at p;rw[p]at l;simpa using l;have r:=zC r;rw[za r]at b;refine xQ (by rw[zf];omega) ?_;have L:lu (bl t) (k:Int)=(((dec (t.drop k)).1:Int),((dec (t.drop k)).2:Int)):=by unfold lu;rw[za (by rw[zf];omega),yr,YL]
 rw[L];have U:=ju (t.drop k);have d2:=lZ u;rw[ZE]at d2;dsimp only at b ⊢;rw[bR (n:=(k:Int)+((dec (t.drop k)).2:Int)) ω];have O:((k:Int)+((dec (t.drop k)).2:Int)).toNat=k+(dec (t.drop k)).2:=ω
 have M:(bl t).extract k (k+(dec (t.drop k)).2)=bl (Lib.encodeRune ((dec (t.drop k)).1:Int)):=by
  rw[qa,show k+(dec (t.drop k)).2-k=(dec (t.drop k)).2 by omega,pZ u (by
   cases hb:eF (dec (t.drop k))with
   |false=>rfl
   |true=>exact absurd (.inr hb) r)]
 rw[O,M];have H:(Lib.encodeRune ((dec (t.drop k)).1:Int)).length<=4:=by have:=(Lib.encodeRuneZ_length ((dec (t.drop k)).1:Int)).2;rw[Lib.encodeRune,YO];exact this
 refine⟨⟨ω,ω,ω⟩,ET (by rw[zf];omega),⟨k+(dec (t.drop k)).2,out++Lib.encodeRune ((dec (t.drop k)).1:Int),rfl,qf _ _,ω,by rw[YM];omega,?_⟩,ω⟩;rw[p,b,zap];dsimp only;rw[ZL,zc7];have f:k=DB t:=χ (zC m)
 rw[f,zdf,EZ]at p;rw[p]at l;simpa using l;have C:hV ((a:Int)>=(DB t:Int))=Ta:=by rw[zA];omega
 rw[C];have e:ye t a=([],a,2):=by unfold ye;rw[za (by rw[zao B];exact λh=>by cases h)]
 rw[e]at l;exact⟨λm=>(by cases m),λ_=>l,λm=>(by cases m)⟩
def v4(b:t.length<=1099511627776){R:Bt×Int×Int->Prop}(h:R (bl (Qr t).1,((Qr t).2.1:Int),(Qr t).2.2)):aa5 gl 234 [qr .str (bl t)] [.str,.int .i64,.int .i64] R:=by apply Iu;rw[zf];exact Fc (a:=0) ω b (Fp h)
def UJ{a:Int}(f:t.length<=1099511627776){R:Int×Int->Prop}(h:R (jE t a)):aa5 gl 346 [qr .str (bl t),qr q0 a] [.int .i64,.int .i64] R:=by
 apply TL;rw[zf];have e:(cond (hV (a<0)) Ta (hV (a>(DB t:Int))))=hV (a<0\/(DB t:Int)<a):=by rw[ZI];simp only[ph,Bool.if_true_left,za1,zA]
 rw[e];unfold jE at h;refine⟨λc=>?_,λc=>?_⟩;rw[zi (zB c)]at h;exact h;have k:=zC c;rw[za k]at h;have i:a=((a.toNat:Nat):Int):=ω
 have:=Fc (gl:=gl) (t:=t) (a:=a.toNat) ω f (R:=λb=>R (b.2.1,b.2.2)) h;rw[<-i]at this;exact this
end
end
section
open Go.RowKit
section
def Vw{n:Nat}{bf:ab6}:((zac n).flatMap bf).Nodup↔(∀i,i<n->(bf i).Nodup)/\∀i j,i<j->j<n->∀x∈bf i,∀y∈bf j,x≠y:=by unfold List.Nodup;rw[List.pairwise_flatMap,List.pairwise_iff_getElem];constructor;rintro⟨h1,h2⟩;refine⟨λi hi=>h1 i (ψ hi),λi j b c=>?_⟩;have:=h2 i j φ (ψ c) b;simpa using this;rintro⟨h1,h2⟩;refine⟨λi hi=>h1 i (ψ hi),λi j hi c b=>?_⟩;simp at hi c;simpa using h2 i j b c
end
section
variable {h:zb} {v:Tr} {sk si:Sl} {bk bb:List Nat} {b n i k:Nat} {cs:Array Value} {cw:List Value}
structure OTp (h:zb) (v:Tr) (sk si:Sl) (bk bb:List Nat) (b:Nat) (cs:Array Value) (bf:Nat->List Nat):Prop where
 XK:Th h v.XK bk sk
 hn:si.len=v.WT.length/\v.WT.length<=140737488355328/\v.WT.length<=si.cap
 hz:(v.WT=[]/\bb=[]/\si.cap=0)\/(bb=[b]/\si.a=Td ⟨b,0,Te⟩/\Blk h b cs/\si.cap*4<=cs.size)
 hi:∀i (hx:i<v.WT.length),OT h v.WT[i] (bf i) (cut cs (i*4) 4)
 nk:bk.Nodup
 d1:∀c∈bk,c∉bb
 d2:∀c∈bk,∀i,i<v.WT.length->c∉bf i
 d3:∀c∈bb,∀i,i<v.WT.length->c∉bf i
 d4:∀i j,i<v.WT.length->j<v.WT.length->i≠j->∀c∈bf i,c∉bf j
def Z4(v:Tr)(sk si:Sl):List Value:=[.int .i64 v.Wf,.string v.aa0,aK sk,aK si]
theorem OTp.ot{bf:ab6}(H:OTp h v sk si bk bb b cs bf):OT h v (bk++(bb++(zac v.WT.length).flatMap bf)) (Z4 v sk si):=by have⟨k,s,ks,xs⟩:=v;refine OT.mk (b:=b) (cs:=cs) H.XK H.hn H.hz H.hi ?_;rw[List.nodup_append];refine⟨H.nk,?_,λx f y c e=>?_⟩;rw[List.nodup_append];refine⟨?_,Vw.2 ⟨λi hi=>(H.hi i hi).nodup,λi j l m x f y c e=>?_⟩,λx f y c e=>?_⟩;obtain⟨_,e,_⟩|⟨e,_⟩:=H.hz;simp_all;rw[e];simp;subst e;exact H.d4 i j (Nat.lt_trans l m) m ω x f c;subst e;have⟨i,hi,c⟩:=zbz.1 c;exact H.d3 x f i (ψ hi) c;subst e;obtain c|c:=ZF.1 c;exact H.d1 x f c;have⟨i,hi,c⟩:=zbz.1 c;exact H.d2 x f i (ψ hi) c
def U7{bf:ab6}{n c:Nat}:c∈bk++(bb++(zac n).flatMap bf)↔c∈bk\/c∈bb\/∃i,i<n/\c∈bf i:=ξ
theorem uY(h:i+4<=n):cut cs i 4=((cut cs 0 n).drop i).take 4:=by unfold cut;rw[zbi,List.drop_take,List.take_take,Nat.min_eq_left ω]
def Vq{α:Type}{xs:List α}{w:α}(b:k<=DB xs)(h:i<(xs.take k++w::xs.drop k).length):(i<k/\∃h':i<DB xs,(xs.take k++w::xs.drop k)[i]=xs[i])\/(i=k/\(xs.take k++w::xs.drop k)[i]=w)\/(k<i/\∃h':i-1<DB xs,(xs.take k++w::xs.drop k)[i]=xs[i-1]):=by grind
def Lk{c cw:ab2}(h:c.length=n*4)(b:cw.length=4)(f:k<=n):(∀i,i<k->((c.take (k*4)++cw++c.drop (k*4)).drop (i*4)).take 4=(c.drop (i*4)).take 4)/\((c.take (k*4)++cw++c.drop (k*4)).drop (k*4)).take 4=cw/\∀i,k<i->((c.take (k*4)++cw++c.drop (k*4)).drop (i*4)).take 4=(c.drop ((i-1)*4)).take 4:=by
 have e:(c.take (k*4)).length=k*4:=by rw[ZV];omega
 refine⟨λi hi=>?_,?_,λi hi=>?_⟩;apply zar;intro j;rw[zae,zae];grind;simp_all;rw[List.drop_append,zao η,zal,YM,e,b,zap];congr 2;omega
theorem OTp.ins{h h':zb}{bf:ab6}(H:OTp h v sk si bk bb b cs bf)(E:k<=v.WT.length){w:Tr}{bw:ab1}(U:OT h' w bw cw) (G:∀i,i<v.WT.length->∀c∈bf i,h'[c]?=h[c]?) {p:Sl} {r:Nat} {cs':ab3} (Z:p.a=Td ⟨r,0,Te⟩) (O:Blk h' r cs') (e3:p.len=v.WT.length+1) (e4:v.WT.length+1<=p.cap) (I:p.cap*4<=cs'.size) (e6:v.WT.length+1<=140737488355328) (N:cut cs' 0 ((v.WT.length+1)*4)=(cut cs 0 (v.WT.length*4)).take (k*4)++cw++(cut cs 0 (v.WT.length*4)).drop (k*4)) (aa:∀i,i<v.WT.length->r∉bf i) (z:r∉bw) (F:∀c∈bw,∀i,i<v.WT.length->c∉bf i) {t:List Bt} {x:Sl} {o:ab1} (ok:Th h' t o x) (V:o.Nodup) (M:r∉o) (J:∀c∈o,∀i,i<v.WT.length->c∉bf i) (Y:∀c∈o,c∉bw):OTp h' (.mk v.Wf v.aa0 t (v.WT.take k++w::v.WT.drop k)) x p o [r] r cs' (λi=>ite (i<k) (bf i) (ite (i=k) bw (bf (i-1)))):=by
 have l:(v.WT.take k++w::v.WT.drop k).length=v.WT.length+1:=φ
 have C:∀i (A:i<v.WT.length),(cut cs 0 (v.WT.length*4)).length=v.WT.length*4:=by intro i A;obtain⟨h0,_⟩|⟨_,_,_,S⟩:=H.hz;simp_all;unfold cut;simp;have:=H.hn.2.2;omega
 have y:(cut cs 0 (v.WT.length*4)).length=v.WT.length*4:=by
  by_cases h0:0<v.WT.length;exact C 0 h0;have:v.WT.length=0:=ω
  rw[this];unfold cut;simp
 have D:cw.length=4:=U.len;have⟨c1,c2,c3⟩:=Lk y D E;have u:∀i,i<v.WT.length+1->∀c,c∈(ite (i<k) (bf i) (ite (i=k) bw (bf (i-1))))->(∃j,j<v.WT.length/\c∈bf j)\/c∈bw:=by intro i hi c m;split at m;grind;split at m;grind;exact .inl ⟨i-1,ω,m⟩
 refine⟨ok,⟨θ,θ,θ⟩,.inr ⟨rfl,Z,O,I⟩,λi A=>?_,V,λc m f=>?_,λc m i hi f=>?_,λc m i hi f=>?_,λi j hi B L c m f=>?_⟩;have s:i<(v.WT.take k++w::v.WT.drop k).length:=A;have P:i<v.WT.length+1:=by rw[<-l];exact s
 rw[uY (n:=(v.WT.length+1)*4) ω,N];show OT h' (v.WT.take k++w::v.WT.drop k)[i] _ _;obtain⟨hi,h2,e⟩|⟨hi,e⟩|⟨hi,h2,e⟩:=Vq E s;rw[e,zi hi,c1 i hi,<-uY ω];exact(H.hi i h2).frame (G i h2);simp_all;rw[e,za ω,za ω,c3 i hi,<-uY ω];exact(H.hi (i-1) h2).frame (G (i-1) h2);simp_all;have q:i<v.WT.length+1:=by rw[<-l];exact hi
 obtain⟨j,B,f⟩|f:=u i q c f;simp_all;grind;have q:i<v.WT.length+1:=by rw[<-l];exact hi
 simp at m;subst m;obtain⟨j,B,f⟩|f:=u i q c f;grind;exact z f
 ·have q:i<v.WT.length+1:=by rw[<-l];exact hi
  have Q:j<v.WT.length+1:=by rw[<-l];exact B
  try simp only at m f
  split at m;split at f;grind [d4];split at f;grind;exact H.d4 i (j-1) ω ω ω c m f;split at m;split at f;grind;split at f;omega;exact F c m (j-1) ω f;split at f;exact H.d4 (i-1) j ω ω ω c m f;split at f;exact F c f (i-1) ω m;exact H.d4 (i-1) (j-1) ω ω ω c m f
end
section
variable {cs:Array Value} {o n b:Nat} {h:zb}
theorem kV(h:o+n<=cs.size):(cut cs o n).length=n:=by unfold cut;simp;omega
def Ht(H:Blk h b cs):ik h.size h (Td ⟨b,o,Te⟩) (cut cs o n):=by refine .inr ⟨b,o,rfl,H.lt,λi v c=>H.cell ?_⟩;rw[yy]at c;split at c;rw[<-zb4];exact c;cases c
def IM{P:EM}(H:Blk h b cs){vs:ab2}(k:o+DB vs<=cs.size)(h1:∀u∈vs,u.oneCell'=Ta)(B:MN)(d:Nat):∃h',(storeCells ⟨b,o,Te⟩ vs 0).run P (mk B d h)=.ok () (mk B d h')/\Blk h' b (upd cs o vs)/\h'.size=h.size/\∀j,j≠b->h'[j]?=h[j]?:=by have⟨T,e⟩:=H;have⟨h',l,c,i,f⟩:=Be (P:=P) e k h1 B d;exact⟨h',l,⟨T,c⟩,i,f⟩
end
section
variable {cs:Array Value} {vs:List Value}
structure RowO (h:zb) (s:Sl) (b:Nat) (cs:Array Value) (sz:Nat):Prop where
 le:s.len<=s.cap
 at_:(s.len=0/\s.cap=0)\/(s.a=Td ⟨b,0,Te⟩/\Blk h b cs/\s.cap*sz<=cs.size)
structure RowN (h h':zb) (s':Sl) (b b':Nat) (cs':Array Value) (sz n:Nat) (cells:List Value):Prop where
 a:s'.a=Td ⟨b',0,Te⟩
 len:s'.len=n
 cap:n<=s'.cap
 blk:Blk h' b' cs'
 size:s'.cap*sz<=cs'.size
 cut:cut cs' 0 (n*sz)=cells
 new:b'=b\/h.size<=b'
 grow:h.size<=h'.size
 old:∀j,j<h.size->j≠b'->h'[j]?=h[j]?
def IJ{n m:Nat}(f:n+DB vs<=cs.size)(c:m=n+DB vs):cut (upd cs n vs) 0 m=cut cs 0 n++vs:=by subst c;have b:(cut cs 0 n).length=n:=kV ω;apply zar;intro q;rw[yy];split;rename_i e;rw[ZO,IN f];split;rename_i h1;rw[zcf (ϖ b h1),yy,zi h1,ZO];rename_i h1;rw[zcb (ο b),b];rename_i e;rw[zcp];rw[YM,b];omega
def q7{P:EM}{t e:TypeId}{z:Value}{sz bytes:Nat}(T:GS P t e z sz bytes){ty:TypeId}{h:zb}{s:Sl}{b:Nat}(H:RowO h s b cs sz){bv cv:Nat}(Y:Blk h bv vs.toArray)(i:vs.length=sz)(h1:∀u∈vs,u.oneCell'=Ta)(I:(s.len+1)*bytes<=140737488355328)(U:s.len+1<=140737488355328){K:vvv} (y:∀(w:Sl) (h':zb) (G:Nat) (cs':ab3),RowN h h' w b G cs' sz (s.len+1) (cut cs 0 (s.len*sz)++vs)->K (.slice w.a w.len w.cap) h'):CA P (YN #[t,t] ty #[.slice s.a s.len s.cap,.slice (Td ⟨bv,0,Te⟩) 1 cv]) h K:=by
 intro B d;have m:ik h.size h (Td ⟨bv,0,Te⟩) vs:=by have:=Ht Y (o:=0) (n:=DB vs);rw[show cut vs.toArray 0 (DB vs)=vs by unfold cut;simp]at this;exact this
 have D:∀B d,Src P sz t (.slice (Td ⟨bv,0,Te⟩) 1 cv) 1 vs (mk B d h):=λB d=>BV (P:=P) (s:=⟨Td ⟨bv,0,Te⟩,1,cv⟩) m (ϑ i) T.pos h1 T.slice B d;have O:(s.len+1)*sz=s.len*sz+sz:=zc2 _ _;by_cases x:s.len+1<=s.cap;obtain⟨_,h0⟩|⟨r,k,E⟩:=H.at_;omega;have Q:(s.len+1)*sz<=s.cap*sz:=ZP _ x;have⟨h',F,S,r3,J⟩:=IM (P:=P) k (o:=s.len*sz) (vs:=vs) (ο i) h1 B d;have q:=Xi (P:=P) (ty:=ty) T (s:=s) (h':=h') (D B d) x (λp A=>by rw[r]at A;cases A;rw[zl,ZO];exact F) (λC=>by rw[r]at C;cases C);refine⟨_,d,h',q,y ⟨s.a,s.len+1,s.cap⟩ h' b _ ⟨r,rfl,x,S,by rw[Ci (ο i)];exact E,IJ (ο i) (ϖ i O),.inl rfl,ω,λj V l=>J j l⟩⟩;have f:ik h.size h s.a (cut cs 0 (s.len*sz))/\(cut cs 0 (s.len*sz)).length=s.len*sz:=by obtain⟨h0,_⟩|⟨r,k,E⟩:=H.at_;rw[h0,Nat.zero_mul];exact⟨.inl (by unfold cut;simp),by unfold cut;simp⟩;have Q:s.len*sz<=s.cap*sz:=ZP _ H.le;rw[r];exact⟨Ht k,kV ω⟩
 have⟨c,blk,L,Z,q3,N,M⟩:=zY (P:=P) (ty:=ty) (base:=0) T f.2 (λB d=>Wp f.1 f.2 T.pos B d) D I U (ZQ _) ω B d;refine⟨_,d+1,_,L,y ⟨Td (aa8 h),s.len+1,c⟩ _ h.size blk ⟨rfl,rfl,Z,v0 _ _ _,by rw[N];exact YJ _,by unfold cut;rw[zbi];exact M,.inr (YJ _),ξ,λj V l=>by rw[Array.getElem?_push,za ω]⟩⟩
end
end
section
variable {lo:Nat} {h h':zb} {M M':Fr} {s:Sl} {bs:List Nat}
def Fd(lo:Nat)(h:zb)(M:Fr)(T:Ty)(xs:List (El T))(s:Sl)(bs:List Nat):Prop:=
 (xs=[]/\s.len=0/\s.cap=0/\bs=[])\/∃(b:Nat) (cs:Array Value),bs=[b]/\s.a=Td ⟨b,0,Te⟩/\s.len=xs.length/\s.len<=s.cap/\Blk h b cs/\s.cap*sz T<=cs.size/\lo<=b/\M b=Te/\∀i (hi:i<xs.length),Rd M T xs[i] (cut cs (i*sz T) (sz T))
theorem Fd.nil{T:Ty}:Fd lo h M T [] ⟨Te,0,0⟩ []:=.inl ⟨rfl,rfl,rfl,rfl⟩
theorem Fd.len{T:Ty}{xs:List (El T)}(H:Fd lo h M T xs s bs):s.len=DB xs:=by obtain⟨rfl,h1,_⟩|⟨b,cs,_,_,h1,_⟩:=H;exact h1;exact h1
theorem Fd.own{T:Ty}{xs:List (El T)}(H:Fd lo h M T xs s bs):∀c∈bs,lo<=c/\c<h.size/\M c=Te:=by obtain⟨_,_,_,rfl⟩|⟨b,cs,rfl,_,_,_,e,_,h1,h2,_⟩:=H;intro c f;cases f;intro c f;rw[za8.1 f];exact⟨h1,e.lt,h2⟩
theorem Fd.frame{T:Ty}{xs:List (El T)}(H:Fd lo h M T xs s bs)(f:∀c∈bs,h'[c]?=h[c]?)(le:Fr.le M M')(l:∀c∈bs,M' c=Te):Fd lo h' M' T xs s bs:=by obtain H|⟨b,cs,rfl,h1,h2,m,e,o,n,p,k⟩:=H;exact .inl H;refine .inr ⟨b,cs,rfl,h1,h2,m,?_,o,n,l b ξ,λi hi=>Rd.mono le (k i hi)⟩;unfold Blk at e ⊢;rw[f b ξ];exact e
theorem Fd.call{T:Ty}{xs:List (El T)}(H:Fd lo h M T xs s bs)(L:wr h M h' M'):Fd lo h' M' T xs s bs:=by refine H.frame (λc b=>L.aa1.get c (H.own c b).2.1) L.le λc b=>?_;rw[L.old c (H.own c b).2.1];exact(H.own c b).2.2
theorem Fd.rd{T:Ty}{xs:List (El T)}{bs all:ab1}(H:Fd lo h M T xs s bs)(ag:AgM M h)(k:∀c∈bs,c∈all)(n:xs.length<=1000000):Rd (MxL M h all) (.row T) xs [aK s]:=by obtain⟨rfl,h1,h2,rfl⟩|⟨b,cs,rfl,h1,h2,m,l,q,o,p,e⟩:=H;refine⟨_,rfl,s.a,s.cap,?_,⟨ξ,ξ⟩,.inl rfl⟩;show aK s=_;unfold aK;rw[h1];rfl;refine⟨_,rfl,s.a,s.cap,?_,⟨ω,ω⟩,?_⟩;unfold aK;rw[h2];by_cases f:xs=[];exact .inl f;refine .inr ⟨b,0,cs,h1,MxL.at (k b ξ) l,λi hi=>?_⟩;rw[ZO];exact Rd.mono (il ag all) (e i hi)
theorem Fd.app{t e:TypeId}{z:Value}{bytes:Nat}{T:Ty}(E:GS Tp t e z (sz T) bytes)(G:bytes<=1000){ty:TypeId}{xs:List (El T)}(ag:AgM M h)(H:Fd lo h M T xs s bs)(ah:lo<=h.size){bv cv:Nat}{vs:ab2}{x:El T}(hv:Blk h bv vs.toArray)(I:Rd M T x vs)(S:xs.length<=1000000){K:vvv} (hK:∀(o:Sl) (h':zb) (bs':ab1),Fd lo h' M T (xs++[x]) o bs'->h.size<=h'.size->(∀c∈bs',c∈bs\/h.size<=c)->(∀j,j<h.size->j∉bs->h'[j]?=h[j]?)->K (.slice o.a o.len o.cap) h'):CA Tp (YN #[t,t] ty #[.slice s.a s.len s.cap,.slice (Td ⟨bv,0,Te⟩) 1 cv]) h K:=by
 have C:vs.length=sz T:=Rd.len I;have h1:∀u∈vs,u.oneCell'=Ta:=Rd.one I;have m:=H.len;have A:∀c,h.size<=c->M c=Te:=by
  intro c U;cases e:M c with
  |none=>rfl
  |some cs=>have:=ag.lt e;omega
 obtain⟨b,cs,f,Z,D⟩:∃b cs,RowO h s b cs (sz T)/\((bs=[b]/\lo<=b/\M b=Te)\/(b=h.size/\bs=[]))/\∀i (hi:i<DB xs),i*sz T+sz T<=cs.size/\Rd M T xs[i] (cut cs (i*sz T) (sz T)):=by obtain⟨rfl,J,Q,rfl⟩|⟨b,cs,rfl,J,Q,e3,e4,V,e6,Y,e8⟩:=H;exact⟨h.size,#[],⟨ω,.inl ⟨J,Q⟩⟩,.inr ⟨rfl,rfl⟩,λi hi=>ι hi⟩;refine⟨b,cs,⟨e3,.inr ⟨J,e4,V⟩⟩,.inl ⟨rfl,e6,Y⟩,λi hi=>⟨?_,e8 i hi⟩⟩;have:(i+1)*sz T<=s.cap*sz T:=ZP _ ω;rw[zc2]at this;omega
 have w:(s.len+1)*bytes<=140737488355328:=by have:(s.len+1)*bytes<=1000001*1000:=Nat.mul_le_mul ω G;omega
 refine q7 E f hv C h1 w ω λo h' n d N=>?_;have l:(n∈bs/\lo<=n/\M n=Te)\/h.size<=n:=by obtain e|e:=N.new;obtain⟨r,P,F⟩|⟨r,_⟩:=Z;subst e;exact .inl ⟨υ r,P,F⟩;exact .inr ω;exact .inr e
 refine hK o h' [n] (.inr ⟨n,d,rfl,N.a,by rw[N.len,YM,m];rfl,by rw[N.len];exact N.cap,N.blk,N.size,?_,?_,λi hi=>?_⟩) N.grow (λc U=>?_) λj hj S=>N.old j hj λe=>?_;obtain q|q:=l;exact q.2.1;omega;obtain q|q:=l;exact q.2.2;exact A n q;have y:=N.cut;have aa:i<DB xs+1:=ψ hi
 have hm:(i+1)*sz T<=(s.len+1)*sz T:=ZP _ ω;have ae:(i+1)*sz T=i*sz T+sz T:=zc2 _ _;have af:(s.len+1)*sz T=s.len*sz T+sz T:=zc2 _ _;have key:∀q,q<sz T->(cut d (i*sz T) (sz T))[q]?=(cut cs 0 (s.len*sz T)++vs)[i*sz T+q]?:=by intro q k;rw[yy,zi k,<-y,yy,zi ω,ZO]
 by_cases p:i<DB xs;rw[List.getElem_append_left p];have⟨g1,g2⟩:=D i p;have ab:(i+1)*sz T<=s.len*sz T:=ZP _ ω;have e:cut d (i*sz T) (sz T)=cut cs (i*sz T) (sz T):=by
  apply zar;intro q;by_cases k:q<sz T;rw[key q k,zcf ?_,yy,yy,zi k,zi ω,ZO];have B:s.len*sz T<=cs.size:=by obtain⟨r,P⟩|⟨_,_,F⟩:=f.at_;omega;have:s.len*sz T<=s.cap*sz T:=ZP _ f.le;omega
  rw[kV ω];omega;rw[yy,yy,za k,za k]
 rw[e];exact g2;have L:i=DB xs:=ω
 subst L;rw[List.getElem_append_right (YJ _)];have O:(cut cs 0 (s.len*sz T)).length=DB xs*sz T:=by
  obtain⟨r,P⟩|⟨_,_,F⟩:=f.at_;have:xs.length=0:=ω
  rw[r,this];unfold cut;simp;have:s.len*sz T<=s.cap*sz T:=ZP _ f.le;rw[kV ω,m]
 have e:cut d (DB xs*sz T) (sz T)=vs:=by apply zar;intro q;by_cases k:q<sz T;rw[key q k,zcb ω,O];congr 1;omega;rw[yy,za k,zcp ω]
 rw[e];simpa using I;rw[za8.1 U];obtain q|q:=l;exact .inl q.1;exact .inr q;obtain q|q:=l;exact S (by rw[e];exact q.1);omega
end
section
open Go.RowKit
section
variable {cs:Array Value} {o n q z b bv cv lo c:Nat} {l:List Value} {g g':zb} {t e ty:TypeId} {zv v:Value} {K:Value -> zb -> Prop} {M:Fr}
abbrev gY:Ty:=.pair q0 (.int .i64)
abbrev gN:Ty:=.pair q0 (.pair gY (.pair gY (.pair (.row q0) (.row gY))))
structure Ax where
 ks:Sl
 kb:List Nat
 ps:Sl
 pb:List Nat
def fE:Ax:=⟨⟨Te,0,0⟩,[],⟨Te,0,0⟩,[]⟩
def gy(p:Nd×Ax):List Value:=[.int .i64 p.1.1,.int .i64 p.1.2.1.1,.int .i64 p.1.2.1.2,.int .i64 p.1.2.2.1.1,.int .i64 p.1.2.2.1.2,aK p.2.ks,aK p.2.ps]
structure CR (g:zb) (z:Nat) (els:List (List Value)) (sl:Sl) (b:Nat) (cs:Array Value):Prop where
 ro:RowO g sl b cs z
 ln:sl.len=els.length
 el:∀(i:Nat) (e:List Value),els[i]?=Td e->(i+1)*z<=cs.size/\cut cs (i*z) z=e
def X0(b:l.length=n)(h:∀q,q<n->cs.toList[o+q]?=l[q]?):cut cs o n=l:=by apply zar;grind [yy]
def oS(h:cut cs o n=l)(b:q<n):cs.toList[o+q]?=l[q]?:=by rw[<-h,yy,zi b]
theorem CR.blk{els:List (List Value)}{sl:Sl}(H:CR g z els sl b cs)(c:els≠[]):sl.a=Td ⟨b,0,Te⟩/\Blk g b cs:=by obtain⟨h1,_⟩|⟨h1,h2,_⟩:=H.ro.at_;have:=H.ln;simp_all;simp_all
theorem CR.frame{els:List (List Value)}{sl:Sl}(H:CR g z els sl b cs)(f:els≠[]\/sl.cap≠0->g'[b]?=g[b]?):CR g' z els sl b cs:=by refine⟨⟨H.ro.le,?_⟩,H.ln,H.el⟩;obtain h1|⟨h1,h2,e⟩:=H.ro.at_;omega;by_cases c:sl.cap=0;exact .inl ⟨χ H.ro.le,c⟩;exact .inr ⟨h1,h2.aa1 (f (.inr c)),e⟩
theorem CR.app{bytes z:Nat}(E:GS Tp t e zv z bytes)(w:bytes<=1000){els:List (List Value)}{sl:Sl}(H:CR g z els sl b cs){vs:ab2}(L:Blk g bv vs.toArray)(l:vs.length=z)(h1:∀u∈vs,u.oneCell'=Ta)(P:els.length<=1000000) (C:∀(h:Sl) (g':zb) (k:Nat) (d:ab3),CR g' z (els++[vs]) h k d->g.size<=g'.size->((k=b/\¬(sl.len=0/\sl.cap=0))\/g.size<=k)->k<g'.size->(∀j,j<g.size->j≠k->g'[j]?=g[j]?)->K (.slice h.a h.len h.cap) g'):CA Tp (YN #[t,t] ty #[.slice sl.a sl.len sl.cap,.slice (Td ⟨bv,0,Te⟩) 1 cv]) g K:=by
 have f:=H.ln;have n:(sl.len+1)*bytes<=140737488355328:=by have:(sl.len+1)*bytes<=1000001*1000:=Nat.mul_le_mul ω w;omega
 obtain⟨b0,c,r,F,m⟩:∃b0 c,RowO g sl b0 c z/\((b0=b/\¬(sl.len=0/\sl.cap=0))\/g.size<=b0)/\(∀(i:Nat) (e:ab2),els[i]?=Td e->(i+1)*z<=c.size/\cut c (i*z) z=e):=by by_cases h0:sl.len=0/\sl.cap=0;have S:els=[]:=za2.1 ω;exact⟨g.size,#[],⟨H.ro.le,.inl h0⟩,.inr (YJ _),λi e hi=>θ⟩;exact⟨b,cs,H.ro,.inl ⟨rfl,h0⟩,H.el⟩
 refine q7 E r L l h1 n ω λh g' k d N=>C h g' k d ⟨⟨by rw[N.len];exact N.cap,.inr ⟨N.a,N.blk,N.size⟩⟩,by rw[N.len,YM,f];rfl,λi e hi=>?_⟩ N.grow ?_ N.blk.lt N.old;have A:i<DB els+1:=by have:=(ZN.1 hi).1;rw[YM]at this;exact this
 have Q:(i+1)*z<=(sl.len+1)*z:=ZP _ ω;have D:(sl.len+1)*z<=h.cap*z:=ZP _ N.cap;have G:(i+1)*z=i*z+z:=zc2 _ _;have J:(sl.len+1)*z=sl.len*z+z:=zc2 _ _;have:=N.size;refine⟨ω,?_⟩;have o:=N.cut;have key:∀q,i*z+q<(sl.len+1)*z->d.toList[i*z+q]?=(cut c 0 (sl.len*z)++vs)[i*z+q]?:=λq p=>by rw[<-o,yy,zi p,ZO]
 have y:(cut c 0 (sl.len*z)).length=sl.len*z:=by
  by_cases h0:els=[];have:sl.len=0:=by rw[f,h0];rfl
  rw[this,Nat.zero_mul];unfold cut;simp;have I:els.length-1<DB els:=χ (zaj.2 h0)
  have:=(m (DB els-1) _ (YS I)).1;grind [kV]
 by_cases s:i<DB els;rw[zcf s]at hi;have⟨O,M⟩:=m i e hi;have B:(i+1)*z<=sl.len*z:=ZP _ ω;refine X0 (by grind [kV]) λq p=>?_;rw[key q ω,zcf (ο y),yy,zi ω,ZO];exact oS M p;have x:i=DB els:=ω
 subst x;rw[zcb (YJ _),Nat.sub_self]at hi;cases hi;refine X0 l λq p=>?_;simp_all;obtain e|e:=N.new;omega;exact .inr e
theorem CR.set{els:List (List Value)}{sl:Sl}(H:CR g z els sl b cs)(w:n<DB els)(t:q<z)(B:Blk g' b (cs.setIfInBounds (n*z+q) v)):CR g' z (els.modify n (·.set q v)) sl b (cs.setIfInBounds (n*z+q) v):=by
 have f:els≠[]:=λh=>θ
 have h1:=(H.blk f).1;refine⟨⟨H.ro.le,?_⟩,by rw[List.length_modify];exact H.ln,λi e hi=>?_⟩;obtain⟨h2,_⟩|⟨h2,_,u⟩:=H.ro.at_;omega;simp_all;rw[zax]at hi;cases hx:els[i]? with
 |none=>simp_all
 |some x=>
  rw[hx]at hi;have⟨p,l⟩:=H.el i x hx;have s:(i+1)*z=i*z+z:=zc2 _ _;have o:x.length=z:=by rw[<-l];exact kV ω
  rw[zat];refine⟨p,?_⟩;have hi:(ite (n=i) (x.set q v) x)=e:=ψ hi
  rw[<-hi];refine X0 η λr m=>?_;rw[Array.toList_setIfInBounds,List.getElem?_set];by_cases c:n=i;subst c;rw[zi rfl,List.getElem?_set];by_cases k:q=r;grind;rw[za ω,za k];exact oS l m;rw[za c,za ?_];exact oS l m;intro y;obtain h|h:=Nat.lt_or_gt_of_ne c;have:(n+1)*z<=i*z:=ZP _ h;grind;have:(i+1)*z<=n*z:=ZP _ h;omega
abbrev NA:=List (Nd×Ax)
def fH(p:Nd×Ax)(c:Nat):Prop:=c∈p.2.kb\/c∈p.2.pb
def fN(na:NA)(sl:Sl)(b c:Nat):Prop:=(sl.cap≠0/\c=b)\/∃p∈na,fH p c
structure NdI (lo:Nat) (g:zb) (M:Fr) (p:Nd×Ax):Prop where
 kk:Fd lo g M (.int .i64) p.1.2.2.2.1 p.2.ks p.2.kb
 pp:Fd lo g M gY p.1.2.2.2.2 p.2.ps p.2.pb
 dd:∀c∈p.2.kb,c∉p.2.pb
structure NS (lo:Nat) (g:zb) (M:Fr) (na:NA) (sl:Sl) (b:Nat) (cs:Array Value):Prop where
 cr:CR g 7 (na.map gy) sl b cs
 lb:sl.cap≠0->lo<=b/\b<g.size/\M b=Te
 nd:∀p∈na,NdI lo g M p
 dj:∀(i j:Nat) (p p':Nd×Ax) (c:Nat),na[i]?=Td p->na[j]?=Td p'->fH p c->fH p' c->i=j
 nb:∀p∈na,¬fH p b
theorem NS.len{na:NA}{sl:Sl}(H:NS lo g M na sl b cs):sl.len=DB na:=by rw[H.cr.ln,YO]
theorem NdI.own{p:Nd×Ax}(H:NdI lo g M p)(h:fH p c):lo<=c/\c<g.size/\M c=Te:=by obtain h|h:=h;exact H.kk.own c h;exact H.pp.own c h
theorem NS.own{na:NA}{sl:Sl}(H:NS lo g M na sl b cs)(h:fN na sl b c):lo<=c/\c<g.size/\M c=Te:=by obtain⟨h1,rfl⟩|⟨p,e,h⟩:=h;exact H.lb h1;exact(H.nd p e).own h
theorem NdI.frame{p:Nd×Ax}(H:NdI lo g M p)(f:∀c,fH p c->g'[c]?=g[c]?):NdI lo g' M p:= ⟨H.kk.frame (λc b=>f c (.inl b)) (Fr.le.refl _) λc b=>(H.kk.own c b).2.2,H.pp.frame (λc b=>f c (.inr b)) (Fr.le.refl _) λc b=>(H.pp.own c b).2.2,H.dd⟩
theorem NS.frame{na:NA}{sl:Sl}(H:NS lo g M na sl b cs)(k:g.size<=g'.size)(f:∀c,fN na sl b c->g'[c]?=g[c]?):NS lo g' M na sl b cs:=by refine⟨H.cr.frame λh=>f b (.inl ⟨?_,rfl⟩),λh=>by have:=H.lb h;grind,λp e=>(H.nd p e).frame λc i=>f c (.inr ⟨p,e,i⟩),H.dj,H.nb⟩;obtain h|h:=h;have:=H.cr.ln;have h2:=H.cr.ro.le;have:=zaj.2 h;omega;exact h
theorem NS.nil:NS lo g M [] ⟨Te,0,0⟩ b cs:= ⟨⟨⟨YJ _,.inl ⟨rfl,rfl⟩⟩,rfl,λi e h=>(ε h)⟩,λh=>absurd rfl h,λp f=>(ε f),λi j p k c h=>(ε h),λp f=>(ε f)⟩
def vc(p:Nd×Ax):∀u∈gy p,u.oneCell'=Ta:=by intro u b;unfold gy aK at b;simp at b;obtain rfl|rfl|rfl|rfl|rfl|rfl|rfl:=b <;> rfl
theorem NS.push{bytes:Nat}(E:GS Tp t e zv 7 bytes)(w:bytes<=1000)(ag:AgM M g)(N:lo<=g.size){na:NA}{sl:Sl}(H:NS lo g M na sl b cs){x:Nd}(u:x.2.2.2.1=[])(s:x.2.2.2.2=[])(O:Blk g bv (gy (x,fE)).toArray)(L:na.length<=1000000) (I:∀(l:Sl) (g':zb) (m:Nat) (d:ab3),NS lo g' M (na++[(x,fE)]) l m d->g.size<=g'.size->(∀c,fN (na++[(x,fE)]) l m c->fN na sl b c\/g.size<=c)->(∀j,j<g.size->¬fN na sl b j->g'[j]?=g[j]?)->K (.slice l.a l.len l.cap) g'):CA Tp (YN #[t,t] ty #[.slice sl.a sl.len sl.cap,.slice (Td ⟨bv,0,Te⟩) 1 cv]) g K:=by
 have D:∀c,g.size<=c->M c=Te:=by
  intro c f;cases e:M c with
  |none=>rfl
  |some cs=>have:=ag.lt e;omega
 refine CR.app E w H.cr O rfl (vc _) θ λl g' m d C G r J A=>?_;have n:fN na sl b m\/g.size<=m:=by obtain⟨o,P⟩|o:=r;exact .inl (.inl ⟨χ H.cr.ro.le,o⟩);exact .inr o
 have y:∀p∈na,¬fH p m:=λp k f=>by obtain⟨o,_⟩|o:=r;grind [nb];have:=((H.nd p k).own f).2.1;omega
 have z:∀c,¬fH (x,fE) c:=λc f=>by obtain f|f:=f <;> exact absurd f (by simp[fE])
 have mem:∀p∈na++[(x,fE)],p∈na\/p=(x,fE):=λp k=>ψ k
 refine I l g' m d ⟨θ,λ_=>?_,λp k=>?_,?_,λp k=>?_⟩ G (λc f=>?_) (λj B L=>A j B λe=>?_);obtain h|h:=n;have:=H.own h;simp_all;grind;obtain k|rfl:=mem p k;exact(H.nd p k).frame λc f=>A c ((H.nd p k).own f).2.1 λe=>y p k (e ▸ f)
 refine⟨?_,?_,λc f=>by simp[fE]at f⟩;show Fd lo g' M (.int .i64) x.2.2.2.1 _ _;rw[u];exact .nil;show Fd lo g' M gY x.2.2.2.2 _ _;rw[s];exact .nil;intro i j p Q c hi B f F;have q:∀(i:Nat) (p:Nd×Ax),(na++[(x,fE)])[i]?=Td p->fH p c->na[i]?=Td p:=λi p hi f=>by rw[List.getElem?_append]at hi;grind
 grind [dj];grind;obtain⟨_,rfl⟩|⟨p,k,f⟩:=f;exact n;obtain k|rfl:=mem p k;exact .inl (.inr ⟨p,k,f⟩);simp_all;grind
theorem NS.upd{na:NA}{sl:Sl}(H:NS lo g M na sl b cs)(E:n<DB na){f:Nd×Ax->Nd×Ax}(y:q<7)(B:Blk g' b (cs.setIfInBounds (n*7+q) v))(J:g.size<=g'.size)(m:gy (f na[n])=(gy na[n]).set q v)(C:NdI lo g' M (f na[n]))(D:∀c,fH (f na[n]) c->fH na[n] c\/g.size<=c)(z:∀j,j<g.size->j≠b->¬fH na[n] j->g'[j]?=g[j]?):NS lo g' M (na.modify n f) sl b (cs.setIfInBounds (n*7+q) v)/\∀c,fN (na.modify n f) sl b c->fN na sl b c\/g.size<=c:=by
 have u:na[n]?=Td na[n]:=YS E;have mem:∀p∈na.modify n f,p=f na[n]\/∃j,j≠n/\na[j]?=Td p:=λp o=>by have⟨j,t⟩:=List.mem_iff_getElem?.1 o;grind
 have s:sl.cap≠0:=by have:=H.len;have:=H.cr.ro.le;omega
 have r:=H.lb s;refine⟨⟨?_,λh=>⟨r.1,ω,r.2.2⟩,λp o=>?_,?_,λp o=>?_⟩,λc h=>?_⟩;have:=H.cr.set (n:=n) (q:=q) (v:=v) θ y B;have e:(na.modify n f).map gy=(na.map gy).modify n (·.set q v):=by apply zar;intro i;rw[zav,zax,zax,zav];by_cases e:n=i;grind;simp[e]
 grind;obtain rfl|⟨j,t,k⟩:=mem p o;exact C;have l:=zbj k;exact(H.nd p l).frame λc m=>z c ((H.nd p l).own m).2.1 (λe=>H.nb p l (e ▸ m)) λh=>t (H.dj j n p _ c k u m h)
 intro i j p G c hi t m x;have q:∀(i:Nat) (p:Nd×Ax),(na.modify n f)[i]?=Td p->fH p c->∃w,na[i]?=Td w/\((fH w c)\/(i=n/\g.size<=c)):=λi p hi m=>η
 have⟨w,F,a2⟩:=q i p hi m;have⟨A,b1,b2⟩:=q j G t x;obtain a2|⟨a2,I⟩:=a2;obtain b2|⟨b2,b3⟩:=b2;grind [dj];have:=((H.nd w (zbj F)).own a2).2.1;omega;obtain b2|⟨b2,b3⟩:=b2;have:=((H.nd A (zbj b1)).own b2).2.1;omega;omega;grind [nb];obtain⟨h1,h2⟩|⟨p,o,h⟩:=h;exact .inl (.inl ⟨h1,h2⟩);obtain rfl|⟨j,t,k⟩:=mem p o;obtain h|h:=D c h;exact .inl (.inr ⟨_,zbj u,h⟩);exact .inr h;exact .inl (.inr ⟨p,zbj k,h⟩)
end
section
variable {t:Bs} {gl:Fr}
abbrev kK:Ty:=.pair .str (.row gN)
def slice_form{p:Sp}{R:Bt->Prop}(h:R (bl (zy t p))):((cond (cond (hV ((p.1:Int)<0)) Ta (hV ((p.1:Int)>p.2))) Ta (hV ((p.2:Int)>((bl t).size:Int))))=Ta->R (⟨#[]⟩:Bt)) /\((cond (cond (hV ((p.1:Int)<0)) Ta (hV ((p.1:Int)>p.2))) Ta (hV ((p.2:Int)>((bl t).size:Int))))=Tc->(0<=(p.1:Int)/\(p.1:Int)<=p.2/\(p.2:Int)<=((bl t).size:Int))/\R ((bl t).extract (p.1:Int).toNat (p.2:Int).toNat)):=by
 rw[zf];have e:(cond (cond (hV ((p.1:Int)<0)) Ta (hV ((p.1:Int)>p.2))) Ta (hV ((p.2:Int)>(DB t:Int))))=hV (p.1<0\/p.2<p.1\/(DB t:Int)<p.2):=by rw[ZI];simp only[ph,Bool.if_true_left,za1,zA];omega
 rw[e];unfold zy at h;refine⟨λb=>?_,λb=>?_⟩;rw[zi (zB b)]at h;exact h;have b:=zC b;rw[za b]at h;refine⟨ω,?_⟩;rw[qa];exact h
def CZ{nodes:List Nd}{p:Sp}{R:Bt->Prop}(h:R (bl (zy t p))):aa5 gl 284 [qr kK (bl t,nodes),qr gY p] [.str] R:=by apply Ub;exact slice_form h
def TA{nodes:List Nd}{p:Sp}{R:Bt->Prop}(h:R (bl (zy t p))):aa5 gl 231 [qr kK (bl t,nodes),qr gY p] [.str] R:=by apply OI;exact slice_form h
def Ur(c:GL gl){k:Int}(e:t.length<=65536){R:Bt->Prop}(h:R (bl (Z3 k t))):aa5 gl 283 [qr q0 k,qr .str (bl t)] [.str] R:=by apply QZ;unfold Z3 at h;refine⟨λh1=>?_,λh1=>⟨λh2=>?_,λh2=>⟨λb=>?_,λb=>?_⟩⟩⟩;rw[zi (ψ h1)]at h;exact h;rw[za (ψ h1),zi (ψ h2)]at h;exact qM ω (vZ c.pow (wz t ω) h);rw[za (ψ h1),za (ψ h2),zi (ψ b)]at h;exact uE c ω h;rw[za (ψ h1),za (ψ h2),za (ψ b)]at h;exact h
end
section
variable {h:zb} {l:Bs} {K:Value -> zb -> Prop} {lo:Nat}
def uW{c:UInt8}(b:K (ab0 (Lib.indexByte l c)) h):aa4 319 #[aa6 (bl l),.int .u8 (c.toNat:Int)] h K:=by refine XC.of_calls λB d=>(j8 (bl l) (c.toNat:Int) (mk B d h)).mono ?_;rintro e w' ⟨rfl,rfl⟩;refine⟨_,rfl,rfl,rfl,rfl,?_⟩;have f:(bl l).data.toList=l:=yr l;rw[f,Gu];exact b
def vG(F:n5)(A C:Array Value)(lo:Nat)(p:UInt8->Bool)(h0:zb):Prop:=
 zr Tp F=Ta/\∀(c:UInt8) (h:zb) (K:Value->zb->Prop),Bk lo h0 h->(∀h',Bk lo h h'->K (.bool (p c)) h')->XC Tp F (A++#[.int .u8 (c.toNat:Int)]++C) h K
def yC{F:n5}{A C:ab3}{p:ac2}(H:vG F A C lo p h)(y:l.length<=1152921504606846976)(s:∀h',Bk lo h h'->K (ab0 (Qd p l:Int)) h'):aa4 398 #[aa6 (bl l),.func (.func F) A C] h K:=by
 have⟨x,H⟩:=H;apply KG;rw[zf];refine⟨λi g=>∃k:Nat,i=(k:Int)/\k<=DB l/\Bk lo h g/\∀j (c:j<k) (f:j<DB l),p l[j]=Ta,λi _=>DB l-i.toNat,⟨0,rfl,ω,Bk.refl _ _,λj c=>ω⟩,?_⟩;rintro i g ⟨k,rfl,w,m,n⟩;refine⟨λo=>?_,λo=>?_⟩;have b:k<DB l:=χ (zB o)
 refine⟨⟨ω,ω⟩,x,?_⟩;rw[zx,YL,Yw b];refine H _ _ _ m λh' t=>⟨_,rfl,λq=>?_,λq=>?_⟩;have e:Qd p l=k:=oV w (λj c=>n j c ω) (λ_=>ψ q);rw[<-e];exact s h' (m.trans t (YJ _));rw[qo b ω];refine⟨⟨k+1,rfl,ω,m.trans t (YJ _),λj c f=>?_⟩,by show (DB l)-((k+1:Nat):Int).toNat<DB l-((k:Nat):Int).toNat;omega⟩;obtain r|r:=zam j k;exact n j r f;have:j=k:=ω
 subst this;simpa using q;have b:k=DB l:=χ (zC o)
 have e:Qd p l=DB l:=oV (YJ _) (λj c=>n j ω c) (λu=>absurd u ω);rw[<-e];exact s g m
def De{b:Nat}(n:Blk h b #[aa6 (bl l)])(i:b<lo):vG 406 #[] #[aa7 ⟨b,0,Te⟩] lo (wh l) h:=by
 refine⟨κ,λc g K k m=>?_⟩;show aa4 406 #[.int .u8 (c.toNat:Int),aa7 ⟨b,0,Te⟩] g K;apply Vg;have f:Blk g b #[aa6 (bl l)]:=by have⟨T,e⟩:=n;exact⟨T,by rw[k.get b i];exact e⟩
 refine⟨bl l,f.cell rfl,uW ⟨_,rfl,?_⟩⟩;have e:hV (Lib.indexByte l c>=0)=wh l c:=by unfold wh;rw[ZI,zA,zA];exact(Zm c l).2
 rw[e];exact m g (Bk.refl _ _)
def KU{gl M:Fr}(l:Fr.le gl M)(ag:AgM M h):vG 401 #[] #[] h.size (wh jj) h:=by
 refine⟨κ,λc g K i o=>?_⟩;have e:(cond (hV ((c.toNat:Int)>=97)) (hV ((c.toNat:Int)<=122)) Tc)=wh jj c:=by
  have f:(zac 256).all (λn=>(cond (hV ((n:Int)>=97)) (hV ((n:Int)<=122)) Tc)==wh jj (ZR n))=Ta:=κ
  have:=ZB.1 f c.toNat (zaz.2 c.toNat_lt);rw[beq_iff_eq,UInt8.ofNat_toNat]at this;exact this
 refine(PC.px (gl:=gl) (args:=[qr (.int .u8) (c.toNat:Int)]) (rt:=[.bool]) (R:=λb=>b=wh jj c) ?_ l (ag.aa1 i) (zn (a:=qr (.int .u8) _) (Zj _ _) zw)).go λv h' M' r L m k=>?_;apply QO;exact e;obtain rfl:=ez m;rw[k];exact o h' (L.aa1.mono i.size)
end
section
variable {K:Value -> zb -> Prop} {h:zb} {a e:Int} {M:Fr} {v:Value}
def IP:qq Tp 236=Ta:=κ
def Un:jk Tp 236=3:=κ
abbrev i0(k f t:Int):List Value:=[.int .i64 k,.int .i64 f,.int .i64 t]
def jZ{g:zb}{b:Nat}{x y z p q r:Int}(B:Blk g b (i0 x y z).toArray){K:zb->Prop}(f:∀g',(∀j,j≠b->g'[j]?=g[j]?)->g'.size=g.size->Blk g' b (i0 p q r).toArray->K g'):wf Tp (YI 236 (aa7 ⟨b,0,Te⟩) (.agg #[ab0 p,ab0 q,ab0 r])) g K:=by refine Jn (vs:=i0 p q r) IP B rfl Un (YJ 3) (λu c=>?_) λg' e i h=>f g' h i e;simp at c;obtain rfl|rfl|rfl:=c <;> rfl
def nf{c:Nat}{a k t:Int}(n:Blk h c #[ab0 a])(m:∀h',Bk h.size h h'->K (.tuple #[.agg #[ab0 k,ab0 a,ab0 t],ab0 0]) h'):aa4 396 #[ab0 k,ab0 t,aa7 ⟨c,0,Te⟩] h K:=by apply Ul;intro h1;have e:Bk h.size h h1:=rg _ _ (YJ _);have f:Blk h1 h.size (i0 0 0 0).toArray:=v0 _ _ _;have b:Blk h1 c #[ab0 a]:=n.aa3 e;refine⟨a,b.cell rfl,jZ f λg' l p o=>⟨k,a,t,o.ld,m g' (e.trans ⟨ω,λi hi=>l i ω⟩ (YJ _))⟩⟩
theorem Np{x:Int×Int×Int}(h:x7 M [.pair q0 (.pair q0 (.int .i64)),.int .i64] (x,e) v):v=.tuple #[.agg #[ab0 x.1,ab0 x.2.1,ab0 x.2.2],ab0 e]:=by obtain⟨vs,⟨n,rest,rfl,b,m,rfl,k⟩,rfl⟩:=h;rw[qn k];unfold RdV at b;simp only[fh,if_true]at b;obtain⟨cs,rfl,c1,c2,rfl,c,c3,l,rfl,f,i⟩:=b;have c:c1=[ab0 x.1]:=c;have f:c3=[ab0 x.2.1]:=f;have i:l=[ab0 x.2.2]:=i;subst c f i;rfl
def vJ{gl M:Fr}(f:Fr.le gl M)(ag:AgM M h)(i:∀h',Bk h.size h h'->K (.tuple #[.agg #[ab0 0,ab0 a,ab0 a],ab0 e]) h'):aa4 397 #[ab0 a,ab0 e] h K:=by refine(PC.px (gl:=gl) (args:=[qr q0 a,qr q0 e]) (rt:=[.pair q0 (.pair q0 (.int .i64)),.int .i64]) (R:=λr=>r=((0,(a,a)),e)) ?_ f ag (zn (a:=qr q0 _) (Zj _ _) (zn (a:=qr q0 _) (Zj _ _) zw))).go λv h' M' r L b c=>?_;apply Nb;rfl;subst c;rw[Np b];exact i h' L.aa1
def A9{l:Bs}(b:∀h',Bk h.size h h'->h'.size=h.size+1->Blk h' h.size #[aa6 (bl l)]->K (.func (.func 406) #[] #[aa7 (aa8 h)]) h'):aa4 399 #[aa6 (bl l)] h K:=by apply Pe;intro h1;exact b h1 (rg _ _ (YJ _)) (YW _) (v0 _ _ _)
def kF(s:Bs)(a:Nat):Value:=if(Zy s a).2.2=0 then .tuple #[.agg #[.int .i64 (Zy s a).1,.int .i64 (a:Int),.int .i64 ((Zy s a).2.1:Int)],.int .i64 0]else .tuple #[.agg #[.int .i64 0,.int .i64 ((Zy s a).2.1:Int),.int .i64 ((Zy s a).2.1:Int)],.int .i64 (Zy s a).2.2]
theorem Ie{x:Bool×Bt×Int}(h:x7 M [.pair .bool (.pair .str (.int .i64)),.int .i64] (x,e) v):v=.tuple #[.agg #[aa9 x.1,aa6 x.2.1,ab0 x.2.2],ab0 e]:=by obtain⟨vs,⟨n,rest,rfl,b,m,rfl,k⟩,rfl⟩:=h;rw[qn k];unfold RdV at b;simp only[fh,if_true]at b;obtain⟨cs,rfl,c1,c2,rfl,c,c3,l,rfl,f,i⟩:=b;have c:c1=[aa9 x.1]:=c;have f:c3=[aa6 x.2.1]:=f;have i:l=[ab0 x.2.2]:=i;subst c f i;rfl
end
section
variable {gl:Fr} {s:Bs} {a t:Nat} {k:Int}
theorem Cb(l:Bs)(c:UInt8):hV (Lib.indexByte l c>=0)=wh l c:=by unfold wh;rw[ZI,zA,zA];exact(Zm c l).2
def Is:(zac 256).all (λn=>(cond ((n:Int)==45) Ta (cond (hV ((n:Int)>=48)) (hV ((n:Int)<=57)) Tc))==wh fW (ZR n))=Ta:=κ
theorem MR(c:UInt8):(cond ((c.toNat:Int)==45) Ta (cond (hV ((c.toNat:Int)>=48)) (hV ((c.toNat:Int)<=57)) Tc))=wh fW c:=by have:=ZB.1 Is c.toNat (zaz.2 c.toNat_lt);simp_all
def Pz{R:ac6}(h:R (Zd s)):aa5 gl 402 [qr .str (bl s)] [.int .i64] R:=by apply SI;have e:∀l:Bs,((bl s:Bt).toList==((⟨l.toArray⟩:Bt):Bt).toList)=hV (s=l):=λl=>fS s l;have b:=e [116,114,117,101];have f:=e [102,97,108,115,101];have c:=e [110,117,108,108];rw[b,f,c];unfold Zd at h;grind
def Co{c:UInt8}{t:Bs}(h:s.drop a=c::t):Zy s a= if c∈CT then(2+Lib.indexByte CT c,a+1,0) else if c∈xf then(1,a+Qd (wh xf) (s.drop a),0) else if c=34 then(ite ((ye s a).2.2=0) (8,(ye s a).2.1,0) (0,(ye s a).2.1,(ye s a).2.2)) else if c∈fW then(ite ((zj ((s.drop a).take (Qd (wh eA) (s.drop a)))).2=0) (9,a+Qd (wh eA) (s.drop a),0) (0,a,(zj ((s.drop a).take (Qd (wh eA) (s.drop a)))).2)) else ite (Zd ((s.drop a).take (Qd (wh jj) (s.drop a)))=0) (0,a,2) (Zd ((s.drop a).take (Qd (wh jj) (s.drop a))),a+Qd (wh jj) (s.drop a),0):=by unfold Zy;rw[h]
theorem nD(h:Zy s a=(k,t,0)):kF s a=.tuple #[.agg #[ab0 k,ab0 (a:Int),ab0 (t:Int)],ab0 0]:=by unfold kF;rw[h];rfl
theorem qC{k e:Int}(h:Zy s a=(k,t,e))(b:¬e=0):kF s a=.tuple #[.agg #[ab0 0,ab0 (t:Int),ab0 (t:Int)],ab0 e]:=by unfold kF;grind
def Ux{gl M:Fr}(hg:GL gl)(N:Fr.le gl M){h:zb}(ag:AgM M h)(hs:s.length<=65536)(ha:a<DB s){K:vvv}(hK:∀h',Bk h.size h h'->K (kF s a) h'):aa4 375 #[aa6 (bl s),ab0 (a:Int)] h K:=by
 have Y:s.drop a=s[a]::s.drop (a+1):=ZG ha;have ai:s.drop a≠[]:=by rw[Y];exact List.cons_ne_nil _ _
 have aj:(s.drop a).length=DB s-a:=ZE;have l:=Co Y;generalize hc:s[a]=c at l Y;apply LJ;intro h1 h2;have z1:h1.size=h.size+1:=YW _;have z2:h2.size=h1.size+1:=YW _;have k1:Bk h.size h h1:=rg _ _ (YJ _);have k2:Bk h1.size h1 h2:=rg _ _ (YJ _);have V:Bk h.size h h2:=k1.trans k2 ω;have z:Blk h2 h.size #[ab0 (a:Int)]:=(v0 h #[ab0 (a:Int)] 3).aa3 k2;have B1:Blk h2 h1.size (i0 0 0 0).toArray:=v0 _ _ _;clear_value h1 h2;have x:AgM M h2:=ag.aa1 V;have done:∀(k f t e:Int) (g:zb),Bk h2.size h2 g->.tuple #[.agg #[ab0 k,ab0 f,ab0 t],ab0 e]=kF s a ->
   wf Tp (YI 236 (aa7 (aa8 h1)) (.agg #[ab0 k,ab0 f,ab0 t])) g (λg'=>∃r1 r2 r3:Int,zc g' (aa8 h1) 0 [ab0 r1,ab0 r2,ab0 r3]/\K (.tuple #[.agg #[ab0 r1,ab0 r2,ab0 r3],ab0 e]) g'):=by
  intro k f t e g B he;refine jZ (B1.aa3 B) λg' q1 q2 q3=>⟨k,f,t,q3.ld,?_⟩;rw[he];have C:=B.size;exact hK g' ((V.trans B ω).trans (c:=g') (m:=h.size) ⟨ω,λi hi=>q1 i ω⟩ (YJ _))
 have ex:(bl s).extract (a:Int).toNat (DB s:Int).toNat=bl (s.drop a):=lS (n:=(a:Int)) rfl;have b0:ze (bl (s.drop a)) (0:Int).toNat=(c.toNat:Int):=by rw[zx,Y];rfl
 rw[zf];refine⟨(a:Int),z.cell rfl,?_⟩;rw[ex,zf,b0];refine⟨⟨ω,ω,ω⟩,⟨ω,ω⟩,?_⟩;have bs:(⟨#[123,125,91,93,44,58]⟩:Bt)=bl CT:=rfl;have bb:(⟨#[32,9,10,13]⟩:Bt)=bl xf:=rfl;have bn:(ad0:Bt)=bl eA:=rfl;rw[bs,bb,bn];have E:∀n:Nat,n<=DB s->p3 ((a:Int)+(n:Int))=((a+n:Nat):Int):=λn A=>by grind [bR]
 refine uW ⟨_,rfl,?_⟩;rw[Cb];refine⟨λF=>?_,λF=>?_⟩
 ·have F:=zB F;rw[zi F]at l;have S:0<=Lib.indexByte CT c/\Lib.indexByte CT c<6:=by
   have:∀c∈CT,0<=Lib.indexByte CT c/\Lib.indexByte CT c<6:=ζ
   exact this c F
  refine⟨(a:Int),z.cell rfl,κ,?_⟩;refine nf z λg B=>⟨_,_,_,_,rfl,done _ _ _ _ g B ?_⟩;rw[nD l,bR (n:=2+Lib.indexByte CT c) ω,show p3 ((a:Int)+1)=((a+1:Nat):Int)from E 1 ω]
 have F:=zC F;rw[za F]at l;refine uW ⟨_,rfl,?_⟩;rw[Cb];have H:=λp=>uw p (s.drop a);refine⟨λI=>?_,λI=>?_⟩
 ·have I:=zB I;rw[zi I]at l;refine⟨(a:Int),z.cell rfl,A9 λg B zg Bg=>⟨_,rfl,B.get h.size ω,?_⟩⟩;refine yC (lo:=g.size) (De Bg ω) ω λG b=>⟨_,rfl,?_,κ,?_⟩;unfold g6;rw[b.get h.size ω];exact B.get h.size ω;have D:Bk h2.size h2 G:=B.trans b ω;refine nf (z.aa3 D) λZ ab=>⟨_,_,_,_,rfl,done _ _ _ _ Z (D.trans ab D.size) ?_⟩;have:=H (wh xf);rw[nD l,E _ ω]
 have I:=zC I;rw[za I]at l;rw[show((c.toNat:Int)==34)=hV (c=34)from gV (n:=34) ω,MR];refine⟨λC=>?_,λC=>⟨λO=>?_,λO=>?_⟩⟩
 ·have C:=zB C;rw[zi C]at l;refine⟨(a:Int),z.cell rfl,?_⟩;refine((TU hg (t:=s) (a:=(a:Int)) ω (R:=λr=>r=jE s (a:Int)) rfl).px N x (zn (a:=qr .str _) (DH _) (zn (a:=qr q0 _) (Zj _ _) zw))).go λv g M' r L U S=>?_;have he:jE s (a:Int)=(((ye s a).2.1:Int),(ye s a).2.2):=by unfold jE;rw[za ω,YL]
  rw[he]at S;subst S;rw[Ih U];refine⟨_,_,rfl,λo=>⟨κ,?_⟩,λo=>⟨κ,?_⟩⟩
  ·refine vJ N (x.aa1 L.aa1) λG b=>⟨_,_,_,_,rfl,done _ _ _ _ G (L.aa1.trans b L.aa1.size) ?_⟩;have A:¬(ye s a).2.2=0:=ψ o
   rw[za A]at l;rw[qC l A]
  ·refine nf (z.aa3 L.aa1) λG b=>⟨_,_,_,_,rfl,done _ _ _ _ G (L.aa1.trans b L.aa1.size) ?_⟩;have A:(ye s a).2.2=0:=ψ o
   rw[zi A]at l;rw[nD l]
 ·have C:=zC C;have O:=zB O;rw[za C,zi O]at l;refine⟨(a:Int),z.cell rfl,A9 λg B zg Bg=>⟨_,rfl,B.get h.size ω,?_⟩⟩;have aa:=H (wh eA);refine yC (lo:=g.size) (De Bg ω) ω λG b=>⟨_,rfl,?_,?_⟩;unfold g6;rw[b.get h.size ω];exact B.get h.size ω;have D:Bk h2.size h2 G:=B.trans b ω;rw[E _ ω];have Q:(bl s).extract (a:Int).toNat ((a+Qd (wh eA) (s.drop a):Nat):Int).toNat=bl ((s.drop a).take (Qd (wh eA) (s.drop a))):=by rw[YL,YL,qa,show a+Qd (wh eA) (s.drop a)-a=Qd (wh eA) (s.drop a)by omega]
  refine⟨(a:Int),(z.aa3 D).cell rfl,⟨ω,ω,ω⟩,?_⟩;rw[Q];refine((qM (gl:=gl) (s:=(s.drop a).take (Qd (wh eA) (s.drop a))) η (R:=λr=>r=(fD (zj ((s.drop a).take (Qd (wh eA) (s.drop a)))).1,(zj ((s.drop a).take (Qd (wh eA) (s.drop a)))).2)) rfl).px N (x.aa1 D) (zn (a:=qr .str _) (DH _) zw)).go λv Z M' r L U S=>?_;subst S;rw[Ie U];generalize hq:(s.drop a).take (Qd (wh eA) (s.drop a))=w at l;refine⟨_,_,_,_,rfl,?_⟩;intro J;have⟨af,_,ae⟩:=yp (g:=J) rfl;have k4:Bk h2.size h2 J:=(D.trans L.aa1 D.size).trans af (by have:=L.aa1.size;have:=D.size;omega);clear_value J;refine Jn (vs:=[aa9 (fD (zj w).1).1,aa6 (fD (zj w).1).2.1,ab0 (fD (zj w).1).2.2]) κ ae rfl κ (YJ 3) (λu hu=>?_) λah q1 q2 q3=>?_;simp at hu;obtain rfl|rfl|rfl:=hu <;> rfl;have q:Bk h2.size h2 ah:=k4.trans ⟨ω,λi hi=>q3 i (by have:=L.aa1.size;have:=D.size;omega)⟩ (YJ _);refine⟨λo=>⟨(a:Int),(z.aa3 q).cell rfl,κ,?_⟩,λo=>⟨κ,?_⟩⟩
  ·refine vJ N (x.aa1 q) λP y=>⟨_,_,_,_,rfl,done _ _ _ _ P (q.trans y q.size) ?_⟩;have A:¬(zj w).2=0:=ψ o
   rw[za A]at l;rw[qC l A]
  ·refine nf (z.aa3 q) λP y=>⟨_,_,_,_,rfl,done _ _ _ _ P (q.trans y q.size) ?_⟩;have A:(zj w).2=0:=ψ o
   rw[zi A]at l;rw[nD l]
 ·have C:=zC C;have O:=zC O;rw[za C,za O]at l;have aa:=H (wh jj);refine yC (lo:=h2.size) (KU N x) ω λG b=>⟨_,rfl,⟨ω,ω,ω⟩,?_⟩;have Q:(bl (s.drop a)).extract (0:Int).toNat ((Qd (wh jj) (s.drop a):Nat):Int).toNat=bl ((s.drop a).take (Qd (wh jj) (s.drop a))):=by rw[YL,qa];rfl
  rw[Q];refine((Pz (gl:=gl) (s:=(s.drop a).take (Qd (wh jj) (s.drop a))) (R:=λr=>r=Zd ((s.drop a).take (Qd (wh jj) (s.drop a)))) rfl).px N (x.aa1 b) (zn (a:=qr .str _) (DH _) zw)).go λv Z M' r L U S=>?_;subst S;rw[pe U];generalize hq:(s.drop a).take (Qd (wh jj) (s.drop a))=w at l;have q:Bk h2.size h2 Z:=b.trans L.aa1 b.size;refine⟨_,rfl,λo=>⟨(a:Int),(z.aa3 q).cell rfl,κ,?_⟩,λo=>⟨(a:Int),(z.aa3 q).cell rfl,κ,?_⟩⟩
  ·refine nf (z.aa3 q) λP y=>⟨_,_,_,_,rfl,done _ _ _ _ P (q.trans y q.size) ?_⟩;have A:¬Zd w=0:=ψ o
   rw[za A]at l;rw[nD l,E _ ω]
  ·refine vJ N (x.aa1 q) λP y=>⟨_,_,_,_,rfl,done _ _ _ _ P (q.trans y q.size) ?_⟩;have A:Zd w=0:=ψ o
   rw[zi A]at l;rw[qC l ζ]
end
end
section
open Go.Code
variable {ro:Option Nat} {n:Nat} {P:EM} {f:n5} {args:Array Value} {w:MN} {o:n9} {a:Act} {e:bK} {h:zb}
abbrev rf(ro:Option Nat):Fence:={ Fence.wide with round:=ro }
def hC(K:Act->MN->Prop):Exit->Act->MN->Prop
 |.normal,a,w=>K a w
 |_,_,_=>False
def Y4{K:Act->MN->Prop}:¬LetsOut (hC K):=λ⟨_,_,h⟩=>h
def LQ{R:Ending->MN->Prop}(h:Calls P f args w R):CallsIn (rf ro) n P f args w R:=by have h1:CallsIn Fence.wide n P f args w R:=callsIn_wide.2 h;exact h1
def Tm{row:String}{R:Value->MN->Prop}(h:Rows P row args w R):RowsIn (rf ro) n P row args w R:=by have h1:RowsIn Fence.wide n P row args w R:=λc cs _=>let ⟨v,w',r,s⟩:=h c cs;⟨v,w',r,stepsIn_wide.2 s⟩;exact h1
def Zs(o:n9):Bool:=match o.op with
 |.defer _=>Tc
 |_=>Ta
theorem VE(h:Zs o=Ta):∀c,o.op≠.defer c:=by intro c e;unfold Zs at h;grind
def G1(c:Zs o=Ta){K:Act->MN->Prop}{Q:Exit->Act->MN->Prop}(h:o.wp P a w K Q):o.wpIn (rf ro) n P a w K Q:=by
 refine⟨λ_ _=>trivial,?_⟩;rw[Oper.semAt_eq _ _ _ (VE c)];unfold Oper.wp at h;generalize (execOp a.eval o).run P w=r at *;cases r with
 |ok x w'=>
  cases x with
  |enter f args=>exact⟨λb=>(by cases b),LQ h⟩
  |row row args=>exact⟨λb=>(by cases b),Tm h⟩
  |value v=>exact h
  |skip=>exact h
  |defer d=>exact h
  |_=>cases h
 |halt x w'=>cases x <;> first|exact h|cases h
def nv{ro:ac3}{n:Nat}{P:EM}{ops:Array n9}{K:Act->MN->Prop}{Q:Exit->Act->MN->Prop}: ∀(l i:List n9) (a:Act) (w:MN),l.all Zs=Ta->wpList P ops (hC K) l a w->(∀a w,K a w->wpListIn (rf ro) n P ops Q i a w)->wpListIn (rf ro) n P ops Q (l++i) a w
 |[],i,a,w,_,h,hK=>hK a w h
 |o::l,i,a,w,hd,h,hK=>by
  rw[List.all_cons,YR]at hd;rw[ZT];unfold wpListIn;unfold wpList at h;by_cases m:zah o (yielded ops a.tmps)=Ta;rw[zi m]at h ⊢;obtain h|⟨_,h⟩:=h;have h1:=G1 (ro:=ro) (n:=n) hd.1 h;have h2:=Oper.wpIn_mono (λa w p=>nv l i a w hd.2 p hK) h1;refine⟨h2.1,?_⟩;have b:=h2.2;revert b;generalize (o.semAt (rf ro).round a.eval).run P w=r;cases r with
  |ok x w'=>
   cases x with
   |enter f args=>exact λb=>⟨b.1,CallsIn.mono b.2 λe k c=>by cases e <;> first|exact c|exact c.elim|exact(Y4 c).elim⟩
   |round l f tmps assign body=>exact λb=>⟨b.1,RoundIn.mono b.2 λe k c=>by cases e <;> first|exact c|exact c.elim|exact(Y4 c).elim⟩
   |_=>exact λb=>b
  |halt x w'=>cases x <;> first|exact λb=>b|exact λb=>b.elim
  exact(Y4 h).elim;rw[za m]at h ⊢;exact⟨λ_ _=>trivial,nv l i _ _ hd.2 h hK⟩
def tf{ro:ac3}{n:Nat}{P:EM}{f:Region.Mode}{ops:Array n9}{K:Act->MN->Prop}(b:∀(i:Nat) (o:n9),ops[i]?=Td o->Zs o=Ta):∀(fuel:Nat) (listed:Array Bool) (a:Act) (w:MN),wpAny P f ops (hC K) fuel listed a w->wpAnyIn (rf ro) n P f ops (hC K) fuel listed a w
 |0,_,_,_,h=>h
 |fuel+1,listed,a,w,h=>by refine⟨h.1,λi hi=>?_⟩;have h2:=h.2 i hi;unfold wpOp at h2;unfold wpOpIn;split at h2;rename_i c;rw[c];exact tf b fuel _ _ _ h2;rename_i o c;rw[c];simp only;by_cases e:zah o (yielded ops a.tmps)=Ta;rw[zi e]at h2 ⊢;obtain h2|⟨_,h2⟩:=h2;exact Oper.wpIn_mono (λa w k=>tf b fuel _ a w k) (G1 (b i o c) h2);exact(Y4 h2).elim;rw[za e]at h2 ⊢;exact⟨λ_ _=>trivial,tf b fuel _ _ _ h2⟩
def Jp(D:List Deferred)(a:Act):Act:={ a with defers:=a.defers++D }
def EC{D:List Deferred}{K:Act->MN->Prop}{R:Act->MN->Prop}(h:o.wp P a w K (hC R)):o.wp P (Jp D a) w (λl w1=>∃c,l=Jp D c/\K c w1) (hC λl w1=>∃c,l=Jp D c/\R c w1):=by
 unfold Oper.wp at h ⊢;have b:(Jp D a).eval=a.eval:=rfl;rw[b];have i:∀d v,(Jp D a).put d v=Jp D (a.put d v):=λd v=>by cases d <;> rfl
 generalize (execOp a.eval o).run P w=r at *;cases r with
 |ok x w'=>
  cases x with
  |enter f args=>exact Calls.mono h λe k b=>by cases e with
   |returned v=>grind
   |panicked ch=>exact b
   |outgrown=>exact(Y4 b).elim
  |row row args=>exact Rows.mono h λv k b=>⟨_,i _ _,b⟩
  |value v=>exact⟨_,i _ _,h⟩
  |skip=>exact⟨_,i _ _,h⟩
  |defer d=>exact⟨(Act.put { a with defers:=d::a.defers } o.dst undef),(by cases o.dst <;> rfl),(show K (Act.put { a with defers:=d::a.defers } o.dst undef) w' from h)⟩
  |_=>cases h
 |halt x w'=>cases x <;> first|exact h|cases h
def pS{P:EM}{f:Region.Mode}{ops:Array n9}{D:List Deferred}{K:Act->MN->Prop}:∀(fuel:Nat) (listed:Array Bool) (a:Act) (w:MN),wpAny P f ops (hC K) fuel listed a w->wpAny P f ops (hC λk w1=>∃b,k=Jp D b/\K b w1) fuel listed (Jp D a) w
 |0,_,a,_,h=>⟨h.1,a,rfl,h.2⟩
 |fuel+1,listed,a,w,h=>by
  refine⟨λn=>⟨a,rfl,h.1 n⟩,λi hi=>?_⟩;have h2:=h.2 i hi;unfold wpOp at h2 ⊢;have m:yielded ops (Jp D a).tmps=yielded ops a.tmps:=rfl;split at h2;exact pS fuel _ _ _ h2;rename_i o q;rw[m];by_cases c:zah o (yielded ops a.tmps)=Ta;rw[zi c]at h2 ⊢;obtain h2|⟨_,h2⟩:=h2;exact .inl (Oper.wp_mono (λk w1 ⟨b,e,p⟩=>by rw[e];exact pS fuel _ b w1 p) (EC h2));exact(Y4 h2).elim;rw[za c]at h2 ⊢;have l:(Jp D a).put o.dst undef=Jp D (a.put o.dst undef):=by cases o.dst <;> rfl
  rw[l];exact pS fuel _ _ _ h2
def YX(P:EM)(l:Nat)(args:Array Value)(h:zb)(K:Value->zb->Prop):Prop:=
 ∀(m:Nat) (B:MN) (d:Nat),∃fn tmps assign body,(Instr.yield l args).run P (mk B d h)=.ok (.round l fn tmps assign body) (mk B d h) /\
  RoundIn (rf Te) m P l fn tmps assign body (mk B d h) λe w'=>∃v b h',e=.returned v/\w'=mk B b h'/\K v h'
def SK(o:n9):Bool:=match o.op with
 |.call c=>match c.callee with
  |.value x=>!(o5 x)
  |_=>Tc
 |_=>Tc
def sT:List n9->Option (List n9×n9×List n9)
 |[]=>Te
 |o::l=>bif SK o then Td ([],o,l)else match sT l with
  |some (pre,o',post)=>Td (o::pre,o',post)
  |none=>Te
def LW{l:List n9}:∀{pre b:List n9} {o:n9},sT l=Td (pre,o,b)->l=pre++o::b:=by
 induction l with
 |nil=>intro pre b o h;cases h
 |cons x l c=>intro pre b o h;rw[sT]at h;grind
def sG(P:EM)(o:n9)(e:bK)(h:zb)(K:Value->zb->Prop):Prop:=match o.op with
 |.call c=>match c.callee with
  |.value x=>match fQ e [] x with
   |some (.func (.yield l) A C)=>bif (bif (gc A.size 0)then(gc C.size 0)else Tc)then(bif known e [] c.args.toList then YX P l (c.args.map (gk e [])) h λv h'=>typed P o.type v λb=>K b h' else False)else False
   |_=>False
  |_=>False
 |_=>False
def Rv{n m:Nat}{K:vvv}(H:sG P o e h K)(i:Sat n e a)(B:MN)(d:Nat){next:Act->MN->Prop}{Q:Exit->Act->MN->Prop}(z:∀v t h',K v h'->next (a.put o.dst v) (mk B t h')):o.wpIn (rf Te) m P a (mk B d h) next Q:=by
 unfold sG at H;split at H;rename_i c k;split at H;rename_i x f;split at H;rename_i l A C r;obtain⟨hA,p,H⟩:A=#[]/\C=#[]/\(bif known e [] c.args.toList then YX P l (c.args.map (gk e [])) h λv h'=>typed P o.type v λq=>K q h' else False):=θ
 subst hA;subst p;cases hk:known e [] c.args.toList with
 |false=>simp_all
 |true=>
  rw[hk]at H;simp only[zF]at H;have⟨fn,tmps,assign,body,h1,h2⟩:=H (m-1) B d;have w:a.eval x=.func (.yield l) #[] #[]:=yd i (c:=[]) trivial r;have b:c.args.map a.eval=c.args.map (gk e []):=by apply Array.map_congr_left;intro y s;exact W6 i (c:=[]) trivial hk y (ψ s)
  have u:(o.semAt (rf Te).round a.eval).run P (mk B d h)=.ok (.round l fn tmps assign body) (mk B d h):=by show(execOp a.eval o).run P (mk B d h)=_;simp only[execOp,k,resolve,f,w,zde,Sem.run_bind,Sem.run_pure,Result.andThen_ok,invoke];rw[b];simpa using h1
  refine⟨λ_ _=>trivial,?_⟩;rw[u];refine⟨λf=>(ε f),h2.mono ?_⟩;grind [Zh]
 simp_all;simp_all;simp_all
def vm(P:EM)(n:Nat)(f:List (Nat×Nat))(id:Nat)(ops:Array n9)(b:Bool)(K:bK->zb->Prop)(e:bK)(h:zb):Prop:=
 match sT ops.toList with
 |none=>Vc P n f id ops b K e h
 |some (pre,o,post)=>bif b then False else bif (pre.all Zs&&post.all Zs)then(match o.guard with
  |none=>bif xr n [] o.dst then wR P n ops (λc h1=>sG P o c h1 λv h2=>wR P n ops K post (putO c o.dst [] v) h2) pre e h else False
  |some _=>False)else False
def IF(O:P.follows .mixedOrders=Ta){F:List (Nat×Nat)}{id:Nat}{ops:Array n9}{c:Bool}{K:bK->zb->Prop} (H:vm P n F id ops c K e h) (m:Nat) (B:MN) (d:Nat) (D:Sat n e a) {Q:Exit->Act->MN->Prop}(C:∀e' a' k h',Sat n e' a'->Same (Zc ops.toList) a a'->K e' h'->Q .normal a' (mk B k h')):(zdx id ops c).wpIn (rf Te) m P Q a (mk B d h):=by
 unfold vm at H;split at H;exact wpIn_wide.2 (BE O H B d D C);rename_i pre o b y;have p:=LW y;cases c with
 |true=>grind
 |false=>
  simp only[zG]at H;cases hnd:(pre.all Zs&&b.all Zs)with
  |false=>simp_all
  |true=>
   rw[hnd]at H;simp only[zF]at H;rw[YR]at hnd;split at H;rename_i I;cases hd:xr n [] o.dst with
   |false=>simp_all
   |true=>
    rw[hd]at H;simp only[zF]at H;refine wpIn_region_list ?_;have q:∀x∈Zc pre,x∈Zc ops.toList:=λx M=>by rw[p,Xd];simp_all
    have r:∀i,o.dst=Td i->i∈Zc ops.toList:=λi hi=>by rw[p,Xd];exact ZH _ (by simp[Zc,hi])
    have A:∀x∈Zc b,x∈Zc ops.toList:=λx M=>by rw[p,Xd];refine ZH _ ?_;unfold Zc;grind
    rw[p];refine nv (K:=λf w1=>∃l u h1,w1=mk B u h1/\Sat n l f/\Same (Zc ops.toList) a f/\sG P o l h1 λv h2=>wR P n ops K b (putO l o.dst [] v) h2) pre (o::b) a _ hnd.1 (pw B pre e h a d H D λe' a' k h' t z J=>⟨e',k,h',rfl,t,z.mono q,J⟩) ?_;rintro f w1 ⟨l,u,h1,rfl,s1,L,t⟩;unfold wpListIn;have s:zah o (yielded ops f.tmps)=Ta:=by simp[zah,I]
    rw[zi s];refine Rv t s1 B u λv d2 h2 z=>?_;have s2:Sat n (putO l o.dst [] v) (f.put o.dst v):=s1.putO hd (λ_=>rfl) (λS=>absurd trivial S);rw[<-ZY b];refine nv (K:=λa' w'=>Q .normal a' w') b [] _ _ hnd.2 (pw B b _ _ _ _ z s2 λe' a' k h' G N E=>?_) λa w h=>h;exact C e' a' k h' G ((L.trans (Same.put f o.dst v r)).trans (N.mono A)) E
   simp_all
def WI(P:EM)(n:Nat)(pl:Plan):Code->Wh->bK->zb->Prop
 |.skip,Q,e,h=>Q .normal e h
 |.ret,Q,e,h=>Q .ret e h
 |.exit id,Q,e,h=>Q (.exit id) e h
 |.label _,Q,e,h=>Q .normal e h
 |.goto l,Q,e,h=>Q (.goto l) e h
 |.region id ops draw,Q,e,h=>vm P n pl.tails id ops draw (λe h=>Q .normal e h) e h
 |.seq x y,Q,e,h=>match oW pl.joins (jm y)with
  |none=>WI P n pl x (jK (λe h=>WI P n pl y Q e h) Q) e h
  |some J=>BG J (λe h=>WI P n pl y Q e h) (λK=>WI P n pl x (jK K Q) e h) (Xe (xu x) e)
 |.cond c x y,Q,e,h=>match fQ e [] c with
  |some (.bool b)=>(b=Ta->WI P n pl x Q e h)/\(b=Tc->WI P n pl y Q e h)
  |_=>False
 |.block id x,Q,e,h=>WI P n pl x (jI id Q) e h
 |.loop x,Q,e,h=>match oW pl.loops (jm x)with
  |some J=>yM J (λf e h=>WI P n pl x (jK f Q) e h) (Xe (xu x) e) e h
  |none=>False
 |_,_,_,_=>False
def My(hm:P.follows .mixedOrders=Ta){pl:Plan}:∀(c:Code) (Q:Wh) (e:bK) (h:zb),WI P n pl c Q e h ->∀(m:Nat) (B:MN) (d:Nat) (a:Act),Sat n e a->c.wpIn (rf Te) m P (BQ n B (xu c) a Q) a (mk B d h):=by
 intro c;induction c with
 |skip=>exact λQ e h H m B d a f=>wpIn_skip ⟨e,d,h,rfl,f,Same.refl _ _,H⟩
 |ret=>exact λQ e h H m B d a f=>wpIn_ret ⟨e,d,h,rfl,f,Same.refl _ _,H⟩
 |exit id=>exact λQ e h H m B d a f=>wpIn_exit ⟨e,d,h,rfl,f,Same.refl _ _,H⟩
 |label l=>exact λQ e h H m B d a f=>wpIn_label ⟨e,d,h,rfl,f,Same.refl _ _,H⟩
 |goto l=>exact λQ e h H m B d a f=>wpIn_goto ⟨e,d,h,rfl,f,Same.refl _ _,H⟩
 |region id ops an=>exact λQ e h H m B d a f=>IF hm H m B d f λe' a' d' h' r t q3=>⟨e',d',h',rfl,r,t,q3⟩
 |seq x y C D=>
  intro Q e h H m B d a f;simp only[WI]at H;have L:∀i∈xu x,i∈xu (x.seq y):=λi hi=>YV _ hi;have S:∀i∈xu y,i∈xu (x.seq y):=λi hi=>ZH _ hi;split at H;refine wpIn_seq (wpIn_mono (C _ _ _ H m B d a f) ?_);rintro ex k w1 ⟨A,s,h1,rfl,s1,w,r⟩;cases ex with
  |normal=>refine wpIn_mono (D _ _ _ r m B s k s1) ?_;rintro ex a2 w2 ⟨u,d2,h2,rfl,s2,z,t⟩;exact⟨u,d2,h2,rfl,s2,(w.mono L).trans (z.mono S),t⟩
  |_=>exact⟨A,s,h1,rfl,s1,w.mono L,r⟩
  rename_i J hJ;have H':=H (lx (wb J) λvs=>λh=>WI P n pl y Q (Yp J vs++Xe (xu x) e) h) (yS λvs h M=>M);refine wpIn_seq (wpIn_mono (C _ _ _ H' m B d a f) ?_);rintro ex k w1 ⟨A,s,h1,rfl,s1,w,r⟩;cases ex with
  |normal=>have⟨vs,q,O,M,hk⟩:=kH r;have aa:=yW M;subst aa;have U:Sat n (Yp J vs++Xe (xu x) e) k:=nA f s1.defers s1.size w (yq s1 O);refine wpIn_mono (D _ _ _ hk m B s k U) ?_;rintro ex a2 w2 ⟨u,d2,h2,rfl,s2,z,t⟩;exact⟨u,d2,h2,rfl,s2,(w.mono L).trans (z.mono S),t⟩
  |_=>exact⟨A,s,h1,rfl,s1,w.mono L,r⟩
 |cond c x y C D=>intro Q e h H m B d a f;simp only[WI]at H;have L:∀i∈xu x,i∈xu (zdr c x y):=λi hi=>YV _ hi;have S:∀i∈xu y,i∈xu (zdr c x y):=λi hi=>ZH _ hi;split at H;rename_i b E;refine wpIn_cond_split (yd f (c:=[]) trivial E) (λV=>?_) (λaf=>?_);refine wpIn_mono (C _ _ _ (H.1 V) m B d a f) ?_;rintro ex a2 w2 ⟨u,d2,h2,rfl,s2,z,t⟩;exact⟨u,d2,h2,rfl,s2,z.mono L,t⟩;refine wpIn_mono (D _ _ _ (H.2 af) m B d a f) ?_;rintro ex a2 w2 ⟨u,d2,h2,rfl,s2,z,t⟩;exact⟨u,d2,h2,rfl,s2,z.mono S,t⟩;cases H
 |block id x ih=>
  intro Q e h H m B d a f;refine wpIn_block (wpIn_mono (ih _ _ _ H m B d a f) ?_);rintro ex k w1 ⟨A,s,h1,rfl,s1,w,r⟩;cases ex with
  |exit i=>simp only[jI]at r;simp only[Exit.inBlock];by_cases E:gc i id=Ta;rw[zi (ZJ E)];simp only[E,zF]at r;exact⟨A,s,h1,rfl,s1,w,r⟩;rw[za (λhe=>E (by rw[he];simp))];simp only[E,zG]at r;exact⟨A,s,h1,rfl,s1,w,r⟩
  |_=>exact⟨A,s,h1,rfl,s1,w,r⟩
 |loop x ih=>
  intro Q e h H m B d a f;simp only[WI]at H;split at H;rename_i J hJ;have⟨I,μ,h0,G⟩:=H;have⟨ae,p0,ak,am,aj⟩:=kH h0;let F:=kU (wb J) I μ;let at_:Act->Option ((zb->Prop)×(zb->Nat)):=λk=>(fU (λi=>Td (qp k i)) J).bind λvs=>fK (wb J) vs F;refine wpIn_loop (λk w1=>∃s h1 vs p,w1=mk B s h1/\k.defers=[]/\k.tmps.size=n/\Same (xu x) a k/\fU (λi=>Td (qp k i)) J=Td vs/\fK (wb J) vs F=Td p/\p.1 h1) (λk w1=>match at_ k with|some p=>p.2 w1.heap|none=>0) ⟨d,h,ae,p0,rfl,f.defers,f.size,Same.refl _ _,yq f ak,am,aj⟩ ?_;rintro k w1 ⟨s,h1,vs,p,rfl,Y,ai,o,O,hp,hI⟩;have s1:Sat n (Yp J vs++Xe (xu x) e) k:=nA f Y ai o O;have E:=p8 hp G h1 hI;refine wpIn_mono (ih _ _ _ E m B s k s1) ?_;rintro ex a2 w2 ⟨u,d2,h2,rfl,s2,z,t⟩;cases ex with
  |normal=>
   have⟨ab,q,N,M,Z,ah⟩:=kH t;refine⟨⟨d2,h2,ab,q,rfl,s2.defers,s2.size,o.trans z,yq s2 N,M,Z⟩,?_⟩;have A:at_ k=Td p:=by simp only[at_,O,zbw];exact hp
   have u:at_ a2=Td q:=by simp only[at_,yq s2 N,zbw];exact M
   rw[A,u];exact ah
  |_=>exact⟨u,d2,h2,rfl,s2,o.trans z,t⟩
  cases H
 |_=>exact λQ e h H=>H.elim
def jp(P:EM)(f:n5)(args:Array Value)(h:zb)(R:Value->zb->Prop):Prop:=
 ∀(m:Nat) (B:MN) (d:Nat),CallsIn (rf Te) m P f args (mk B d h) λe w'=>∃v b h',e=.returned v/\w'=mk B b h'/\R v h'
def Hk(u:P.follows .mixedOrders=Ta)(pl:Plan)(vs:ab2){fn:Func}{rs:List ResultVar}(r:P.funcs[f]?=Td fn)(c:Ys fn=Ta)(p:fn.results.toList=rs)(t:fn.ntmps=n)(q:Nat.ble (DB vs) n=Ta) {R:vvv} (H:WI P n pl (codeOf fn) (qS P rs R) (iI 0 vs) h):jp P f vs.toArray h R:=by
 have l:fn.body=Td (codeOf fn):=by unfold Ys at c;unfold codeOf;split at c;omega;cases c
 intro m B d;subst t;refine callsIn_of_wp r l trivial ?_ rfl;have y:vs.length<=fn.ntmps:=zbn q;have s:Sat fn.ntmps (iI 0 vs) { tmps:=vs.toArray++zbu (fn.ntmps-vs.toArray.size) undef,defers:=[] }:=by
  refine⟨rfl,φ,?_⟩;refine qL vs.toArray _ vs 0 λj v x=>?_;have k:j<DB vs:=by obtain h|h:=zam j (DB vs);exact h;simp_all
  simp only[ZO,za3];rw[zca (ψ k)];simp[x]
 refine wpIn_mono (My u (codeOf fn) _ _ _ H m B d _ s) ?_;rintro ex a w ⟨A,b,h1,rfl,s1,z,i⟩;cases ex with
 |normal=>have⟨v,o,e⟩:=Yr s1 p i;exact⟨s1.defers,v,e B b,v,b,h1,rfl,rfl,o⟩
 |ret=>have⟨v,o,e⟩:=Yr s1 p i;exact⟨s1.defers,v,e B b,v,b,h1,rfl,rfl,o⟩
 |_=>cases i
end
section
section
variable {P:EM} {n m id:Nat} {ro:Option Nat} {e:bK} {h:zb} {a:Act}
def v8{P:EM}{ops:Array n9}{D:List Deferred}{K:Act->MN->Prop}:∀(l:List n9) (a:Act) (w:MN),wpList P ops (hC K) l a w->wpList P ops (hC λf w1=>∃b,f=Jp D b/\K b w1) l (Jp D a) w
 |[],a,w,h=>⟨a,rfl,h⟩
 |o::l,a,w,h=>by
  unfold wpList at h ⊢;have m:yielded ops (Jp D a).tmps=yielded ops a.tmps:=rfl;rw[m];by_cases c:zah o (yielded ops a.tmps)=Ta;rw[zi c]at h ⊢;obtain h|⟨_,h⟩:=h;exact .inl (Oper.wp_mono (λf w1 ⟨b,e,k⟩=>by rw[e];exact v8 l b w1 k) (EC h));exact(Y4 h).elim;rw[za c]at h ⊢;have i:(Jp D a).put o.dst undef=Jp D (a.put o.dst undef):=by cases o.dst <;> rfl
  rw[i];exact v8 l _ w h
def oG(P:EM)(n:Nat)(ops:Array n9)(b:Bool)(K:bK->zb->Prop)(e:bK)(h:zb):Prop:=
 bif ops.toList.all Zs then(bif b then(bif kD Tc ops then wI P n h Ta ops (λe'=>iZ Tc P n ops h K (fP Tc ops).length [] (fP Tc ops) e' h) (Wg [] (We Tc ops [] ops.size) ops.size) e else False)else wR P n ops K ops.toList e h)else False
def tR(u:P.follows .mixedOrders=Ta){D:List Deferred}{ops:Array n9}{f:Bool}{K:bK->zb->Prop}(H:oG P n ops f K e h)(B:MN)(d:Nat)(r:Sat n e a){Q:Exit->Act->MN->Prop}(t:∀e' a' b h',Sat n e' a'->Same (Zc ops.toList) a a'->K e' h'->Q .normal (Jp D a') (mk B b h')):(zdx id ops f).wpIn (rf ro) m P Q (Jp D a) (mk B d h):=by
 unfold oG at H;cases hd:ops.toList.all Zs with
 |false=>simp_all
 |true=>
  rw[hd,zF]at H;have fin:∀k w1,(∃c,k=Jp D c/\∃e' b h',w1=mk B b h'/\Sat n e' c/\Same (Zc ops.toList) a c/\K e' h')->Q .normal k w1:=by rintro k w1 ⟨c,rfl,e',b,h',rfl,l,q,p⟩;exact t e' c b h' l q p
  cases f with
  |false=>refine wpIn_region_list ?_;rw[<-ZY ops.toList];exact nv _ [] _ _ hd (v8 (K:=λc w1=>∃e' b h',w1=mk B b h'/\Sat n e' c/\Same (Zc ops.toList) a c/\K e' h') _ _ _ (pw B _ _ _ _ _ H r λe' a' b h' l q p=>⟨e',b,h',rfl,l,q,p⟩)) fin
  |true=>
   rw[zF]at H;cases hB:kD Tc ops with
   |false=>simp_all
   |true=>
    rw[hB]at H;have h0:wpAny P .any ops (hC λc w1=>∃e' b h',w1=mk B b h'/\Sat n e' c/\Same (Zc ops.toList) a c/\K e' h') ops.size (zbu ops.size Tc) a (mk B (d+1) h):= Cu B hB H r (λe' a' b h' l q p=>⟨e',b,h',rfl,l,q,p⟩) (d+1);refine wpIn_mono (wpIn_region_any (Q:=hC λk w1=>∃c,k=Jp D c/\∃e' b h',w1=mk B b h'/\Sat n e' c/\Same (Zc ops.toList) a c/\K e' h') u (tf (λi o w=>?_) _ _ _ _ (pS _ _ _ _ h0))) λx a' w' s=>?_;grind;cases x with
    |normal=>exact fin _ _ s
    |_=>cases s
def WG(P:EM)(n:Nat):Code->Wh->bK->zb->Prop
 |.skip,Q,e,h=>Q .normal e h
 |.ret,Q,e,h=>Q .ret e h
 |.exit id,Q,e,h=>Q (.exit id) e h
 |.region _ ops draw,Q,e,h=>oG P n ops draw (λe h=>Q .normal e h) e h
 |.seq x y,Q,e,h=>WG P n x (jK (λe h=>WG P n y Q e h) Q) e h
 |.cond c x y,Q,e,h=>match fQ e [] c with
  |some (.bool b)=>(b=Ta->WG P n x Q e h)/\(b=Tc->WG P n y Q e h)
  |_=>False
 |.block id x,Q,e,h=>WG P n x (jI id Q) e h
 |_,_,_,_=>False
def yA(n:Nat)(B:MN)(D:List Deferred)(Q:Wh):Exit->Act->MN->Prop:=
 λx a w=>∃e d h b,a=Jp D b/\w=mk B d h/\Sat n e b/\Q x e h
def XM{B:MN}{D:List Deferred}{Q:Wh}:∀c a w,yA n B D (jI id Q) c a w->Exit.inBlock id (yA n B D Q) c a w:=by
 rintro c a1 w1 ⟨h,k,h1,f,rfl,rfl,s1,b⟩;cases c with
 |exit i=>simp only[jI]at b;simp only[Exit.inBlock];by_cases e:gc i id=Ta;rw[zi (ZJ e)];simp only[e,zF]at b;exact⟨h,k,h1,f,rfl,rfl,s1,b⟩;rw[za (λl=>e (by rw[l];simp))];simp only[e,zG]at b;exact⟨h,k,h1,f,rfl,rfl,s1,b⟩
 |_=>exact⟨h,k,h1,f,rfl,rfl,s1,b⟩
def Ic(w:P.follows .mixedOrders=Ta){D:List Deferred}:∀(c:Code) (Q:Wh) (e:bK) (h:zb),WG P n c Q e h ->∀(B:MN) (d:Nat) (a:Act),Sat n e a->c.wpIn (rf ro) m P (yA n B D Q) (Jp D a) (mk B d h):=by
 intro c;induction c with
 |skip=>exact λQ e h H B d a f=>wpIn_skip ⟨e,d,h,a,rfl,rfl,f,H⟩
 |ret=>exact λQ e h H B d a f=>wpIn_ret ⟨e,d,h,a,rfl,rfl,f,H⟩
 |exit id=>exact λQ e h H B d a f=>wpIn_exit ⟨e,d,h,a,rfl,rfl,f,H⟩
 |region id ops r=>exact λQ e h H B d a f=>tR w H B d f λe' a' u h' l _ E=>⟨e',u,h',a',rfl,rfl,l,E⟩
 |seq x y k i=>
  intro Q e h H B d a f;refine wpIn_seq (wpIn_mono (k _ _ _ H B d a f) ?_);rintro ex a1 w1 ⟨z,q,h1,s,rfl,rfl,s1,l⟩;cases ex with
  |normal=>exact i _ _ _ l B q s s1
  |_=>exact⟨z,q,h1,s,rfl,rfl,s1,l⟩
 |cond c x y k i=>intro Q e h H B d a f;simp only[WG]at H;split at H;rename_i b t;have C:(Jp D a).eval c=.bool b:=yd f (c:=[]) trivial t;exact wpIn_cond_split C (λp=>k _ _ _ (H.1 p) B d a f) (λo=>i _ _ _ (H.2 o) B d a f);cases H
 |block id x A=>intro Q e h H B d a f;exact wpIn_block (wpIn_mono (A _ _ _ H B d a f) XM)
 |_=>exact λQ e h H=>H.elim
def WL(P:EM)(n:Nat)(pl:List (Nat×fC)):Code->Wh->bK->zb->Prop
 |.skip,Q,e,h=>Q .normal e h
 |.ret,Q,e,h=>Q .ret e h
 |.exit id,Q,e,h=>Q (.exit id) e h
 |.region _ ops draw,Q,e,h=>oG P n ops draw (λe h=>Q .normal e h) e h
 |.seq x y,Q,e,h=>WL P n pl x (jK (λe h=>WL P n pl y Q e h) Q) e h
 |.cond c x y,Q,e,h=>match fQ e [] c with
  |some (.bool b)=>(b=Ta->WL P n pl x Q e h)/\(b=Tc->WL P n pl y Q e h)
  |_=>False
 |.block id x,Q,e,h=>WL P n pl x (jI id Q) e h
 |.loop x,Q,e,h=>match oW pl (jm x)with
  |some J=>yM J (λf e h=>WL P n pl x (jK f Q) e h) (Xe (xu x) e) e h
  |none=>False
 |_,_,_,_=>False
def NR(n:Nat)(B:MN)(D:List Deferred)(ms:List Nat)(c:Act)(Q:Wh):Exit->Act->MN->Prop:=
 λx a w=>∃e d h b,a=Jp D b/\w=mk B d h/\Sat n e b/\Same ms c b/\Q x e h
def Rb(hm:P.follows .mixedOrders=Ta){D:List Deferred}{pl:List (Nat×fC)}:∀(c:Code) (Q:Wh) (e:bK) (h:zb),WL P n pl c Q e h ->∀(B:MN) (d:Nat) (a:Act),Sat n e a->c.wpIn (rf ro) m P (NR n B D (xu c) a Q) (Jp D a) (mk B d h):=by
 intro c;induction c with
 |skip=>exact λQ e h H B d a f=>wpIn_skip ⟨e,d,h,a,rfl,rfl,f,Same.refl _ _,H⟩
 |ret=>exact λQ e h H B d a f=>wpIn_ret ⟨e,d,h,a,rfl,rfl,f,Same.refl _ _,H⟩
 |exit id=>exact λQ e h H B d a f=>wpIn_exit ⟨e,d,h,a,rfl,rfl,f,Same.refl _ _,H⟩
 |region id ops ak=>exact λQ e h H B d a f=>tR hm H B d f λe' a' d' h' o s q3=>⟨e',d',h',a',rfl,rfl,o,s,q3⟩
 |seq x y G L=>
  intro Q e h H B d a f;have S:∀i∈xu x,i∈xu (.seq x y):=λi hi=>ZF.2 (.inl hi);have hy:∀i∈xu y,i∈xu (.seq x y):=λi hi=>ZF.2 (.inr hi);refine wpIn_seq (wpIn_mono (G _ _ _ H B d a f) ?_);rintro A r w1 ⟨E,t,h1,k,rfl,rfl,s1,N,o⟩;cases A with
  |normal=>refine wpIn_mono (L _ _ _ o B t k s1) ?_;rintro A a2 w2 ⟨u,d2,h2,w,rfl,rfl,s2,C,s⟩;exact⟨u,d2,h2,w,rfl,rfl,s2,(N.mono S).trans (C.mono hy),s⟩
  |_=>exact⟨E,t,h1,k,rfl,rfl,s1,N.mono S,o⟩
 |cond c x y G L=>intro Q e h H B d a f;have S:∀i∈xu x,i∈xu (.cond c x y):=λi hi=>ZF.2 (.inl hi);have hy:∀i∈xu y,i∈xu (.cond c x y):=λi hi=>ZF.2 (.inr hi);simp only[WL]at H;split at H;rename_i b z;have hc:(Jp D a).eval c=.bool b:=yd f (c:=[]) trivial z;exact wpIn_cond_split hc (λU=>wpIn_mono (G _ _ _ (H.1 U) B d a f) λA a2 w2 ⟨u,d2,h2,w,r1,r2,s2,C,s⟩=>⟨u,d2,h2,w,r1,r2,s2,C.mono S,s⟩) (λab=>wpIn_mono (L _ _ _ (H.2 ab) B d a f) λA a2 w2 ⟨u,d2,h2,w,r1,r2,s2,C,s⟩=>⟨u,d2,h2,w,r1,r2,s2,C.mono hy,s⟩);cases H
 |block id x ih=>
  intro Q e h H B d a f;refine wpIn_block (wpIn_mono (ih _ _ _ H B d a f) ?_);rintro A r w1 ⟨E,t,h1,k,rfl,rfl,s1,N,o⟩;cases A with
  |exit i=>simp only[jI]at o;simp only[Exit.inBlock];by_cases z:gc i id=Ta;rw[zi (ZJ z)];simp only[z,zF]at o;exact⟨E,t,h1,k,rfl,rfl,s1,N,o⟩;rw[za (λhe=>z (by rw[he];simp))];simp only[z,zG]at o;exact⟨E,t,h1,k,rfl,rfl,s1,N,o⟩
  |_=>exact⟨E,t,h1,k,rfl,rfl,s1,N,o⟩
 |loop x ih=>
  intro Q e h H B d a f;simp only[WL]at H;split at H;rename_i J hJ;have⟨I,μ,h0,M⟩:=H;have⟨aa,p0,ai,aj,ah⟩:=kH h0;let F:=kU (wb J) I μ;let at_:Act->Option ((zb->Prop)×(zb->Nat)):=λr=>(fU (λi=>Td (qp r i)) J).bind λvs=>fK (wb J) vs F;refine wpIn_loop (λr w1=>∃t h1 vs p k,r=Jp D k/\w1=mk B t h1/\k.defers=[]/\k.tmps.size=n/\Same (xu x) a k/\fU (λi=>Td (qp k i)) J=Td vs/\fK (wb J) vs F=Td p/\p.1 h1) (λr w1=>match at_ r with|some p=>p.2 w1.heap|none=>0) ⟨d,h,aa,p0,a,rfl,rfl,f.defers,f.size,Same.refl _ _,yq f ai,aj,ah⟩ ?_;rintro r w1 ⟨t,h1,vs,p,k,rfl,rfl,V,af,l,hv,hp,hI⟩;have s1:Sat n (Yp J vs++Xe (xu x) e) k:=nA f V af l hv;have z:=p8 hp M h1 hI;refine wpIn_mono (ih _ _ _ z B t k s1) ?_;rintro A a2 w2 ⟨u,d2,h2,w,rfl,rfl,s2,C,s⟩;have va:∀(r:Act),(λi=>Td (qp (Jp D r) i))=λi=>Td (qp r i):=λ_=>rfl;cases A with
  |normal=>
   have⟨Z,q,O,hq,Y,ae⟩:=kH s;refine⟨⟨d2,h2,Z,q,w,rfl,rfl,s2.defers,s2.size,l.trans C,yq s2 O,hq,Y⟩,?_⟩;have E:at_ (Jp D k)=Td p:=by simp only[at_,va,hv,zbw];exact hp
   have u:at_ (Jp D w)=Td q:=by simp only[at_,va,yq s2 O,zbw];exact hq
   rw[E,u];exact ae
  |_=>exact⟨u,d2,h2,w,rfl,rfl,s2,l.trans C,s⟩
  cases H
 |_=>exact λQ e h H=>H.elim
abbrev fR:=LoopState->Option Code->Loop
def MA(rec:fR)(l:Nat)(K:Value->zb->Prop):Wh
 |.normal,_,h=>h[l]?=Td (.loop (rec .busy Te))/\K (.bool Ta) (h.setIfInBounds l (.loop (rec .ready Te)))
 |.ret,_,h=>h[l]?=Td (.loop (rec .busy Te))/\K (.bool Tc) (h.setIfInBounds l (.loop (rec .done (Td .ret))))
 |_,_,_=>False
def ir(P:EM)(n:Nat)(b bd:Code)(rec:fR)(l:Nat)(K:Value->zb->Prop)(e:bK)(h:zb):Prop:=
 WG P n b (λx c h1=>match x with
  |.normal=>h1[l]?=Td (.loop (rec .ready Te))/\WG P n bd (MA rec l K) c (h1.setIfInBounds l (.loop (rec .busy Te)))
  |_=>False) e h
theorem C4(a:Act):Jp [] a=a:=by unfold Jp;simp
def vO:bK->List Nat->List Value->bK
 |e,p::ps,v::vs=>vO (putO e (Td p) [] v) ps vs
 |e,_,_=>e
def nt:Array Value->List Nat->List Value->Array Value
 |t,p::ps,v::vs=>nt (t.setIfInBounds p v) ps vs
 |t,_,_=>t
theorem H8:∀(ps:ab1) (vs:ab2) (t:ab3),(ps.zip vs).foldl (λ(t:ab3) (x:Tmp×Value)=>t.setIfInBounds x.1 x.2) t=nt t ps vs
 |[],_,_=>rfl
 |_::_,[],_=>rfl
 |p::ps,v::vs,t=>H8 ps vs (t.setIfInBounds p v)
def GW{n:Nat}:∀(ps:ab1) (vs:ab2) (e:bK) (a:Act),(∀p∈ps,xr n [] (Td p)=Ta)->Sat n e a->Sat n (vO e ps vs) { tmps:=nt a.tmps ps vs,defers:=[] }
 |[],vs,e,a,_,hs=>by have:=hs.defers;cases a;simp only at this;subst this;exact hs
 |p::ps,[],e,a,_,hs=>by have:=hs.defers;cases a;simp only at this;subst this;exact hs
 |p::ps,v::vs,e,a,h,hs=>GW ps vs _ (a.put (Td p) v) (λq b=>h q (ZA _ b)) (hs.putO (h p ZD) (λ_=>rfl) (λc=>absurd trivial c))
def Cp(C:P.follows .mixedOrders=Ta){n l:Nat}{ps:ab1}{f bd:Code}{fn:n5}{D:Nat}(x:∀p∈ps,xr n [] (Td p)=Ta) {rec:fR} (b:rec=λst N=>{ state:=st,pending:=N,fn:=fn,tmps:=a.tmps,params:=ps.toArray,assign:=f,body:=bd,defers:=D }) {vs:ab2} (V:ps.length=DB vs) (Q:Sat n e a) (I:h[l]?=Td (.loop (rec .ready Te))) {K:vvv}(H:ir P n f bd rec l K (vO e ps vs) h):YX P l vs.toArray h K:=by
 intro m B d;have u:(mk B d h).heap[l]?=Td (.loop (rec .ready Te)):=I;have A:=run_yield (P:=P) (w:=mk B d h) (args:=vs.toArray) u θ;refine⟨_,_,_,_,A,?_⟩;rw[b]at A ⊢;have s2:=GW ps vs e a x Q;have key:RoundIn (rf Te) m P l fn (nt a.tmps ps vs) f bd (mk B d h) (λe w'=>∃v J h',e=.returned v/\w'=mk B J h'/\K v h'):=by
  refine roundIn_of_wpIn (F:=rf Te) trivial ?_;have O:(rf Te).inRound l=rf (Td l):=rfl;rw[O,<-C4 { tmps:=nt a.tmps ps vs,defers:=[] }];refine wpIn_mono (Ic C f _ _ _ H B d _ s2) ?_;rintro ex a1 w1 ⟨U,z,h1,L,rfl,rfl,s1,y⟩;cases ex with
  |normal=>
   have⟨G,M⟩:=y;have q:(mk B z h1).heap[l]?=Td (.loop (rec .ready Te)):=G;have E:=run_beginRound (P:=P) q (ϕ b);refine⟨_,E,?_⟩;have k:({ rec .ready Te with state:=.busy }:Loop)=rec .busy Te:=ϕ b
   rw[k];refine wpIn_mono (Ic C bd _ _ _ M B z L s1) ?_;rintro ex a2 w2 ⟨S,d2,h2,Y,rfl,rfl,s3,r⟩;cases ex with
   |normal=>
    have⟨t,s⟩:=r;have i:(mk B d2 h2).heap[l]?=Td (.loop (rec .busy Te)):=t;have c:=run_endRound (P:=P) Te i;refine⟨_,_,c,aa9 Ta,d2,h2.setIfInBounds l (.loop (rec .ready Te)),rfl,?_,s⟩;have o:({ rec .busy Te with state:=ite ((Te:Option Code).isNone) (.ready) (.done),pending:=Te }:Loop)=rec .ready Te:=π b
    rw[o];rfl
   |ret=>
    have⟨t,s⟩:=r;have i:(mk B d2 h2).heap[l]?=Td (.loop (rec .busy Te)):=t;have c:=run_endRound (P:=P) (Td .ret) i;refine⟨_,_,c,aa9 Tc,d2,h2.setIfInBounds l (.loop (rec .done (Td .ret))),rfl,?_,s⟩;have o:({ rec .busy Te with state:=ite ((Td Code.ret:Option Code).isNone) (.ready) (.done),pending:=Td .ret }:Loop)=rec .done (Td .ret):=π b
    rw[o];rfl
   |_=>cases r
  |_=>cases y
 simp_all[H8]
def iM:Code->Code
 |.rangeFunc _ _ x _=>x
 |.seq x y=>match iM x with
  |.skip=>iM y
  |c=>c
 |.block _ x=>iM x
 |_=>.skip
def iu:Code->Code
 |.rangeFunc _ _ _ y=>y
 |.seq x y=>match iu x with
  |.skip=>iu y
  |c=>c
 |.block _ x=>iu x
 |_=>.skip
def marks(c:List Nat):List Deferred:=c.map λb=>{ target:=.collected b,args:=#[] }
abbrev iC:=Exit->List Nat->bK->zb->Prop
def XJ(K:List Nat->bK->zb->Prop)(Q:iC):iC
 |.normal,ds,e,h=>K ds e h
 |x,ds,e,h=>Q x ds e h
def FG(id:Nat)(Q:iC):iC
 |.exit i,ds,e,h=>bif gc i id then Q .normal ds e h else Q (.exit i) ds e h
 |x,ds,e,h=>Q x ds e h
def nF(rec:fR)(l:Nat)(N R:zb->Prop)(h:zb):Prop:=
 (h[l]?=Td (.loop (rec .ready Te))/\N (h.setIfInBounds l (.loop (rec .exhausted Te))))\/(h[l]?=Td (.loop (rec .done (Td .ret)))/\R (h.setIfInBounds l (.loop (rec .exhausted (Td .ret)))))
def Hw(P:EM)(n:Nat)(f i:Nat)(c bd:Code)(v:Value)(Q:iC)(m:List Nat)(e:bK)(h:zb):Prop:=
 bif xr n [] (Td f)&&xr n [] (Td i)then(∃g lb,v=.func (.func g) #[] lb/\zr P g=Ta/\∀rec:fR,
  (∀{l k:Value} {h2:zb} {K:Value->zb->Prop},h2[h.size+1]?=Td (.loop (rec .ready Te))->ir P n c bd rec (h.size+1) K (putO (putO e (Td f) [] l) (Td i) [] k) h2->YX P (h.size+1) #[l,k] h2 K) ->
  jp P g (#[.func (.yield (h.size+1)) #[] #[]]++lb) ((h.push (.deferred (Td []))).push (.loop (rec .ready Te))) λ_ o=>nF rec (h.size+1) (λb=>Q .normal (h.size::m) e b) (λb=>Q .ret (h.size::m) e b) o)else False
def Bb(P:EM)(n:Nat)(f:Nat)(c bd:Code)(v:Value)(Q:iC)(k:List Nat)(e:bK)(h:zb):Prop:=
 bif xr n [] (Td f)then(∃g lb,v=.func (.func g) #[] lb/\zr P g=Ta/\∀rec:fR,
  (∀{i:Value} {h2:zb} {K:Value->zb->Prop},h2[h.size+1]?=Td (.loop (rec .ready Te))->ir P n c bd rec (h.size+1) K (putO e (Td f) [] i) h2->YX P (h.size+1) #[i] h2 K) ->
  jp P g (#[.func (.yield (h.size+1)) #[] #[]]++lb) ((h.push (.deferred (Td []))).push (.loop (rec .ready Te))) λ_ l=>nF rec (h.size+1) (λb=>Q .normal (h.size::k) e b) (λb=>Q .ret (h.size::k) e b) l)else False
def lE(e:bK):Nat->Nat->bK
 |0,_=>[]
 |f+1,i=>match jF e i with
  |some v=>(i,[],v)::lE e f (i+1)
  |none=>lE e f (i+1)
def uk{e:bK}:∀{f i:Nat} {x:Nat×yb×Value},x∈lE e f i->x.2.1=[]/\jF e x.1=Td x.2.2
 |0,_,_,h=>nomatch h
 |f+1,i,x,h=>by unfold lE at h;split at h;rename_i v b;obtain rfl|h:=YT.1 h;simp_all;exact uk h;exact uk h
def pI(h:Sat n e a)(f i:Nat):Sat n (lE e f i) a:=⟨h.defers,h.size,λx b=>by have⟨k,c,v⟩:=x;have⟨h1,h2⟩:=uk b;have h1:c=[]:=h1;subst h1;exact⟨λ_=>Yq h h2,λl=>absurd trivial l⟩⟩
def WD(P:EM)(n:Nat)(pl:List (Nat×fC)):Code->iC->List Nat->bK->zb->Prop
 |.skip,Q,f,e,h=>Q .normal f e h
 |.ret,Q,f,e,h=>Q .ret f e h
 |.exit id,Q,f,e,h=>Q (.exit id) f e h
 |.region _ ops draw,Q,f,e,h=>oG P n ops draw (λe h=>Q .normal f e h) e h
 |.seq x y,Q,f,e,h=>WD P n pl x (XJ (λf e h=>WD P n pl y Q f e h) Q) f e h
 |.cond c x y,Q,f,e,h=>match fQ e [] c with
  |some (.bool b)=>(b=Ta->WD P n pl x Q f e h)/\(b=Tc->WD P n pl y Q f e h)
  |_=>False
 |.block id x,Q,f,e,h=>WD P n pl x (FG id Q) f e h
 |.rangeFunc g ps asg bd,Q,f,e,h=>match fQ e [] g,ps.toList with
  |some v,[p1,p2]=>Hw P n p1 p2 asg bd v Q f (lE e n 0) h
  |some v,[p1]=>Bb P n p1 asg bd v Q f (lE e n 0) h
  |_,_=>False
 |.loop x,Q,f,e,h=>WL P n pl (.loop x) (λi e h=>Q i f e h) e h
 |_,_,_,_,_=>False
def FR(n:Nat)(B:MN)(Q:iC):Exit->Act->MN->Prop:=
 λx a w=>∃c e d h b,a=Jp (marks c) b/\w=mk B d h/\Sat n e b/\Q x c e h
def CN(w:1<=m){ps:Array Nat}{i bd:Code}{o:n5}{lb:ab3}(C:zr P o=Ta){g:Operand}{Q:iC}{k:ab1}(y:Sat n e a)(H:(Jp (marks k) a).eval g=.func (.func o) #[] lb) (D:∀fn (rec:fR),rec=(λst t=>{ state:=st,pending:=t,fn:=fn,tmps:=a.tmps,params:=ps,assign:=i,body:=bd,defers:=h.size })->jp P o (#[.func (.yield (h.size+1)) #[] #[]]++lb) ((h.push (.deferred (Td []))).push (.loop (rec .ready Te))) λ_ r=>nF rec (h.size+1) (λz=>Q .normal (h.size::k) e z) (λz=>Q .ret (h.size::k) e z) r)(B:MN) (d:Nat):(Code.rangeFunc g ps i bd).wpIn (rf Te) m P (FR n B Q) (Jp (marks k) a) (mk B d h):=by
 refine wpIn_rangeFunc λp _=>?_;obtain⟨rec,b⟩:∃rec:fR,rec=λst t=>{ state:=st,pending:=t,fn:=p,tmps:=a.tmps,params:=ps,assign:=i,body:=bd,defers:=h.size }:=⟨_,rfl⟩;have u:=D p rec b;refine⟨h.size+1,[{ target:=.collected h.size,args:=#[] }],mk B d ((h.push (.deferred (Td []))).push (.loop (rec .ready Te))),{ target:=.fn (.func o) lb,args:=#[.func (.yield (h.size+1)) #[] #[]] },mk B d ((h.push (.deferred (Td []))).push (.loop (rec .ready Te))),o,#[.func (.yield (h.size+1)) #[] #[]]++lb,mk B d ((h.push (.deferred (Td []))).push (.loop (rec .ready Te))),?_,?_,λ_ _=>trivial,?_,λ_=>w,?_⟩;rw[b];exact run_enterLoop_outer _ _ _ _ _;simp only[resolve,H];simp[go_sem,zde];simp only[invoke];exact vn C _ _;have F:({ Jp (marks k) a with defers:=[{ target:=.collected h.size,args:=#[] }]++(Jp (marks k) a).defers }:Act)=Jp (marks (h.size::k)) a:=by unfold Jp marks;simp only[y.defers];rfl
 rw[F];refine CallsIn.mono (u (m-1) B d) ?_;rintro e' w' ⟨v,s,r,rfl,rfl,l⟩;obtain⟨f,G⟩|⟨f,E⟩:=l;have c:(mk B s r).heap[h.size+1]?=Td (.loop (rec .ready Te)):=f;have q:=run_endLoop (P:=P) c θ;have A:({ rec .ready Te with state:=.exhausted }:Loop)=rec .exhausted Te:=by rw[b]
 have x:(rec .ready Te).pending=Te:=by rw[b]
 rw[A,x]at q;exact⟨Te,_,q,_,e,s,_,a,rfl,rfl,y,G⟩;have c:(mk B s r).heap[h.size+1]?=Td (.loop (rec .done (Td .ret))):=f;have q:=run_endLoop (P:=P) c θ;have A:({ rec .done (Td .ret)with state:=.exhausted }:Loop)=rec .exhausted (Td .ret):=by rw[b]
 have x:(rec .done (Td .ret)).pending=Td .ret:=by rw[b]
 rw[A,x]at q;exact⟨Td .ret,_,q,wpIn_ret ⟨_,e,s,_,a,rfl,rfl,y,E⟩⟩
def O0(F:P.follows .mixedOrders=Ta)(E:1<=m){pl:List (Nat×fC)}:∀(c:Code) (Q:iC) (k:ab1) (e:bK) (h:zb),WD P n pl c Q k e h ->∀(B:MN) (d:Nat) (a:Act),Sat n e a->c.wpIn (rf Te) m P (FR n B Q) (Jp (marks k) a) (mk B d h):=by
 intro c;induction c with
 |skip=>exact λQ k e h H B d a f=>wpIn_skip ⟨k,e,d,h,a,rfl,rfl,f,H⟩
 |ret=>exact λQ k e h H B d a f=>wpIn_ret ⟨k,e,d,h,a,rfl,rfl,f,H⟩
 |exit id=>exact λQ k e h H B d a f=>wpIn_exit ⟨k,e,d,h,a,rfl,rfl,f,H⟩
 |region id ops U=>exact λQ k e h H B d a f=>tR F H B d f λe' a' d' h' l _ q2=>⟨k,e',d',h',a',rfl,rfl,l,q2⟩
 |seq x y C u=>
  intro Q k e h H B d a f;refine wpIn_seq (wpIn_mono (C _ _ _ _ H B d a f) ?_);rintro ex a1 w1 ⟨p,A,r,h1,s,rfl,rfl,s1,l⟩;cases ex with
  |normal=>exact u _ _ _ _ l B r s s1
  |_=>exact⟨p,A,r,h1,s,rfl,rfl,s1,l⟩
 |cond c x y C u=>intro Q k e h H B d a f;simp only[WD]at H;split at H;rename_i b D;have Z:(Jp (marks k) a).eval c=.bool b:=yd f (c:=[]) trivial D;exact wpIn_cond_split Z (λM=>C _ _ _ _ (H.1 M) B d a f) (λG=>u _ _ _ _ (H.2 G) B d a f);cases H
 |block id x ih=>
  intro Q k e h H B d a f;refine wpIn_block (wpIn_mono (ih _ _ _ _ H B d a f) ?_);rintro ex a1 w1 ⟨p,A,r,h1,s,rfl,rfl,s1,l⟩;cases ex with
  |exit i=>simp only[FG]at l;simp only[Exit.inBlock];by_cases D:gc i id=Ta;rw[zi (ZJ D)];simp only[D,zF]at l;exact⟨p,A,r,h1,s,rfl,rfl,s1,l⟩;rw[za (λhe=>D (by rw[he];simp))];simp only[D,zG]at l;exact⟨p,A,r,h1,s,rfl,rfl,s1,l⟩
  |_=>exact⟨p,A,r,h1,s,rfl,rfl,s1,l⟩
 |rangeFunc g ps V bd Y aa=>
  intro Q k e h H B d a f;simp only[WD]at H;split at H;rename_i v w I S z;have o:ps=#[w,I]:=by rw[<-Array.toList_inj];exact z
  subst o;unfold Hw at H;cases hok:(xr n [] (Td w)&&xr n [] (Td I))with
  |false=>simp_all
  |true=>rw[hok]at H;rw[YR]at hok;obtain⟨gf,lb,rfl,J,N⟩:=H;exact CN E J (pI f n 0) (yd f (c:=[]) trivial S) (λfn rec q=>N rec (λ {L v2 h2 K} O t=>Cp F (ps:=[w,I]) (vs:=[L,v2]) θ q rfl (pI f n 0) O t)) B d
  rename_i v w S z;have o:ps=#[w]:=by rw[<-Array.toList_inj];exact z
  subst o;unfold Bb at H;cases hok:xr n [] (Td w)with
  |false=>simp_all
  |true=>rw[hok]at H;obtain⟨gf,lb,rfl,J,N⟩:=H;exact CN E J (pI f n 0) (yd f (c:=[]) trivial S) (λfn rec q=>N rec (λ {L h2 K} O t=>Cp F (ps:=[w]) (vs:=[L]) θ q rfl (pI f n 0) O t)) B d
  cases H
 |loop x _=>intro Q k e h H B d a f;refine wpIn_mono (Rb F (.loop x) _ _ _ H B d a f) ?_;rintro ex a1 w1 ⟨A,r,h1,s,rfl,rfl,s1,_,l⟩;exact⟨k,A,r,h1,s,rfl,rfl,s1,l⟩
 |_=>exact λQ k e h H=>H.elim
def takeD:List Nat->(zb->Prop)->zb->Prop
 |[],K,h=>K h
 |b::ds,K,h=>h[b]?=Td (.deferred (Td []))/\takeD ds K (h.setIfInBounds b (.deferred Te))
def MY(P:EM)(rs:List ResultVar)(R:Value->zb->Prop):iC
 |.normal,ds,e,h=>takeD ds (λh'=>iw P h' e rs λvs=>R (iN vs) h') h
 |.ret,ds,e,h=>takeD ds (λh'=>iw P h' e rs λvs=>R (iN vs) h') h
 |_,_,_,_=>False
def Ao{P:EM}{fn:Func}{n:Nat}{rs:List ResultVar}(i:fn.results.toList=rs){e:bK}{a:Act}(k:Sat n e a){B:MN}{R:vvv}{D:Nat}:∀(c:ab1) (d:Nat) (h:zb),takeD c (λh'=>iw P h' e rs λvs=>R (iN vs) h') h ->LeavesInM Fence.wide D P fn a.tmps (λe w'=>∃v l h',e=.returned v/\w'=mk B l h'/\R v h') (marks c) .returning (mk B d h)
 |[],d,h,H=>by have⟨v,o,m⟩:=Yr k i H;exact⟨v,m B d,v,d,h,rfl,rfl,o⟩
 |b::c,d,h,⟨h1,H⟩=>by have f:(mk B d h).heap[b]?=Td (.deferred (Td [])):=h1;exact⟨ξ,.inl ⟨_,_,rfl,run_takeDeferred (P:=P) f,Ao i k c d _ H⟩⟩
def FH(z:P.follows .mixedOrders=Ta)(vs:ab2){f:n5}{fn:Func}{rs:List ResultVar}(u:P.funcs[f]?=Td fn)(c:Ys fn=Ta)(r:fn.results.toList=rs)(y:fn.ntmps=n)(t:Nat.ble (DB vs) n=Ta){R:vvv}{F:Prop}(H:F)(pl:List (Nat×fC):=[])(s:F=WD P n pl (codeOf fn) (MY P rs R) [] (iI 0 vs) h):XC P f vs.toArray h R:=by
 have l:fn.body=Td (codeOf fn):=by unfold Ys at c;unfold codeOf;split at c;omega;cases c
 intro B d;refine callsIn_wide.1 (callsIn_of_wp_marks (F:=Fence.wide) (n:=1) u l trivial ?_ rfl);subst y;have C:vs.length<=fn.ntmps:=zbn t;have x:Sat fn.ntmps (iI 0 vs) { tmps:=vs.toArray++zbu (fn.ntmps-vs.toArray.size) undef,defers:=[] }:=by
  refine⟨rfl,φ,?_⟩;refine qL vs.toArray _ vs 0 λj v A=>?_;have i:j<DB vs:=by obtain h|h:=zam j (DB vs);exact h;simp_all
  simp only[ZO,za3];rw[zca (ψ i)];simp[A]
 have:=O0 z (m:=1) ω (codeOf fn) _ [] _ _ (s ▸ H) B d _ x;rw[show marks []=[]from rfl,C4]at this;refine wpIn_mono this ?_;rintro ex a w ⟨b,D,q,h1,k,rfl,rfl,s1,e⟩;have o:(Jp (marks b) k).defers=marks b:=by unfold Jp;rw[s1.defers];rfl
 have p:(Jp (marks b) k).tmps=k.tmps:=rfl;cases ex with
 |normal=>show LeavesInM _ _ _ _ _ _ _ _ _;rw[o,p];exact Ao r s1 b q h1 e
 |ret=>show LeavesInM _ _ _ _ _ _ _ _ _;rw[o,p];exact Ao r s1 b q h1 e
 |_=>cases e
end
section
def Ky(c:Nat)(c1:Addr)(h:zb)(R:vvv) (H:∃x:Bt,zd h c1=Td (aa6 x)/\((hV ((((x).size:Int):Int)>65536))=Ta->YX Tp c #[.agg #[ab0 0,ab0 0,ab0 0],ab0 3] h (λG F=>∃z:Bool,G=.bool z/\R (.tuple #[]) F))/\((hV ((((x).size:Int):Int)>65536))=Tc->∃(A:ab7) (E:ab9),A 0 h/\∀e:Int,∀w:zb,A e w->(∃k:Bt,zd w c1=Td (aa6 k)/\((hV ((e:Int)<((k).size:Int)))=Ta->∃s:Bt,zd w c1=Td (aa6 s)/\aa4 375 #[aa6 s,ab0 e] w (λD l=>∃m:Int,∃t:Int,∃r:Int,∃b:Int,D=.tuple #[.agg #[ab0 m,ab0 t,ab0 r],ab0 b]/\let B:zb:=zbq l (.cells #[ab0 0,ab0 0,ab0 0] 236);wf Tp (YI 236 (aa7 ⟨ZK l,0,Te⟩) (.agg #[ab0 m,ab0 t,ab0 r])) B (λy=>∃p:Int,∃o:Int,∃u:Int,zc y ⟨ZK l,0,Te⟩ 0 [ab0 p,ab0 o,ab0 u]/\YX Tp c #[.agg #[ab0 p,ab0 o,ab0 u],ab0 b] y (λC q=>∃f:Bool,C=.bool f/\((cond (!f) Ta ((b:Int) != 0))=Ta->R (.tuple #[]) q)/\((cond (!f) Ta ((b:Int) != 0))=Tc->∃i:Int,zd q (YH (YH ⟨ZK l,0,Te⟩ 1) 1)=Td (ab0 i)/\(A i q/\E i q<E e w))))))/\((hV ((e:Int)<((k).size:Int)))=Tc->R (.tuple #[]) w)))):jp Tp 374 #[.func (.yield c) #[] #[],aa7 c1] h R:=
 Hk Tryz.mixed ⟨[],[(3,[(3,.one (.int .i64))])],[]⟩ [.func (.yield c) #[] #[],aa7 c1] (rs:=[]) (n:=34) func374 κ κ κ κ (Eq.mp κ H)
def U1(C:Bt)(h:zb)(R:vvv) (H:let q:zb:=zbq h (.cells #[.slice Te 0 0] 227);let p:zb:=zbq q (.cells #[ab0 0] 3);let A:zb:=zbq p (.cells #[ab0 0] 32);let G:zb:=zbq A (.cells #[.slice Te 0 0] 227);aa4 334 #[aa6 C] G (λI c=>∃o:Value,I=o/\∃(r:n5) (m:ab3),o=.func (.func r) #[] m/\zr Tp r=Ta/\∀k:fR,(∀{x u:Value} {B:zb} {y:vvv},B[(ZK c+1)]?=Td (.loop (k .ready Te))->ir Tp 25 (iM (codeOf Tryz.f280)) (iu (codeOf Tryz.f280)) k (ZK c+1) y (putO (putO [(0,[],aa6 C),(2,[],aa7 ⟨ZK h,0,Te⟩),(3,[],aa7 ⟨ZK q,0,Te⟩),(4,[],aa7 ⟨ZK p,0,Te⟩),(5,[],aa7 ⟨ZK A,0,Te⟩),(8,[],aa6 C),(9,[],o)] (Td 10) [] x) (Td 11) [] u) B->YX Tp (ZK c+1) #[x,u] B y)->jp Tp r (#[.func (.yield (ZK c+1)) #[] #[]]++m) (zbq (zbq c (.deferred (Td []))) (.loop (k .ready Te))) λ_ F=>nF k (ZK c+1) (λe=>∃b:Sl,zd e ⟨ZK A,0,Te⟩=Td (.slice b.a b.len b.cap)/\wf Tp (YI 227 (aa7 ⟨ZK h,0,Te⟩) (.slice b.a b.len b.cap)) e (λD=>wf Tp (YI 3 (aa7 ⟨ZK q,0,Te⟩) (ab0 ((C).size:Int))) D (λE=>wf Tp (YI 32 (aa7 ⟨ZK p,0,Te⟩) (ab0 0)) E (λl=>(l)[ZK c]?=Td (.deferred (Td []))/\∃i:Sl,zd (o0 l (ZK c) (.deferred Te)) ⟨ZK h,0,Te⟩=Td (.slice i.a i.len i.cap)/\∃z:Int,zd (o0 l (ZK c) (.deferred Te)) ⟨ZK q,0,Te⟩=Td (ab0 z)/\∃s:Int,zd (o0 l (ZK c) (.deferred Te)) ⟨ZK p,0,Te⟩=Td (ab0 s)/\R (.tuple #[.slice i.a i.len i.cap,ab0 z,ab0 s]) (o0 l (ZK c) (.deferred Te)))))) (λe=>(e)[ZK c]?=Td (.deferred (Td []))/\∃f:Sl,zd (o0 e (ZK c) (.deferred Te)) ⟨ZK h,0,Te⟩=Td (.slice f.a f.len f.cap)/\∃w:Int,zd (o0 e (ZK c) (.deferred Te)) ⟨ZK q,0,Te⟩=Td (ab0 w)/\∃t:Int,zd (o0 e (ZK c) (.deferred Te)) ⟨ZK p,0,Te⟩=Td (ab0 t)/\R (.tuple #[.slice f.a f.len f.cap,ab0 w,ab0 t]) (o0 e (ZK c) (.deferred Te))) F)):aa4 280 #[aa6 C] h R:=
 FH Tryz.mixed [aa6 C] (rs:=[.cell 2 227,.cell 3 3,.cell 4 32]) (n:=25) func280 κ κ κ κ H (pl:=[]) κ
def CQ(x0:Value)(E:Addr)(D:Addr)(C:Addr)(B:Addr)(x8:Value)(x9:Value)(n:Int)(o:Int)(p:Int)(q:Int)(rec:fR)(l:Nat)(K:vvv)(h:zb) (H:let w:zb:=zbq h (.cells #[ab0 0,ab0 0,ab0 0] 236);wf Tp (YI 236 (aa7 ⟨ZK h,0,Te⟩) (.agg #[ab0 n,ab0 o,ab0 p])) w (λr=>(r)[l]?=Td (.loop (rec .ready Te))/\let e:zb:=o0 r l (.loop (rec .busy Te));(((q:Int) != 0)=Ta->∃f:Int,zd e (YH (YH ⟨ZK h,0,Te⟩ 1) 0)=Td (ab0 f)/\wf Tp (YI 227 (aa7 E) (.slice Te 0 0)) e (λt=>g6 t e ((YH (YH ⟨ZK h,0,Te⟩ 1) 0))/\wf Tp (YI 3 (aa7 D) (ab0 f)) t (λA=>wf Tp (YI 32 (aa7 C) (ab0 q)) A (λu=>(u)[l]?=Td (.loop (rec .busy Te))/\K (aa9 Tc) (o0 u l (.loop (rec .done (Td .ret))))))))/\(((q:Int) != 0)=Tc->∃c:Sl,zd e B=Td (.slice c.a c.len c.cap)/\∃m:Int,∃k:Int,∃i:Int,zc e ⟨ZK h,0,Te⟩ 0 [ab0 m,ab0 k,ab0 i]/\let y:zb:=zbq e (.cells #[ab0 m,ab0 k,ab0 i] 236);CA Tp (YN #[227,227] 227 #[.slice c.a c.len c.cap,.slice (Td ⟨ZK e,0,Te⟩) 1 1]) y (λx z=>∃b:Sl,x=.slice b.a b.len b.cap/\wf Tp (YI 227 (aa7 B) (.slice b.a b.len b.cap)) z (λs=>(s)[l]?=Td (.loop (rec .busy Te))/\K (aa9 Ta) (o0 s l (.loop (rec .ready Te)))))))):ir Tp 25 (iM (codeOf Tryz.f280)) (iu (codeOf Tryz.f280)) rec l K [(11,[],ab0 q),(10,[],.agg #[ab0 n,ab0 o,ab0 p]),(0,[],x0),(2,[],aa7 E),(3,[],aa7 D),(4,[],aa7 C),(5,[],aa7 B),(8,[],x8),(9,[],x9)] h:=
 Eq.mp κ H
end
end
section
open Go.RowKit
section
variable {g:zb} {i:Nat} {k f t:Int} {x9 x8 x0:Value} {K:Value -> zb -> Prop}
abbrev hH:Ty:=.pair q0 (.pair q0 (.int .i64))
def wY:GS Tp 227 236 (.agg #[ab0 0,ab0 0,ab0 0]) (sz hH) 24:=⟨κ,⟨Tryz.t236,κ,κ,κ,κ⟩,rfl,ζ⟩
def vq:qq Tp 227=Ta:=κ
def xU:jk Tp 227=1:=κ
def EH:qq Tp 3=Ta:=κ
def Ej:jk Tp 3=1:=κ
def AR:qq Tp 32=Ta:=κ
def Dr:jk Tp 32=1:=κ
def x5{M:Fr}(k f t:Int):Rd M hH (k,(f,t)) (i0 k f t):=⟨[ab0 k],[ab0 f,ab0 t],rfl,rfl,[ab0 f],[ab0 t],rfl,rfl,rfl⟩
structure TkS (h:zb) (M:Fr) (b2 b3 b4 b5 bc D l:Nat) (rec:fR) (s:Bs) (out:List Tk) (sl:Sl) (bs:List Nat) (g:zb):Prop where
 aa1:Bk h.size h g
 c:Blk g bc #[.string (bl s)]
 d:g[D]?=Td (.deferred (Td []))
 rc:g[l]?=Td (.loop (rec .ready Te))
 r2:Blk g b2 #[.slice Te 0 0]
 r3:Blk g b3 #[.int .i64 0]
 r4:Blk g b4 #[.int .i64 0]
 r5:Blk g b5 #[aK sl]
 o:Fd (l+1) g M hH out sl bs
structure Apart (h:zb) (b2 b3 b4 b5 bc D l:Nat):Prop where
 lo:h.size<=b2
 a3:b2<b3
 a4:b3<b4
 a5:b4<b5
 ac:b5<bc
 aD:bc<D
 al:l=D+1
theorem q9{i j:Nat}{o:Obj}(h:j≠i):(g.setIfInBounds i o)[j]?=g[j]?:=Array.getElem?_setIfInBounds_ne (Ne.symm h)
def Ok{o:Obj}(h:i<g.size):(g.setIfInBounds i o)[i]?=Td o:=Array.getElem?_setIfInBounds_self_of_lt h
def IO{o:Obj}(h:g[i]?=Td o):i<g.size:=(YZ.1 h).1
section
variable {h : zb} {M : Fr} {b2 b3 b4 b5 bc D l : Nat} {rec : fR} {s : Bs} {out : List Tk} {sl : Sl} {bs : List Nat} {g : zb}
theorem TkS.round(A:Apart h b2 b3 b4 b5 bc D l)(ag:AgM M h)(S:TkS h M b2 b3 b4 b5 bc D l rec s out sl bs g)(hn:out.length<=100000) (hK:∀g' af bs',TkS h M b2 b3 b4 b5 bc D l rec s (out++[(k,(f,t))]) af bs' g'->g.size<=g'.size->(∀j,j<g.size->j≠b5->j≠l->j∉bs->g'[j]?=g[j]?)->K (aa9 Ta) g'):ir Tp 25 (iM (codeOf Tryz.f280)) (iu (codeOf Tryz.f280)) rec l K [(11,[],ab0 0),(10,[],.agg #[ab0 k,ab0 f,ab0 t]),(0,[],x0),(2,[],aa7 ⟨b2,0,Te⟩),(3,[],aa7 ⟨b3,0,Te⟩),(4,[],aa7 ⟨b4,0,Te⟩),(5,[],aa7 ⟨b5,0,Te⟩),(8,[],x8),(9,[],x9)] g:=by
 apply CQ;intro L;have⟨ab,ai,Y⟩:=yp (g:=L) rfl;clear_value L;have ll:=IO S.rc;have:=A.lo;have:=A.a3;have:=A.a4;have:=A.a5;have:=A.ac;have:=A.aD;have:=A.al;refine jZ Y λx q1 q2 q3=>?_;have C:∀j,j<g.size->x[j]?=g[j]?:=λj n=>by rw[q1 j ω];exact ab.get j n
 refine⟨by rw[C l ll];exact S.rc,?_⟩;intro i;have z:∀j,j≠l->i[j]?=x[j]?:=λj n=>q9 n;have Z:i[l]?=Td (.loop (rec .busy Te)):=Ok ω;have aj:i.size=x.size:=zat;clear_value i;refine⟨λhx=>by simp at hx,λ_=>?_⟩;have B5:Blk i b5 #[aK sl]:=S.r5.aa1 (by rw[z b5 ω,C b5 ω]);have Bt:Blk i g.size (i0 k f t).toArray:=q3.aa1 (z g.size ω);refine⟨sl,B5.cell rfl,k,f,t,Bt.ld,?_⟩;intro p;have⟨y,ak,aa⟩:=yp (g:=p) rfl;clear_value p;have F:∀j,j<g.size->j≠l->p[j]?=g[j]?:=λj n H=>by rw[y.get j ω,z j H,C j n]
 have J:AgM M p:=λb c e=>by have⟨T,m,e'⟩:=(ag.aa1 S.aa1) b c e;have hb:=ag.lt e;exact⟨T,m,by rw[F b (χ S.aa1.size) ω];exact e'⟩
 have ae:Fd (l+1) p M hH out sl bs:=S.o.frame (λc r=>by have:=S.o.own c r;exact F c this.2.1 ω) (Fr.le.refl _) (λc r=>(S.o.own c r).2.2);refine Fd.app wY ω J ae ω aa (x5 k f t) ω λs' Q bs' w am ah u=>⟨s',rfl,?_⟩;have E:∀c∈bs,l+1<=c:=λc r=>(S.o.own c r).1;have V:Blk Q b5 #[aK sl]:=B5.aa1 (by rw[u b5 ω (λq=>χ (E _ q))];exact y.get b5 ω);refine qj vq xU V (by show 0<1;omega) rfl λB u1 u3 U=>?_;have I:∀j,j<g.size->j≠l->j≠b5->j∉bs->B[j]?=g[j]?:=λj n H O q=>by rw[U j O,u j ω q,F j n H]
 have P:B[l]?=Td (.loop (rec .busy Te)):=by rw[U l ω,u l ω (λq=>χ (E _ q)),y.get l ω];exact Z
 refine⟨P,hK _ s' bs' ?_ ?_ ?_⟩;have N:=IO P;have G:∀j,j<l->j≠b5->(B.setIfInBounds l (.loop (rec .ready Te)))[j]?=g[j]?:=λj n O=>by rw[q9 ω];exact I j ω ω O (λq=>χ (E _ q))
 refine⟨S.aa1.trans ⟨?_,λj n=>G j ω ω⟩ (YJ _),S.c.aa1 (G bc ω ω),(G D ω ω).trans S.d,Ok N,S.r2.aa1 (G b2 ω ω),S.r3.aa1 (G b3 ω ω),S.r4.aa1 (G b4 ω ω),?_,?_⟩;rw[zat];have:=S.aa1.size;omega;exact Blk.aa1 u1 (q9 ω);refine w.frame (λc r=>?_) (Fr.le.refl _) (λc r=>(w.own c r).2.2);have:=(w.own c r).1;rw[q9 ω,U c ω];rw[zat];omega;intro j n O H q;rw[q9 H];exact I j n H O q
theorem TkS.err(A:Apart h b2 b3 b4 b5 bc D l)(S:TkS h M b2 b3 b4 b5 bc D l rec s out sl bs g){k f t e:Int}(Q:¬e=0) (H:∀g',Bk h.size h g'->g'[D]?=Td (.deferred (Td []))->g'[l]?=Td (.loop (rec .done (Td .ret)))->Blk g' b2 #[.slice Te 0 0]->Blk g' b3 #[ab0 f]->Blk g' b4 #[ab0 e]->K (aa9 Tc) g'):ir Tp 25 (iM (codeOf Tryz.f280)) (iu (codeOf Tryz.f280)) rec l K [(11,[],ab0 e),(10,[],.agg #[ab0 k,ab0 f,ab0 t]),(0,[],x0),(2,[],aa7 ⟨b2,0,Te⟩),(3,[],aa7 ⟨b3,0,Te⟩),(4,[],aa7 ⟨b4,0,Te⟩),(5,[],aa7 ⟨b5,0,Te⟩),(8,[],x8),(9,[],x9)] g:=by
 apply CQ;intro o;have⟨B,C,x⟩:=yp (g:=o) rfl;clear_value o;have U:=IO S.rc;have:=A.lo;have:=A.a3;have:=A.a4;have:=A.a5;have:=A.ac;have:=A.aD;have:=A.al;refine jZ x λi F q2 J=>?_;have u:∀j,j<g.size->i[j]?=g[j]?:=λj n=>by rw[F j ω];exact B.get j n
 refine⟨by rw[u l U];exact S.rc,?_⟩;intro c;have q:∀j,j≠l->c[j]?=i[j]?:=λj n=>q9 n;have z:c[l]?=Td (.loop (rec .busy Te)):=Ok ω;have E:c.size=i.size:=zat;clear_value c;refine⟨λ_=>?_,λO=>by simp[Q]at O⟩;have Bt:Blk c g.size (i0 k f t).toArray:=J.aa1 (q g.size ω);have b:∀j,j<g.size->j≠l->c[j]?=g[j]?:=λj n N=>(q j N).trans (u j n);refine⟨f,?_,?_⟩;rw[zm,zm];exact Bt.cell rfl;refine qj vq xU (S.r2.aa1 (b b2 ω ω)) (by show 0<1;omega) rfl λP L Z m=>⟨?_,?_⟩;rw[zm,zm];exact m g.size ω;refine qj EH Ej (S.r3.aa1 ((m b3 ω).trans (b b3 ω ω))) (by show 0<1;omega) rfl λI G V r=>?_;refine qj AR Dr (S.r4.aa1 ((r b4 ω).trans ((m b4 ω).trans (b b4 ω ω)))) (by show 0<1;omega) rfl λy w1 Y w=>?_;have p:y[l]?=Td (.loop (rec .busy Te)):=by rw[w l ω,r l ω,m l ω];exact z
 refine⟨p,H _ ?_ ?_ (Ok (IO p)) ?_ ?_ ?_⟩;refine S.aa1.trans ⟨by rw[zat];have:=S.aa1.size;omega,λj n=>?_⟩ (YJ _);rw[q9 ω,w j ω,r j ω,m j ω];exact b j (χ S.aa1.size) ω;rw[q9 ω,w D ω,r D ω,m D ω,b D ω ω];exact S.d;exact Blk.aa1 L (by rw[q9 ω,w b2 ω,r b2 ω]);exact Blk.aa1 G (by rw[q9 ω,w b3 ω]);exact Blk.aa1 w1 (q9 ω)
end
end
section
variable {M:Fr} {s:Bs} {g g':zb} {k a e lf:Int} {O:Nat -> Prop} {lo bp b c:Nat} {rs:Sl} {cs:Array Value}
def MJ{t:Ty}{x:El t}{xs:List (El t)}{s:Sl}(h:Rd M (.row t) (x::xs) [aK s]):Rd M (.row t) xs [aK ⟨eL s.a (sz t) 1 s.cap,s.len-1,s.cap-1⟩]:=by
 have⟨h1,h2,k⟩:=Bx h;rw[YU]at h1 h2 k;refine⟨_,rfl,eL s.a (sz t) 1 s.cap,s.cap-1,?_,⟨ω,ω⟩,?_⟩;show aK _=_;unfold aK;rw[h1];rfl;by_cases n:xs=[];grind;have p:=zaj.2 n;obtain⟨b,o,cs,l,f,m⟩:∃b o cs,s.a=Td ⟨b,o,Te⟩/\M b=Td cs/\∀i (hi:i<(x::xs).length),Rd M t (x::xs)[i] (cut cs (o+i*sz t) (sz t)):=by have⟨w,e,a,c,q,u,r⟩:=h;simp only[za7,and_true]at e;subst e;simp only[aK,zai]at q;simp_all
 refine .inr ⟨b,o+sz t,cs,?_,f,λi hi=>?_⟩;unfold eL;rw[za ω,l,Option.map_some,zm,Nat.one_mul];have:=m (i+1) φ;grind
def gH(ag:AgM M g){xs:List Tk}{s:Sl}(H:Rd M (.row hH) xs [aK s]){k:Nat}(h:k<DB xs):∃b o,s.a=Td ⟨b,o,Te⟩/\zd g ⟨b,o+k*3,Te⟩=Td (ab0 xs[k].1)/\zd g ⟨b,o+k*3+1,Te⟩=Td (ab0 xs[k].2.1)/\zd g ⟨b,o+k*3+2,Te⟩=Td (ab0 xs[k].2.2):=by have⟨b,o,cs,l,p,m⟩:=Go.X.SM H h;refine⟨b,o,l,?_⟩;have⟨c1,c2,e,h1,c3,n,h2,c,f⟩:=m;have h1:c1=[ab0 xs[k].1]:=h1;have c:c3=[ab0 xs[k].2.1]:=c;have f:n=[ab0 xs[k].2.2]:=f;subst h1 c f h2;have e:cut cs (o+k*3) 3=i0 xs[k].1 xs[k].2.1 xs[k].2.2:=e;have L:=pf (vs:=i0 xs[k].1 xs[k].2.1 xs[k].2.2) (o:=o+k*3) (i:=0) ag p ω;have⟨q,r,t,_⟩:=L;simp_all[zm]
def rn(s:Bs)(rs:Sl)(lf last:Int)(sl:Sl)(a e:Int):List Value:=[.string (bl s),aK rs,.int .i64 lf,.int .i64 last,aK sl,.int .i64 a,.int .i64 e]
def ft(bp:Nat)(na:NA)(sl:Sl)(b c:Nat):Prop:=c=bp\/fN na sl b c
structure PW (lo:Nat) (g:zb) (M:Fr) (bp:Nat) (s:Bs) (rest:List Tk) (last a e:Int) (rs:Sl) (lf:Int) (na:NA) (sl:Sl) (b:Nat) (cs:Array Value):Prop where
 blk:Blk g bp (rn s rs lf last sl a e).toArray
 rd:Rd M (.row hH) rest [aK rs]
 ns:NS lo g M na sl b cs
 ag:AgM M g
 bl:lo<=bp/\M bp=Te
 nb:¬fN na sl b bp
def PaS(lo:Nat)(g:zb)(M:Fr)(bp:Nat)(s:Bs)(st:PSt)(a e:Int)(O:Nat->Prop):Prop:=
 ∃(rs:Sl) (lf:Int) (na:NA) (sl:Sl) (b:Nat) (cs:Array Value),PW lo g M bp s st.rest st.last a e rs lf na sl b cs/\na.map (·.1)=st.nodes/\O=ft bp na sl b
structure Stp (g:zb) (O:Nat->Prop) (g':zb) (O':Nat->Prop):Prop where
 le:g.size<=g'.size
 sub:∀c,O' c->O c\/g.size<=c
 fr:∀j,j<g.size->¬O j->g'[j]?=g[j]?
theorem Stp.refl(g:zb)(O:ac5):Stp g O g O:=⟨YJ _,λc h=>.inl h,λj _ _=>rfl⟩
theorem Stp.trans{g g' f:zb}{O O' e:ac5}(a:Stp g O g' O')(b:Stp g' O' f e):Stp g O f e:=by have:=a.le;have:=b.le;refine⟨ω,λc h=>?_,λj k i=>?_⟩;obtain h|h:=b.sub c h;exact a.sub c h;omega;rw[b.fr j ω (λh=>?_)];exact a.fr j k i;obtain h|h:=a.sub j h;exact i h;omega
theorem Stp.aa1(k:Bk g.size g g'):Stp g O g' O:=⟨k.size,λc h=>.inl h,λj b _=>k.get j b⟩
theorem PW.own{rest:List Tk}{last a e:Int}{na:NA}{sl:Sl}(H:PW lo g M bp s rest last a e rs lf na sl b cs)(h:ft bp na sl b c):lo<=c/\c<g.size/\M c=Te:=by obtain rfl|h:=h;exact⟨H.bl.1,H.blk.lt,H.bl.2⟩;exact H.ns.own h
theorem PaS.own{st:PSt}(H:PaS lo g M bp s st a e O)(h:O c):lo<=c/\c<g.size/\M c=Te:=by obtain⟨rs,lf,na,sl,b,cs,W,_,rfl⟩:=H;exact W.own h
def i6(ag:AgM M g)(f:∀j,j<g.size->M j≠Te->g'[j]?=g[j]?):AgM M g':=λb c e=>by have⟨T,m,e'⟩:=ag b c e;grind
theorem PaS.frame{st:PSt}(H:PaS lo g M bp s st a e O)(l:g.size<=g'.size)(f:∀c,c<g.size->(O c\/M c≠Te)->g'[c]?=g[c]?):PaS lo g' M bp s st a e O:=by obtain⟨rs,lf,na,sl,b,cs,W,h1,rfl⟩:=H;refine⟨rs,lf,na,sl,b,cs,⟨W.blk.aa1 (f bp W.blk.lt (.inl (.inl rfl))),W.rd,W.ns.frame l λc h=>f c (W.ns.own h).2.1 (.inl (.inr h)),i6 W.ag λj k i=>f j k (.inr i),W.bl,W.nb⟩,h1,rfl⟩
theorem PaS.aa1{st:PSt}(H:PaS lo g M bp s st a e O)(k:Bk g.size g g'):PaS lo g' M bp s st a e O:=H.frame k.size λc b _=>k.get c b
theorem PaS.ag{st:PSt}(H:PaS lo g M bp s st a e O):AgM M g:=by have⟨rs,lf,na,sl,b,cs,W,_,_⟩:=H;exact W.ag
theorem PW.put{rest rest':List Tk}{last last' a a' e e':Int}{rs rs':Sl}{lf lf':Int}{na:NA}{sl:Sl}(H:PW lo g M bp s rest last a e rs lf na sl b cs)(B:Blk g' bp (rn s rs' lf' last' sl a' e').toArray)(r:Rd M (.row hH) rest' [aK rs'])(l:g'.size=g.size)(f:∀j,j≠bp->g'[j]?=g[j]?):PW lo g' M bp s rest' last' a' e' rs' lf' na sl b cs:= ⟨B,r,H.ns.frame ω λc k=>f c λh=>H.nb (h ▸ k),i6 H.ag λj _ i=>f j λh=>i (h ▸ H.bl.2),H.bl,H.nb⟩
section
variable {lo : Nat} {g : zb} {M : Fr} {bp : Nat} {s : Bs} {st : PSt} {a e : Int} {O : Nat -> Prop} {K : Value -> zb -> Prop}
def s4(H:PaS lo g M bp s st a e O)(f:K (ab0 st.Wf) g):aa4 336 #[aa7 ⟨bp,0,Te⟩] g K:=by
 obtain⟨rs,lf,na,sl,b,cs,W,h1,rfl⟩:=H;apply SU;have l:=(Bx W.rd).1;refine⟨_,rfl,rs,by rw[zm];exact W.blk.cell rfl,λc=>?_,λc=>⟨_,rfl,rs,by rw[zm];exact W.blk.cell rfl,?_⟩⟩;have c:rs.len=0:=ψ c
 have:st.rest=[]:=za2.1 ω;unfold PSt.Wf at f;simp_all;have c:rs.len≠0:=ψ c
 cases hr:st.rest with
 |nil=>simp_all
 |cons t r=>have rd:=W.rd;rw[hr]at rd;have⟨i,o,h,p,m,n⟩:=gH W.ag rd (k:=0) ξ;refine⟨_,⟨h,ω,ω⟩,t.1,?_,?_⟩;grind [zm];unfold PSt.Wf at f;simp_all
def D5(H:PaS lo g M bp s st a e O)(f:K (ab0 (st.here (DB s))) g):aa4 342 #[aa7 ⟨bp,0,Te⟩] g K:=by
 obtain⟨rs,lf,na,sl,b,cs,W,h1,rfl⟩:=H;apply U6;have l:=(Bx W.rd).1;refine⟨_,rfl,rs,by rw[zm];exact W.blk.cell rfl,λc=>?_,λc=>⟨_,rfl,rs,by rw[zm];exact W.blk.cell rfl,?_⟩⟩;have c:rs.len=0:=ψ c
 have:st.rest=[]:=za2.1 ω;unfold PSt.here at f;rw[this]at f;refine⟨_,rfl,bl s,by rw[zm];exact W.blk.cell rfl,?_⟩;rw[zf];exact f;have c:rs.len≠0:=ψ c
 cases hr:st.rest with
 |nil=>simp_all
 |cons t r=>have rd:=W.rd;rw[hr]at rd;have⟨i,o,h,p,m,n⟩:=gH W.ag rd (k:=0) ξ;refine⟨_,⟨h,ω,ω⟩,t.2.1,?_,?_⟩;simp_all[zm];unfold PSt.here at f;simp_all
def iS:qq Tp 3=Ta:=κ
def nc:jk Tp 3=1:=κ
def Ee:qq Tp 32=Ta:=κ
def CB:jk Tp 32=1:=κ
def tG:qq Tp 234=Ta:=κ
def t8:jk Tp 234=2:=κ
def yF:qq Tp 227=Ta:=κ
def uo:jk Tp 227=1:=κ
theorem Stp.same(l:g'.size=g.size)(b:O bp)(f:∀j,j≠bp->g'[j]?=g[j]?):Stp g O g' O:=⟨ω,λc h=>.inl h,λj k i=>f j λe=>i (e ▸ b)⟩
def X1(H:PaS lo g M bp s st a e O){x:Int}(l:∀g',PaS lo g' M bp s st (st.here (DB s)) x O->Stp g O g' O->K (aa9 Tc) g'):aa4 282 #[aa7 ⟨bp,0,Te⟩,ab0 x] g K:=by apply NU;refine D5 H ⟨_,rfl,_,rfl,?_⟩;obtain⟨rs,lf,na,sl,b,cs,W,h1,rfl⟩:=H;rw[zm];refine qj iS nc W.blk (by show 5<7;omega) rfl λo n q k=>⟨_,rfl,?_⟩;rw[zm];refine qj Ee CB n (by show 6<7;omega) rfl λc m p i=>?_;have f:∀j,j≠bp->c[j]?=g[j]?:=λj h=>(i j h).trans (k j h);exact l c ⟨rs,lf,na,sl,b,cs,W.put (rest':=st.rest) (last':=st.last) (a':=st.here (DB s)) (e':=x) (rs':=rs) (lf':=lf) m W.rd ω f,h1,rfl⟩ (Stp.same ω (.inl rfl) f)
def vQ(H:PaS lo g M bp s st a e O)(C:st.rest≠[])(w:∀g',PaS lo g' M bp s st.skip a e O->Stp g O g' O->K (.tuple #[]) g'):aa4 337 #[aa7 ⟨bp,0,Te⟩] g K:=by
 apply R8;obtain⟨rs,lf,na,sl,b,cs,W,h1,rfl⟩:=H;have⟨m,_,q⟩:=Bx W.rd;have⟨t,r,l⟩:=zag C;have rd:=W.rd;rw[l]at rd m q;rw[YU]at m q;have⟨J,o,z,F,E,A⟩:=gH W.ag rd (k:=0) ξ;refine⟨_,rfl,rs,by rw[zm];exact W.blk.cell rfl,_,⟨z,ω,ω⟩,t.2.1,t.2.2,?_,_,rfl,rs,by rw[zm];exact W.blk.cell rfl,.inl rfl,⟨ω,ω,ω,ω⟩,_,rfl,?_⟩;rw[zm,zm];exact⟨by rw[zm];exact E,by rw[zm];exact A,trivial⟩;rw[zm];refine Jn (vs:=[ab0 t.2.1,ab0 t.2.2]) tG W.blk rfl t8 (by show 2+2<=7;omega) (λu n=>?_) λL x I y=>⟨_,rfl,?_⟩;simp at n;obtain rfl|rfl:=n <;> rfl;rw[zm];refine qj yF uo x (by rw[Ci (by show 2+2<=7;omega)];show 1<7;omega) rfl λi c G B=>?_
 have f:∀j,j≠bp->i[j]?=g[j]?:=λj p=>(B j p).trans (y j p);have h:=MJ rd;rw[YL,YL]at c;have c:Blk i bp (rn s ⟨eL rs.a (sz hH) 1 rs.cap,rs.len-1,rs.cap-1⟩ t.2.1 t.2.2 sl a e).toArray:=c;have D:st.skip=⟨r,t.2.2,st.nodes⟩:=by unfold PSt.skip;rw[l]
 rw[D]at w;exact w i ⟨_,t.2.1,na,sl,b,cs,W.put c h ω f,h1,rfl⟩ (Stp.same ω (.inl rfl) f)
theorem PSt.ne_of_kind{st:PSt}(h:st.Wf=k)(b:k≠0):st.rest≠[]:=λe=>by unfold PSt.Wf at h;simp_all
def qZ(H:PaS lo g M bp s st a e O)(f:k≠0)(h:st.Wf=k->∀g',PaS lo g' M bp s st.skip a e O->Stp g O g' O->K (aa9 Ta) g')(c:st.Wf≠k->K (aa9 Tc) g):aa4 376 #[aa7 ⟨bp,0,Te⟩,ab0 k] g K:=by
 apply MZ;refine s4 H ⟨_,rfl,λb=>c (ψ b),λb=>?_⟩;have b:st.Wf=k:=ψ b
 exact vQ H (PSt.ne_of_kind b f) λg' p q=>⟨rfl,h b g' p q⟩
end
end
section
variable {n bv cv:Nat} {t el ty:TypeId} {zv:Value} {ks:Sl} {K:Value -> zb -> Prop}
theorem NS.cell{lo:Nat}{g:zb}{M:Fr}{na:NA}{sl:Sl}{b:Nat}{cs:ab3}(H:NS lo g M na sl b cs)(e:n<DB na):sl.a=Td ⟨b,0,Te⟩/\Blk g b cs/\sl.cap≠0/\n*7+7<=cs.size/\∀(q:Nat) (v:Value),q<7->(gy na[n])[q]?=Td v->zd g ⟨b,n*7+q,Te⟩=Td v:=by
 have c:na.map gy≠[]:=λh=>by rw[List.map_eq_nil_iff]at h;rw[h]at e;simp at e
 have⟨h1,h2⟩:=H.cr.blk c;have⟨l,k⟩:=H.cr.el n (gy na[n]) (by rw[zav,YS e];rfl);refine⟨h1,h2,by have:=H.len;have:=H.cr.ro.le;omega,ω,λq v f i=>h2.cell ?_⟩;have:=oS k f;rw[i]at this;rw[<-this,zb4]
def gw(k:Int)(c:Sl)(b:List Nat)(p:Nd×Ax):Nd×Ax:=((p.1.1,p.1.2.1,p.1.2.2.1,p.1.2.2.2.1++[k],p.1.2.2.2.2),⟨c,b,p.2.ps,p.2.pb⟩)
def mw(k:Sp)(c:Sl)(b:List Nat)(p:Nd×Ax):Nd×Ax:=((p.1.1,p.1.2.1,p.1.2.2.1,p.1.2.2.2.1,p.1.2.2.2.2++[k]),⟨p.2.ks,p.2.kb,c,b⟩)
def wT(t:Int)(p:Nd×Ax):Nd×Ax:=(jT t p.1,p.2)
theorem Qe{f:Nd×Ax->Nd×Ax}{f':Nd->Nd}(h:∀p,(f p).1=f' p.1)(na:NA)(n:Nat):(na.modify n f).map (·.1)=(na.map (·.1)).modify n f':=by
 apply zar;intro i;rw[zav,zax,zax,zav];cases na[i]? with
 |none=>rfl
 |some p=>by_cases e:n=i <;> simp[e,h]
structure NSt (lo:Nat) (g:zb) (M:Fr) (na:NA) (sl:Sl) (b:Nat) (g':zb) (na':NA) (cs':Array Value):Prop where
 ns:NS lo g' M na' sl b cs'
 le:g.size<=g'.size
 sub:∀c,fN na' sl b c->fN na sl b c\/g.size<=c
 fr:∀j,j<g.size->¬fN na sl b j->g'[j]?=g[j]?
section
variable {lo : Nat} {g : zb} {M : Fr} {na : NA} {sl : Sl} {b : Nat} {cs : Array Value}
theorem NS.addK{bytes:Nat}(E:GS Tp t el zv (sz (.int .i64)) bytes)(C:bytes<=1000)(ag:AgM M g)(G:lo<=g.size)(H:NS lo g M na sl b cs)(D:n<DB na){k:Int}(Y:Blk g bv #[ab0 k])(P:na[n].1.2.2.2.1.length<=1000000)(B:na[n].2.ks=ks) (U:∀(m:Sl) (p:zb) (l:ab1),Blk p b cs->g.size<=p.size->(∀j,j<g.size->¬fN na sl b j->p[j]?=g[j]?)->(∀r:zb,Blk r b (cs.setIfInBounds (n*7+5) (aK m))->r.size=p.size->(∀j,j≠b->r[j]?=p[j]?)->NSt lo g M na sl b r (na.modify n (gw k m l)) (cs.setIfInBounds (n*7+5) (aK m)))->K (.slice m.a m.len m.cap) p):CA Tp (YN #[t,t] ty #[.slice ks.a ks.len ks.cap,.slice (Td ⟨bv,0,Te⟩) 1 cv]) g K:=by
 subst B;have⟨h1,h2,O,h4,h5⟩:=H.cell D;have x:=YY D;have I:=H.nd _ x;have A:=(H.lb O).2.1;refine Fd.app E C ag I.kk G Y rfl P λm p l J Q c1 z=>?_;have w:b∉na[n].2.kb:=λh=>H.nb _ x (.inl h);have u:b∉l:=λh=>by obtain h|h:=c1 b h;exact w h;omega
 refine U m p l (h2.aa1 (z b A w)) Q (λj y o=>z j y λh=>o (.inr ⟨_,x,.inl h⟩)) λr Z z2 F=>?_;have s:∀j,j<g.size->j≠b->¬fH na[n] j->r[j]?=g[j]?:=λj y h1 h2=>by rw[F j h1,z j y λh=>h2 (.inl h)]
 have S:NdI lo r M (gw k m l na[n]):=by refine⟨?_,?_,?_⟩;exact J.frame (λc i=>F c λe=>u (e ▸ i)) (Fr.le.refl _) λc i=>(J.own c i).2.2;exact I.pp.frame (λc i=>by have:=(I.pp.own c i).2.1;rw[F c λe=>H.nb _ x (.inr (e ▸ i))];exact z c this λh=>I.dd c h i) (Fr.le.refl _) λc i=>(I.pp.own c i).2.2;intro c i L;obtain h|h:=c1 c i;exact I.dd c h L;have:=(I.pp.own c L).2.1;omega
 have q2:∀c,fH (gw k m l na[n]) c->fH na[n] c\/g.size<=c:=by intro c i;obtain i|i:=i;obtain h|h:=c1 c i;exact .inl (.inl h);exact .inr h;exact .inl (.inr i)
 have⟨N,V⟩:=H.upd D (f:=gw k m l) (q:=5) (v:=aK m) ω Z ω rfl S q2 s;exact⟨N,ω,V,λj y o=>s j y (λe=>o (.inl ⟨O,e⟩)) λh=>o (.inr ⟨_,x,h⟩)⟩
theorem NS.addP{bytes:Nat}(E:GS Tp t el zv (sz gY) bytes)(C:bytes<=1000)(ag:AgM M g)(G:lo<=g.size)(H:NS lo g M na sl b cs)(D:n<DB na){k:Sp}(Y:Blk g bv #[ab0 k.1,ab0 k.2])(P:na[n].1.2.2.2.2.length<=1000000)(B:na[n].2.ps=ks) (U:∀(m:Sl) (p:zb) (l:ab1),Blk p b cs->g.size<=p.size->(∀j,j<g.size->¬fN na sl b j->p[j]?=g[j]?)->(∀r:zb,Blk r b (cs.setIfInBounds (n*7+6) (aK m))->r.size=p.size->(∀j,j≠b->r[j]?=p[j]?)->NSt lo g M na sl b r (na.modify n (mw k m l)) (cs.setIfInBounds (n*7+6) (aK m)))->K (.slice m.a m.len m.cap) p):CA Tp (YN #[t,t] ty #[.slice ks.a ks.len ks.cap,.slice (Td ⟨bv,0,Te⟩) 1 cv]) g K:=by
 subst B;have⟨h1,h2,O,h4,h5⟩:=H.cell D;have x:=YY D;have I:=H.nd _ x;have A:=(H.lb O).2.1;refine Fd.app E C ag I.pp G Y ⟨_,_,rfl,rfl,rfl⟩ P λm p l J Q c1 z=>?_;have w:b∉na[n].2.pb:=λh=>H.nb _ x (.inr h);have u:b∉l:=λh=>by obtain h|h:=c1 b h;exact w h;omega
 refine U m p l (h2.aa1 (z b A w)) Q (λj y o=>z j y λh=>o (.inr ⟨_,x,.inr h⟩)) λr Z z2 F=>?_;have s:∀j,j<g.size->j≠b->¬fH na[n] j->r[j]?=g[j]?:=λj y h1 h2=>by rw[F j h1,z j y λh=>h2 (.inr h)]
 have S:NdI lo r M (mw k m l na[n]):=by refine⟨?_,?_,?_⟩;exact I.kk.frame (λc i=>by have:=(I.kk.own c i).2.1;rw[F c λe=>H.nb _ x (.inl (e ▸ i))];exact z c this λh=>I.dd c i h) (Fr.le.refl _) λc i=>(I.kk.own c i).2.2;exact J.frame (λc i=>F c λe=>u (e ▸ i)) (Fr.le.refl _) λc i=>(J.own c i).2.2;intro c L i;obtain h|h:=c1 c i;exact I.dd c L h;have:=(I.kk.own c L).2.1;omega
 have q2:∀c,fH (mw k m l na[n]) c->fH na[n] c\/g.size<=c:=by intro c i;obtain i|i:=i;exact .inl (.inl i);obtain h|h:=c1 c i;exact .inl (.inr h);exact .inr h
 have⟨N,V⟩:=H.upd D (f:=mw k m l) (q:=6) (v:=aK m) ω Z ω rfl S q2 s;exact⟨N,ω,V,λj y o=>s j y (λe=>o (.inl ⟨O,e⟩)) λh=>o (.inr ⟨_,x,h⟩)⟩
theorem NS.toB(H:NS lo g M na sl b cs)(l:n<DB na){x:Int}{i:zb}(u:Blk i b (cs.setIfInBounds (n*7+2) (ab0 x)))(z2:i.size=g.size)(k:∀j,j≠b->i[j]?=g[j]?):NSt lo g M na sl b i (na.modify n (wT x)) (cs.setIfInBounds (n*7+2) (ab0 x)):=by
 have⟨h1,h2,p,w,y⟩:=H.cell l;have m:=YY l;have I:=H.nd _ m;have t:NdI lo i M (wT x na[n]):=by refine⟨?_,?_,I.dd⟩;exact I.kk.frame (λc h=>k c λe=>H.nb _ m (.inl (e ▸ h))) (Fr.le.refl _) λc h=>(I.kk.own c h).2.2;exact I.pp.frame (λc h=>k c λe=>H.nb _ m (.inr (e ▸ h))) (Fr.le.refl _) λc h=>(I.pp.own c h).2.2
 have⟨N,r⟩:=H.upd l (f:=wT x) (q:=2) (v:=.int .i64 x) ω u ω rfl t (λc h=>.inl h) λj s h1 h2=>k j h1;exact⟨N,ω,r,λj s o=>k j λe=>o (.inl ⟨p,e⟩)⟩
end
end
section
variable {J O O':Nat -> Prop} {g g':zb} {lo bp:Nat} {M:Fr} {s:Bs} {a e:Int}
structure StJ (J:Nat->Prop) (g:zb) (O:Nat->Prop) (g':zb) (O':Nat->Prop):Prop where
 le:g.size<=g'.size
 sub:∀c,O' c->O c\/g.size<=c
 fr:∀j,j<g.size->¬O j->¬J j->g'[j]?=g[j]?
theorem Stp.j{J:ac5}{g g':zb}{O O':ac5}(S:Stp g O g' O'):StJ J g O g' O':=⟨S.le,S.sub,λj h1 h2 _=>S.fr j h1 h2⟩
theorem StJ.trans{g g' f:zb}{O O' e:ac5}(a:StJ J g O g' O')(b:StJ J g' O' f e):StJ J g O f e:=by have:=a.le;have:=b.le;refine⟨ω,λc h=>?_,λj l k i=>?_⟩;obtain h|h:=b.sub c h;exact a.sub c h;omega;rw[b.fr j ω (λh=>?_) i];grind [fr];obtain h|h:=a.sub j h;exact k h;omega
def Apt(J:Nat->Prop)(g:zb)(O:Nat->Prop):Prop:=∀j,J j->j<g.size/\¬O j
theorem Apt.step{J D:ac5}(h:Apt D g O)(S:StJ J g O g' O'):Apt D g' O':=λj c=>by have⟨h1,h2⟩:=h j c;have:=S.le;refine⟨ω,λb=>?_⟩;obtain h|h:=S.sub j b;exact h2 h;omega
def mL(r:PR PSt)(b:Bool)(st':PSt)(a e:Int):Prop:=match r with
 |.inl t=>b=Ta/\st'=t
 |.inr x=>b=Tc/\x=(a,e)
def DG(r:PR (List Bs×PSt))(b:Bool)(σ:List Bs)(st':PSt)(a e:Int):Prop:=match r with
 |.inl t=>b=Ta/\t=(σ,st')
 |.inr x=>b=Tc/\x=(a,e)
def vS(g:zb)(bp:Nat):Nat:=match zd g ⟨bp,1,Te⟩with
 |some (.slice _ n _)=>n
 |_=>0
theorem PaS.restLen{st:PSt}(H:PaS lo g M bp s st a e O):vS g bp=DB st.rest:=by obtain⟨rs,lf,na,sl,b,cs,W,h1,rfl⟩:=H;unfold vS;rw[W.blk.cell (o:=1) (v:=aK rs) rfl];exact(Bx W.rd).1
theorem PW.nst{rest:List Tk}{last a e:Int}{rs:Sl}{lf:Int}{na na':NA}{sl:Sl}{b:Nat}{cs cs':ab3}(W:PW lo g M bp s rest last a e rs lf na sl b cs)(N:NSt lo g M na sl b g' na' cs'):PW lo g' M bp s rest last a e rs lf na' sl b cs'/\Stp g (ft bp na sl b) g' (ft bp na' sl b):=by refine⟨⟨W.blk.aa1 (N.fr bp W.blk.lt W.nb),W.rd,N.ns,i6 W.ag λj f k=>N.fr j f λh=>k (W.ns.own h).2.2,W.bl,λh=>?_⟩,N.le,λc h=>?_,λj f i=>N.fr j f λh=>i (.inr h)⟩;obtain h|h:=N.sub bp h;exact W.nb h;have:=W.blk.lt;omega;obtain h|h:=h;exact .inl (.inl h);obtain h|h:=N.sub c h;exact .inl (.inr h);exact .inr h
def lc:GS Tp 29 3 (ab0 0) (sz (.int .i64)) 8:=⟨κ,⟨Tryz.t3,κ,κ,κ,κ⟩,rfl,ζ⟩
def DZ:GS Tp 239 234 (.agg #[ab0 0,ab0 0]) (sz gY) 16:=⟨κ,⟨Tryz.t234,κ,κ,κ,κ⟩,rfl,ζ⟩
def Ei:qq Tp 29=Ta:=κ
def ER:jk Tp 29=1:=κ
def AT:qq Tp 239=Ta:=κ
def F4:jk Tp 239=1:=κ
def G6(lo:Nat)(M:Fr)(bp:Nat)(s:Bs)(F:n5)(A C:Array Value)(lv:Int)(kid:fB)(HI:List Bs->zb->Prop)(J D:Nat->Prop):Prop:=
 ∀(σ:List Bs) (g:zb) (st:PSt) (a e:Int) (O:Nat->Prop),PaS lo g M bp s st a e O->HI σ g->Apt D g O->st.nodes.length<=4096->st.T<=200000->(∀t∈st.rest,gW s t) ->
  ∀K:Value->zb->Prop,(∀b g' st' a' e' O' c,PaS lo g' M bp s st' a' e' O'->StJ J g O g' O'->st.nodes.length<=st'.nodes.length->(b=Ta->HI c g')->DG (kid σ st) b c st' a' e'->K (.bool b) g')->XC Tp F (A++#[.int .i64 lv]++C) g K
section
variable {lo : Nat} {g : zb} {M : Fr} {bp : Nat} {s : Bs} {st : PSt} {a e : Int} {O J D : Nat -> Prop} {K : Value -> zb -> Prop} {HI : List Bs -> zb -> Prop} {kid : fB} {F : n5} {A C : Array Value}
def Ea(ar:∀σ g g',HI σ g->(∀j,D j->g'[j]?=g[j]?)->HI σ g'){B lv:Int}(be:p3 (B+1)=lv)(hk:G6 lo M bp s F A C lv kid HI J D)(az:lG kid)(hF:zr Tp F=Ta) {closing:Int} (hc:closing≠0) (H:PaS lo g M bp s st a e O) (h0:HI [] g) (hJ:Apt D g O) (h4:st.nodes.length<=4096) (hT:st.T<=200000) (hw:∀t∈st.rest,gW s t) {n:Nat} (hn:n<DB st.nodes) (hK:∀b g' st' a' e' O',PaS lo g' M bp s st' a' e' O'->StJ J g O g' O'->DB st.nodes<=DB st'.nodes->mL (Je s n closing kid st) b st' a' e'->K (aa9 b) g'):aa4 338 #[aa7 ⟨bp,0,Te⟩,ab0 (n:Int),ab0 B,ab0 closing,.func (.func F) A C] g K:=by
 apply RZ;refine qZ H hc (λhy g1 P1 S1=>⟨Ta,rfl,λ_=>?_,λh=>(ε h)⟩) (λaG=>⟨Tc,rfl,λh=>(ε h),λ_=>?_⟩);refine hK Ta g1 st.skip a e O P1 S1.j (by rw[qw];omega) ?_;unfold Je;rw[zi hy];exact⟨rfl,rfl⟩;refine⟨λg'=>∃(f:Nat) (σ:List Bs) (st':PSt) (a' e':Int) (O':ac5),PaS lo g' M bp s st' a' e' O'/\HI σ g'/\Apt D g' O'/\StJ J g O g' O'/\Okk st st' 0/\DB st'.rest<f/\Je s n closing kid st=Yb s n closing kid f σ st',λg'=>vS g' bp,⟨DB st.rest+1,[],st,a,e,O,H,h0,hJ,(Stp.refl g O).j,Okk.refl st,ω,by unfold Je;rw[za aG]⟩,?_⟩;rintro h6 ⟨f,σ,st1,a1,e1,O1,P1,I1,J1,S1,l,hf,N⟩;obtain⟨f,rfl⟩:∃f',f=f'+1:=⟨f-1,ω⟩;have bj:n<DB st1.nodes:=χ l.n
 have ba:st1.nodes.length<=4096:=l.m h4;have aZ:st1.T<=200000:=χ l.t
 have bn:=P1.restLen;have aB:=P1;have⟨bA,bB,bz,ap,b1,bu,W1,a6,_⟩:=aB;have l1:ap.len=DB st1.nodes:=by rw[W1.ns.len,<-a6,YO]
 refine⟨_,rfl,st1.last,by rw[zm,zm];exact W1.blk.cell rfl,_,rfl,ap,by rw[zm];exact W1.blk.cell rfl,hF,?_⟩;rw[be,l1];refine hk σ h6 st1 a1 e1 O1 P1 I1 J1 ba aZ (λt ht=>hw t (l.w t ht)) _ λb g2 st2 a2 e2 O2 σ2 P2 S2 n2 I2 A2=>⟨b,rfl,λhb=>?_,λhb=>?_⟩;have hb:b=Tc:=ψ hb
 subst hb;refine hK Tc g2 st2 a2 e2 O2 P2 (S1.trans S2) (χ l.n) ?_;rw[N,Yb];cases Y:kid σ st1 with
 |inl t=>rw[Y]at A2;exact absurd A2.1 ξ
 |inr x=>rw[Y]at A2;exact⟨rfl,A2.2⟩
 have hb:b=Ta:=ψ hb
 subst hb;have Y:kid σ st1=.inl (σ2,st2):=by
  cases Y:kid σ st1 with
  |inl t=>rw[Y]at A2;rw[A2.2]
  |inr x=>rw[Y]at A2;exact absurd A2.1 ξ
 have ax:=az _ _ _ _ Y;have I2:=I2 rfl;have J2:=J1.step S2;rw[Yb,Y]at N;dsimp only at N;have aS:=P2;obtain⟨rs,lf,na,sl,b,cs,W,h1,rfl⟩:=aS;have bq:na.length=DB st2.nodes:=by rw[<-h1,YO]
 have Z:n<DB na:=ω
 have⟨q1,q2,q3,q4,q5⟩:=W.ns.cell Z;have aY:fF na[n].1<=200000:=by
  have h:na[n].1∈st2.nodes:=by rw[<-h1];exact List.mem_map_of_mem (YY Z)
  have:=nP h;have:=ax.t;omega
 unfold fF at aY;refine⟨_,rfl,sl,by rw[zm];exact W.blk.cell rfl,⟨b,0,Te⟩,⟨q1,ω,χ W.ns.len⟩,⟨b,n*7,Te⟩,by rw[zm,YL,ZO],na[n].2.ks,?_,?_⟩;rw[zm];exact q5 5 _ ω rfl;intro I;have⟨V,bm,aV⟩:=yp (g:=I) rfl;clear_value I;have aP:NSt lo g2 M na sl b I na cs:=⟨W.ns.frame V.size λc hc=>V.get c (W.ns.own hc).2.1,V.size,λc h=>.inl h,λj G _=>V.get j G⟩;have⟨S,aU⟩:=W.nst aP;have au:lo<=I.size:=χ ((S.own (.inl rfl)))
 refine NS.addK lc ω S.ag au S.ns Z aV ω rfl λs' bE q aM br bg aI=>⟨s',rfl,⟨b,n*7,Te⟩,by rw[zm,YL,ZO],?_⟩;rw[zm];refine qj Ei ER aM ω rfl λaj u1 u2 u3=>?_;have⟨o,aO⟩:=S.nst (aI aj u1 u2 u3);have aa:n<(na.modify n (gw (DB st1.nodes:Int) s' q)).length:=by rw[List.length_modify];exact Z
 have am:(na.modify n (gw (DB st1.nodes:Int) s' q))[n]=gw (DB st1.nodes:Int) s' q na[n]:=by rw[List.getElem_modify,zi rfl]
 have⟨r1,r2,r3,r4,r5⟩:=o.ns.cell aa;rw[am]at r5;refine⟨⟨b,n*7,Te⟩,by rw[zm,YL,ZO],na[n].2.ps,?_,?_⟩;rw[zm];exact r5 6 _ ω rfl;have a7:PaS lo aj M bp s ⟨st2.rest,st2.last,(na.modify n (gw (DB st1.nodes:Int) s' q)).map (·.1)⟩ a2 e2 _:=⟨_,_,_,_,_,_,o,rfl,rfl⟩;refine D5 a7 ⟨_,rfl,rfl,rfl,?_⟩;intro U;have⟨z,bC,aC⟩:=yp (g:=U) rfl;clear_value U;have aH:=(o.ns.own (.inl ⟨r3,rfl⟩)).2.1;refine⟨by rw[zm];exact z.get b aH,?_⟩;have aL:NSt lo aj M _ sl b U _ _:=⟨o.ns.frame z.size λc hc=>z.get c (o.ns.own hc).2.1,z.size,λc h=>.inl h,λj G _=>z.get j G⟩;have⟨Q,aF⟩:=o.nst aL;have an:lo<=U.size:=χ ((Q.own (.inl rfl)))
 refine NS.addP DZ ω Q.ag an Q.ns aa (k:=(st1.last,st2.here (DB s))) aC (by rw[am];show na[n].1.2.2.2.2.length<=_;omega) (π am) λs2 bD aJ aT bF bG ay=>⟨s2,rfl,⟨b,n*7,Te⟩,by rw[zm,YL,ZO],?_⟩;rw[zm];refine qj AT F4 aT ω rfl λy v1 v2 v3=>?_;have⟨aE,aN⟩:=Q.nst (ay y v1 v2 v3);have P:((na.modify n (gw (DB st1.nodes:Int) s' q)).modify n (mw (st1.last,st2.here (DB s)) s2 aJ)).map (·.1)=(st2.addKid n (DB st1.nodes:Int) (st1.last,st2.here (DB s))).nodes:=by
  rw[Qe (f':=λx=>(x.1,x.2.1,x.2.2.1,x.2.2.2.1,x.2.2.2.2++[(st1.last,st2.here (DB s))])) (λp=>rfl),Qe (f':=λx=>(x.1,x.2.1,x.2.2.1,x.2.2.2.1++[(DB st1.nodes:Int)],x.2.2.2.2)) (λp=>rfl),h1];unfold PSt.addKid;apply zar;intro i;rw[zax,zax,zax];cases st2.nodes[i]? with
  |none=>rfl
  |some x=>by_cases e:n=i <;> simp[e,me]
 have ai:PaS lo y M bp s (st2.addKid n (DB st1.nodes:Int) (st1.last,st2.here (DB s))) a2 e2 _:=⟨_,_,_,_,_,_,aE,P,rfl⟩;have E:=((aU.trans aO).trans aF).trans aN;have aQ:HI σ2 y:=ar σ2 g2 y I2 λj G=>E.fr j (J2 j G).1 (J2 j G).2;have ah:=J2.step (E.j (J:=J));have aA:=Yl st2 n (DB st1.nodes:Int) (st1.last,st2.here (DB s));have L:(st2.addKid n (DB st1.nodes:Int) (st1.last,st2.here (DB s))).Wf=st2.Wf:=rfl;have a8:(st2.addKid n (DB st1.nodes:Int) (st1.last,st2.here (DB s))).here (DB s)=st2.here (DB s):=rfl;have u:=(S1.trans S2).trans E.j;have ae:st.nodes.length<=(st2.addKid n (DB st1.nodes:Int) (st1.last,st2.here (DB s))).nodes.length:=by have:=l.n;have:=ax.n;omega
 refine qZ ai hc (λhy g' P' S'=>⟨Ta,rfl,λ_=>?_,λh=>(ε h)⟩) (λab=>⟨Tc,rfl,λh=>(ε h),λ_=>?_⟩);refine hK Ta g' _ _ _ _ P' (u.trans S'.j) (by rw[qw];exact ae) ?_;rw[L]at hy;rw[N,zi hy];exact⟨rfl,rfl⟩;rw[L]at ab;rw[za ab]at N;refine qZ ai ω (λhy g' P' S'=>⟨Ta,rfl,λh=>(ι h),λ_=>?_⟩) (λaf=>⟨Tc,rfl,λ_=>?_,λh=>(ι h)⟩);rw[L]at hy;rw[zi hy]at N;have ak:=sN az Y (n:=n) (k:=(DB st1.nodes:Int)) (p:=(st1.last,st2.here (DB s))) (PSt.ne_kind hy ω);refine⟨⟨f,σ2,_,_,_,_,P',ar σ2 y g' aQ (λj G=>S'.fr j (ah j G).1 (ah j G).2),ah.step (S'.j (J:=J)),u.trans S'.j,(l.trans ak).le ω,?_,N⟩,?_⟩;have:=ak.r;omega;have e1:=P'.restLen;have:=ak.r;grind;rw[L]at af;rw[za af]at N;refine X1 ai λg' P' S'=>⟨Tc,rfl,hK Tc g' _ _ _ _ P' (u.trans S'.j) ae ?_⟩;rw[N];exact⟨rfl,ϕ a8⟩
end
end
section
variable {gl:Fr}
def Ii{k:Int}{R:ac6}(h:R (zu k)):aa5 gl 335 [qr q0 k] [.int .i64] R:=by
 apply N3;unfold zu at h;refine⟨λe=>?_,λe K m=>?_⟩;rw[zi (ψ e)]at h;exact h;have e:¬k=12:=ψ e
 rw[za e]at h;have key:∀b:Bool,b=hV (k=10\/k=11)->K b:=λb i=>m b ⟨λh1=>by
  rw[h1]at i;rw[zi (zB i.symm)]at h;exact h,λh1=>by
  rw[h1]at i;rw[za (zC i.symm)]at h;refine⟨λh2=>?_,λh2=>⟨λc=>?_,λc=>⟨λf=>?_,λf=>⟨λl=>?_,λl=>?_⟩⟩⟩⟩;rw[zi (ψ h2)]at h;exact h;rw[za (ψ h2),zi (ψ c)]at h;exact h;rw[za (ψ h2),za (ψ c),zi (ψ f)]at h;exact h;rw[za (ψ h2),za (ψ c),za (ψ f),zi (ψ l)]at h;exact h;rw[za (ψ h2),za (ψ c),za (ψ f),za (ψ l)]at h;exact h⟩
 refine⟨λh1=>key _ ?_,λh1=>key _ ?_⟩;have:k=10:=ψ h1
 rw[h1,this];rfl;have:¬k=10:=ψ h1
 rw[ZI,beq_iff_eq,zA];omega
def u6(lo:Nat)(M:Fr)(bp:Nat)(s:Bs)(lv:Int)(val:fV):Prop:=
 ∀(key:Sp) (g:zb) (st:PSt) (a e:Int) (O:Nat->Prop),PaS lo g M bp s st a e O->st.nodes.length<=4096->st.T<=200000->(∀t∈st.rest,gW s t) ->
  ∀K:Value->zb->Prop,(∀b g' st' a' e' O',PaS lo g' M bp s st' a' e' O'->Stp g O g' O'->st.nodes.length<=st'.nodes.length->mL (val key st) b st' a' e'->K (.bool b) g')->XC Tp 281 #[.pointer (Td ⟨bp,0,Te⟩),.int .i64 lv,.agg #[.int .i64 key.1,.int .i64 key.2]] g K
section
variable {lo : Nat} {g : zb} {M : Fr} {bp : Nat} {s : Bs} {lv : Int} {val : fV}
def QT(k:u6 lo M bp s lv val):G6 lo M bp s 339 #[aa7 ⟨bp,0,Te⟩] #[] lv (fT val) (λ_ _=>True) (λ_=>False) (λ_=>False):=by
 intro σ g st a e O P I J l m f K n;show aa4 _ #[aa7 ⟨bp,0,Te⟩,ab0 lv] g K;apply PG;refine k (0,0) g st a e O P l m f _ λb g' d a' e' O' o i h c=>⟨b,rfl,n b g' d a' e' O' σ o i.j h (λ_=>trivial) ?_⟩;unfold fT;cases hr:val (0,0) st with
 |inl t=>rw[hr]at c;exact⟨c.1,by rw[c.2]⟩
 |inr x=>rw[hr]at c;exact c
def Eb:MapT Tp 213 9 4 (aa9 Tc):=⟨κ,κ,⟨Tryz.t4,κ,κ⟩⟩
def sn(m:Nat)(σ:List Bs)(g:zb):Prop:=∃l,LE g m l/\∀k:Bs,fb l (bl k)=if k∈σ then Td (.bool Ta)else Te
theorem zS{M:Fr}{r:Bt×Int×Int}{v:Value}(h:x7 M [.str,.int .i64,.int .i64] r v):v=.tuple #[aa6 r.1,ab0 r.2.1,ab0 r.2.2]:=by obtain⟨vs,⟨l,rest,rfl,f,k,b,rfl,c,i,rfl,e⟩,rfl⟩:=h;rw[y0 f,qn c,qn e];rfl
def On(hg:GL gl)(hM:Fr.le gl M)(hs:s.length<=65536)(hv:u6 lo M bp s lv val){m:Nat}{J:ac5}(hm:J m){σ:List Bs}{st:PSt}{a e:Int}{O:ac5}(P:PaS lo g M bp s st a e O)(I:sn m σ g)(hJ:Apt J g O)(h4:st.nodes.length<=4096)(hT:st.T<=200000)(hw:∀t∈st.rest,gW s t)(ai:∀j,J j->M j=Te){K:vvv} (hK:∀b g' d a' e' O' σ',PaS lo g' M bp s d a' e' O'->StJ (λj=>j=m) g O g' O'->DB st.nodes<=DB d.nodes->(b=Ta->sn m σ' g')->DG (fG s val σ st) b σ' d a' e'->K (aa9 b) g'):aa4 341 #[aa7 ⟨bp,0,Te⟩,ab0 lv,.map (Td m)] g K:=by
 have A:=hJ m hm;apply Tu;refine s4 P ⟨_,rfl,λq=>?_,λq=>?_⟩;have q:¬st.Wf=8:=ψ q
 refine X1 P λg' Q G=>⟨Tc,rfl,hK Tc g' st _ _ O σ Q G.j (YJ _) (λh=>(ε h)) ?_⟩;unfold fG;cases U:st.rest with
 |nil=>exact⟨rfl,rfl⟩
 |cons t r=>
  have:¬t.1=8:=by unfold PSt.Wf at q;rw[U]at q;exact q
  dsimp only;rw[za this];exact⟨rfl,rfl⟩
 have q:st.Wf=8:=ψ q
 have E:=PSt.ne_kind q ω;have⟨t,r,er⟩:=zag E;have am:t.1=8:=by unfold PSt.Wf at q;rw[er]at q;exact q
 have⟨w1,w2,w3,_⟩:=hw t (υ er);have an:=kz E;have P0:=P;have⟨rs,lf,na,sl,b,cs,W,h1,eO⟩:=P0;have rd:=W.rd;have hl:=(Bx W.rd).1;rw[er]at rd hl;rw[YU]at hl;have⟨tb,o,e1,e2,e3,e4⟩:=gH W.ag rd (k:=0) ξ;refine⟨_,rfl,rs,by rw[zm];exact W.blk.cell rfl,_,⟨e1,ω,ω⟩,t.2.1,t.2.2,?_,?_⟩;rw[zm,zm];exact⟨by rw[zm];exact e3,by rw[zm];exact e4,trivial⟩;intro aa;have⟨aB,aH,aC⟩:=yp (g:=aa) rfl;clear_value aa;refine Jn (vs:=[ab0 t.2.1,ab0 t.2.2]) tG aC rfl t8 (YJ _) (λu hu=>?_) λV y aF aE=>⟨_,rfl,?_⟩;simp at hu;obtain rfl|rfl:=hu <;> rfl;have y:Blk V g.size #[ab0 t.2.1,ab0 t.2.2]:=y;have z:Bk g.size g V:=⟨ω,λj hj=>(aE j ω).trans (aB.get j hj)⟩;have ax:=P.aa1 z;have ay:=W.blk.aa1 (z.get bp W.blk.lt);refine⟨bl s,by rw[zm];exact ay.cell rfl,t.2.1,by rw[zm];exact y.cell rfl,t.2.2,by rw[zm];exact y.cell rfl,⟨w1,ω,by rw[zf];exact w3⟩,?_⟩;have ex:(bl s).extract t.2.1.toNat t.2.2.toNat=bl (Yc s t.2):=by rw[qa];rfl
 rw[ex];have aJ:(Yc s t.2).length<=65536:=by unfold Yc;rw[ZV,ZE];omega
 refine(uE hg (t:=Yc s t.2) ω (R:=λr=>r=(bl (Qr (Yc s t.2)).1,((Qr (Yc s t.2)).2.1:Int),(Qr (Yc s t.2)).2.2)) rfl).go hM ax.ag (zn (a:=qr .str _) (DH _) zw) λv Y M' rr L au U=>?_;subst U;rw[zS au];refine⟨_,_,_,rfl,?_⟩;have f:Bk g.size g Y:=z.trans L.aa1 z.size;have af:=P.aa1 f;have⟨l,ml,mk⟩:=I;have D:LE Y m l:=ml.aa1 (f.get m A.1);have i:=Xg Eb D (bl (Qr (Yc s t.2)).1) Tc;rw[za ξ]at i;have az:gF l (bl (Qr (Yc s t.2)).1) (aa9 Tc)=.bool (hV ((Qr (Yc s t.2)).1∈σ)):=by unfold gF;rw[mk];by_cases C:(Qr (Yc s t.2)).1∈σ;rw[zi C];simp[C];rw[za C];simp[C]
 rw[az]at i;have S:fG s val σ st=if(Qr (Yc s t.2)).1∈σ then st.err s 7
  else if st.skip.Wf=7 then match val t.2 st.skip.skip with
   |.inl d=>.inl (σ++[(Qr (Yc s t.2)).1],d)
   |.inr e=>.inr e
  else st.skip.err s 2:=by
  unfold fG;rw[er];dsimp only;exact(zi am).trans rfl
 refine⟨_,i,λN=>?_,λN=>?_⟩;have N:=zB N;refine X1 af λg' Q G=>⟨Tc,rfl,hK Tc g' st _ _ O σ Q ((Stp.aa1 (O:=O) f).trans G).j (YJ _) (λh=>(ε h)) ?_⟩;rw[S,zi N];exact⟨rfl,rfl⟩;have N:=zC N;rw[za N]at S;refine Gn Eb D (bl (Qr (Yc s t.2)).1) (aa9 Ta) λB aA aG F=>?_;have aj:PaS lo B M bp s st a e O:=af.frame ω λc hc ho=>F c λh=>by subst h;obtain ho|ho:=ho;exact A.2 ho;exact ho (ai _ hm)
 have Z:StJ (λj=>j=m) g O B O:=⟨χ f.size,λc h=>.inl h,λj hj hn hJ=>(F j hJ).trans (f.get j hj)⟩;have H:∀g',g'[m]?=B[m]?->sn m (σ++[(Qr (Yc s t.2)).1]) g':=λg' ap=>by
  refine⟨_,aA.aa1 ap,λk=>?_⟩;rw[GN,mk];by_cases hk:(Qr (Yc s t.2)).1=k;subst hk;simp;have ak:¬bl (Qr (Yc s t.2)).1=bl k:=λh=>hk (yU.1 h);rw[za ak];have:(k∈σ++[(Qr (Yc s t.2)).1])↔k∈σ:=by simp;intro h;exact absurd h.symm hk
  simp only[this]
 have ae:m<B.size:=by have:=A.1;have:=f.size;omega
 refine vQ aj E λg3 P3 S3=>⟨rfl,?_⟩;refine qZ P3 ω (λh7 g4 P4 S4=>⟨Ta,rfl,λh=>(ι h),λ_=>?_⟩) (λh7=>⟨Tc,rfl,λ_=>?_,λh=>(ι h)⟩);rw[zi h7]at S;have ar:=kz (PSt.ne_kind h7 ω);have p:=an.trans ar;have ah:¬O g.size:=λh=>χ ((P.own h).2.1)
 have B4:Blk g4 g.size #[ab0 t.2.1,ab0 t.2.2]:=by refine y.aa1 ?_;have aI:=z.size;rw[S4.fr _ (by have:=S3.le;have:=f.size;have:=L.aa1.size;omega) ah,S3.fr _ (by have:=f.size;have:=L.aa1.size;omega) ah,F _ (χ A.1)];exact L.aa1.get _ ω
 refine⟨t.2.1,t.2.2,B4.ld (cs:=[ab0 t.2.1,ab0 t.2.2]),?_⟩;refine hv t.2 g4 st.skip.skip a e O P4 (by have:=p.m h4;exact this) (χ p.t) (λx q=>hw x (p.w x q)) _ λb g' d a' e' O' Q G n' A'=>⟨b,rfl,?_⟩;have ab:=(S3.trans S4).trans G;refine hK b g' d a' e' O' _ Q (Z.trans ab.j) (χ p.n) (λ_=>H g' (ab.fr m ae λh=>A.2 h)) ?_;rw[S];cases U:val t.2 st.skip.skip with
 |inl x=>rw[U]at A';exact⟨A'.1,by rw[A'.2]⟩
 |inr x=>rw[U]at A';exact A'
 rw[za h7]at S;refine X1 P3 λg' Q G=>⟨Tc,rfl,hK Tc g' _ _ _ O σ Q (Z.trans (S3.trans G).j) (by rw[qw];exact YJ _) (λh=>(ε h)) ?_⟩;rw[S];exact⟨rfl,rfl⟩
end
end
end
section
section
variable {h:zb} {sk si:Sl} {bk bb:List Nat} {b bv cv:Nat} {cs:Array Value} {K:Value -> zb -> Prop}
theorem OTp.row{v:Tr}{bf:ab6}(H:OTp h v sk si bk bb b cs bf){h':zb}(k:∀c∈bb,h'[c]?=h[c]?):RowO h' si b cs 4:=by refine⟨χ H.hn,?_⟩;obtain⟨h0,_,h2⟩|⟨e,f,i,l⟩:=H.hz;exact .inl ⟨by rw[H.hn.1,h0];rfl,h2⟩;exact .inr ⟨f,i.aa1 (k b (υ e)),l⟩
def Pk(x:Tr)(sk si:Sl):∀u∈Z4 x sk si,u.oneCell'=Ta:=by intro u b;simp[Z4]at b;obtain rfl|rfl|rfl|rfl:=b <;> simp[Value.oneCell',aK]
def Pd{ks:List Bt}(H:Th h ks bk sk){s:Bt}(B:Blk h bv #[aa6 s])(x:ks.length<=1048576) (D:∀(f:Sl) (h':zb) (kb:Nat),Th h' (ks++[s]) [kb] f->(kb∈bk\/h.size<=kb)->h.size<=h'.size->(∀c,c<h.size->c∉bk->h'[c]?=h[c]?)->K (.slice f.a f.len f.cap) h'):CA Tp (YN #[22,22] 22 #[.slice sk.a sk.len sk.cap,.slice (Td ⟨bv,0,Te⟩) 1 cv]) h K:=by
 have⟨n,E,F,q⟩:=H;obtain⟨b,cs,o,w,k⟩:∃b cs,RowO h sk b cs 1/\(b∈bk\/h.size<=b)/\cut cs 0 (sk.len*1)=ks.map ZS:=by obtain⟨rfl,rfl,h0⟩|⟨b,cs,rfl,A,i,p,C⟩:=q;refine⟨h.size,#[],⟨ω,.inl ⟨n,h0⟩⟩,.inr (YJ _),?_⟩;rw[n];rfl;exact⟨b,cs,⟨ω,.inr ⟨A,i,ω⟩⟩,.inl ξ,by rw[n,zbf];exact C⟩
 have z:∀c∈bk,c<h.size:=by intro c l;obtain⟨_,rfl,_⟩|⟨b,cs,rfl,_,i,_⟩:=q;cases l;simp at l;subst l;exact i.lt
 refine q7 (vs:=[aa6 s]) Aq o B rfl (λu r=>by simp at r;subst r;simp[Value.oneCell']) ω ω λy h' t d N=>?_;rw[k]at N;have m:(ks++[s]).length=sk.len+1:=ϑ n
 refine D y h' t ⟨by rw[m];exact N.len,ο m,by rw[m];exact N.cap,.inr ⟨t,d,rfl,N.a,N.blk,χ N.size,?_⟩⟩ ?_ N.grow λc l x=>N.old c l λe=>?_;rw[m];have:=N.cut;rw[zbf]at this;rw[this];simp;obtain e|e:=N.new;rw[e];exact w;exact .inr e;obtain i|i:=N.new;obtain p|p:=w;exact x (by rw[e,i];exact p);omega;omega
def WB{g h:zb}{x:Tr}{bf:ab6}(H:OTp g x sk si bk bb b cs bf)(kb:∀c∈bb,h[c]?=g[c]?){w:Tr}{q p:Sl}(z:Blk h bv (Z4 w q p).toArray)(u:x.WT.length<=1000000000) (A:∀(f:Sl) (h':zb) (i:Nat) (d:ab3),f.a=Td ⟨i,0,Te⟩->f.len=x.WT.length+1->x.WT.length+1<=f.cap->Blk h' i d->f.cap*4<=d.size->cut d 0 ((x.WT.length+1)*4)=cut cs 0 (x.WT.length*4)++Z4 w q p->((i=b/\b∈bb)\/h.size<=i)->h.size<=h'.size->(∀c,c<h.size->c∉bb->h'[c]?=h[c]?)->K (.slice f.a f.len f.cap) h'):CA Tp (YN #[23,23] 23 #[.slice si.a si.len si.cap,.slice (Td ⟨bv,0,Te⟩) 1 cv]) h K:=by
 have k:=H.hn.1;obtain⟨b0,n,r⟩:∃b0,RowO h si b0 cs 4/\((b0=b/\b∈bb)\/b0=h.size):=by have l:=OTp.row H (h':=h) kb;obtain⟨h0,_,h2⟩|⟨s,_⟩:=H.hz;exact⟨h.size,⟨l.le,.inl ⟨by rw[k,h0];rfl,h2⟩⟩,.inr rfl⟩;exact⟨b,l,.inl ⟨rfl,υ s⟩⟩
 refine q7 (vs:=Z4 w q p) xV n z rfl (Pk w q p) ω ω λy h' i d N=>?_;rw[k]at N;have m:(i=b/\b∈bb)\/h.size<=i:=by obtain e|e:=N.new;obtain⟨o,t⟩|o:=r;exact .inl ⟨by rw[e,o],t⟩;exact .inr ω;exact .inr e
 refine A y h' i d N.a N.len N.cap N.blk N.size N.cut m N.grow λc B u=>N.old c B λe=>?_;obtain⟨o,t⟩|o:=m;exact u (by rw[e,o];exact t);omega
end
section
variable {g':zb} {s:Bt} {bv cv:Nat} {K:zb -> Prop}
structure BT (lo hi:Nat) (g:zb) (b0:Nat) (v:Tr) (sk si:Sl) (bk bb:List Nat) (b:Nat) (cs:Array Value) (bf:Nat->List Nat):Prop where
 box:Blk g b0 (Z4 v sk si).toArray
 p:OTp g v sk si bk bb b cs bf
 ok:∀c∈bk,lo<=c/\c<hi/\c≠b0
 ob:∀c∈bb,lo<=c/\c<hi/\c≠b0
 oi:∀i,i<v.WT.length->∀c∈bf i,lo<=c/\c<hi/\c≠b0
 lb:lo<=b0
 hg:hi<=g.size
def Own(lo hi:Nat)(g:zb)(b0:Nat)(v:Tr)(sk si:Sl):Prop:=∃(bk bb:List Nat) (b:Nat) (cs:Array Value) (bf:Nat->List Nat),BT lo hi g b0 v sk si bk bb b cs bf
section
variable {lo hi : Nat} {g : zb} {b0 : Nat} {v : Tr} {sk si : Sl}
theorem Own.box(H:Own lo hi g b0 v sk si):Blk g b0 (Z4 v sk si).toArray:=by have⟨bk,bb,b,cs,bf,B⟩:=H;exact B.box
theorem BT.move{bk bb:ab1}{b:Nat}{cs:ab3}{bf:ab6}(B:BT lo hi g b0 v sk si bk bb b cs bf)(f:∀c,c∈bk\/c∈bb\/(∃i,i<v.WT.length/\c∈bf i)->g'[c]?=g[c]?):OTp g' v sk si bk bb b cs bf:= ⟨B.p.XK.frame λc e=>f c (.inl e),B.p.hn,by obtain h|⟨h1,h2,l,k⟩:=B.p.hz;exact .inl h;exact .inr ⟨h1,h2,l.aa1 (f b (.inr (.inl (υ h1)))),k⟩,λi hi=>(B.p.hi i hi).frame λc e=>f c (.inr (.inr ⟨i,hi,e⟩)),B.p.nk,B.p.d1,B.p.d2,B.p.d3,B.p.d4⟩
theorem Own.aa1(H:Own lo hi g b0 v sk si)(k:Bk g.size g g'):Own lo hi g' b0 v sk si:=by have⟨bk,bb,b,cs,bf,B⟩:=H;have h:=k.size;have f:=B.hg;refine⟨bk,bb,b,cs,bf,B.box.aa3 k,B.move λc e=>k.get c ?_,B.ok,B.ob,B.oi,B.lb,ω⟩;obtain e|e|⟨i,hi,e⟩:=e;have:=(B.ok c e).2.1;omega;have:=(B.ob c e).2.1;omega;have:=(B.oi i hi c e).2.1;omega
theorem Own.ot(H:Own lo hi g b0 v sk si):∃bs:List Nat,OT g v bs (Z4 v sk si)/\∀c∈bs,lo<=c/\c≠b0:=by have⟨bk,bb,b,cs,bf,B⟩:=H;refine⟨_,B.p.ot,λc e=>?_⟩;obtain h|h|⟨i,hi,h⟩:=U7.1 e;exact⟨(B.ok c h).1,(B.ok c h).2.2⟩;exact⟨(B.ob c h).1,(B.ob c h).2.2⟩;exact⟨(B.oi i hi c h).1,(B.oi i hi c h).2.2⟩
theorem Own.new{k:Int}(B:Blk g b0 (Z4 (.mk k s [] []) ⟨Te,0,0⟩ ⟨Te,0,0⟩).toArray)(h:lo<=b0)(e:hi<=g.size):Own lo hi g b0 (.mk k s [] []) ⟨Te,0,0⟩ ⟨Te,0,0⟩:= ⟨[],[],0,#[],λ_=>[],B,⟨⟨rfl,ZQ _,ZQ _,.inl ⟨rfl,rfl,rfl⟩⟩,⟨rfl,ZQ _,ZQ _⟩,.inl ⟨rfl,rfl,rfl⟩,λi hi=>absurd hi (zcd i),List.nodup_nil,λc b=>(ε b),λc b=>(ε b),λc b=>(ε b),λi j hi=>absurd hi (zcd i)⟩,λc b=>(ε b),λc b=>(ε b),λi hi=>absurd hi (zcd i),h,e⟩
def m3:qq Tp 22=Ta:=κ
def pv:jk Tp 22=1:=κ
def xJ:qq Tp 23=Ta:=κ
def tX:jk Tp 23=1:=κ
theorem Own.key(H:Own lo hi g b0 v sk si)(P:lo<=g.size)(u:v.XK.length<=1048576)(Q:Blk g bv #[aa6 s]) (M:∀(g':zb) (y:Sl),Own lo g'.size g' b0 (.mk v.Wf v.aa0 (v.XK++[s]) v.WT) y si->Bk lo g g'->g.size<=g'.size->K g'):CA Tp (YN #[22,22] 22 #[.slice sk.a sk.len sk.cap,.slice (Td ⟨bv,0,Te⟩) 1 cv]) g (λw C=>∃x:Sl,w=.slice x.a x.len x.cap/\wf Tp (YI 22 (aa7 ⟨b0,2,Te⟩) (.slice x.a x.len x.cap)) C K):=by
 have⟨bk,bb,b,cs,bf,B⟩:=H;refine Pd B.p.XK Q u λy C kb G D Y F=>⟨y,rfl,?_⟩;have A:=B.box.lt;have U:=B.hg;have l:∀c∈bk,lo<=c/\c<g.size/\c≠b0:=λc f=>by have:=B.ok c f;exact⟨this.1,ω,this.2.2⟩
 have m:∀c∈bb,lo<=c/\c<g.size/\c≠b0:=λc f=>by have:=B.ob c f;exact⟨this.1,ω,this.2.2⟩
 have n:∀i,i<v.WT.length->∀c∈bf i,lo<=c/\c<g.size/\c≠b0:=λi hi c f=>by have:=B.oi i hi c f;exact⟨this.1,ω,this.2.2⟩
 have r:b0∉bk:=λh=>(l b0 h).2.2 rfl;refine qj m3 pv (B.box.aa1 (F b0 A r)) (by show 2<4;omega) rfl λE N V I=>?_;have J:kb<C.size:=by obtain⟨_,_,_,h|⟨S,d,e,_,h,_⟩⟩:=G;exact absurd h.1 ξ;rw[za7]at e;rw[e.1];exact h.lt
 have q:lo<=kb/\kb≠b0:=by obtain h|h:=D;exact⟨(l kb h).1,(l kb h).2.2⟩;exact⟨ω,ω⟩
 have o:∀c,c<g.size->c∉bk->c≠kb:=λc f u e=>by subst e;obtain h|h:=D;exact u h;omega
 have z:∀c,c<g.size->c∉bk->c≠b0->E[c]?=g[c]?:=λc f u h0=>(I c h0).trans (F c f u);have t:∀i,i<v.WT.length->∀c∈bf i,c∉bk:=λi hi c f h=>B.p.d2 c h i hi f;refine M E y ⟨[kb],bb,b,cs,bf,N,⟨G.frame λc f=>I c ?_,B.p.hn,?_,λi hi=>(B.p.hi i hi).frame λc f=>z c (n i hi c f).2.1 (t i hi c f) (n i hi c f).2.2,ξ,λc f=>?_,λc f i hi k=>?_,B.p.d3,B.p.d4⟩,λc f=>?_,λc f=>?_,λi hi c f=>?_,B.lb,YJ _⟩ ⟨ω,λj Z=>z j ω (λh=>?_) ?_⟩ ω;rw[za8.1 f];exact q.2;obtain h|⟨h1,h2,O,L⟩:=B.p.hz;exact .inl h;have k:b∈bb:=υ h1
 exact .inr ⟨h1,h2,O.aa1 (z b (m b k).2.1 (λh=>B.p.d1 b h k) (m b k).2.2),L⟩;rw[za8.1 f];intro k;exact o kb (m kb k).2.1 (λh=>B.p.d1 kb h k) rfl;rw[za8.1 f]at k;exact o kb (n i hi kb k).2.1 (t i hi kb k) rfl;rw[za8.1 f];exact⟨q.1,ω,q.2⟩;have:=m c f;exact⟨this.1,ω,this.2.2⟩;have:=n i hi c f;exact⟨this.1,ω,this.2.2⟩;have:=(l j h).1;omega;have:=B.lb;omega
theorem Own.item(H:Own lo hi g b0 v sk si)(aa:lo<=g.size)(z:v.WT.length<=1000000){w:Tr}{L I:Sl}(hv:Blk g bv (Z4 w L I).toArray){bw:ab1}(G:OT g w bw (Z4 w L I))(Y:bv∉bw)(F:∀c∈bw,lo<=c/\c≠b0/\hi<=c) (hK:∀(g':zb) (D:Sl),Own lo g'.size g' b0 (.mk v.Wf v.aa0 v.XK (v.WT++[w])) sk D->Bk lo g g'->g.size<=g'.size->K g'):CA Tp (YN #[23,23] 23 #[.slice si.a si.len si.cap,.slice (Td ⟨bv,0,Te⟩) 1 cv]) g (λu Q=>∃x:Sl,u=.slice x.a x.len x.cap/\wf Tp (YI 23 (aa7 ⟨b0,3,Te⟩) (.slice x.a x.len x.cap)) Q K):=by
 have⟨bk,bb,b,cs,bf,B⟩:=H;refine WB B.p (λc f=>rfl) hv ω λD Q l d e1 e2 e3 U V Z C z1 O=>⟨D,rfl,?_⟩;have M:=B.box.lt;have hg:=B.hg;have q:∀c∈bk,lo<=c/\c<g.size/\c≠b0:=λc f=>by have:=B.ok c f;exact⟨this.1,ω,this.2.2⟩
 have s:∀c∈bb,lo<=c/\c<g.size/\c≠b0:=λc f=>by have:=B.ob c f;exact⟨this.1,ω,this.2.2⟩
 have r:∀i,i<v.WT.length->∀c∈bf i,lo<=c/\c<g.size/\c≠b0:=λi hi c f=>by have:=B.oi i hi c f;exact⟨this.1,ω,this.2.2⟩
 have o:∀c∈bw,c∉bk/\c∉bb/\∀i,i<v.WT.length->c∉bf i:=λc f=>by have h1:=(F c f).2.2;exact⟨λh=>χ ((B.ok c h).2.1),λh=>χ ((B.ob c h).2.1),λi hi h=>χ ((B.oi i hi c h).2.1)⟩
 have A:b0∉bb:=λh=>(B.ob b0 h).2.2 rfl;refine qj xJ tX (B.box.aa1 (O b0 M A)) (by show 3<4;omega) rfl λJ u1 u2 P=>?_;have n:lo<=l/\l≠b0:=by obtain⟨h,m⟩|h:=C;rw[h];exact⟨(s b m).1,(s b m).2.2⟩;exact⟨ω,ω⟩
 have t:∀c,c<g.size->c∉bb->c≠l:=λc f z e=>by subst e;obtain⟨h,m⟩|h:=C;rw[h]at z;exact z m;omega
 have E:∀c,c<g.size->c∉bb->c≠b0->J[c]?=g[c]?:=λc f z h0=>(P c h0).trans (O c f z);have y:∀i,i<v.WT.length->∀c∈bf i,c∉bb:=λi hi c f h=>B.p.d3 c h i hi f;have N:=OTp.ins (h':=J) B.p (k:=v.WT.length) (YJ _) (w:=w) (bw:=bw) (cw:=Z4 w L I) (G.frame λc f=>E c (G.lt c f) (o c f).2.1 (F c f).2.1) (λi hi c f=>E c (r i hi c f).2.1 (y i hi c f) (r i hi c f).2.2) e1 (U.aa1 (P l n.2)) e2 e3 V ω
  (by
   have S:(cut cs 0 (v.WT.length*4)).length<=v.WT.length*4:=by unfold cut;rw[ZV];omega
   rw[Z,List.take_of_length_le S,zao S,ZY])
  (λi hi m=>t l (r i hi l m).2.1 (y i hi l m) rfl) (λm=>t l (G.lt l m) (o l m).2.1 rfl) (λc f i hi=>(o c f).2.2 i hi)
  (B.p.XK.frame λc f=>E c (q c f).2.1 (B.p.d1 c f) (q c f).2.2) B.p.nk (λm=>t l (q l m).2.1 (B.p.d1 l m) rfl) (λc f i hi=>B.p.d2 c f i hi) (λc f m=>(o c m).1 f)
 rw[ZX,zdf]at N;refine hK J D ⟨bk,[l],l,d,_,u1,N,λc f=>?_,λc f=>?_,λi hi c f=>?_,B.lb,YJ _⟩ ⟨ω,λj hj=>E j ω (λh=>?_) ?_⟩ ω;have:=q c f;exact⟨this.1,ω,this.2.2⟩;rw[za8.1 f];exact⟨n.1,χ U.lt,n.2⟩;have f:c∈(ite (i<v.WT.length) (bf i) (ite (i=v.WT.length) bw (bf (i-1)))):=f;have hi:i<v.WT.length+1:=by
  have:(v.WT++[w]).length=v.WT.length+1:=ξ
  rw[<-this];exact hi
 split at f;rename_i h;have:=r i h c f;exact⟨this.1,ω,this.2.2⟩;rw[zi ω]at f;have:=G.lt c f;exact⟨(F c f).1,ω,(F c f).2.1⟩;have:=(s j h).1;omega;have:=B.lb;omega
end
end
end
section
open Go.RowKit
section
variable {M:Fr} {g:zb} {s:Sl} {k b f:Nat} {t:Bs} {u:Value}
def hP(ag:AgM M g){xs:ac7}(H:Rd M (.row q0) xs [aK s])(c:k<DB xs):∃b o,s.a=Td ⟨b,o,Te⟩/\zd g ⟨b,o+k*1,Te⟩=Td (ab0 xs[k]):=by have⟨b,o,cs,e,h,f⟩:=Go.X.SM H c;exact⟨b,o,e,lD ag h f⟩
def rP(ag:AgM M g){xs:List Nd}(H:Rd M (.row gN) xs [aK s])(t:k<DB xs):∃(b o:Nat) (ks ps:Sl),s.a=Td ⟨b,o,Te⟩/\zc g ⟨b,o+k*7,Te⟩ 0 [ab0 xs[k].1,ab0 xs[k].2.1.1,ab0 xs[k].2.1.2,ab0 xs[k].2.2.1.1,ab0 xs[k].2.2.1.2,aK ks,aK ps]/\Rd M (.row q0) xs[k].2.2.2.1 [aK ks]:=by
 have⟨b,o,cs,F,A,G⟩:=Go.X.SM H t;have⟨c1,N,x,m,c2,O,J,⟨y,d2,z,a2,f⟩,c3,L,C,⟨p,E,B,l,h⟩,I,D,u,n,r⟩:=G;have m:c1=[ab0 xs[k].1]:=m;have a2:y=[ab0 xs[k].2.1.1]:=a2;have f:d2=[ab0 xs[k].2.1.2]:=f;have l:p=[ab0 xs[k].2.2.1.1]:=l;have h:E=[ab0 xs[k].2.2.1.2]:=h;obtain⟨ks,rfl⟩:∃ks:Sl,I=[aK ks]:=by have⟨w,e,a,c,q,_⟩:=n;exact⟨⟨a,_,c⟩,by rw[e,q];rfl⟩
 obtain⟨ps,rfl⟩:∃ps:Sl,D=[aK ps]:=by have⟨w,e,a,c,q,_⟩:=r;exact⟨⟨a,_,c⟩,by rw[e,q];rfl⟩
 subst m a2 f l h z B u C J;refine⟨b,o,ks,ps,F,?_,n⟩;exact pf (o:=o+k*7) (i:=0) ag A (by rw[Nat.add_zero];exact x)
def XS{nodes:List Nd}(h:RdV M kK (bl t,nodes) u):∃sl:Sl,u=.agg #[aa6 (bl t),aK sl]/\Rd M (.row gN) nodes [aK sl]:=by
 obtain⟨cs,rfl,c1,c2,rfl,b,f⟩:=h;have b:c1=[aa6 (bl t)]:=b;subst b;obtain⟨sl,rfl⟩:∃sl:Sl,c2=[aK sl]:=by have⟨w,e,a,c,q,_⟩:=f;exact⟨⟨a,_,c⟩,by rw[e,q];rfl⟩
 exact⟨sl,rfl,f⟩
def UU{nodes:List Nd}{sl:Sl}(h:Rd M (.row gN) nodes [aK sl]):RdV M kK (bl t,nodes) (.agg #[aa6 (bl t),aK sl]):=⟨[aa6 (bl t),aK sl],rfl,[_],[_],rfl,rfl,h⟩
def XY{gl:Fr}(q:GL gl)(C:t.length<=65536){nodes:List Nd}{x:Nd}(z:nodes[k]?=Td x){R:Bt->Prop}(h:R (bl (iP t x))):aa5 gl 285 [qr kK (bl t,nodes),qr q0 (k:Int)] [.str] R:=by
 intro h0 M vs m ag A
 match vs,A with
 |[u1,u2],⟨a1,a2,_⟩=>obtain⟨sl,rfl,rd⟩:=XS a1;obtain rfl:=qn (i:=(k:Int)) a2;obtain⟨u,rfl⟩:=ZN.1 z;apply PX.of;apply Pb (bl t) sl (k:Int);intro h1;have e:wr h0 M h1 M:=wr.push ag _;have n:Blk h1 h0.size #[aa6 (bl t),aK sl]:=v0 _ _ _;clear_value h1;have⟨b,o,ks,ps,B,l,_⟩:=rP e.ag (rd.mono e.le) u;have D:=(Bx rd).1;refine⟨bl t,sl,n.ld (cs:=[aa6 (bl t),aK sl]),sl,n.aa2 (o:=0) (k:=1) rfl,⟨b,o,Te⟩,⟨B,ω,ω⟩,nodes[k].2.2.1.1,nodes[k].2.2.1.2,?_,?_⟩;simp only[zc,zm,zc7,Nat.reduceAdd,YL]at l ⊢;simp_all;refine(CZ (gl:=gl) (t:=t) (nodes:=nodes) (p:=nodes[k].2.2.1) (R:=λr=>r=bl (zy t nodes[k].2.2.1)) rfl).go (vs:=[.agg #[aa6 (bl t),aK sl],.agg #[ab0 nodes[k].2.2.1.1,ab0 nodes[k].2.2.1.2]]) (m.trans e.le) e.ag (zn (UU (rd.mono e.le)) (zn (a:=qr gY _) ⟨[_,_],rfl,[_],[_],rfl,rfl,rfl⟩ zw)) λw g E r L c f=>?_;subst f;refine⟨_,gu c,?_⟩;have:=Ym t nodes[k].2.2.1;refine(uE q (t:=zy t nodes[k].2.2.1) ω (R:=λr=>R r.1) h).go (vs:=[aa6 (bl (zy t nodes[k].2.2.1))]) (m.trans (e.le.trans L.le)) L.ag (zn (a:=qr .str _) (DH _) zw) λw F y r s c f=>?_;exact⟨_,_,_,zS c,y,r.1,e.trans (L.trans s),Yu.2 (DH _),f⟩
def CV:qq Tp 241=Ta:=κ
def FP:jk Tp 241=7:=κ
def QI:qq Tp 25=Ta:=κ
def Nn:jk Tp 25=4:=κ
def qt{x y z w:Value}(B:Blk g b #[x,y,z,w]){k:Int}{s:Bt}{sk si:Sl}{K:zb->Prop}(f:∀g',(∀j,j≠b->g'[j]?=g[j]?)->g'.size=g.size->Blk g' b #[ab0 k,aa6 s,aK sk,aK si]->K g'):wf Tp (YI 25 (aa7 ⟨b,0,Te⟩) (.agg #[ab0 k,aa6 s,aK sk,aK si])) g K:=by refine Jn (vs:=[ab0 k,aa6 s,aK sk,aK si]) QI B rfl Nn (YJ _) (λu c=>?_) λg' e i h=>f g' h i e;simp at c;obtain rfl|rfl|rfl|rfl:=c <;> rfl
def Zt(t:Bs)(nodes:List Nd)(f:Nat)(x:Nd)(n:Nat):Tr:=.mk x.1 (bl (Z3 x.1 (zy t x.2.1))) (if x.1=6 then(x.2.2.2.1.take n).map λc=>bl (i5 t nodes c)else []) ((x.2.2.2.1.take n).map λc=>Yd t nodes f c.toNat)
def HU{nodes:List Nd}{x:Nd}(b:nodes[k]?=Td x):Zt t nodes f x (DB x.2.2.2.1)=Yd t nodes (f+1) k:=by unfold Zt;rw[Yd,b,ZX]
def Gb{nodes:List Nd}{x:Nd}{n:Nat}(b:n<DB x.2.2.2.1):Zt t nodes f x (n+1)=.mk x.1 (bl (Z3 x.1 (zy t x.2.1))) (ite (x.1=6) ((Zt t nodes f x n).XK++[bl (i5 t nodes x.2.2.2.1[n])]) ((Zt t nodes f x n).XK)) ((Zt t nodes f x n).WT++[Yd t nodes f x.2.2.2.1[n].toNat]):=by unfold Zt;rw[YP b,zaa,zaa];simp_all
section
variable {t : Bs} {nodes : List Nd} {lvs : List Nat} {gl : Fr}
def l5{u v:Value}(B:Blk g b #[u,v]):zc g ⟨b,0,Te⟩ 0 [u,v]:=B.ld (cs:=[u,v])
def AK(F:n5)(t:Bs)(nodes:List Nd)(gl:Fr)(k:Nat)(c:List Value)(v:Tr):Prop:=
 ∀(h:zb) (M:Fr) (e:Sl),Fr.le gl M->AgM M h->Rd M (.row gN) nodes [aK e]->∀(K:Value->zb->Prop),(∀(h':zb) (bs:List Nat) (sk si:Sl),Bk h.size h h'->OT h' v bs (Z4 v sk si)->(∀b∈bs,h.size<=b)->K (.agg #[.int .i64 v.Wf,.string v.aa0,aK sk,aK si]) h') ->
  XC Tp F ([Value.agg #[.string (bl t),aK e],zad .i64 (k:Int)]++c).toArray h K
def DK(hg:GL gl)(ht:t.length<=65536)(G:IA lvs nodes)(br:∀x∈nodes,DB x.2.2.2.1<=200000):∀(f k l:Nat) (L:Int),lvs[k]?=Td l->33-l<=f->1<=L->L<=(l:Int)->AK 227 t nodes gl k [ab0 L] (Yd t nodes f k)
 |0,k,l,L,hl,hf,_,_=>χ (G.lv k l hl)
 |f+1,k,l,L,hl,hf,hL1,hL2=>by
  intro h M I hM ag rd K hK;have aC:k<DB nodes:=by have:=(ZN.1 hl).1;have:=G.len;omega
  have hx:nodes[k]?=Td nodes[k]:=YS aC;have cd:=G.lv k l hl;have aa:=G.kid k l nodes[k] hx hl;have bD:=br _ (YY aC);generalize bB:nodes[k]=x at hx aa bD;have cq:=(Bx rd).1;show aa4 _ #[.agg #[aa6 (bl t),aK I],ab0 (k:Int),ab0 L] h K;apply Rx;intro h1 h2;have k1:Bk h.size h h1:=rg _ _ (YJ _);have k2:Bk h1.size h1 h2:=rg _ _ (YJ _);have z1:h1.size=h.size+1:=YW _;have z2:h2.size=h1.size+1:=YW _;have D1:Blk h1 h.size #[aa6 (bl t),aK I]:=v0 _ _ _;have R2:Blk h2 h1.size #[ab0 0,aa6 ⟨#[]⟩,.slice Te 0 0,.slice Te 0 0]:=v0 _ _ _;clear_value h1 h2;have aO:Bk h.size h h2:=k1.trans (c:=h2) (m:=h.size) ⟨k2.size,λj q=>k2.get j ω⟩ (YJ _);have D2:=D1.aa1 (k2.get h.size ω);have bC:=ag.aa1 aO;have⟨nb,no,ks,ps,e1,e2,e3⟩:=rP bC rd aC;rw[bB]at e2 e3;have bZ:=(Bx e3).1;refine⟨I,by rw[zm];exact D2.cell rfl,_,⟨e1,ω,ω⟩,x.1,x.2.1.1,x.2.1.2,x.2.2.1.1,x.2.2.1.2,ks,ps,?_,?_⟩;rw[zm,YL];exact e2;intro bm;have⟨bY,cg,bF⟩:=yp (g:=bm) rfl;clear_value bm;refine Jn (vs:=gy (x,⟨ks,[],ps,[]⟩)) CV bF rfl FP (YJ _) (vc _) λb z b7 bL=>?_;have z:Blk b h2.size #[ab0 x.1,ab0 x.2.1.1,ab0 x.2.1.2,ab0 x.2.2.1.1,ab0 x.2.2.1.2,aK ks,aK ps]:=z;have J:Bk h2.size h2 b:=⟨ω,λj q=>(bL j ω).trans (bY.get j q)⟩;have Y:Bk h.size h b:=aO.trans (c:=b) (m:=h.size) ⟨J.size,λj q=>J.get j ω⟩ (YJ _);have aG:=D2.aa1 (J.get h.size ω);have bH:=R2.aa1 (J.get h1.size ω);intro aU a6;have aQ:∀(O:Nat) (V:zb),b.size<=O->Bk b.size b V->Blk V O #[ab0 x.1,aa6 (bl (Z3 x.1 (zy t x.2.1))),.slice Te 0 0,.slice Te 0 0]->aU ⟨O,0,Te⟩ V:=by
   intro O V bV aS aZ;refine a6 ⟨O,0,Te⟩ V ?_;have bQ:=z.aa1 (aS.get h2.size ω);have bP:=aZ.lt;refine⟨ks,by rw[zm];exact bQ.cell rfl,λi s=>∃(n:Nat) (sk si:Sl),i=(n:Int)/\n<=DB x.2.2.2.1/\Own b.size s.size s O (Zt t nodes f x n) sk si/\Bk b.size b s,λi _=>DB x.2.2.2.1-i.toNat,⟨0,⟨Te,0,0⟩,⟨Te,0,0⟩,rfl,ω,?_,aS⟩,?_⟩;have e0:Zt t nodes f x 0=.mk x.1 (bl (Z3 x.1 (zy t x.2.1))) [] []:=by unfold Zt;simp
   rw[e0];exact Own.new aZ bV (YJ _);rintro i s ⟨n,sk,si,rfl,hn,B,A⟩;have bn:=z.aa1 (A.get h2.size ω);have ba:=aG.aa1 (A.get h.size ω);have bS:=bH.aa1 (A.get h1.size ω);have au:Bk h.size h s:=Y.trans (c:=s) (m:=h.size) ⟨A.size,λj q=>A.get j ω⟩ (YJ _);have ax:=ag.aa1 au;have cp:=A.size;refine⟨λZ=>?_,λbU=>?_⟩;have Z:n<DB x.2.2.2.1:=χ (zB Z)
   have⟨j,ej,cm,az⟩:=aa _ (YY Z);have q:j<DB nodes:=by have:=(ZN.1 az).1;have:=G.len;omega
   have b9:=G.lv j (l+1) az;have⟨ib,io,f1,f2⟩:=hP ax e3 Z;rw[ej]at f2;refine⟨ks,by rw[zm];exact bn.cell rfl,_,⟨f1,ω,ω⟩,(j:Int),by rw[zm,YL];exact f2,I,λ_=>by rw[zm];exact ba.cell rfl,?_⟩;have hc:(cond (cond (hV ((j:Int)<0)) Ta (hV ((j:Int)>=((I.len:Nat):Int)))) Ta (hV (L>32)))=Tc:=by rw[zE ω,zG,zE ω,zG,zE ω]
   rw[hc];refine⟨λh=>(ε h),λ_=>?_⟩;intro bT be;have a7:nodes[j]?=Td nodes[j]:=YS q;have aT:i5 t nodes x.2.2.2.1[n]=iP t nodes[j]:=by unfold i5;rw[ej,YL,a7]
   have af:=Gb (t:=t) (nodes:=nodes) (f:=f) Z;rw[aT,ej,YL]at af;have body:∀(o:zb) (aB:List Bt) (aE:Sl),aB=(ite (x.1=6) ((Zt t nodes f x n).XK++[bl (iP t nodes[j])]) ((Zt t nodes f x n).XK))->Own b.size o.size o O (.mk x.1 (bl (Z3 x.1 (zy t x.2.1))) aB (Zt t nodes f x n).WT) aE si->Bk b.size b o->bT o:=by
    intro o aB aE bG aI ab;refine be o ?_;have ca:=ab.size;have bN:=aG.aa1 (ab.get h.size ω);have bq:Bk h.size h o:=Y.trans (c:=o) (m:=h.size) ⟨ab.size,λj q=>ab.get j ω⟩ (YJ _);have ah:=aI.box.lt;refine⟨si,by rw[zm];exact aI.box.cell rfl,bl t,I,l5 bN,?_⟩;rw[bR ω];refine DK hg ht G br f j (l+1) (L+1) az ω ω ω o M I hM (ag.aa1 bq) rd _ λcb bw wk wi ap ow aA=>⟨_,_,_,_,rfl,?_⟩;have cy:=ap.size;refine⟨by rw[zm];exact ap.get O ah,?_⟩;intro P;have⟨ar,cc,bM⟩:=yp (g:=P) rfl;clear_value P;refine⟨by rw[zm];exact(ar.get O ω).trans (ap.get O ah),?_⟩;have D:Bk o.size o P:=ap.trans (c:=P) (m:=o.size) ⟨ar.size,λj q=>ar.get j ω⟩ (YJ _);have aV:Bk b.size b P:=ab.trans (c:=P) (m:=b.size) ⟨D.size,λj q=>D.get j ω⟩ (YJ _);have aL:(Zt t nodes f x n).WT.length<=1000000:=by unfold Zt;simp;omega
    rw[zm];refine Own.item (aI.aa1 D) ω aL bM (ow.frame λc hc=>ar.get c (ow.lt c hc)) (λhm=>χ (ow.lt _ hm)) (λc hc=>⟨χ (aA c hc),χ (aA c hc),aA c hc⟩) λg' s2 O' k' z'=>⟨⟨n+1,aE,s2,by rw[bR ω];omega,ω,?_,aV.trans (c:=g') (m:=b.size) k' (YJ _)⟩,?_⟩;rw[af,<-bG];exact O';show (DB x.2.2.2.1)-(p3 ((n:Int)+1)).toNat<DB x.2.2.2.1-(n:Int).toNat;rw[bR ω];omega
   refine⟨x.1,by rw[zm];exact bn.cell rfl,λh6=>?_,λh6=>?_⟩;have h6:x.1=6:=ψ h6
   have ae:=B.box.lt;refine⟨sk,by rw[zm];exact B.box.cell rfl,bl t,I,l5 ba,?_⟩;refine(XY hg ht (nodes:=nodes) (k:=j) a7 (R:=λr=>r=bl (iP t nodes[j])) rfl).go hM ax (zn (a:=qr kK _) ⟨[aa6 (bl t),aK I],rfl,[aa6 (bl t)],[aK I],rfl,rfl,rd⟩ (zn (a:=qr q0 _) (Zj _ _) zw)) λv b8 M' r Lt hv hr=>⟨r,gu hv,?_⟩;subst hr;have an:=Lt.aa1;have cn:=an.size;refine⟨by rw[zm];exact an.get O ae,?_⟩;intro U;have⟨aF,cj,bE⟩:=yp (g:=U) rfl;clear_value U;refine⟨by rw[zm];exact(aF.get O ω).trans (an.get O ae),?_⟩;have C:Bk s.size s U:=an.trans (c:=U) (m:=s.size) ⟨aF.size,λj q=>aF.get j ω⟩ (YJ _);have bu:Bk b.size b U:=A.trans (c:=U) (m:=b.size) ⟨C.size,λj q=>C.get j ω⟩ (YJ _);have a8:(Zt t nodes f x n).XK.length<=1048576:=by unfold Zt;simp[h6];omega
   rw[zm];refine Own.key (B.aa1 C) ω a8 bE λg' s2 O' k' z'=>body g' _ s2 (by rw[zi h6]) O' (bu.trans (c:=g') (m:=b.size) k' (YJ _));have h6:¬x.1=6:=ψ h6
   exact body s (Zt t nodes f x n).XK sk (by rw[za h6]) B A;have bz:n=DB x.2.2.2.1:=χ (zC bU)
   subst bz;have eN:=HU (t:=t) (f:=f) hx;rw[eN]at B;refine⟨_,_,sk,si,B.box.ld (cs:=Z4 _ sk si),?_⟩;refine qt bS λg2 f2 z2 B2=>⟨_,_,sk,si,B2.ld (cs:=[_,_,aK sk,aK si]),?_⟩;have⟨bs,ot,aJ⟩:=B.ot;refine hK g2 bs sk si (au.trans (c:=g2) (m:=h.size) ⟨ω,λj q=>f2 j ω⟩ (YJ _)) (ot.frame λc hc=>f2 c (χ ((aJ c hc).1))) λc hc=>χ ((aJ c hc).1)
  have co:=Ym t x.2.1;have bg:∀{g:zb} {Q:vvv},AgM M g->(∀g',Bk g.size g g'->Q (aa6 (bl (zy t x.2.1))) g')->aa4 284 #[.agg #[aa6 (bl t),aK I],.agg #[ab0 x.2.1.1,ab0 x.2.1.2]] g Q:=λ {g Q} agg hQ=>by refine(CZ (gl:=gl) (t:=t) (nodes:=nodes) (p:=x.2.1) (R:=λr=>r=bl (zy t x.2.1)) rfl).go hM agg (zn (a:=qr kK _) ⟨[aa6 (bl t),aK I],rfl,[aa6 (bl t)],[aK I],rfl,rfl,rd⟩ (zn (a:=qr gY _) ⟨[ab0 x.2.1.1,ab0 x.2.1.2],rfl,_,_,rfl,rfl,rfl⟩ zw)) λv g' M' r L hv hr=>?_;subst hr;rw[gu hv];exact hQ g' L.aa1
  have aH:∀{g:zb} {Q:vvv},AgM M g->(∀g',Bk g.size g g'->Q (aa6 (bl (Z3 x.1 (zy t x.2.1)))) g')->aa4 283 #[ab0 x.1,aa6 (bl (zy t x.2.1))] g Q:=λ {g Q} agg hQ=>by refine(Ur hg (k:=x.1) (t:=zy t x.2.1) ω (R:=λr=>r=bl (Z3 x.1 (zy t x.2.1))) rfl).go hM agg (zn (a:=qr q0 _) (Zj _ _) (zn (a:=qr .str _) (DH _) zw)) λv g' M' r L hv hr=>?_;subst hr;rw[gu hv];exact hQ g' L.aa1
  have y:=ag.aa1 Y;have u:∀(hh hA:zb),Bk b.size b hh->Bk hh.size hh hA->Blk hA hh.size #[ab0 0,aa6 ⟨#[]⟩,.slice Te 0 0,.slice Te 0 0]->wf Tp (YI 25 (aa7 (aa8 hh)) (.agg #[ab0 x.1,aa6 (bl (Z3 x.1 (zy t x.2.1))),.slice Te 0 0,.slice Te 0 0])) hA (λg=>aU (aa8 hh) g):=λhh hA kh kA BA=>
   qt (sk:=⟨Te,0,0⟩) (si:=⟨Te,0,0⟩) BA λg2 f2 z2 B2=>aQ hh.size g2 kh.size (kh.trans (c:=g2) (m:=b.size) ⟨by have:=kh.size;have:=kA.size;omega,λj q=>by have:=kh.size;rw[f2 j ω];exact kA.get j ω⟩ (YJ _)) B2
  have N:∀{g:zb},Bk b.size b g->g[h2.size]?=b[h2.size]?:=λk=>k.get h2.size ω;refine⟨x.1,by rw[zm];exact z.cell rfl,x.1,by rw[zm];exact z.cell rfl,bl t,I,l5 aG,x.2.1.1,x.2.1.2,?_,bg y λbO e=>⟨_,rfl,by rw[zm];exact N e,by rw[zm];exact N e,aH (y.aa1 e) λw S=>⟨_,rfl,?_,?_,?_⟩,?_⟩,?_⟩;rw[zm];exact⟨by rw[zm];exact z.cell rfl,by rw[zm];exact z.cell rfl,trivial⟩;rw[zm];exact N (e.trans (c:=w) (m:=b.size) ⟨S.size,λj q=>S.get j (χ e.size)⟩ (YJ _));intro bI;have kk:Bk b.size b w:=e.trans (c:=w) (m:=b.size) ⟨S.size,λj q=>S.get j (χ e.size)⟩ (YJ _);exact u w bI kk (rg _ _ (YJ _)) (v0 _ _ _);intro aP;have kk:Bk b.size b w:=e.trans (c:=w) (m:=b.size) ⟨S.size,λj q=>S.get j (χ e.size)⟩ (YJ _);have aM:Bk w.size w aP:=rg _ _ (YJ _);refine⟨by rw[zm];exact(aM.get h2.size (χ kk.size)).trans (N kk),?_⟩;exact u w aP kk aM (v0 _ _ _);intro am;have⟨ay,cz,bA⟩:=yp (g:=am) rfl;clear_value am;have ck:=e.size;have H:Bk b.size b am:=e.trans (c:=am) (m:=b.size) ⟨ay.size,λj q=>ay.get j ω⟩ (YJ _);refine⟨by rw[zm];exact N H,by rw[zm];exact N H,aH (y.aa1 H) λbj ak=>⟨_,rfl,?_,?_⟩⟩;rw[zm];exact N (H.trans (c:=bj) (m:=b.size) ⟨ak.size,λj q=>ak.get j ω⟩ (YJ _));exact u bO bj e ⟨χ ak.size,λj q=>by rw[ak.get j ω];exact ay.get j q⟩ (bA.aa1 (ak.get _ ω));intro aY;have⟨E,cu,bJ⟩:=yp (g:=aY) rfl;clear_value aY;refine⟨by rw[zm];exact N E,E.get h.size ω,by rw[zm];exact N E,by rw[zm];exact N E,bg (y.aa1 E) λa1 ai=>⟨_,rfl,?_⟩⟩;have b6:=ai.size;have F:Bk b.size b a1:=E.trans (c:=a1) (m:=b.size) ⟨ai.size,λj q=>ai.get j ω⟩ (YJ _);refine⟨by rw[zm];exact N F,by rw[zm];exact N F,aH (y.aa1 F) λaN aj=>⟨_,rfl,?_,?_⟩⟩;rw[zm];exact N (F.trans (c:=aN) (m:=b.size) ⟨aj.size,λj q=>aj.get j ω⟩ (YJ _));exact u b aN (Bk.refl _ _) ⟨χ aj.size,λj q=>by rw[aj.get j ω,ai.get j ω];exact E.get j q⟩ ((bJ.aa1 (ai.get _ ω)).aa1 (aj.get _ ω))
end
end
section
def Ug:qq Tp 9=Ta:=κ
def LS:jk Tp 9=1:=κ
def Vn:qq Tp 110=Ta:=κ
def QS:jk Tp 110=3:=κ
section
variable {t : Bs} {nodes : List Nd} {lvs : List Nat} {gl : Fr}
def GA(hg:GL gl)(ht:t.length<=65536)(G:IA lvs nodes)(bj:∀x∈nodes,DB x.2.2.2.1<=200000):∀(f k l:Nat),lvs[k]?=Td l->33-l<=f->AK 167 t nodes gl k [] (Yd t nodes f k)
 |0,k,l,hl,hf=>χ (G.lv k l hl)
 |f+1,k,l,hl,hf=>by
  intro h M ds hM ag rd K hK;have aF:k<DB nodes:=by have:=(ZN.1 hl).1;have:=G.len;omega
  have hx:nodes[k]?=Td nodes[k]:=YS aF;have cY:=G.lv k l hl;have aa:=G.kid k l nodes[k] hx hl;have bO:=bj _ (YY aF);generalize bI:nodes[k]=x at hx aa bO;have cJ:=(Bx rd).1;show aa4 _ #[.agg #[aa6 (bl t),aK ds],ab0 (k:Int)] h K;apply MX;intro h1 h2;have k1:Bk h.size h h1:=rg _ _ (YJ _);have k2:Bk h1.size h1 h2:=rg _ _ (YJ _);have z1:h1.size=h.size+1:=YW _;have z2:h2.size=h1.size+1:=YW _;have D1:Blk h1 h.size #[aa6 (bl t),aK ds]:=v0 _ _ _;have R2:Blk h2 h1.size #[ab0 0,aa6 ⟨#[]⟩,.slice Te 0 0,.slice Te 0 0]:=v0 _ _ _;clear_value h1 h2;have aY:Bk h.size h h2:=k1.trans (c:=h2) (m:=h.size) ⟨k2.size,λj q=>k2.get j ω⟩ (YJ _);have D2:=D1.aa1 (k2.get h.size ω);have bL:=ag.aa1 aY;have⟨nb,no,ks,ps,e1,e2,e3⟩:=rP bL rd aF;rw[bI]at e2 e3;have cm:=(Bx e3).1;refine⟨ds,by rw[zm];exact D2.cell rfl,_,⟨e1,ω,ω⟩,x.1,x.2.1.1,x.2.1.2,x.2.2.1.1,x.2.2.1.2,ks,ps,?_,?_⟩;rw[zm,YL];exact e2;intro a7;have⟨cj,da,bS⟩:=yp (g:=a7) rfl;clear_value a7;refine Jn (vs:=gy (x,⟨ks,[],ps,[]⟩)) CV bS rfl FP (YJ _) (vc _) λb w co ck=>?_;have w:Blk b h2.size #[ab0 x.1,ab0 x.2.1.1,ab0 x.2.1.2,ab0 x.2.2.1.1,ab0 x.2.2.1.2,aK ks,aK ps]:=w;have E:Bk h2.size h2 b:=⟨ω,λj q=>(ck j ω).trans (cj.get j q)⟩;have Y:Bk h.size h b:=aY.trans (c:=b) (m:=h.size) ⟨E.size,λj q=>E.get j ω⟩ (YJ _);have ax:=D2.aa1 (E.get h.size ω);have b8:=R2.aa1 (E.get h1.size ω);have am:=ag.aa1 Y;have bM:=Ym t x.2.1;have aZ:∀(p:Sp) {g:zb} {Q:vvv},AgM M g->(∀g',Bk g.size g g'->Q (aa6 (bl (zy t p))) g')->aa4 231 #[.agg #[aa6 (bl t),aK ds],.agg #[ab0 p.1,ab0 p.2]] g Q:=λp {g Q} agg hQ=>by refine(TA (gl:=gl) (t:=t) (nodes:=nodes) (p:=p) (R:=λr=>r=bl (zy t p)) rfl).go hM agg (zn (a:=qr kK _) ⟨[aa6 (bl t),aK ds],rfl,[aa6 (bl t)],[aK ds],rfl,rfl,rd⟩ (zn (a:=qr gY _) ⟨[ab0 p.1,ab0 p.2],rfl,_,_,rfl,rfl,rfl⟩ zw)) λv g' M' r L hv hr=>?_;subst hr;rw[gu hv];exact hQ g' L.aa1
  refine⟨bl t,ds,l5 ax,x.2.1.1,x.2.1.2,?_,aZ x.2.1 am λO aL=>⟨_,rfl,x.1,?_,?_⟩⟩;rw[zm];exact⟨by rw[zm];exact w.cell rfl,by rw[zm];exact w.cell rfl,trivial⟩;rw[zm];exact(w.aa1 (aL.get h2.size ω)).cell rfl;intro bn;have⟨bE,cO,cd⟩:=yp (g:=bn) rfl;clear_value bn;have cp:=aL.size;refine qt (k:=x.1) (s:=⟨#[]⟩) (sk:=⟨Te,0,0⟩) (si:=⟨Te,0,0⟩) cd λy bG cQ ae=>?_;have ah:Bk b.size b y:=⟨ω,λj q=>by rw[bG j ω,bE.get j ω,aL.get j q]⟩;intro ba bu;have an:∀(vb:Nat) (V:zb),vb=O.size->b.size<=vb->Bk b.size b V->Blk V vb #[ab0 x.1,aa6 (bl (Z3 x.1 (zy t x.2.1))),.slice Te 0 0,.slice Te 0 0]->ba V:=by
   intro vb V aO ca a1 br;refine bu V ?_;unfold aa8;rw[<-aO];have cE:=w.aa1 (a1.get h2.size ω);have bJ:=br.lt;refine⟨λi e=>∃(n:Nat) (sk si:Sl),i=(n:Int)/\n<=DB x.2.2.2.1/\Own b.size e.size e vb (Zt t nodes f x n) sk si/\Bk b.size b e,λi _=>DB x.2.2.2.1-i.toNat,⟨0,⟨Te,0,0⟩,⟨Te,0,0⟩,rfl,ω,?_,a1⟩,?_⟩;have e0:Zt t nodes f x 0=.mk x.1 (bl (Z3 x.1 (zy t x.2.1))) [] []:=by unfold Zt;simp
   rw[e0];exact Own.new br ca (YJ _);rintro i e ⟨n,sk,si,rfl,hn,B,A⟩;have aC:=w.aa1 (A.get h2.size ω);have aP:=ax.aa1 (A.get h.size ω);have bT:=b8.aa1 (A.get h1.size ω);have ak:Bk h.size h e:=Y.trans (c:=e) (m:=h.size) ⟨A.size,λj q=>A.get j ω⟩ (YJ _);have F:=ag.aa1 ak;have cG:=A.size;refine⟨ks,by rw[zm];exact aC.cell rfl,λJ=>?_,λb9=>?_⟩;have J:n<DB x.2.2.2.1:=χ (zB J)
   have⟨j,ej,cq,ay⟩:=aa _ (YY J);have q:j<DB nodes:=by have:=(ZN.1 ay).1;have:=G.len;omega
   have cy:=G.lv j (l+1) ay;have⟨ib,io,f1,f2⟩:=hP F e3 J;rw[ej]at f2;intro bV aT;have cg:nodes[j]?=Td nodes[j]:=YS q;have a8:i5 t nodes x.2.2.2.1[n]=iP t nodes[j]:=by unfold i5;rw[ej,YL,cg]
   have ab:=Gb (t:=t) (nodes:=nodes) (f:=f) J;rw[a8,ej,YL]at ab;have body:∀(o:zb) (aE:List Bt) (aG:Sl),aE=(ite (x.1=6) ((Zt t nodes f x n).XK++[bl (iP t nodes[j])]) ((Zt t nodes f x n).XK))->Own b.size o.size o vb (.mk x.1 (bl (Z3 x.1 (zy t x.2.1))) aE (Zt t nodes f x n).WT) aG si->Bk b.size b o->bV o:=by
    intro o aE aG bY aA S;refine aT o ?_;have cF:=S.size;have bD:=ax.aa1 (S.get h.size ω);have ap:Bk h.size h o:=Y.trans (c:=o) (m:=h.size) ⟨S.size,λj q=>S.get j ω⟩ (YJ _);have U:=aA.box.lt;have cc:=w.aa1 (S.get h2.size ω);have⟨cP,cZ,g1,g2⟩:=hP (ag.aa1 ap) e3 J;rw[ej]at g2;refine⟨si,by rw[zm];exact aA.box.cell rfl,bl t,ds,l5 bD,ks,by rw[zm];exact cc.cell rfl,_,⟨g1,ω,ω⟩,(j:Int),by rw[zm,YL];exact g2,?_⟩;refine GA hg ht G bj f j (l+1) ay ω o M ds hM (ag.aa1 ap) rd _ λcL bw wk wi aj ow az=>⟨_,_,_,_,rfl,?_⟩;have cM:=aj.size;refine⟨by rw[zm];exact aj.get vb U,?_⟩;intro N;have⟨ai,cT,bC⟩:=yp (g:=N) rfl;clear_value N;refine⟨by rw[zm];exact(ai.get vb ω).trans (aj.get vb U),?_⟩;have D:Bk o.size o N:=aj.trans (c:=N) (m:=o.size) ⟨ai.size,λj q=>ai.get j ω⟩ (YJ _);have be:Bk b.size b N:=S.trans (c:=N) (m:=b.size) ⟨D.size,λj q=>D.get j ω⟩ (YJ _);have aU:(Zt t nodes f x n).WT.length<=1000000:=by unfold Zt;simp;omega
    rw[zm];refine Own.item (aA.aa1 D) ω aU bC (ow.frame λc hc=>ai.get c (ow.lt c hc)) (λhm=>χ (ow.lt _ hm)) (λc hc=>⟨χ (az c hc),χ (az c hc),az c hc⟩) λg' s2 O' k' z'=>⟨⟨n+1,aG,s2,by rw[bR ω];omega,ω,?_,be.trans (c:=g') (m:=b.size) k' (YJ _)⟩,?_⟩;rw[ab,<-bY];exact O';show (DB x.2.2.2.1)-(p3 ((n:Int)+1)).toNat<DB x.2.2.2.1-(n:Int).toNat;rw[bR ω];omega
   refine⟨x.1,by rw[zm];exact aC.cell rfl,λh6=>?_,λh6=>?_⟩;have h6:x.1=6:=ψ h6
   have cb:=B.box.lt;have⟨cB,c8,cu,cH,g1,g2,_⟩:=rP F rd q;have⟨_,_,_,g3,g4,_⟩:=g2;rw[zm]at g3 g4;refine⟨bl t,ds,l5 aP,ds,by rw[zm];exact aP.cell rfl,ks,by rw[zm];exact aC.cell rfl,_,⟨f1,ω,ω⟩,(j:Int),by rw[zm,YL];exact f2,_,⟨g1,ω,ω⟩,nodes[j].2.2.1.1,nodes[j].2.2.1.2,?_,?_⟩;rw[zm,zm,YL];exact⟨by rw[zm];exact g3,by rw[zm];exact g4,trivial⟩;refine aZ nodes[j].2.2.1 F λc7 aB=>⟨_,rfl,?_⟩;have cC:=aB.size;have:=Ym t nodes[j].2.2.1;refine(v4 (gl:=gl) (t:=zy t nodes[j].2.2.1) ω (R:=λr=>r=(bl (Qr (zy t nodes[j].2.2.1)).1,((Qr (zy t nodes[j].2.2.1)).2.1:Int),(Qr (zy t nodes[j].2.2.1)).2.2)) rfl).go hM (F.aa1 aB) (zn (a:=qr .str _) (DH _) zw) λv H M' r Lt hv hr=>?_;subst hr;obtain⟨vs,⟨v1,rest,rfl,aI,v2,aJ,rfl,ar,v3,rfl,aH⟩,rfl⟩:=hv;rw[y0 aI,qn ar,qn aH];have au:Bk e.size e H:=aB.trans (c:=H) (m:=e.size) ⟨Lt.aa1.size,λj q=>Lt.aa1.get j ω⟩ (YJ _);have cA:=au.size;have b6:=B.aa1 au;refine⟨_,_,_,rfl,sk,by rw[zm];exact b6.box.cell rfl,?_⟩;intro z;have aQ:Bk H.size H z:=rg _ _ (YJ _);have cn:z.size=H.size+1:=YW _;have bQ:Blk z H.size #[aa6 (bl (iP t nodes[j]))]:=v0 _ _ _;clear_value z;have C:Bk e.size e z:=au.trans (c:=z) (m:=e.size) ⟨aQ.size,λj q=>aQ.get j ω⟩ (YJ _);have bm:Bk b.size b z:=A.trans (c:=z) (m:=b.size) ⟨C.size,λj q=>C.get j ω⟩ (YJ _);have aN:(Zt t nodes f x n).XK.length<=1048576:=by unfold Zt;simp[h6];omega
   rw[zm];refine Own.key (B.aa1 C) ω aN bQ λg' s2 O' k' z'=>body g' _ s2 (by rw[zi h6]) O' (bm.trans (c:=g') (m:=b.size) k' (YJ _));have h6:¬x.1=6:=ψ h6
   exact body e (Zt t nodes f x n).XK sk (by rw[za h6]) B A;have bz:n=DB x.2.2.2.1:=χ (zC b9)
   subst bz;have eN:=HU (t:=t) (f:=f) hx;rw[eN]at B;refine⟨_,_,sk,si,B.box.ld (cs:=Z4 _ sk si),?_⟩;refine qt bT λg2 f2 z2 B2=>⟨_,_,sk,si,B2.ld (cs:=[_,_,aK sk,aK si]),?_⟩;have⟨bs,ot,aM⟩:=B.ot;refine hK g2 bs sk si (ak.trans (c:=g2) (m:=h.size) ⟨ω,λj q=>f2 j ω⟩ (YJ _)) (ot.frame λc hc=>f2 c (χ ((aM c hc).1))) λc hc=>χ ((aM c hc).1)
  have ae:Blk y O.size #[ab0 x.1,aa6 ⟨#[]⟩,.slice Te 0 0,.slice Te 0 0]:=ae;have bN:=w.aa1 (ah.get h2.size ω);have Z:=am.aa1 ah;have fin:∀(af:zb) (u:Bt),Bk y.size y af->u=bl (Z3 x.1 (zy t x.2.1))->wf Tp (YI 9 (aa7 ⟨O.size,1,Te⟩) (aa6 u)) af (λg=>ba g):=λaf u I hu=>by subst hu;have bF:=I.size;refine qj Ug LS (ae.aa1 (I.get O.size ω)) ξ rfl λg u1 u2 u3=>an O.size g rfl ω ⟨ω,λj q=>by rw[u3 j ω,I.get j ω];exact ah.get j q⟩ u1
  have bM:=Ym t x.2.1;have eT:Z3 x.1 (zy t x.2.1)=ite (x.1=2) (zy t x.2.1) (ite (x.1=3) (qu (zj (zy t x.2.1)).1) (ite (x.1=4) ((Qr (zy t x.2.1)).1) [])):=rfl;refine⟨x.1,by rw[zm];exact bN.cell rfl,λP=>?_,λP=>⟨λq3=>?_,λq3=>⟨λq4=>?_,λq4=>?_⟩⟩⟩;have P:x.1=2:=ψ P
  rw[zm];exact fin y _ (Bk.refl _ _) (by rw[eT,zi P]);have P:¬x.1=2:=ψ P
  have q3:x.1=3:=ψ q3
  refine(wF (gl:=gl) (s:=zy t x.2.1) ω (R:=λr=>r=(fD (zj (zy t x.2.1)).1,(zj (zy t x.2.1)).2)) rfl).go hM Z (zn (a:=qr .str _) (DH _) zw) λv af M' r Lt hv hr=>?_;subst hr;have aS:=wz (zy t x.2.1) ω;refine⟨_,_,_,_,Ie hv,?_⟩;intro aV;have I:=Lt.aa1;have⟨bZ,cV,bP⟩:=yp (g:=aV) rfl;clear_value aV;refine Jn (vs:=[aa9 (fD (zj (zy t x.2.1)).1).1,aa6 (fD (zj (zy t x.2.1)).1).2.1,ab0 (fD (zj (zy t x.2.1)).1).2.2]) Vn bP rfl QS (YJ _) (λu hu=>?_) λbB b7 cz bH=>⟨_,_,_,b7.ld (cs:=[_,_,_]),?_⟩;simp at hu;obtain rfl|rfl|rfl:=hu <;> rfl;have bF:=I.size;have a6:Bk y.size y bB:=⟨ω,λj q=>by rw[bH j ω,bZ.get j ω,I.get j q]⟩;refine(G9 (gl:=gl) (n:=(zj (zy t x.2.1)).1) aS (R:=λr=>r=bl (qu (zj (zy t x.2.1)).1)) rfl).go hM (Z.aa1 a6) (zn (a:=qr tN _) ⟨[_,_,_],rfl,[_],[_,_],rfl,rfl,[_],[_],rfl,rfl,rfl⟩ zw) λv2 bg M2 r2 L2 bU bA=>⟨r2,gu bU,?_⟩
  subst bA;rw[zm];exact fin bg _ (a6.trans (c:=bg) (m:=y.size) ⟨L2.aa1.size,λj q=>L2.aa1.get j ω⟩ (YJ _)) (by rw[eT,za P,zi q3]);have P:¬x.1=2:=ψ P
  have q3:¬x.1=3:=ψ q3
  have q4:x.1=4:=ψ q4
  refine(v4 (gl:=gl) (t:=zy t x.2.1) ω (R:=λr=>r=(bl (Qr (zy t x.2.1)).1,((Qr (zy t x.2.1)).2.1:Int),(Qr (zy t x.2.1)).2.2)) rfl).go hM Z (zn (a:=qr .str _) (DH _) zw) λv bq M' r Lt hv hr=>?_;subst hr;obtain⟨vs,⟨v1,rest,rfl,aI,v2,aJ,rfl,ar,v3,rfl,aH⟩,rfl⟩:=hv;rw[y0 aI,qn ar,qn aH];refine⟨_,_,_,rfl,?_⟩;rw[zm];exact fin bq _ Lt.aa1 (by rw[eT,za P,za q3,zi q4]);have P:¬x.1=2:=ψ P
  have q3:¬x.1=3:=ψ q3
  have q4:¬x.1=4:=ψ q4
  refine an O.size y rfl ω ah ?_;have:Z3 x.1 (zy t x.2.1)=[]:=by rw[eT,za P,za q3,za q4]
  rw[this];exact ae
end
end
section
variable {k b c:Nat} {ls:Sl} {cs:Array Value} {g':zb}
def lQ(s:Bs)(ls:Sl)(k:Nat)(sl:Sl)(a e:Int):List Value:=[.string (bl s),aK ls,.int .i64 (k:Int),aK sl,.int .i64 a,.int .i64 e]
structure RW (lo:Nat) (g:zb) (M:Fr) (bp:Nat) (s:Bs) (l:List Tk) (k:Nat) (a e:Int) (ls:Sl) (na:NA) (sl:Sl) (b:Nat) (cs:Array Value):Prop where
 blk:Blk g bp (lQ s ls k sl a e).toArray
 rd:Rd M (.row hH) l [aK ls]
 ns:NS lo g M na sl b cs
 ag:AgM M g
 bl:lo<=bp/\M bp=Te
 nb:¬fN na sl b bp
structure AtK (l:List Tk) (k:Nat) (st:PSt):Prop where
 rest:st.rest=l.drop k
 le:k<=l.length
 last:∀t,0<k->l[k-1]?=Td t->st.last=t.2.2
def RS(lo:Nat)(g:zb)(M:Fr)(bp:Nat)(s:Bs)(l:List Tk)(st:PSt)(a e:Int)(O:Nat->Prop):Prop:=
 ∃(ls:Sl) (k:Nat) (na:NA) (sl:Sl) (b:Nat) (cs:Array Value),RW lo g M bp s l k a e ls na sl b cs/\AtK l k st/\na.map (·.1)=st.nodes/\O=ft bp na sl b
theorem RW.own{lo:Nat}{g:zb}{M:Fr}{bp:Nat}{s:Bs}{l:List Tk}{a e:Int}{na:NA}{sl:Sl}(H:RW lo g M bp s l k a e ls na sl b cs)(h:ft bp na sl b c):lo<=c/\c<g.size/\M c=Te:=by obtain rfl|h:=h;exact⟨H.bl.1,H.blk.lt,H.bl.2⟩;exact H.ns.own h
section
variable {lo : Nat} {g : zb} {M : Fr} {bp : Nat} {s : Bs} {l : List Tk} {st : PSt} {a e : Int} {O : Nat -> Prop} {K : Value -> zb -> Prop}
theorem RS.own(H:RS lo g M bp s l st a e O)(h:O c):lo<=c/\c<g.size/\M c=Te:=by obtain⟨ls,k,na,sl,b,cs,W,_,_,rfl⟩:=H;exact W.own h
theorem RS.frame(H:RS lo g M bp s l st a e O)(n:g.size<=g'.size)(f:∀c,c<g.size->(O c\/M c≠Te)->g'[c]?=g[c]?):RS lo g' M bp s l st a e O:=by obtain⟨ls,k,na,sl,b,cs,W,h0,h1,rfl⟩:=H;refine⟨ls,k,na,sl,b,cs,⟨W.blk.aa1 (f bp W.blk.lt (.inl (.inl rfl))),W.rd,W.ns.frame n λc h=>f c (W.ns.own h).2.1 (.inl (.inr h)),i6 W.ag λj m i=>f j m (.inr i),W.bl,W.nb⟩,h0,h1,rfl⟩
theorem RS.aa1(H:RS lo g M bp s l st a e O)(k:Bk g.size g g'):RS lo g' M bp s l st a e O:=H.frame k.size λc b _=>k.get c b
theorem RS.ag(H:RS lo g M bp s l st a e O):AgM M g:=by have⟨ls,k,na,sl,b,cs,W,_,_,_⟩:=H;exact W.ag
theorem RW.put{k i:Nat}{a' e':Int}{na:NA}{sl:Sl}(H:RW lo g M bp s l k a e ls na sl b cs)(B:Blk g' bp (lQ s ls i sl a' e').toArray)(o:g'.size=g.size)(f:∀j,j≠bp->g'[j]?=g[j]?):RW lo g' M bp s l i a' e' ls na sl b cs:= ⟨B,H.rd,H.ns.frame ω λc n=>f c λh=>H.nb (h ▸ n),i6 H.ag λj _ m=>f j λh=>m (h ▸ H.bl.2),H.bl,H.nb⟩
theorem RW.nst{na na':NA}{sl:Sl}{cs cs':ab3}(W:RW lo g M bp s l k a e ls na sl b cs)(N:NSt lo g M na sl b g' na' cs'):RW lo g' M bp s l k a e ls na' sl b cs'/\Stp g (ft bp na sl b) g' (ft bp na' sl b):=by refine⟨⟨W.blk.aa1 (N.fr bp W.blk.lt W.nb),W.rd,N.ns,i6 W.ag λj f i=>N.fr j f λh=>i (W.ns.own h).2.2,W.bl,λh=>?_⟩,N.le,λc h=>?_,λj f m=>N.fr j f λh=>m (.inr h)⟩;obtain h|h:=N.sub bp h;exact W.nb h;have:=W.blk.lt;omega;obtain h|h:=h;exact .inl (.inl h);obtain h|h:=N.sub c h;exact .inl (.inr h);exact .inr h
theorem AtK.cons(A:AtK l k st){t:Tk}{r:List Tk}(h:st.rest=t::r):∃b:k<DB l,l[k]=t:=by
 have h1:=A.rest;rw[h]at h1;have b:k<DB l:=by obtain c|c:=zam k (DB l);exact c;rw[zao c]at h1;cases h1
 refine⟨b,?_⟩;rw[ZG b]at h1;injection h1 with h1 _;exact h1.symm
theorem AtK.skip(A:AtK l k st)(h:st.rest≠[]):AtK l (k+1) st.skip:=by
 have⟨t,r,b⟩:=zag h;have⟨c,e⟩:=A.cons b;have h1:=A.rest;rw[b,ZG c]at h1;injection h1 with _ h2;have i:st.skip=⟨r,t.2.2,st.nodes⟩:=by unfold PSt.skip;rw[b]
 rw[i];refine⟨h2,c,λu _ f=>?_⟩;rw[Nat.add_sub_cancel,YS c,e]at f;cases f;rfl
theorem AtK.same(A:AtK l k st){st':PSt}(h1:st'.rest=st.rest)(h2:st'.last=st.last):AtK l k st':=⟨h1.trans A.rest,A.le,λt a b=>h2.trans (A.last t a b)⟩
def X3(H:RS lo g M bp s l st a e O)(c:K (ab0 st.Wf) g):aa4 288 #[aa7 ⟨bp,0,Te⟩] g K:=by
 obtain⟨ls,k,na,sl,b,cs,W,A,h1,rfl⟩:=H;apply Jy;have q:=(Bx W.rd).1;refine⟨_,rfl,_,by rw[zm];exact W.blk.cell rfl,_,rfl,ls,by rw[zm];exact W.blk.cell rfl,λf=>?_,λf=>⟨_,rfl,ls,by rw[zm];exact W.blk.cell rfl,_,rfl,_,by rw[zm];exact W.blk.cell rfl,?_⟩⟩;have f:=zB f;have:st.rest=[]:=by rw[A.rest];exact zao ω
 unfold PSt.Wf at c;rw[this]at c;exact c;have f:=zC f;have i:k<DB l:=ω
 have⟨p,o,n,m,r,t⟩:=gH W.ag W.rd i;have h:=A.rest;rw[ZG i]at h;refine⟨_,⟨n,ω,ω⟩,l[k].1,?_,?_⟩;rw[zm,zm,YL];exact m;unfold PSt.Wf at c;rw[h]at c;exact c
def uH(H:RS lo g M bp s l st a e O)(c:K (ab0 (st.here (DB s))) g):aa4 290 #[aa7 ⟨bp,0,Te⟩] g K:=by
 obtain⟨ls,k,na,sl,b,cs,W,A,h1,rfl⟩:=H;apply J0;have r:=(Bx W.rd).1;refine⟨_,rfl,_,by rw[zm];exact W.blk.cell rfl,_,rfl,ls,by rw[zm];exact W.blk.cell rfl,λf=>?_,λf=>⟨_,rfl,ls,by rw[zm];exact W.blk.cell rfl,_,rfl,_,by rw[zm];exact W.blk.cell rfl,?_⟩⟩;have f:=zB f;have:st.rest=[]:=by rw[A.rest];exact zao ω
 unfold PSt.here at c;rw[this]at c;refine⟨_,rfl,Go.X.bl s,by rw[zm];exact W.blk.cell rfl,?_⟩;rw[zf];exact c;have f:=zC f;have i:k<DB l:=ω
 have⟨q,o,m,p,n,t⟩:=gH W.ag W.rd i;have h:=A.rest;rw[ZG i]at h;refine⟨_,⟨m,ω,ω⟩,l[k].2.1,?_,?_⟩;rw[zm,zm,zm,YL];exact n;unfold PSt.here at c;rw[h]at c;exact c
def Jq(H:RS lo g M bp s l st a e O){x:Int}(o:∀g',RS lo g' M bp s l st (st.here (DB s)) x O->Stp g O g' O->K (aa9 Tc) g'):aa4 230 #[aa7 ⟨bp,0,Te⟩,ab0 x] g K:=by apply Jc;refine uH H ⟨_,rfl,_,rfl,?_⟩;obtain⟨ls,k,na,sl,b,cs,W,A,h1,rfl⟩:=H;rw[zm];refine qj iS nc W.blk (by show 4<6;omega) rfl λq p t n=>⟨_,rfl,?_⟩;rw[zm];refine qj Ee CB p (by show 5<6;omega) rfl λc h r m=>?_;have f:∀j,j≠bp->c[j]?=g[j]?:=λj i=>(m j i).trans (n j i);have h:Blk c bp (lQ s ls k sl (st.here (DB s)) x).toArray:=h;exact o c ⟨ls,k,na,sl,b,cs,W.put h ω f,A,h1,rfl⟩ (Stp.same ω (.inl rfl) f)
def pn(H:RS lo g M bp s l st a e O)(i:st.rest≠[])(o:l.length<=1000000):∃k:Nat,zd g ⟨bp,2,Te⟩=Td (ab0 (k:Int))/\AtK l k st/\∀{K:zb->Prop},(∀g',RS lo g' M bp s l st.skip a e O->Stp g O g' O->K g')->wf Tp (YI 3 (aa7 ⟨bp,2,Te⟩) (ab0 (p3 ((k:Int)+1)))) g K:=by obtain⟨ls,k,na,sl,b,cs,W,A,h1,rfl⟩:=H;refine⟨k,W.blk.cell rfl,A,λ {K} m=>?_⟩;have n:=A.skip i;rw[show p3 ((k:Int)+1)=((k+1:Nat):Int)by rw[bR (χ A.le)];omega];refine qj iS nc W.blk (by show 2<6;omega) rfl λf c p h=>?_;have c:Blk f bp (lQ s ls (k+1) sl a e).toArray:=c;exact m f ⟨ls,k+1,na,sl,b,cs,W.put c ω h,n,by rw[qw];exact h1,rfl⟩ (Stp.same ω (.inl rfl) h)
def Pp(H:RS lo g M bp s l st a e O)(i:l.length<=1000000){k:Int}(h:k≠0)(m:st.Wf=k->∀g',RS lo g' M bp s l st.skip a e O->Stp g O g' O->K (aa9 Ta) g')(f:st.Wf≠k->∀g',RS lo g' M bp s l st (st.here (DB s)) 2 O->Stp g O g' O->K (aa9 Tc) g'):aa4 378 #[aa7 ⟨bp,0,Te⟩,ab0 k] g K:=by
 apply J3;refine X3 H ⟨_,rfl,λb=>?_,λb=>?_⟩;exact Jq H λg' p q=>⟨Tc,rfl,f (ψ b) g' p q⟩;have b:st.Wf=k:=ψ b
 have⟨n,c1,A,c⟩:=pn H (PSt.ne_kind b h) i;refine⟨_,rfl,_,by rw[zm];exact c1,_,rfl,?_⟩;rw[zm];exact c λg' p q=>m b g' p q
end
end
section
variable {g g':zb} {b:Nat} {O:Nat -> Prop}
def kR{x y:Value}(B:Blk g b #[x,y]){u v:Int}{K:zb->Prop}(f:∀g',(∀j,j≠b->g'[j]?=g[j]?)->g'.size=g.size->Blk g' b #[ab0 u,ab0 v]->K g'):wf Tp (YI 234 (aa7 ⟨b,0,Te⟩) (.agg #[ab0 u,ab0 v])) g K:=by refine Jn (vs:=[ab0 u,ab0 v]) tG B rfl t8 (YJ _) (λw c=>?_) λg' e i h=>f g' h i e;simp at c;obtain rfl|rfl:=c <;> rfl
def jU{u v:Value}(B:Blk g b #[u,v]):zc g ⟨b,0,Te⟩ 0 [u,v]:=B.ld (cs:=[u,v])
theorem RS.off{lo:Nat}{M:Fr}{bp:Nat}{s:Bs}{l:List Tk}{st:PSt}{a e:Int}(H:RS lo g M bp s l st a e O)(k:¬O b)(m:M b=Te)(o:g'.size=g.size)(f:∀j,j≠b->g'[j]?=g[j]?):RS lo g' M bp s l st a e O:= H.frame ω λc n i=>f c λh=>by subst h;obtain i|i:=i;exact k i;exact i m
theorem Stp.loc{g g' c:zb}{O O':ac5}(S:Stp g O g' O')(i:g.size<=b)(k:c.size=g'.size)(f:∀j,j≠b->c[j]?=g'[j]?):Stp g O c O':=⟨χ S.le,S.sub,λj e h=>(f j ω).trans (S.fr j e h)⟩
def ME(r:PR (Bs×Sp×PSt))(b:Bool)(x:Bs)(sp:Sp)(st':PSt)(a e:Int):Prop:=match r with
 |.inl t=>b=Ta/\t=(x,sp,st')
 |.inr y=>b=Tc/\y=(a,e)
section
variable {lo : Nat} {g : zb} {M gl : Fr} {bp : Nat} {s : Bs} {l : List Tk} {st : PSt} {a e : Int} {O : Nat -> Prop} {K : Value -> zb -> Prop}
def Ki(hg:GL gl)(hM:Fr.le gl M)(hs:s.length<=65536)(hl:l.length<=1000000)(H:RS lo g M bp s l st a e O)(hw:∀t∈st.rest,gW s t){σ:List Bs}{hd:Sl}{hb:ab1}{az:Nat}(ro:Fd az g M .str (σ.map Go.X.bl) hd hb)(hσ:σ.length<=1000000)(aO:∀c∈hb,¬O c) (hK:∀b g' st' a' e' x sp,RS lo g' M bp s l st' a' e' O->Stp g O g' O->st'.nodes=st.nodes->ME (iD s σ st) b x sp st' a' e'->K (.tuple #[aa6 (Go.X.bl x),.agg #[ab0 sp.1,ab0 sp.2],aa9 b]) g'):aa4 347 #[aa7 ⟨bp,0,Te⟩,aK hd] g K:=by
 apply Wv;intro h1;have⟨k1,z1,B1⟩:=yp (g:=h1) rfl;clear_value h1;have f:∀c,g.size<=c->¬O c:=λc Y h=>χ ((H.own h).2.1)
 have G:∀c,g.size<=c->M c=Te:=λc Y=>by
  cases e:M c with
  |none=>rfl
  |some x=>have:=H.ag.lt e;omega
 refine X3 (H.aa1 k1) ⟨_,rfl,λu=>?_,λu=>?_⟩;have u:¬st.Wf=8:=ψ u
 refine Jq (H.aa1 k1) λg' P' P=>⟨Tc,rfl,?_⟩;refine kR (B1.aa1 (P.fr g.size ω (f _ (YJ _)))) λg2 y z2 U=>⟨_,_,jU U,?_⟩;have hz:=P.le;refine hK Tc g2 st _ _ [] (0,0) (P'.off (f _ (YJ _)) (G _ (YJ _)) z2 y) (((Stp.aa1 (O:=O) k1).trans P).loc (YJ _) z2 y) rfl ?_;unfold iD;cases hr:st.rest with
 |nil=>exact⟨rfl,rfl⟩
 |cons t r=>
  have:¬t.1=8:=by unfold PSt.Wf at u;rw[hr]at u;exact u
  dsimp only;rw[za this];exact⟨rfl,rfl⟩
 have u:st.Wf=8:=ψ u
 have ab:=PSt.ne_kind u ω;have⟨t,r,er⟩:=zag ab;have au:t.1=8:=by unfold PSt.Wf at u;rw[er]at u;exact u
 have⟨w1,w2,w3,_⟩:=hw t (υ er);have eQ:iD s σ st=if(Qr (Yc s t.2)).1∈σ then st.err s 7
  else ite (st.skip.Wf=7) (.inl ((Qr (Yc s t.2)).1,t.2,st.skip.skip)) (st.skip.err s 2):=by
  unfold iD;rw[er];dsimp only;rw[zi au]
 have H1:=H.aa1 k1;have ax:=H1;have⟨ls,k,na,sl,b,cs,W,A,aN,eO⟩:=ax;have⟨hk,ek⟩:=A.cons er;have aU:=(Bx W.rd).1;have⟨tb,o,e1,e2,e3,e4⟩:=gH W.ag W.rd hk;rw[ek]at e3 e4;have S:=W.blk.lt;have ay:tb<h1.size:=by unfold zd at e3;obtain h|h:=zam tb h1.size;exact h;rw[Array.getElem?_eq_none h]at e3;cases e3
 refine⟨_,rfl,ls,by rw[zm];exact W.blk.cell rfl,_,rfl,(k:Int),by rw[zm];exact W.blk.cell rfl,_,⟨e1,ω,ω⟩,t.2.1,t.2.2,?_,?_⟩;rw[zm,zm,YL];exact⟨by rw[zm];exact e3,by rw[zm];exact e4,trivial⟩;intro ae;have⟨F,aV,ap⟩:=yp (g:=ae) rfl;clear_value ae;refine⟨by rw[zm,zm];exact F.get tb ay,by rw[zm];exact F.get bp S,by rw[zm];exact F.get bp S,?_⟩;refine kR ap λam aA aQ Z=>⟨_,rfl,?_⟩;have aa:Bk h1.size h1 am:=⟨ω,λj D=>(aA j ω).trans (F.get j D)⟩;have aG:=W.blk.aa1 (aa.get bp S);refine⟨Go.X.bl s,by rw[zm];exact aG.cell rfl,t.2.1,by rw[zm];exact Z.cell rfl,t.2.2,by rw[zm];exact Z.cell rfl,⟨w1,ω,by rw[zf];exact w3⟩,?_⟩;have ex:(Go.X.bl s).extract t.2.1.toNat t.2.2.toNat=Go.X.bl (Yc s t.2):=by rw[qa];rfl
 rw[ex];have aZ:(Yc s t.2).length<=65536:=by unfold Yc;rw[ZV,ZE];omega
 have ar:=H1.aa1 aa;refine(v4 (gl:=gl) (t:=Yc s t.2) ω (R:=λr=>r=(Go.X.bl (Qr (Yc s t.2)).1,((Qr (Yc s t.2)).2.1:Int),(Qr (Yc s t.2)).2.2)) rfl).go hM ar.ag (zn (a:=qr .str _) (DH _) zw) λv q M' rr L aF hr=>?_;subst hr;rw[zS aF];refine⟨_,_,_,rfl,?_⟩;have B:Bk h1.size h1 q:=aa.trans (c:=q) (m:=h1.size) ⟨L.aa1.size,λj D=>L.aa1.get j ω⟩ (YJ _);have z:Bk g.size g q:=k1.trans (c:=q) (m:=g.size) ⟨B.size,λj D=>B.get j ω⟩ (YJ _);have C:=H1.aa1 B;have aT:=L.aa1.size;have aI:Blk q h1.size #[ab0 t.2.1,ab0 t.2.2]:=Z.aa1 (L.aa1.get h1.size ω);have I:Blk q g.size #[ab0 0,ab0 0]:=B1.aa1 (B.get g.size ω);have ai:=ro.frame (λc Y=>z.get c (ro.own c Y).2.1) (Fr.le.refl M) λc Y=>(ro.own c Y).2.2;have aJ:=ai.rd C.ag (all:=hb) (λc Y=>Y) (by rw[YO];exact hσ);have an:=MxL.ag C.ag hb;have aY:hd.len=σ.length:=by rw[ro.len,YO]
 generalize aL:(Qr (Yc s t.2)).1=key at eQ;refine⟨λi h=>h=q/\∃n:Nat,i=(n:Int)/\n<=σ.length/\∀j (D:j<σ.length),j<n->σ[j]≠key,λi _=>σ.length-i.toNat,⟨rfl,0,rfl,ω,λj _ D=>ω⟩,?_⟩;rintro i h ⟨rfl,n,rfl,hn,ah⟩;refine⟨λE=>?_,λaf=>?_⟩;have E:n<σ.length:=χ (zB E)
 have⟨ad,⟨q1,q2,q3⟩,x,q4,q5⟩:=gS an aJ (k:=n) (by rw[YO];exact E) (i:=(n:Int)) rfl (L:=hd.len) rfl (Q:=λx=>x=Go.X.bl σ[n]) (by rw[zby]);subst q5;refine⟨ad,⟨q1,q2,q3⟩,_,q4,?_⟩;rw[fS];refine⟨λhy=>?_,λhy=>?_⟩;have hy:σ[n]=key:=zB hy;refine Jq C λg' P' P=>⟨Tc,rfl,?_⟩;have hz:=P.le;refine kR (I.aa1 (P.fr g.size ω (f _ (YJ _)))) λg2 y z2 U=>⟨_,_,jU U,?_⟩;refine hK Tc g2 st _ _ [] (0,0) (P'.off (f _ (YJ _)) (G _ (YJ _)) z2 y) (((Stp.aa1 (O:=O) z).trans P).loc (YJ _) z2 y) rfl ?_;rw[eQ,zi (by rw[<-hy];exact YY E)];exact⟨rfl,rfl⟩;have hy:¬σ[n]=key:=zC hy;rw[bR ω];refine⟨⟨rfl,n+1,ω,ω,λj D aP=>?_⟩,by dsimp only;omega⟩;obtain h|h:=zam j n;exact ah j D h;have:j=n:=ω
 subst this;exact hy;have af:σ.length<=n:=χ (zC af)
 have aj:¬key∈σ:=λhm=>by have⟨j,D,e⟩:=zbm hm;exact ah j D ω e
 rw[za aj]at eQ;have⟨kk,c1,A2,aE⟩:=pn C ab hl;refine⟨_,rfl,_,by rw[zm];exact c1,_,rfl,?_⟩;rw[zm];refine aE λaS aC w=>?_;have aM:=w.le;have aH:=aI.aa1 (w.fr h1.size ω (f _ ω));have N:=I.aa1 (w.fr g.size ω (f _ ω));refine⟨t.2.1,t.2.2,jU aH,?_⟩;have J:=Stp.aa1 (O:=O) z;refine Pp aC hl ω (λh7 aB V p=>⟨Ta,rfl,?_⟩) (λh7 aB V p=>⟨Tc,rfl,?_⟩);have ak:=p.le;refine⟨p.fr h1.size ω (f _ ω),p.fr h1.size ω (f _ ω),?_⟩;refine kR (N.aa1 (p.fr g.size ω (f _ ω))) λg2 y z2 U=>⟨_,_,jU U,?_⟩;refine hK Ta g2 st.skip.skip _ _ key t.2 (V.off (f _ (YJ _)) (G _ (YJ _)) z2 y) (((J.trans w).trans p).loc (YJ _) z2 y) (by rw[qw,qw]) ?_;rw[eQ,zi h7];exact⟨rfl,rfl⟩;have ak:=p.le;refine⟨p.fr h1.size ω (f _ ω),p.fr h1.size ω (f _ ω),?_⟩;refine kR (N.aa1 (p.fr g.size ω (f _ ω))) λg2 y z2 U=>⟨_,_,jU U,?_⟩;refine hK Tc g2 st.skip _ _ key t.2 (V.off (f _ (YJ _)) (G _ (YJ _)) z2 y) (((J.trans w).trans p).loc (YJ _) z2 y) (by rw[qw]) ?_;rw[eQ,za h7];exact⟨rfl,rfl⟩
end
end
section
def xG(g:zb)(bp:Nat):Nat:=match zd g ⟨bp,1,Te⟩,zd g ⟨bp,2,Te⟩with
 |some (.slice _ n _),Td (.int _ k)=>n-k.toNat
 |_,_=>0
theorem RS.left{lo:Nat}{g:zb}{M:Fr}{bp:Nat}{s:Bs}{l:List Tk}{st:PSt}{a e:Int}{O:ac5}(H:RS lo g M bp s l st a e O):xG g bp=DB st.rest:=by obtain⟨ls,k,na,sl,b,cs,W,A,h1,rfl⟩:=H;unfold xG;rw[W.blk.cell (o:=1) (v:=aK ls) rfl,W.blk.cell (o:=2) (v:=.int .i64 (k:Int)) rfl];show ls.len-(k:Int).toNat=_;rw[A.rest,ZE,(Bx W.rd).1,YL]
def pU:GS Tp 22 9 (aa6 ⟨#[]⟩) (sz .str) 16:=⟨κ,⟨Tryz.t9,κ,κ,κ,κ⟩,rfl,ζ⟩
def pV(lo:Nat)(M:Fr)(bp:Nat)(s:Bs)(l:List Tk)(lv:Int)(val:fV):Prop:=
 ∀(key:Sp) (g:zb) (st:PSt) (a e:Int) (O:Nat->Prop),RS lo g M bp s l st a e O->st.nodes.length<=4096->st.T<=200000->(∀t∈st.rest,gW s t) ->
  ∀K:Value->zb->Prop,(∀b g' st' a' e' O',RS lo g' M bp s l st' a' e' O'->Stp g O g' O'->st.nodes.length<=st'.nodes.length->mL (val key st) b st' a' e'->K (.bool b) g')->XC Tp 229 #[.pointer (Td ⟨bp,0,Te⟩),.int .i64 lv,.agg #[.int .i64 key.1,.int .i64 key.2]] g K
section
variable {lo : Nat} {g : zb} {M gl : Fr} {bp : Nat} {s : Bs} {l : List Tk} {st : PSt} {a e : Int} {O : Nat -> Prop} {K : Value -> zb -> Prop} {val : fV}
def CP(hg:GL gl)(hM:Fr.le gl M)(hs:s.length<=65536)(hl:l.length<=65536){ak lv:Int}(di:p3 (ak+1)=lv)(hv:pV lo M bp s l lv val)(aS:sD val) {closing:Int} (bL:closing≠0) (dL:closing≠6) {kid:fB} (ai:(closing=3/\kid=fG s val)\/(closing≠3/\kid=fT val)) (H:RS lo g M bp s l st a e O) (h4:st.nodes.length<=4096) (hT:st.T<=200000) (hw:∀t∈st.rest,gW s t) (dE:st.rest.length<DB l) {n:Nat} (hn:n<DB st.nodes) (hK:∀b g' st' a' e' O',RS lo g' M bp s l st' a' e' O'->Stp g O g' O'->DB st.nodes<=DB st'.nodes->mL (Je s n closing kid st) b st' a' e'->K (aa9 b) g'):aa4 289 #[aa7 ⟨bp,0,Te⟩,ab0 (n:Int),ab0 ak,ab0 closing] g K:=by
 have b8:lG kid:=by obtain⟨_,rfl⟩|⟨_,rfl⟩:=ai;exact rJ aS;exact pF aS
 apply Jz;have Hc:=H;have⟨ls,k,na,sl,b,cs,W,A,dq,eO⟩:=Hc;have dQ:=(Bx W.rd).1;have hk:0<k:=by have:=A.rest;obtain h|h:=zcg k;simp_all;exact h
 have dT:=A.le;have bQ:k-1<DB l:=ω
 have⟨tb,o,e1,e2,e3,e4⟩:=gH W.ag W.rd bQ;have dh:=A.last _ hk (YS bQ);have dv:p3 ((k:Int)-1)=((k-1:Nat):Int):=by rw[bR ω];omega
 have d0:∀c,g.size<=c->¬O c:=λc q h=>χ ((H.own h).2.1)
 have bE:∀c,g.size<=c->M c=Te:=λc q=>by
  cases e:M c with
  |none=>rfl
  |some x=>have:=H.ag.lt e;omega
 refine⟨_,rfl,ls,by rw[zm];exact W.blk.cell rfl,_,rfl,(k:Int),by rw[zm];exact W.blk.cell rfl,_,⟨e1,ω,ω⟩,st.last,?_,?_⟩;simp_all[zm];refine X3 H ⟨_,rfl,λhx=>?_,λhx=>?_⟩;have hx:st.Wf=closing:=ψ hx
 have⟨k2,c1,A2,aM⟩:=pn H (PSt.ne_kind hx bL) ω;refine⟨_,rfl,_,by rw[zm];exact c1,_,rfl,?_⟩;rw[zm];refine aM λg' P' S'=>hK Ta g' st.skip a e O P' S' (by rw[qw];omega) ?_;unfold Je;rw[zi hx];exact⟨rfl,rfl⟩;have ck:¬st.Wf=closing:=ψ hx
 refine⟨λhad bD h=>∃(f:Nat) (σ:List Bs) (st1:PSt) (a1 e1:Int) (D:ac5) (Y:ab1),RS lo h M bp s l st1 a1 e1 D/\Fd g.size h M .str (σ.map Go.X.bl) had Y/\(∀c∈Y,¬D c)/\Stp g O h D/\Okk st st1 0/\DB st1.rest<f/\σ.length+DB st1.rest<=200000/\Je s n closing kid st=Yb s n closing kid f σ st1/\bD=st1.last,λ_ _ h=>xG h bp,⟨DB st.rest+1,[],st,a,e,O,[],H,.nil,λc q=>(ε q),Stp.refl g O,Okk.refl st,ω,η,by unfold Je;rw[za ck],rfl⟩,?_⟩;rintro had bD d ⟨f,σ,st1,a1,e1,D,Y,P1,ro,ah,S1,P,hf,hσ,hL,rfl⟩;obtain⟨f,rfl⟩:∃f',f=f'+1:=⟨f-1,ω⟩;have dr:n<DB st1.nodes:=χ P.n
 have dx:=P1.left;have dY:=S1.le;intro V;have⟨be,dw,bY⟩:=yp (g:=V) rfl;clear_value V;have bZ:=P1.aa1 be;have aZ:Stp g O V D:=S1.trans (Stp.aa1 be);have E:=ro.frame (λc q=>be.get c (ro.own c q).2.1) (Fr.le.refl M) λc q=>(ro.own c q).2.2;have aP:∀c,D c->c<d.size:=λc h=>(P1.own h).2.1;intro cP bO;have fin:∀(R:Sl) (F:zb) (σ':List Bs) (S:ab1) (key:Sp) (u:PSt) (a2 e2:Int),RS lo F M bp s l u a2 e2 D->Fd g.size F M .str (σ'.map Go.X.bl) R S->(∀c∈S,¬D c)->Blk F d.size #[ab0 key.1,ab0 key.2]->Stp g O F D->Okk st1 u 0->u.nodes=st1.nodes->σ'.length+DB u.rest<=200000->kid σ st1=(match val key u with | .inl st'=>.inl (σ',st') | .inr e=>.inr e)->cP R F:=by
  intro R F σ' S key u a2 e2 bV U aj cy bM bP az dS z;refine bO R F ?_;have C:=P.trans bP;have Pc:=bV;have⟨dF,k1,dM,bH,b1,dH,W1,A1,aH,dV⟩:=Pc;have l1:bH.len=DB st1.nodes:=by rw[W1.ns.len,<-az,<-aH,YO]
  refine⟨_,rfl,bH,by rw[zm];exact W1.blk.cell rfl,key.1,key.2,jU cy,?_⟩;rw[di,l1];refine hv key F u a2 e2 D bV (C.m h4) (χ C.t) (λt ht=>hw t (C.w t ht)) _ λbb g2 st2 a3 e3 O2 P2 S2 n2 A2=>⟨bb,rfl,λN=>?_,λN=>?_⟩;have N:bb=Tc:=ψ N
  subst N;refine hK Tc g2 st2 a3 e3 O2 P2 (bM.trans S2) (χ C.n) ?_;rw[hL,Yb,z];cases hr:val key u with
  |inl t=>rw[hr]at A2;exact absurd A2.1 ξ
  |inr x=>rw[hr]at A2;omega
  have N:bb=Ta:=ψ N
  subst N;have aG:val key u=.inl st2:=by
   cases hr:val key u with
   |inl t=>rw[hr]at A2;rw[A2.2]
   |inr x=>rw[hr]at A2;exact absurd A2.1 ξ
  rw[aG]at z;have z:kid σ st1=.inl (σ',st2):=z;have cZ:=aS _ _ _ aG;have Z:=b8 _ _ _ _ z;rw[Yb,z]at hL;dsimp only at hL;have aC:=bM.trans S2;refine X3 P2 ⟨_,rfl,λv h=>h=g2/\∃x:Int,v=.int .i64 x/\(¬st2.Wf=6->x=st2.Wf),λh6=>X3 P2 ⟨_,rfl,rfl,_,rfl,λ_=>rfl⟩,λh6=>⟨0,rfl,0,rfl,λhh=>absurd (ψ h6) hh⟩,λ_ v h ⟨_,x,hx,_⟩=>⟨x,hx⟩,?_⟩;rintro x h34 ⟨rfl,x',cJ,da⟩;cases cJ;have aJ:(cond (st2.Wf != 6) (x != closing) Tc)=!hV (st2.Wf=6\/st2.Wf=closing):=by by_cases h6:st2.Wf=6;simp[h6];rw[da h6];by_cases B:st2.Wf=closing;simp[B];simp[h6,B]
  rw[aJ];refine⟨λhy=>?_,λhy=>?_⟩;have hy:¬(st2.Wf=6\/st2.Wf=closing):=ψ hy
  rw[za (λh=>hy (.inr h)),za (λh=>hy (.inl h))]at hL;refine Jq P2 λg' P' S'=>⟨Tc,rfl,hK Tc g' _ _ _ _ P' (aC.trans S') (χ C.n) ?_⟩;rw[hL];exact⟨rfl,rfl⟩;have hy:st2.Wf=6\/st2.Wf=closing:=zB (by rwa[Bool.not_eq_false']at hy);have J:st2.rest≠[]:=by obtain h|h:=hy;exact PSt.ne_kind h ω;exact PSt.ne_kind h bL
  have cB:=P2;have⟨dC,k2,na,sl,b,cs,W,bj,h1,cQ⟩:=cB;have dB:na.length=DB st2.nodes:=by rw[<-h1,YO]
  have aA:n<DB na:=χ Z.n
  have⟨q1,q2,q3,q4,q5⟩:=W.ns.cell aA;have c7:fF na[n].1<=200000:=by
   have h:na[n].1∈st2.nodes:=by rw[<-h1];exact List.mem_map_of_mem (YY aA)
   have:=nP h;have:=Z.t;have:=P.t;omega
  unfold fF at c7;have dD:sl.len=DB na:=W.ns.len;have aY:bp<h34.size:=W.blk.lt;have cn:b<h34.size:=(W.ns.own (.inl ⟨q3,rfl⟩)).2.1;refine⟨_,rfl,sl,by rw[zm];exact W.blk.cell rfl,_,rfl,sl,by rw[zm];exact W.blk.cell rfl,⟨b,0,Te⟩,⟨q1,ω,ω⟩,na[n].2.ks,?_,?_⟩;rw[zm,zm,YL,ZO];exact q5 5 _ ω rfl;intro ax;have⟨G,dG,cj⟩:=yp (g:=ax) rfl;clear_value ax;have cH:NSt lo h34 M na sl b ax na cs:=⟨W.ns.frame G.size λc q=>G.get c (W.ns.own q).2.1,G.size,λc h=>.inl h,λj hj _=>G.get j hj⟩;have⟨ar,co⟩:=W.nst cH;have bn:lo<=ax.size:=χ ((ar.own (.inl rfl)))
  refine⟨by rw[zm,zm];exact G.get b cn,by rw[zm];exact G.get bp aY,by rw[zm];exact G.get bp aY,?_⟩;refine NS.addK lc ω ar.ag bn ar.ns aA cj ω rfl λs' dA ae cG dU c8 aM=>⟨s',rfl,⟨b,0,Te⟩,⟨q1,ω,ω⟩,?_⟩;refine⟨by rw[zm];exact(c8 bp ω W.nb).trans (G.get bp aY),?_⟩;rw[zm,zm,YL,ZO];refine qj Ei ER cG ω rfl λaI u1 u2 u3=>?_;have⟨Q,bq⟩:=ar.nst (aM aI u1 u2 u3);have aF:n<(na.modify n (gw (DB st1.nodes:Int) s' ae)).length:=by rw[List.length_modify];exact aA
  have a8:(na.modify n (gw (DB st1.nodes:Int) s' ae))[n]=gw (DB st1.nodes:Int) s' ae na[n]:=by rw[List.getElem_modify,zi rfl]
  have⟨r1,r2,r3,r4,r5⟩:=Q.ns.cell aF;rw[a8]at r5;have dz:=bq.le;refine⟨_,rfl,sl,by rw[zm];exact Q.blk.cell rfl,_,rfl,sl,by rw[zm];exact Q.blk.cell rfl,⟨b,0,Te⟩,⟨q1,ω,ω⟩,na[n].2.ps,?_,?_⟩;rw[zm,zm,ZO];exact r5 6 _ ω rfl;have cV:RS lo aI M bp s l ⟨st2.rest,st2.last,(na.modify n (gw (DB st1.nodes:Int) s' ae)).map (·.1)⟩ a3 e3 _:=⟨_,_,_,_,_,_,Q,bj.same rfl rfl,rfl,rfl⟩;refine uH cV ⟨_,rfl,rfl,rfl,rfl,rfl,rfl,rfl,?_⟩;intro ap;have⟨I,dZ,db⟩:=yp (g:=ap) rfl;clear_value ap;refine⟨by rw[zm,zm];exact I.get b ω,by rw[zm];exact I.get bp ω,by rw[zm];exact I.get bp ω,?_⟩;have cb:NSt lo aI M _ sl b ap _ _:=⟨Q.ns.frame I.size λc q=>I.get c (Q.ns.own q).2.1,I.size,λc h=>.inl h,λj hj _=>I.get j hj⟩;have⟨ab,cc⟩:=Q.nst cb;have bN:lo<=ap.size:=χ ((ab.own (.inl rfl)))
  refine NS.addP DZ ω ab.ag bN ab.ns aF (k:=(st1.last,st2.here (DB s))) db (by rw[a8];show na[n].1.2.2.2.2.length<=_;omega) (π a8) λs2 dJ cp cE dP cA b7=>⟨s2,rfl,⟨b,0,Te⟩,⟨q1,ω,ω⟩,?_⟩;refine⟨by rw[zm];exact(cA bp ω ab.nb).trans (I.get bp ω),?_⟩;rw[zm,zm,ZO];refine qj AT F4 cE ω rfl λbA v1 v2 v3=>?_;have⟨cL,cg⟩:=ab.nst (b7 bA v1 v2 v3);have au:((na.modify n (gw (DB st1.nodes:Int) s' ae)).modify n (mw (st1.last,st2.here (DB s)) s2 cp)).map (·.1)=(st2.addKid n (DB st1.nodes:Int) (st1.last,st2.here (DB s))).nodes:=by
   rw[Qe (f':=λx=>(x.1,x.2.1,x.2.2.1,x.2.2.2.1,x.2.2.2.2++[(st1.last,st2.here (DB s))])) (λp=>rfl),Qe (f':=λx=>(x.1,x.2.1,x.2.2.1,x.2.2.2.1++[(DB st1.nodes:Int)],x.2.2.2.2)) (λp=>rfl),h1];unfold PSt.addKid;apply zar;intro i;rw[zax,zax,zax];cases st2.nodes[i]? with
   |none=>rfl
   |some x=>by_cases e:n=i <;> simp[e,me]
  have aN:RS lo bA M bp s l (st2.addKid n (DB st1.nodes:Int) (st1.last,st2.here (DB s))) a3 e3 _:=⟨_,_,_,_,_,_,cL,bj.same rfl rfl,au,rfl⟩;have af:=((co.trans bq).trans cc).trans cg;rw[<-cQ]at af;have aB:=aC.trans af;have bJ:(st2.addKid n (DB st1.nodes:Int) (st1.last,st2.here (DB s))).Wf=st2.Wf:=rfl;have bU:(st2.addKid n (DB st1.nodes:Int) (st1.last,st2.here (DB s))).here (DB s)=st2.here (DB s):=rfl;have cd:=Yl st2 n (DB st1.nodes:Int) (st1.last,st2.here (DB s));refine X3 aN ⟨_,rfl,uH aN ⟨_,rfl,?_⟩⟩;rw[bJ,bU];have⟨kk,c1,A3,bu⟩:=pn aN (show(st2.addKid n (DB st1.nodes:Int) (st1.last,st2.here (DB s))).rest≠[]from J) ω;refine⟨_,rfl,_,by rw[zm];exact c1,_,rfl,?_⟩;rw[zm];refine bu λcT aV aT=>⟨λB=>?_,λB=>?_⟩;have B:st2.Wf=closing:=ψ B
  rw[zi B]at hL;refine hK Ta cT _ _ _ _ aV (aB.trans aT) (by rw[qw];have:=C.n;omega) ?_;rw[hL];exact⟨rfl,rfl⟩;have B:¬st2.Wf=closing:=ψ B
  have h6:st2.Wf=6:=by obtain h|h:=hy;exact h;omega
  rw[za B,zi h6]at hL;have aQ:=sN b8 z (n:=n) (k:=(DB st1.nodes:Int)) (p:=(st1.last,st2.here (DB s))) J;have bT:=af.trans aT;have aE:=S2.trans bT;refine⟨⟨f,σ',_,_,_,_,S,aV,?_,?_,aB.trans aT,(P.trans aQ).le ω,χ aQ.r,?_,hL,?_⟩,?_⟩;exact U.frame (λc q=>aE.fr c (U.own c q).2.1 (aj c q)) (Fr.le.refl M) λc q=>(U.own c q).2.2;intro c q L;obtain h|h:=aE.sub c L;exact aj c q h;have:=(U.own c q).2.1;omega;have:=cZ.r;have⟨t,r,er⟩:=zag J;have e1:(st2.addKid n (DB st1.nodes:Int) (st1.last,st2.here (DB s))).skip.rest.length+1=DB st2.rest:=Ck (st:=st2.addKid n (DB st1.nodes:Int) (st1.last,st2.here (DB s))) J;omega;have⟨t,r,er⟩:=zag J;have du:t.1=6:=by unfold PSt.Wf at h6;rw[er]at h6;exact h6
  have⟨w1,w2,w3,w4⟩:=hw t (P.w t (Z.w t (υ er)));have w5:=w4 ω;have e1:st2.here (DB s)=t.2.1:=by unfold PSt.here;rw[er]
  have e2:(st2.addKid n (DB st1.nodes:Int) (st1.last,st2.here (DB s))).skip.last=t.2.2:=by unfold PSt.skip PSt.addKid;dsimp only;rw[er]
  rw[e1,e2]at *;rw[bR ω];omega;have e1:=aV.left;have:=aQ.r;simp;omega
 have b6:Okk st1 st1 0:=Okk.refl st1;refine⟨λh3=>?_,λh3=>?_⟩;have h3:closing=3:=ψ h3
 have z:kid=fG s val:=by obtain⟨_,h⟩|⟨h,_⟩:=ai;exact h;omega
 have dt:∀c,g.size<=c->M c=Te:=bE;refine Ki hg hM hs ω bZ (λt ht=>hw t (P.w t ht)) E ω ah λbb a7 u a2 e2 x sp cY ca az AQ=>⟨_,_,_,_,rfl,?_⟩;intro bm;have⟨de,dy,cM⟩:=yp (g:=bm) rfl;clear_value bm;have dI:=ca.le;refine kR cM λaO cu dN cq=>?_;have bF:Bk a7.size a7 aO:=⟨ω,λj hj=>(cu j ω).trans (de.get j hj)⟩;have bC:=cY.aa1 bF;have b9:Stp V D aO D:=ca.trans (Stp.aa1 bF);refine⟨λN=>?_,λN=>?_⟩;have N:bb=Tc:=ψ N
 subst N;refine hK Tc aO u a2 e2 D bC (aZ.trans b9) (by rw[az];exact P.n) ?_;rw[hL,Yb,z,yH];cases hr:iD s σ st1 with
 |inl t=>rw[hr]at AQ;exact absurd AQ.1 ξ
 |inr y=>rw[hr]at AQ;exact⟨rfl,AQ.2⟩
 have N:bb=Ta:=ψ N
 subst N;have bg:iD s σ st1=.inl (x,sp,u):=by
  cases hr:iD s σ st1 with
  |inl t=>rw[hr]at AQ;rw[AQ.2]
  |inr y=>rw[hr]at AQ;exact absurd AQ.1 ξ
 have⟨am,_⟩:=DF bg;have am:Okk st1 u 4:=am;intro aa;have⟨aU,dO,cz⟩:=yp (g:=aa) rfl;clear_value aa;have bI:=bC.aa1 aU;have an:Stp V D aa D:=b9.trans (Stp.aa1 aU);have bz:=E.frame (λc q=>an.fr c (E.own c q).2.1 (ah c q)) (Fr.le.refl M) λc q=>(E.own c q).2.2;have dm:=an.le;have nh:∀c∈Y,c<d.size:=λc q=>(ro.own c q).2.1;refine Fd.app pU ω bI.ag bz ω cz (x:=Go.X.bl x) rfl φ λs' a6 cC br cF bB ay=>⟨s',rfl,sp.1,sp.2,?_,?_⟩;refine jU (cq.aa1 ?_);rw[ay a7.size ω λhm=>χ (nh _ hm)];exact aU.get _ ω;have bS:∀j,j<aa.size->(D j\/M j≠Te)->a6[j]?=aa[j]?:=λj hj L=>ay j hj λhm=>by obtain L|L:=L;exact ah j hm L;exact L (ro.own j hm).2.2
 have dl:=bI.frame cF λc q L=>bS c q L;have df:Blk a6 d.size #[ab0 0,ab0 0]:=by refine bY.aa1 ?_;rw[ay d.size ω λhm=>χ (nh _ hm)];exact an.fr _ ω λL=>χ (aP _ L)
 refine kR df λcO ba bG cm=>?_;have aL:¬D d.size:=λL=>χ (aP _ L)
 refine fin s' cO (σ++[x]) cC sp u a2 e2 (dl.off aL (bE _ ω) bG ba) ?_ ?_ cm ?_ (am.le ω) az ?_ ?_;rw[zaa];refine br.frame (λc q=>ba c λe=>?_) (Fr.le.refl M) λc q=>(br.own c q).2.2;obtain h|h:=bB c q;have:=nh c h;omega;omega;intro c q L;obtain h|h:=bB c q;exact ah c h L;have:=aP c L;omega;have Sg:Stp g O a6 D:=by have A0:=aZ.trans an;refine⟨ω,A0.sub,λj hj hn=>?_⟩;rw[ay j ω λhm=>χ ((ro.own j hm).1)];exact A0.fr j hj hn
 exact Sg.loc ω bG ba;rw[YM];have:=am.r;simp;omega;rw[z,yH,bg];rfl;have h3:¬closing=3:=ψ h3
 have z:kid=fT val:=by obtain⟨h,_⟩|⟨_,h⟩:=ai;omega;exact h
 exact fin had V σ Y (0,0) st1 a1 e1 bZ E ah bY aZ b6 rfl hσ (by rw[z];unfold fT;rfl)
end
end
section
def Fa:GS Tp 160 241 (.agg #[ab0 0,ab0 0,ab0 0,ab0 0,ab0 0,.slice Te 0 0,.slice Te 0 0]) 7 88:=⟨κ,⟨Tryz.t241,κ,κ,κ,κ⟩,rfl,ζ⟩
def Ew:qq Tp 160=Ta:=κ
def HC:jk Tp 160=1:=κ
def SL:qq Tp 213=Ta:=κ
def Rw:jk Tp 213=1:=κ
section
variable {lo : Nat} {M gl : Fr} {bp : Nat} {s : Bs}
def QL(hg:GL gl)(hM:Fr.le gl M)(hs:s.length<=65536):∀d:Nat,d<=32->u6 lo M bp s (33-(d:Int)) (Zr s d):=by
 intro d;induction d with
 |zero=>intro hd key g st a e O P h4 hT hw K hK;apply Q2;intro h1 h2;have k1:Bk g.size g h1:=rg _ _ (YJ _);have k2:Bk h1.size h1 h2:=rg _ _ (YJ _);have z1:h1.size=g.size+1:=YW _;have B1:Blk h1 g.size #[aa7 ⟨bp,0,Te⟩]:=v0 _ _ _;clear_value h1 h2;have q:Bk g.size g h2:=k1.trans k2 ω;have B2:=B1.aa1 (k2.get g.size ω);refine⟨_,B2.cell rfl,s4 (P.aa1 q) ⟨_,rfl,?_⟩⟩;refine(Ii (k:=st.Wf) (R:=λr=>r=zu st.Wf) rfl).go hM (P.aa1 q).ag (zn (a:=qr q0 _) (Zj _ _) zw) λv h8 M' r L hv hr=>⟨r,pe hv,?_⟩;subst hr;have B:=L.aa1;have k8:Bk g.size g h8:=q.trans B q.size;have H:=B2.aa1 (B.get g.size (by have:=q.size;have:=k2.size;omega));refine⟨λu=>⟨_,H.cell rfl,?_⟩,λu=>⟨λhy=>⟨_,H.cell rfl,?_⟩,λhy=>?_⟩⟩;refine X1 (P.aa1 k8) λg' E n=>⟨Tc,rfl,hK Tc g' st _ _ O E ((Stp.aa1 (O:=O) k8).trans n) (YJ _) ?_⟩;rw[Zr,zi (ψ u)];exact⟨rfl,rfl⟩;refine X1 (P.aa1 k8) λg' E n=>⟨Tc,rfl,hK Tc g' st _ _ O E ((Stp.aa1 (O:=O) k8).trans n) (YJ _) ?_⟩;rw[Zr,za (ψ u)];exact⟨rfl,rfl⟩;exact absurd (zC hy) ω
 |succ d ih=>
  intro hd key g st a e O P h4 hT hw K hK;have ih:=ih ω;have aC:=lh s d;apply Q2;intro h1 h2;have k1:Bk g.size g h1:=rg _ _ (YJ _);have k2:Bk h1.size h1 h2:=rg _ _ (YJ _);have z1:h1.size=g.size+1:=YW _;have z2:h2.size=h1.size+1:=YW _;have B1:Blk h1 g.size #[aa7 ⟨bp,0,Te⟩]:=v0 _ _ _;have T:Blk h2 h1.size #[ab0 key.1,ab0 key.2]:=v0 _ _ _;clear_value h1 h2;have q:Bk g.size g h2:=k1.trans k2 ω;have B2:=B1.aa1 (k2.get g.size ω);refine⟨_,B2.cell rfl,s4 (P.aa1 q) ⟨_,rfl,?_⟩⟩;refine(Ii (k:=st.Wf) (R:=λr=>r=zu st.Wf) rfl).go hM (P.aa1 q).ag (zn (a:=qr q0 _) (Zj _ _) zw) λv h8 M' r L hv hr=>⟨r,pe hv,?_⟩;subst hr;have B:=L.aa1;have k8:Bk g.size g h8:=q.trans B q.size;have z8:h2.size<=h8.size:=B.size;have H:=B2.aa1 (B.get g.size ω);have bz:=T.aa1 (B.get h1.size ω);have P8:=P.aa1 k8;have S8:Stp g O h8 O:=Stp.aa1 k8;refine⟨λu=>⟨_,H.cell rfl,?_⟩,λu=>⟨λhy=>?_,λhy=>?_⟩⟩;refine X1 P8 λg' E n=>⟨Tc,rfl,hK Tc g' st _ _ O E (S8.trans n) (YJ _) ?_⟩;rw[Zr,zi (ψ u)];exact⟨rfl,rfl⟩;have:=zB hy;omega;have u:¬zu st.Wf=0:=ψ u
  have Y:=oY u;have⟨t,r,er⟩:=zag Y;have bu:=P8;have⟨rs,lf,na,sl,b,cs,W,ax,eO⟩:=bu;have aM:na.length=DB st.nodes:=by rw[<-ax,YO]
  have ab:sl.len=DB st.nodes:=by rw[W.ns.len,aM]
  refine⟨_,H.cell rfl,_,rfl,sl,by rw[zm];exact W.blk.cell rfl,?_⟩;rw[ab];refine⟨λhz=>⟨_,H.cell rfl,?_⟩,λhz=>?_⟩;refine X1 P8 λg' E n=>⟨Tc,rfl,hK Tc g' st _ _ O E (S8.trans n) (YJ _) ?_⟩;have hz:st.nodes.length=4096:=χ (zB hz)
  rw[Zr,za u,zi hz];exact⟨rfl,rfl⟩;have hz:¬st.nodes.length=4096:=λh=>θ
  have eV:Zr s (d+1) key st=match fk s (Zr s d) (DB st.nodes) (zu st.Wf) (st.open key)with
   |.inl p=>.inl (p.setTo (DB st.nodes))
   |.inr e=>.inr e:=by rw[Zr,za u,za hz];rfl
  have rd:=W.rd;have hl:=(Bx W.rd).1;rw[er]at rd hl;rw[YU]at hl;have⟨tb,o,e1,e2,e3,e4⟩:=gH W.ag rd (k:=0) ξ;have ba:st.Wf=t.1:=by unfold PSt.Wf;rw[er]
  have aQ:bp<h8.size:=W.blk.lt;have aG:∀c,O c->c<g.size:=λc h=>(P.own h).2.1;refine⟨_,H.cell rfl,_,rfl,sl,by rw[zm];exact W.blk.cell rfl,_,H.cell rfl,_,H.cell rfl,_,rfl,sl,by rw[zm];exact W.blk.cell rfl,_,H.cell rfl,_,rfl,rs,by rw[zm];exact W.blk.cell rfl,_,⟨e1,ω,ω⟩,t.2.1,t.2.2,?_,key.1,key.2,bz.ld (cs:=[ab0 key.1,ab0 key.2]),rfl,rfl,rfl,?_⟩;rw[zm,zm];exact⟨by rw[zm];exact e3,by rw[zm];exact e4,trivial⟩;intro S;have⟨A,bM,a6⟩:=yp (g:=S) rfl;clear_value S;refine⟨by rw[zm];exact A.get bp aQ,A.get g.size ω,A.get g.size ω,?_⟩;have aP:NSt lo h8 M na sl b S na cs:=⟨W.ns.frame A.size λc hc=>A.get c (W.ns.own hc).2.1,A.size,λc h=>.inl h,λj F _=>A.get j F⟩;have⟨C,a8⟩:=W.nst aP;have am:lo<=S.size:=χ ((C.own (.inl rfl)))
  refine NS.push Fa ω C.ag am C.ns (x:=(zu st.Wf,t.2,key,[],[])) rfl rfl a6 ω λs' bL b' v aI bF aB Z=>⟨s',rfl,_,rfl,?_⟩;have br:¬fN na sl b g.size:=λh=>by have:=aG g.size (by rw[eO];exact .inr h);omega
  refine⟨(Z g.size ω br).trans (A.get g.size ω),?_⟩;rw[zm];have aj:¬fN (na++[((zu st.Wf,t.2,key,[],[]),fE)]) s' b' bp:=λh=>by obtain h|h:=aB bp h;exact W.nb h;omega
  have az:=C.blk.aa1 (Z bp ω C.nb);refine qj Ew HC az (by show 4<7;omega) rfl λaf u1 u2 u3=>?_;have bg:PW lo af M bp s st.rest st.last a e rs lf (na++[((zu st.Wf,t.2,key,[],[]),fE)]) s' b' v:=by refine⟨u1,W.rd,aI.frame ω λc hc=>u3 c λh=>aj (h ▸ hc),i6 C.ag λj F hm=>?_,W.bl,aj⟩;rw[u3 j λh=>hm (h ▸ W.bl.2)];exact Z j F λh=>hm (C.ns.own h).2.2
  have aH:Stp S (ft bp na sl b) af (ft bp (na++[((zu st.Wf,t.2,key,[],[]),fE)]) s' b'):=by refine⟨ω,λc h=>?_,λj F hn=>?_⟩;obtain h|h:=h;exact .inl (.inl h);obtain h|h:=aB c h;exact .inl (.inr h);exact .inr h;rw[u3 j λh=>hn (.inl h)];exact Z j F λh=>hn (.inr h)
  have aA:PaS lo af M bp s ⟨st.rest,st.last,st.nodes++[(zu st.Wf,t.2,key,[],[])]⟩ a e (ft bp (na++[((zu st.Wf,t.2,key,[],[]),fE)]) s' b'):=⟨rs,lf,_,_,_,_,bg,θ,rfl⟩;have G:Stp h8 O af (ft bp (na++[((zu st.Wf,t.2,key,[],[]),fE)]) s' b'):=by rw[eO];exact a8.trans aH
  generalize ft bp (na++[((zu st.Wf,t.2,key,[],[]),fE)]) s' b'=O45 at aA G;have aa:¬O g.size:=λh=>η
  have aL:=H.aa1 (G.fr g.size ω aa);refine⟨_,aL.cell rfl,vQ aA Y λf I a7=>⟨rfl,?_⟩⟩;have aF:(⟨st.rest,st.last,st.nodes++[(zu st.Wf,t.2,key,[],[])]⟩:PSt).skip=st.open key:=by unfold PSt.skip PSt.open;rw[ba];dsimp only;rw[er]
  rw[aF]at I;have z:=G.trans a7;have aZ:=z.le;have ai:∀c,c<h8.size->¬O c->¬O45 c:=λc hc hn h=>by obtain h|h:=G.sub c h;exact hn h;omega
  have ah:=H.aa1 (z.fr g.size ω aa);have U:=xO (key:=key) Y hz;have aN:(st.open key).nodes.length=DB st.nodes+1:=pQ Y;intro aV an;have fin:∀(bb:Bool) (g':zb) (p:PSt) (a' e':Int) (O':ac5),PaS lo g' M bp s p a' e' O'->Stp g O g' O'->(st.open key).nodes.length<=DB p.nodes->g'[g.size]?=f[g.size]?->mL (fk s (Zr s d) (DB st.nodes) (zu st.Wf) (st.open key)) bb p a' e'->aV bb g':=by
   intro bb g' p a' e' O' E n n' bj V;refine an bb g' ?_;have B':=ah.aa1 bj;have⟨bG,bH,ay,aO,b1,bD,W1,Q,bJ⟩:=E;have aE:st.nodes.length<DB ay:=by
    have:ay.length=DB p.nodes:=by rw[<-Q,YO]
    omega
   have⟨q1,q2,q3,q4,q5⟩:=W1.ns.cell aE;refine⟨_,B'.cell rfl,_,rfl,aO,by rw[zm];exact W1.blk.cell rfl,_,B'.cell rfl,_,rfl,p.last,by rw[zm,zm];exact W1.blk.cell rfl,⟨b1,0,Te⟩,⟨q1,ω,χ W1.ns.len⟩,?_⟩;rw[zm,zm,zm,YL,ZO,ab];refine qj iS nc q2 ω rfl λg2 u1 u2 u3=>?_;have⟨W2,S2⟩:=W1.nst (W1.ns.toB aE u1 u2 u3);refine hK bb g2 (p.setTo (DB st.nodes)) a' e' _ ⟨_,_,_,_,_,_,W2,?_,rfl⟩ (n.trans η) (by rw[nH];omega) ?_;rw[Qe (f':=jT p.last) (λp=>rfl),Q];rfl;rw[eV];cases hr:fk s (Zr s d) (DB st.nodes) (zu st.Wf) (st.open key)with
   |inl x=>rw[hr]at V;exact⟨V.1,by rw[V.2]⟩
   |inr x=>rw[hr]at V;exact V
  have ar:p3 (33-((d+1:Nat):Int)+1)=33-(d:Int):=by rw[bR ω];omega
  have bI:=U.t;refine⟨λh5=>⟨_,ah.cell rfl,_,ah.cell rfl,?_⟩,λh5=>⟨λh6=>?_,λh6=>?_⟩⟩;have h5:zu st.Wf=5:=ψ h5
  refine Ea (J:=λ_=>False) (D:=λ_=>False) (HI:=λ_ _=>True) (kid:=fT (Zr s d)) (λ_ _ _ _ _=>trivial) ar (QT ih) (pF aC) κ ω I trivial (λj F=>F.elim) (U.m h4) ω (λx u=>hw x (U.w x u)) ω λbb g' p a' e' O' E n n' V=>⟨bb,rfl,fin bb g' p a' e' O' E ?_ n' ?_ ?_⟩;exact(S8.trans z).trans ⟨n.le,n.sub,λj F hn=>n.fr j F hn (λh=>h)⟩;exact n.fr g.size ω (ai _ ω aa) (λh=>h);rw[ab]at V;unfold fk;grind;have h5:¬zu st.Wf=5:=ψ h5
  have h6:zu st.Wf=6:=ψ h6
  intro i ae;have aU:Bk f.size f i:=rg _ _ (YJ _);have ap:Bk i.size i ae:=rg _ _ (YJ _);have z65:i.size=f.size+1:=YW _;have bC:ae.size=i.size+1:=YW _;have bn:LE i f.size []:=LE.new _;have aT:Blk ae i.size #[.map Te]:=v0 _ _ _;clear_value i ae;refine qj SL Rw aT ξ rfl λak u1 u2 u3=>?_;have N:Bk f.size f ak:=⟨ω,λj F=>by rw[u3 j ω,ap.get j ω,aU.get j F]⟩;have bm:LE ak f.size []:=(bn.aa1 (ap.get _ ω)).aa1 (u3 _ ω);have bq:=I.aa1 N;have au:=ah.aa1 (N.get g.size ω);have bE:Stp f O45 ak O45:=Stp.aa1 N;have bB:∀c,O45 c->c<f.size:=λc h=>(I.own h).2.1;have be:∀c,g.size<=c->M c=Te:=λc hc=>by
   cases e:M c with
   |none=>rfl
   |some x=>have:=P.ag.lt e;omega
  refine⟨_,au.cell rfl,?_⟩;refine Ea (J:=λj=>j=f.size) (D:=λj=>j=g.size\/j=i.size\/j=f.size) (HI:=λσ g'=>Blk g' g.size #[aa7 ⟨bp,0,Te⟩]/\Blk g' i.size #[.map (Td f.size)]/\sn f.size σ g') (kid:=fG s (Zr s d)) (λσ x y u hf=>⟨u.1.aa1 (hf _ (.inl rfl)),u.2.1.aa1 (hf _ (.inr (.inl rfl))),?_⟩) ar ?_ (rJ aC) κ ω bq ⟨au,u1,[],bm,λk=>rfl⟩ (λj F=>?_) (U.m h4) ω (λx u=>hw x (U.w x u)) ω λbb g' p a' e' O' E n n' V=>⟨bb,rfl,fin bb g' p a' e' O' E ?_ n' ?_ ?_⟩;have⟨l,ml,mk⟩:=u.2.2;exact⟨l,ml.aa1 (hf _ (.inr (.inr rfl))),mk⟩;intro σ x st1 a1 e1 O1 P1 I1 J1 bA aS aJ K1 aY;show aa4 _ #[ab0 (33-(d:Int)),aa7 (aa8 g),aa7 (aa8 i)] x K1;apply Pm;refine⟨_,I1.1.cell rfl,_,I1.2.1.cell rfl,?_⟩;refine On hg hM hs ih (J:=λj=>j=g.size\/j=i.size\/j=f.size) (.inr (.inr rfl)) P1 I1.2.2 J1 bA aS aJ (λj F=>be j ω) λbb g' p a' e' O' σ' E n n' H' V=>⟨bb,rfl,aY bb g' p a' e' O' σ' E n n' (λhb=>⟨I1.1.aa1 ?_,I1.2.1.aa1 ?_,H' hb⟩) V⟩;have:=J1 g.size (.inl rfl);exact n.fr _ this.1 this.2 ω;have:=J1 i.size (.inr (.inl rfl));exact n.fr _ this.1 this.2 ω;grind;refine(S8.trans z).trans ⟨χ n.le,λc h=>?_,λj F hn=>?_⟩;obtain h|h:=n.sub c h;exact .inl h;omega;rw[n.fr j ω hn ω];exact N.get j F;rw[n.fr g.size ω (ai _ ω aa) ω];exact N.get _ ω;rw[ab]at V;unfold fk;grind;have h5:¬zu st.Wf=5:=ψ h5
  have h6:¬zu st.Wf=6:=ψ h6
  refine fin Ta f (st.open key) a e O45 I (S8.trans z) (YJ _) rfl ?_;unfold fk;rw[za h5,za h6];exact⟨rfl,rfl⟩
end
end
section
def lU(k:Int):Int:=if k=12 then 1 else if k=10\/k=11 then 2 else if k=9 then 3 else if k=8 then 4 else 0
def OQ{gl:Fr}{k:Int}{R:ac6}(h:R (lU k)):aa5 gl 287 [qr q0 k] [.int .i64] R:=by apply VM;unfold lU at h;grind
theorem LK(k:Int):zu k=ite (k=2) 6 (ite (k=4) 5 (lU k)):=by unfold zu lU;omega
section
variable {lo : Nat} {M gl : Fr} {bp : Nat} {s : Bs} {l : List Tk}
def BY(hg:GL gl)(hM:Fr.le gl M)(hs:s.length<=65536)(hl:l.length<=65536){d:Nat}(hd:d<=32)(aF:∀d',d=d'+1->pV lo M bp s l (33-(d':Int)) (Zr s d')):pV lo M bp s l (33-(d:Int)) (Zr s d):=by
 intro key g st a e O P h4 hT hw K hK;apply Jb;intro h1;have⟨k1,z1,bA⟩:=yp (g:=h1) rfl;clear_value h1;refine X3 (P.aa1 k1) ⟨_,rfl,?_⟩;refine(OQ (k:=st.Wf) (R:=λr=>r=lU st.Wf) rfl).go hM (P.aa1 k1).ag (zn (a:=qr q0 _) (Zj _ _) zw) λv q M' r L hv hr=>⟨r,pe hv,?_⟩;have k6:Bk g.size g q:=k1.trans (c:=q) (m:=g.size) ⟨L.aa1.size,λj hj=>L.aa1.get j ω⟩ (YJ _);have a8:=bA.aa1 (L.aa1.get g.size ω);have P6:=P.aa1 k6;have S6:Stp g O q O:=Stp.aa1 k6;have z6:=L.aa1.size;intro ba aG;refine X3 P6 ⟨_,rfl,?_⟩;have aC:∀x,x=(ite (st.Wf=4) 5 (lU st.Wf))->ba x q:=λx u=>aG x q λbu az=>by
  have S:bu (zu st.Wf) q:=by
   refine az _ _ ⟨λu=>?_,λu=>⟨λhy=>?_,λhy=>?_⟩⟩;refine Jq P6 λg' G H=>⟨Tc,rfl,hK Tc g' st _ _ O G (S6.trans H) (YJ _) ?_⟩;have u:zu st.Wf=0:=ψ u
   cases d <;> (rw[Zr,zi u];exact⟨rfl,rfl⟩);have u:¬zu st.Wf=0:=ψ u
   refine Jq P6 λg' G H=>⟨Tc,rfl,hK Tc g' st _ _ O G (S6.trans H) (YJ _) ?_⟩;have hy:=zB hy;cases d with
   |zero=>rw[Zr,za u];exact⟨rfl,rfl⟩
   |succ d=>omega
   obtain⟨d,rfl⟩:∃d',d=d'+1:=⟨d-1,χ (zC hy)⟩;have ih:=aF d rfl;have ae:=lh s d;have u:¬zu st.Wf=0:=ψ u
   have Y:=oY u;have⟨t,r,er⟩:=zag Y;have bq:=P6;have⟨ls,k,na,sl,b,cs,W,A,aJ,eO⟩:=bq;have aV:na.length=DB st.nodes:=by rw[<-aJ,YO]
   have au:sl.len=DB st.nodes:=by rw[W.ns.len,aV]
   refine⟨_,rfl,sl,by rw[zm];exact W.blk.cell rfl,λhz=>?_,λhz=>?_⟩;refine Jq P6 λg' G H=>⟨Tc,rfl,hK Tc g' st _ _ O G (S6.trans H) (YJ _) ?_⟩;have hz:st.nodes.length=4096:=χ (zB hz)
   rw[Zr,za u,zi hz];exact⟨rfl,rfl⟩;have hz:¬st.nodes.length=4096:=λh=>χ (zC hz)
   have eV:Zr s (d+1) key st=match fk s (Zr s d) (DB st.nodes) (zu st.Wf) (st.open key)with
    |.inl p=>.inl (p.setTo (DB st.nodes))
    |.inr e=>.inr e:=by rw[Zr,za u,za hz];rfl
   have⟨hk,ek⟩:=A.cons er;have bI:=(Bx W.rd).1;have⟨tb,o,e1,e2,e3,e4⟩:=gH W.ag W.rd hk;rw[ek]at e2 e3 e4;have bC:st.Wf=t.1:=by unfold PSt.Wf;rw[er]
   have be:bp<q.size:=W.blk.lt;have bG:∀c,O c->c<g.size:=λc h=>(P.own h).2.1;refine⟨_,rfl,sl,by rw[zm];exact W.blk.cell rfl,_,rfl,sl,by rw[zm];exact W.blk.cell rfl,_,rfl,ls,by rw[zm];exact W.blk.cell rfl,_,rfl,(k:Int),by rw[zm];exact W.blk.cell rfl,_,⟨e1,ω,ω⟩,t.2.1,t.2.2,?_,key.1,key.2,jU a8,rfl,?_⟩;rw[zm,zm,YL];exact⟨by rw[zm];exact e3,by rw[zm];exact e4,trivial⟩;intro U;have⟨Q,bQ,br⟩:=yp (g:=U) rfl;clear_value U;refine⟨by rw[zm];exact Q.get bp be,?_⟩;have a7:NSt lo q M na sl b U na cs:=⟨W.ns.frame Q.size λc hc=>Q.get c (W.ns.own hc).2.1,Q.size,λc h=>.inl h,λj hj _=>Q.get j hj⟩;have⟨z,bB⟩:=W.nst a7;have ay:lo<=U.size:=χ ((z.own (.inl rfl)))
   refine NS.push Fa ω z.ag ay z.ns (x:=(zu st.Wf,t.2,key,[],[])) rfl rfl br ω λs' bP b' v aT bN aO ap=>⟨s',rfl,_,rfl,?_⟩;rw[zm];have ak:¬fN (na++[((zu st.Wf,t.2,key,[],[]),fE)]) s' b' bp:=λh=>by obtain h|h:=aO bp h;exact W.nb h;omega
   have aM:=z.blk.aa1 (ap bp ω z.nb);refine qj Ew HC aM (by show 3<6;omega) rfl λab u1 u2 u3=>?_;have u1:Blk ab bp (lQ s ls k s' a e).toArray:=u1;have bD:RW lo ab M bp s l k a e ls (na++[((zu st.Wf,t.2,key,[],[]),fE)]) s' b' v:=by refine⟨u1,W.rd,aT.frame ω λc hc=>u3 c λh=>ak (h ▸ hc),i6 z.ag λj hj hm=>?_,W.bl,ak⟩;rw[u3 j λh=>hm (h ▸ W.bl.2)];exact ap j hj λh=>hm (z.ns.own h).2.2
   have aS:Stp U (ft bp na sl b) ab (ft bp (na++[((zu st.Wf,t.2,key,[],[]),fE)]) s' b'):=by refine⟨ω,λc h=>?_,λj hj hn=>?_⟩;obtain h|h:=h;exact .inl (.inl h);obtain h|h:=aO c h;exact .inl (.inr h);exact .inr h;rw[u3 j λh=>hn (.inl h)];exact ap j hj λh=>hn (.inr h)
   have aN:RS lo ab M bp s l ⟨st.rest,st.last,st.nodes++[(zu st.Wf,t.2,key,[],[])]⟩ a e (ft bp (na++[((zu st.Wf,t.2,key,[],[]),fE)]) s' b'):=⟨ls,k,_,_,_,_,bD,A.same rfl rfl,φ,rfl⟩;have J:=bB.trans aS;rw[<-eO]at J;generalize ft bp (na++[((zu st.Wf,t.2,key,[],[]),fE)]) s' b'=O45 at aN J;have⟨kk,c1,A2,aY⟩:=pn aN Y ω;refine⟨_,rfl,_,by rw[zm];exact c1,_,rfl,?_⟩;rw[zm];refine aY λax aa bz=>?_;have aQ:(⟨st.rest,st.last,st.nodes++[(zu st.Wf,t.2,key,[],[])]⟩:PSt).skip=st.open key:=by unfold PSt.skip PSt.open;rw[bC];dsimp only;rw[er]
   rw[aQ]at aa;have aA:=J.trans bz;have E:=xO (key:=key) Y hz;have aZ:(st.open key).nodes.length=DB st.nodes+1:=pQ Y;have aI:(st.open key).rest.length<DB l:=by
    have h1:=E.r;have h2:=A.rest;have h3:st.rest.length=DB l-k:=by rw[h2,ZE]
    omega
   have I:=S6.trans aA;intro bL am;have fin:∀(bb:Bool) (g':zb) (p:PSt) (a' e':Int) (O':ac5),RS lo g' M bp s l p a' e' O'->Stp g O g' O'->(st.open key).nodes.length<=DB p.nodes->mL (fk s (Zr s d) (DB st.nodes) (zu st.Wf) (st.open key)) bb p a' e' ->
    (bb=Ta->∃an:Addr,Td (⟨bp,0,Te⟩:Addr)=Td an/\∃f:Sl,zd g' (YH an 3)=Td (.slice f.a f.len f.cap)/\∃ai:Addr,Td (⟨bp,0,Te⟩:Addr)=Td ai/\∃i:Sl,zd g' (YH ai 1)=Td (.slice i.a i.len i.cap)/\∃aj:Addr,Td (⟨bp,0,Te⟩:Addr)=Td aj/\∃n:Int,zd g' (YH aj 2)=Td (ab0 n)/\∃af:Addr,(i.a=Td af/\0<=(p3 (n-1):Int)/\(p3 (n-1):Int)<((i.len:Nat):Int))/\∃y:Int,zd g' (YH (YH (af.add ((p3 (n-1):Int).toNat*3)) 1) 1)=Td (ab0 y)/\∃ah:Addr,(f.a=Td ah/\0<=((sl.len:Nat):Int)/\((sl.len:Nat):Int)<((f.len:Nat):Int))/\wf Tp (YI 3 (.pointer (Td (YH (YH (ah.add ((((sl.len:Nat):Int)).toNat*7)) 1) 1))) (ab0 y)) g' (λaB=>K (aa9 bb) aB))/\(bb=Tc->K (aa9 bb) g'):=by
    intro bb g' p a' e' O' G H n' D;refine⟨λhb=>?_,λhb=>?_⟩;subst hb;have B:fk s (Zr s d) (DB st.nodes) (zu st.Wf) (st.open key)=.inl p:=by
     cases hr:fk s (Zr s d) (DB st.nodes) (zu st.Wf) (st.open key)with
     |inl x=>rw[hr]at D;rw[D.2]
     |inr x=>rw[hr]at D;exact absurd D.1 ξ
    have bj:Okk (st.open key) p 0:=by unfold fk at B;split at B;exact pC ω (pF ae) B;split at B;exact pC ω (rJ ae) B;cases B;exact Okk.refl _
    have⟨a1,F,aL,a6,b1,bH,V,A1,N,bE⟩:=G;have aP:st.nodes.length<DB aL:=by
     have:aL.length=DB p.nodes:=by rw[<-N,YO]
     omega
    have⟨q1,q2,q3,q4,q5⟩:=V.ns.cell aP;have bF:=(Bx V.rd).1;have aU:p.rest.length<DB l:=χ bj.r
    have bg:0<F:=by have:=A1.rest;obtain h|h:=zcg F;rw[h,zbi]at this;rw[this]at aU;omega;exact h
    have bJ:=A1.le;have aH:F-1<DB l:=ω
    have⟨bM,o1,f1,f2,f3,f4⟩:=gH V.ag V.rd aH;have ar:=A1.last _ bg (YS aH);have bm:p3 ((F:Int)-1)=((F-1:Nat):Int):=by rw[bR ω];omega
    refine⟨_,rfl,a6,by rw[zm];exact V.blk.cell rfl,_,rfl,a1,by rw[zm];exact V.blk.cell rfl,_,rfl,(F:Int),by rw[zm];exact V.blk.cell rfl,_,⟨f1,ω,ω⟩,p.last,?_,⟨b1,0,Te⟩,⟨q1,ω,χ V.ns.len⟩,?_⟩;rw[zm,zm,zm,bm,YL,ar];exact f4;rw[zm,zm,zm,YL,ZO,au];refine qj iS nc q2 ω rfl λg2 u1 u2 u3=>?_;have⟨W2,S2⟩:=V.nst (V.ns.toB aP u1 u2 u3);rw[<-bE]at S2;refine hK Ta g2 (p.setTo (DB st.nodes)) a' e' _ ⟨_,_,_,_,_,_,W2,A1.same rfl rfl,?_,rfl⟩ (H.trans S2) (by rw[nH];omega) ?_;rw[Qe (f':=jT p.last) (λp=>rfl),N];rfl;rw[eV,B];exact⟨rfl,rfl⟩;subst hb;refine hK Tc g' p a' e' O' G H ω ?_;rw[eV];cases hr:fk s (Zr s d) (DB st.nodes) (zu st.Wf) (st.open key)with
    |inl x=>rw[hr]at D;exact absurd D.1 ξ
    |inr x=>rw[hr]at D;exact D
   have aE:p3 (33-((d+1:Nat):Int)+1)=33-(d:Int):=by rw[bR ω];omega
   have bO:=E.t;refine⟨λZ=>?_,λZ=>?_⟩;have Z:zu st.Wf=5:=ψ Z
   refine CP (kid:=fT (Zr s d)) hg hM hs hl aE ih ae ω ω (.inr ⟨ω,rfl⟩) aa (E.m h4) ω (λx u=>hw x (E.w x u)) aI ω λbb g' p a' e' O' G H n' D=>⟨bb,rfl,am bb g' λbn C=>⟨λq=>?_,λq=>C bb g' (fin bb g' p a' e' O' G (I.trans H) n' ?_)⟩⟩;rw[Z]at q;simp at q;rw[au]at D;unfold fk;rw[zi Z];exact D;have Z:¬zu st.Wf=5:=ψ Z
   refine am Ta ax λbn C=>⟨λq=>?_,λq=>C Ta ax (fin Ta ax (st.open key) a e O45 aa I (YJ _) ?_)⟩;have q:zu st.Wf=6:=ψ q
   refine CP (kid:=fG s (Zr s d)) hg hM hs hl aE ih ae ω ω (.inl ⟨rfl,rfl⟩) aa (E.m h4) ω (λx u=>hw x (E.w x u)) aI ω λbb g' p a' e' O' G H n' D=>⟨bb,rfl,C bb g' (fin bb g' p a' e' O' G (I.trans H) n' ?_)⟩;rw[au]at D;unfold fk;rw[za Z,zi q];exact D;have q:¬zu st.Wf=6:=ψ q
   unfold fk;rw[za Z,za q];exact⟨rfl,rfl⟩
  rw[LK]at S;refine X3 P6 ⟨_,rfl,λh2=>?_,λh2=>?_⟩;have h2:st.Wf=2:=ψ h2
  rw[zi h2]at S;exact S;have h2:¬st.Wf=2:=ψ h2
  rw[za h2]at S;rw[u];exact S
 refine⟨λh4=>aC _ ?_,λh4=>aC _ ?_⟩;rw[zi (ψ h4)];rw[za (ψ h4)];exact hr
def HZ(c:GL gl)(b:Fr.le gl M)(f:s.length<=65536)(i:l.length<=65536):∀d:Nat,d<=32->pV lo M bp s l (33-(d:Int)) (Zr s d)
 |0,h=>BY c b f i h λk e=>ω
 |d+1,h=>BY c b f i h λk e=>by
  have:k=d:=ω
  subst this;exact HZ c b f i k ω
end
end
section
variable {s:Bs} {f a t:Nat} {k:Int}
theorem TkS.frame{h:zb}{M:Fr}{b2 b3 b4 b5 bc D l:Nat}{rec:fR}{out:List Tk}{sl:Sl}{bs:ab1}{g g':zb}(S:TkS h M b2 b3 b4 b5 bc D l rec s out sl bs g)(A:Apart h b2 b3 b4 b5 bc D l)(m:g.size<=g'.size)(f:∀j,j<g.size->g'[j]?=g[j]?):TkS h M b2 b3 b4 b5 bc D l rec s out sl bs g':=by have i:=IO S.rc;have:=A.lo;have:=A.a3;have:=A.a4;have:=A.a5;have:=A.ac;have:=A.aD;have:=A.al;have k:=S.aa1.size;exact⟨⟨ω,λj e=>(f j ω).trans (S.aa1.get j e)⟩,S.c.aa1 (f _ ω),(f _ ω).trans S.d,(f _ i).trans S.rc,S.r2.aa1 (f _ ω),S.r3.aa1 (f _ ω),S.r4.aa1 (f _ ω),S.r5.aa1 (f _ ω),S.o.frame (λc b=>f c (S.o.own c b).2.1) (Fr.le.refl _) λc b=>(S.o.own c b).2.2⟩
theorem T8{o:List Tk}(b:a<DB s)(h:Zy s a=(k,t,0)):Zq (f+1) s a o=Zq f s t (o++[(k,((a:Int),(t:Int)))]):=by rw[Zq,zi b,h];rfl
theorem U2{k e:Int}{o:List Tk}(b:a<DB s)(h:Zy s a=(k,t,e))(c:¬e=0):Zq (f+1) s a o=([],t,e):=by rw[Zq,zi b,h];simp only;rw[za c]
theorem WF{o:List Tk}(b:¬a<DB s):Zq f s a o=(o,a,0):=by
 cases f with
 |zero=>rfl
 |succ f=>rw[Zq,za b]
section
variable {h : zb} {M gl : Fr} {b2 b3 b4 b5 bc D l : Nat} {rec : fR} {s : Bs} {sl : Sl} {bs : List Nat} {g : zb}
abbrev Vl(b2 b3 b4 b5:Nat)(x9 x8 x0:Value):bK:=[(0,[],x0),(2,[],.pointer (Td ⟨b2,0,Te⟩)),(3,[],.pointer (Td ⟨b3,0,Te⟩)),(4,[],.pointer (Td ⟨b4,0,Te⟩)),(5,[],.pointer (Td ⟨b5,0,Te⟩)),(8,[],x8),(9,[],x9)]
def Kt(A:Apart h b2 b3 b4 b5 bc D l)(hg:GL gl)(hM:Fr.le gl M)(ag:AgM M h)(S:TkS h M b2 b3 b4 b5 bc D l rec s [] sl bs g){x9 x8 x0:Value} (p:∀{v1 v2:Value} {h2:zb} {K:vvv},h2[l]?=Td (.loop (rec .ready Te))->ir Tp 25 (iM (codeOf Tryz.f280)) (iu (codeOf Tryz.f280)) rec l K (putO (putO (Vl b2 b3 b4 b5 x9 x8 x0) (Td 10) [] v1) (Td 11) [] v2) h2->YX Tp l #[v1,v2] h2 K) {Q:zb->Prop} (hN:∀g out sl bs,TkS h M b2 b3 b4 b5 bc D l rec s out sl bs g->qz s=(out,DB s,0)->DB out<=100000->Q g) (hE:∀(g:zb) (t:Nat) (e:Int),¬e=0->qz s=([],t,e)->Bk h.size h g->g[D]?=Td (.deferred (Td []))->g[l]?=Td (.loop (rec .done (Td .ret)))->Blk g b2 #[.slice Te 0 0]->Blk g b3 #[ab0 (t:Int)]->Blk g b4 #[ab0 e]->Q g):jp Tp 374 #[.func (.yield l) #[] #[],aa7 ⟨bc,0,Te⟩] g (λ_ g'=>Q g'):=by
 have:=A.lo;have:=A.a3;have:=A.a4;have:=A.a5;have:=A.ac;have:=A.aD;have:=A.al;apply Ky;refine⟨bl s,S.c.cell rfl,λn=>?_,λu=>?_⟩;have q:65536<DB s:=by rw[zf]at n;simp at n;omega
 refine p S.rc (TkS.err A S ω λg' B q2 r q4 q5 q6=>⟨Tc,rfl,?_⟩);refine hE g' 0 3 ω ?_ B q2 r q4 q5 q6;unfold qz;rw[zi q];have C:s.length<=65536:=by rw[zf]at u;simp at u;omega
 have hR:qz s=Zq (DB s) s 0 []:=by unfold qz;rw[za ω]
 refine⟨λk g'=>∃(a f:Nat) (out:List Tk) (ah:Sl) (bs':ab1),k=(a:Int)/\a<=DB s/\DB s-a<=f/\DB out<=a/\qz s=Zq f s a out/\TkS h M b2 b3 b4 b5 bc D l rec s out ah bs' g',λk _=>DB s-k.toNat,⟨0,DB s,[],sl,bs,rfl,ω,ω,YJ _,hR,S⟩,?_⟩;rintro k g1 ⟨a,f,out,O,G,rfl,ha,hf,ho,N,m⟩;refine⟨bl s,m.c.cell rfl,λw=>⟨bl s,m.c.cell rfl,?_⟩,λz=>?_⟩;have i:a<DB s:=by rw[zf]at w;simp at w;omega
 obtain⟨f,rfl⟩:∃f',f=f'+1:=⟨f-1,ω⟩;have aa:AgM M g1:=ag.aa1 m.aa1;refine Ux hg hM aa C i λg2 k2=>?_;obtain⟨H,t,e,b⟩:∃k t e,Zy s a=(k,t,e):=⟨_,_,_,rfl⟩;have z2:=k2.size;by_cases y:e=0;subst y;have hp:=Y1 i (by rw[b]);rw[b]at hp;have ai:a<t:=hp.1;have V:t<=DB s:=hp.2;have P:kF s a=.tuple #[.agg #[ab0 H,ab0 (a:Int),ab0 (t:Int)],ab0 0]:=by unfold kF;rw[b,zi rfl]
 refine⟨H,a,t,0,P,?_⟩;intro F;have⟨U,z3,Z⟩:=yp (g:=F) rfl;clear_value F;refine jZ Z λY B q2 r=>⟨H,a,t,r.ld,?_⟩;have J:∀j,j<g1.size->Y[j]?=g1[j]?:=λj L=>by rw[B j ω,U.get j ω,k2.get j L]
 have E:=m.frame A ω J;have ll:=IO m.rc;refine p E.rc (TkS.round A ag E ω λg5 af ab S5 z5 f5=>⟨Ta,rfl,λI=>by simp at I,λ_=>?_⟩);refine⟨t,?_,⟨t,f,_,af,ab,rfl,V,ω,?_,?_,S5⟩,?_⟩;rw[zm,zm];refine(r.aa1 (f5 g2.size ω ω ω λhm=>?_)).cell rfl;have:=(m.o.own g2.size hm).2.1;omega;rw[YM];show (DB out)+1<=t;omega;rw[N,T8 i b];show (DB s)-(t:Int).toNat<DB s-(a:Int).toNat;rw[YL,YL];omega;have P:=qC b y;refine⟨0,t,t,e,P,?_⟩;intro F;have⟨U,z3,Z⟩:=yp (g:=F) rfl;clear_value F;refine jZ Z λY B q2 r=>⟨0,t,t,r.ld,?_⟩;have J:∀j,j<g1.size->Y[j]?=g1[j]?:=λj L=>by rw[B j ω,U.get j ω,k2.get j L]
 have E:=m.frame A ω J;refine p E.rc (TkS.err A E y λg5 w1 w2 w3 w4 w5 w6=>⟨Tc,rfl,λ_=>?_,λI=>by simp at I⟩);exact hE g5 t e y (by rw[N,U2 i b y]) w1 w2 w3 w4 w5 w6;have x:¬a<DB s:=by rw[zf]at z;simp at z;omega
 have ae:a=DB s:=ω
 exact hN g1 out O G m (by rw[N,WF x,ae]) ω
end
end
end
section
open Go.RowKit
section
def Rm{gl M:Fr}(hg:GL gl)(hM:Fr.le gl M){h:zb}(ag:AgM M h){s:Bs}{K:vvv} (V:∀(h':zb) (M':Fr) (t:Sl),wr h M h' M'->Rd M' (.row hH) (qz s).1 [aK t]->K (.tuple #[aK t,ab0 ((qz s).2.1:Nat),ab0 (qz s).2.2]) h'):aa4 280 #[aa6 (bl s)] h K:=by
 apply U1;intro h1 h2 q y;have k1:Bk h.size h h1:=rg _ _ (YJ _);have k2:Bk h1.size h1 h2:=rg _ _ (YJ _);have I:Bk h2.size h2 q:=rg _ _ (YJ _);have D:Bk q.size q y:=rg _ _ (YJ _);have z1:h1.size=h.size+1:=YW _;have z2:h2.size=h1.size+1:=YW _;have z3:q.size=h2.size+1:=YW _;have z4:y.size=q.size+1:=YW _;have B1:Blk h1 h.size #[.slice Te 0 0]:=v0 _ _ _;have B2:Blk h2 h1.size #[ab0 0]:=v0 _ _ _;have B3:Blk q h2.size #[ab0 0]:=v0 _ _ _;have B4:Blk y q.size #[.slice Te 0 0]:=v0 _ _ _;clear_value y q h2 h1;apply XZ;intro b;have⟨B,z5,B5⟩:=yp (g:=b) rfl;clear_value b;refine⟨_,rfl,_,_,rfl,κ,λrec F=>?_⟩;have e5:∀j,j<h.size->b[j]?=h[j]?:=λj i=>by rw[B.get j ω,D.get j ω,I.get j ω,k2.get j ω,k1.get j i]
 have A:Apart h h.size h1.size h2.size q.size y.size b.size (b.size+1):=⟨ω,ω,ω,ω,ω,ω,rfl⟩;obtain⟨w,l⟩:∃w,w=(b.push (.deferred (Td []))).push (.loop (rec .ready Te)):=⟨_,rfl⟩;have gz:w.size=b.size+2:=by rw[l,YW,YW]
 have x:∀j,j<b.size->w[j]?=b[j]?:=λj i=>by rw[l,Array.getElem?_push_lt (by rw[YW];omega)];rw[Array.getElem_push_lt i,Array.getElem?_eq_getElem i]
 have gD:w[b.size]?=Td (.deferred (Td [])):=by rw[l,Array.getElem?_push_lt (by rw[YW];omega),Array.getElem_push_eq]
 have E:w[b.size+1]?=Td (.loop (rec .ready Te)):=by
  rw[l];have:b.size+1=(b.push (.deferred (Td []))).size:=by rw[YW]
  rw[this,Array.getElem?_push_size]
 rw[<-l];clear l;have S:TkS h M h.size h1.size h2.size q.size y.size b.size (b.size+1) rec s [] ⟨Te,0,0⟩ [] w:= ⟨⟨ω,λj i=>(x j ω).trans (e5 j i)⟩,B5.aa1 (x _ ω),gD,E,B1.aa1 (by rw[x _ ω,B.get _ ω,D.get _ ω,I.get _ ω,k2.get _ ω]),B2.aa1 (by rw[x _ ω,B.get _ ω,D.get _ ω,I.get _ ω]),B3.aa1 (by rw[x _ ω,B.get _ ω,D.get _ ω]),B4.aa1 (by rw[x _ ω,B.get _ ω]),.nil⟩;refine Kt A hg hM ag S (x9:=_) (x8:=_) (x0:=_) F ?_ ?_;intro g out sl bs n z ho;have ll:=IO n.rc;refine .inl ⟨n.rc,?_⟩;obtain⟨k,f⟩:∃k,k=g.setIfInBounds (b.size+1) (.loop (rec .exhausted Te)):=⟨_,rfl⟩;have z6:k.size=g.size:=by rw[f,zat]
 have m:∀j,j≠b.size+1->k[j]?=g[j]?:=λj i=>by rw[f];exact q9 i
 rw[<-f];clear f;refine⟨sl,(n.r5.aa1 (m _ ω)).cell rfl,?_⟩;refine qj vq xU (n.r2.aa1 (m _ ω)) (by show 0<1;omega) rfl λg7 u1 u3 O=>?_;refine qj EH Ej (n.r3.aa1 ((O _ ω).trans (m _ ω))) (by show 0<1;omega) rfl λg8 Z v3 J=>?_;refine qj AR Dr (n.r4.aa1 ((J _ ω).trans ((O _ ω).trans (m _ ω)))) (by show 0<1;omega) rfl λr w1 w3 Q=>?_;have H:∀j,j≠b.size+1->j≠h.size->j≠h1.size->j≠h2.size->r[j]?=g[j]?:=λj a1 a2 a3 a4=>by rw[Q j a4,J j a3,O j a2,m j a1]
 refine⟨(H _ ω ω ω ω).trans n.d,?_⟩;have p:∀j,j≠b.size->(r.setIfInBounds b.size (.deferred Te))[j]?=r[j]?:=λj i=>q9 i;have P:Blk (r.setIfInBounds b.size (.deferred Te)) h.size #[aK sl]:=u1.aa1 (by rw[p _ ω,Q _ ω,J _ ω]);have L:Blk (r.setIfInBounds b.size (.deferred Te)) h1.size #[ab0 (((bl s).size:Nat):Int)]:=Z.aa1 (by rw[p _ ω,Q _ ω]);have N:Blk (r.setIfInBounds b.size (.deferred Te)) h2.size #[ab0 0]:=w1.aa1 (p _ ω);refine⟨sl,P.cell rfl,_,L.cell rfl,0,N.cell rfl,?_⟩;have C:Bk h.size h (r.setIfInBounds b.size (.deferred Te)):=by have:=n.aa1.size;refine⟨by rw[zat];omega,λj i=>?_⟩;rw[p j ω,H j ω ω ω ω];exact n.aa1.get j i
 have G:=n.o.own;have ox:=n.o.frame (h':=r.setIfInBounds b.size (.deferred Te)) (λc u=>by have:=G c u;rw[p c ω,H c ω ω ω ω]) (Fr.le.refl M) λc u=>(G c u).2.2;have:=V _ (MxL M (r.setIfInBounds b.size (.deferred Te)) bs) sl (MxL.later ag C λc u=>χ (G c u)) (by rw[z];exact ox.rd (ag.aa1 C) (λc u=>u) ω);rw[z]at this;rw[zf];exact this;intro g t e he z U Y gr q2 q3 q4;refine .inr ⟨gr,?_⟩;obtain⟨k,f⟩:∃k,k=g.setIfInBounds (b.size+1) (.loop (rec .exhausted (Td .ret))):=⟨_,rfl⟩;have z6:k.size=g.size:=by rw[f,zat]
 have m:∀j,j≠b.size+1->k[j]?=g[j]?:=λj i=>by rw[f];exact q9 i
 rw[<-f];clear f;refine⟨(m _ ω).trans Y,?_⟩;have p:∀j,j≠b.size->(k.setIfInBounds b.size (.deferred Te))[j]?=k[j]?:=λj i=>q9 i;have P:Blk (k.setIfInBounds b.size (.deferred Te)) h.size #[.slice Te 0 0]:=q2.aa1 (by rw[p _ ω,m _ ω]);have L:Blk (k.setIfInBounds b.size (.deferred Te)) h1.size #[ab0 (t:Int)]:=q3.aa1 (by rw[p _ ω,m _ ω]);have N:Blk (k.setIfInBounds b.size (.deferred Te)) h2.size #[ab0 e]:=q4.aa1 (by rw[p _ ω,m _ ω]);refine⟨⟨Te,0,0⟩,P.cell rfl,_,L.cell rfl,e,N.cell rfl,?_⟩;have C:Bk h.size h (k.setIfInBounds b.size (.deferred Te)):=by have:=U.size;refine⟨by rw[zat];omega,λj i=>?_⟩;rw[p j ω,m j ω];exact U.get j i
 have:=V _ M ⟨Te,0,0⟩ (up ag C) (by rw[z];exact⟨_,rfl,Te,0,rfl,⟨ξ,ξ⟩,.inl rfl⟩);rw[z]at this;exact this
end
end
section
open Go.RowKit
section
variable {l s:Bs} {gl:Fr} {a:Nat}
theorem pN(c d:UInt8):(((d.toNat:Int))==((c.toNat:Int)))=hV (d=c):=by rw[ZI,beq_iff_eq,zA];constructor;intro h;exact zcc.1 ω;grind
theorem lq{k:Nat}(b:k<DB l):ze (bl l) k=(l[k].toNat:Int):=by rw[zx,YS b];rfl
def vA(r:l.length<=1000){c:UInt8}{R:ac4}(h:R (wh l c)):aa5 gl 344 [qr (.int .u8) (c.toNat:Int),qr .str (bl l)] [.bool] R:=by
 apply TC;rw[zf];refine⟨λi=>∃k:Nat,i=(k:Int)/\k<=DB l/\∀j (n:j<DB l),j<k->l[j]≠c,λi=>DB l-i.toNat,⟨0,rfl,ω,λj _ n=>ω⟩,?_⟩;rintro i ⟨k,rfl,q,p⟩;refine⟨λb=>⟨⟨ω,zB b⟩,λm=>?_,λm=>?_⟩,λb=>?_⟩;have b:=zB b;have f:k<DB l:=ω
 rw[YL,lq f,pN]at m;have m:=zB m;have e:wh l c=Ta:=by unfold wh;exact zD η
 grind;have b:=zB b;have f:k<DB l:=ω
 rw[YL,lq f,pN]at m;have m:=zC m;rw[bR ω];grind;have b:=zC b;have e:wh l c=Tc:=by unfold wh;refine zE λo=>?_;have⟨j,n,e⟩:=zbm o;exact p j n ω e
 grind
def un(n:l.length<=1000)(r:s.length<=65536)(w:a<=DB s){R:ac6}(h:R ((a+Qd (wh l) (s.drop a):Nat):Int)):aa5 gl 345 [qr .str (bl s),qr q0 (a:Int),qr .str (bl l)] [.int .i64] R:=by
 apply TM;rw[zf];have p:(s.drop a).length=DB s-a:=ZE;refine⟨λi=>∃k:Nat,i=((a+k:Nat):Int)/\k<=(s.drop a).length/\∀j (f:j<(s.drop a).length),j<k->wh l (s.drop a)[j]=Ta,λi=>DB s-i.toNat,⟨0,rfl,ω,λj _ f=>ω⟩,?_⟩;rintro i ⟨k,rfl,u,t⟩;refine⟨λb=>?_,λb=>?_⟩;have b:=zB b;have c:a+k<DB s:=ω
 have m:k<(s.drop a).length:=ω
 have q:s[a+k]=(s.drop a)[k]:=by rw[List.getElem_drop]
 refine⟨⟨ω,b⟩,?_⟩;rw[YL,lq c,q];refine vA n ⟨λe=>?_,λe=>?_⟩;grind [oV];have e:wh l (s.drop a)[k]=Ta:=ψ e
 rw[bR ω];refine⟨⟨k+1,ω,ω,λj f o=>?_⟩,η⟩;grind;grind [oV]
def j4(s:Bs)(a:Nat)(r:Int×Int×Int):Prop:=r.2.1=((Zy s a).2.1:Int)/\r.2.2=(Zy s a).2.2/\((Zy s a).2.2=0->r.1=(Zy s a).1)
def PQ:∀k:Nat,k<6->∀c:UInt8,CT[k]?=Td c->Lib.indexByte CT c=(k:Int)/\c∈CT:=ζ
def TS(A:s.length<=65536)(D:a<DB s){R:Int×Int×Int->Prop}(h:∀r,j4 s a r->R r):aa5 gl 286 [qr .str (bl s),qr q0 (a:Int)] [.int .i64,.int .i64,.int .i64] R:=by
 apply PO;have E:s.drop a=s[a]::s.drop (a+1):=ZG D;have L:(s.drop a).length=DB s-a:=ZE;have f:=Co E;have b0:ze (bl s) (a:Int).toNat=(s[a].toNat:Int):=by rw[YL];exact lq D
 have w:=λp=>uw p (s.drop a);have bs:(⟨#[123,125,91,93,44,58]⟩:Bt)=bl CT:=rfl;have bb:(⟨#[32,9,10,13]⟩:Bt)=bl xf:=rfl;have I:(⟨#[45,48,49,50,51,52,53,54,55,56,57]⟩:Bt)=bl fW:=rfl;have G:(ad0:Bt)=bl eA:=rfl;have H:(ad2:Bt)=bl jj:=rfl;rw[b0,bs,bb,I,G,H,zf,zf];generalize s[a]=c at f E;refine⟨⟨ω,ω⟩,λi=>∃k:Nat,i=(k:Int)/\k<=6/\∀j (C:j<DB CT),j<k->CT[j]≠c,λi=>6-i.toNat,⟨0,rfl,ω,λj _ C=>ω⟩,?_⟩;rintro i ⟨k,rfl,F,O⟩;have N:CT.length=6:=rfl;refine⟨λm=>⟨⟨ω,zB m⟩,λb=>?_,λb=>?_⟩,λm=>?_⟩;have m:=zB m;have t:k<DB CT:=ω
 rw[YL,lq t,pN]at b;have b:=zB b;have⟨B,x⟩:=PQ k ω c θ;rw[zi x]at f;refine h _ ?_;unfold j4;grind [bR];have m:=zB m;have t:k<DB CT:=ω
 rw[YL,lq t,pN]at b;have b:=zC b;rw[bR ω];refine⟨⟨k+1,ω,ω,λj C J=>?_⟩,η⟩;grind;have m:=zC m;have z:¬c∈CT:=λP=>by grind [zbm]
 rw[za z]at f;refine vA ζ ⟨λb=>?_,λb=>?_⟩;have b:c∈xf:=zB b;rw[zi b]at f;refine un ζ A ω (h _ ?_);unfold j4;simp_all;have b:¬c∈xf:=zC b;rw[za b]at f;rw[show((c.toNat:Int)==34)=hV (c=34)from gV (n:=34) ω];refine⟨λo=>?_,λo=>?_⟩;have o:=zB o;rw[zi o]at f;refine UJ ω (h _ ?_);have q:jE s (a:Int)=(((ye s a).2.1:Int),(ye s a).2.2):=by unfold jE;rw[za ω,YL]
 rw[q];unfold j4;grind;have o:=zC o;rw[za o]at f;refine vA ζ ⟨λu=>?_,λu=>?_⟩;have u:c∈fW:=zB u;rw[zi u]at f;refine un ζ A ω ?_;have:=w (wh eA);refine⟨⟨ω,ω,ω⟩,?_⟩;have y:(bl s).extract (a:Int).toNat ((a+Qd (wh eA) (s.drop a):Nat):Int).toNat=bl ((s.drop a).take (Qd (wh eA) (s.drop a))):=by rw[YL,YL,qa];congr 1;rw[zcx]
 rw[y];refine wF η ⟨λq=>?_,λq=>?_⟩;have q:¬(zj ((s.drop a).take (Qd (wh eA) (s.drop a)))).2=0:=ψ q
 rw[za q]at f;refine h _ ?_;unfold j4;simp_all;have q:(zj ((s.drop a).take (Qd (wh eA) (s.drop a)))).2=0:=ψ q
 rw[zi q]at f;refine h _ ?_;unfold j4;simp_all;have u:¬c∈fW:=zC u;rw[za u]at f;refine un ζ A ω ?_;have:=w (wh jj);refine⟨⟨ω,ω,ω⟩,?_⟩;have y:(bl s).extract (a:Int).toNat ((a+Qd (wh jj) (s.drop a):Nat):Int).toNat=bl ((s.drop a).take (Qd (wh jj) (s.drop a))):=by rw[YL,YL,qa];congr 1;rw[zcx]
 rw[y];have e:=λl:Bs=>(fS ((s.drop a).take (Qd (wh jj) (s.drop a))) l:((bl _:Bt).toList==((⟨l.toArray⟩:Bt):Bt).toList)=_);have B:=e [116,114,117,101];have x:=e [102,97,108,115,101];have M:=e [110,117,108,108];rw[B,x,M];have fin:∀k:Int,Zd ((s.drop a).take (Qd (wh jj) (s.drop a)))=k->¬k=0->R (k,((a+Qd (wh jj) (s.drop a):Nat):Int),0):=λk F h0=>by rw[F,za h0]at f;refine h _ ?_;unfold j4;simp_all
 refine⟨λm=>fin 10 ?_ ω,λm=>⟨λb=>fin 11 ?_ ω,λb=>⟨λo=>fin 12 ?_ ω,λo=>?_⟩⟩⟩;unfold Zd;simp_all;unfold Zd;simp_all;unfold Zd;simp_all;have:Zd ((s.drop a).take (Qd (wh jj) (s.drop a)))=0:=by unfold Zd;rw[za (zC m),za (zC b),za (zC o)]
 rw[zi this]at f;refine h _ ?_;unfold j4;simp_all
def AE:∀(f:Nat) (s:Bs) (a:Nat) (o:List Tk),(Zq f s a o).1.length<=DB o+f
 |0,s,a,o=>Nat.le_add_right _ _
 |f+1,s,a,o=>by rw[Zq];split;split;have:=AE f s (Zy s a).2.1 (o++[((Zy s a).1,((a:Int),((Zy s a).2.1:Int)))]);grind;simp;simp
def Lw{R:List Tk×Int×Int->Prop}(h:R ((qz s).1,((qz s).2.1:Int),(qz s).2.2)):aa5 gl 228 [qr .str (bl s)] [.row (.pair q0 (.pair q0 (.int .i64))),.int .i64,.int .i64] R:=by
 apply KZ;rw[zf];refine⟨λm=>?_,λm=>?_⟩;have m:=zB m;unfold qz at h;grind;have m:=zC m;have y:qz s=Zq (DB s) s 0 []:=by unfold qz;rw[za ω]
 refine⟨λout i=>∃(a f:Nat),i=(a:Int)/\a<=DB s/\DB s-a<=f/\DB out<=a/\qz s=Zq f s a out,λ_ i=>DB s-i.toNat,⟨0,DB s,rfl,ω,ω,ξ,y⟩,?_⟩;rintro out i ⟨a,f,rfl,B,z,A,q⟩;refine⟨λl=>?_,λl=>?_⟩;have l:=zB l;have b:a<DB s:=ω
 obtain⟨f,rfl⟩:∃f',f=f'+1:=⟨f-1,ω⟩;refine TS ω b λr w=>?_;have⟨k,t,e⟩:=r;have⟨o,p,n⟩:=w;dsimp only at o p n;refine⟨λc=>?_,λc=>?_⟩;have c:¬e=0:=ψ c
 rw[q,Zq,zi b,za ω]at h;simp_all;have c:e=0:=ψ c
 have h0:(Zy s a).2.2=0:=by rw[<-p];exact c
 have u:=Y1 b h0;have x:=n h0;subst x o;refine⟨φ,⟨(Zy s a).2.1,f,rfl,u.2,ω,?_,?_⟩,?_⟩;grind;rw[q,Zq,zi b,zi h0];grind;have l:=zC l;have e:Zq f s a out=(out,a,0):=by cases f with
  |zero=>rfl
  |succ f=>rw[Zq,za ω]
 grind
end
section
variable {lo b:Nat} {g:zb} {M:Fr} {cs:Array Value}
def gM(na:NA)(b:Nat):List Nat:=if na.length=0 then []else b::na.flatMap λp=>p.2.kb++p.2.pb
def ED{na:NA}{sl:Sl}(H:NS lo g M na sl b cs){c:Nat}(h:c∈gM na b):lo<=c:=by unfold gM at h;split at h;cases h;rename_i h0;obtain rfl|h:=YT.1 h;exact(H.lb (H.cell (n:=0) ω).2.2.1).1;have⟨p,e,f⟩:=zbz.1 h;exact((H.nd p e).own (ZF.1 f)).1
theorem uA{na:NA}(h:0<DB na):gM na b=b::na.flatMap λp=>p.2.kb++p.2.pb:=by unfold gM;rw[za ω]
theorem NS.rd{na:NA}{sl:Sl}(H:NS lo g M na sl b cs)(ag:AgM M g)(w:na.length<=4096)(l:∀p∈na,fF p.1<=1000000):Rd (MxL M g (gM na b)) (.row gN) (na.map (·.1)) [aK sl]:=by have n:=H.len;have h:=H.cr.ro.le;refine⟨_,rfl,sl.a,sl.cap,?_,⟨by rw[YO];omega,by rw[YO];omega⟩,?_⟩;show aK _=_;unfold aK;rw[YO,n];by_cases h0:na=[];left;rw[h0];rfl;have e:0<DB na:=zaj.2 h0;have⟨h1,h2,u,r,t⟩:=H.cell e;refine .inr ⟨b,0,cs,h1,MxL.at (by rw[uA e];exact ZD) h2,λi hi=>?_⟩;rw[YO]at hi;have f:=YY hi;have⟨s,q⟩:=H.cr.el i (gy na[i]) (by rw[zav,YS hi];rfl);rw[ZO,show sz gN=7 from rfl,q,zby];have I:=H.nd _ f;have m:=l _ f;unfold fF at m;have k:=I.kk.rd ag (all:=gM na b) (λc h=>by rw[uA e];exact ZA _ (zbz.2 ⟨_,f,ZF.2 (.inl h)⟩)) ω;have o:=I.pp.rd ag (all:=gM na b) (λc h=>by rw[uA e];exact ZA _ (zbz.2 ⟨_,f,ZF.2 (.inr h)⟩)) ω;refine⟨[ab0 na[i].1.1],[ab0 na[i].1.2.1.1,ab0 na[i].1.2.1.2,ab0 na[i].1.2.2.1.1,ab0 na[i].1.2.2.1.2,aK na[i].2.ks,aK na[i].2.ps],rfl,rfl,?_⟩;refine⟨[ab0 na[i].1.2.1.1,ab0 na[i].1.2.1.2],[ab0 na[i].1.2.2.1.1,ab0 na[i].1.2.2.1.2,aK na[i].2.ks,aK na[i].2.ps],rfl,⟨_,_,rfl,rfl,rfl⟩,?_⟩;refine⟨[ab0 na[i].1.2.2.1.1,ab0 na[i].1.2.2.1.2],[aK na[i].2.ks,aK na[i].2.ps],rfl,⟨_,_,rfl,rfl,rfl⟩,?_⟩;exact⟨[aK na[i].2.ks],[aK na[i].2.ps],rfl,k,o⟩
def mV{x:Bs}{l:List Nd}{sl:Sl}(i j:Int)(h:Rd M (.row gN) l [aK sl]):x7 M [.pair .str (.row gN),.int .i64,.int .i64] ((bl x,l),i,j) (.tuple #[.agg #[aa6 (bl x),aK sl],ab0 i,ab0 j]):=by refine⟨[.agg #[aa6 (bl x),aK sl],ab0 i,ab0 j],⟨_,_,rfl,?_,_,_,rfl,Zj _ i,_,rfl,Zj _ j⟩,rfl⟩;exact⟨[aa6 (bl x),aK sl],rfl,[aa6 (bl x)],[aK sl],rfl,rfl,h⟩
def J5{T:Ty}:Rd M (.row T) [] [aK ⟨Te,0,0⟩]:=⟨_,rfl,Te,0,rfl,⟨ξ,ξ⟩,.inl rfl⟩
def IX:qq Tp 162=Ta:=κ
def RQ:jk Tp 162=2:=κ
def Jr{x y:Value}(B:Blk g b #[x,y]){u:Bt}{v:Sl}{K:zb->Prop}(f:∀g',(∀j,j≠b->g'[j]?=g[j]?)->g'.size=g.size->Blk g' b #[aa6 u,aK v]->K g'):wf Tp (YI 162 (aa7 ⟨b,0,Te⟩) (.agg #[aa6 u,aK v])) g K:=by refine Jn (vs:=[aa6 u,aK v]) IX B rfl RQ (YJ _) (λw c=>?_) λg' e i h=>f g' h i e;simp at c;obtain rfl|rfl:=c <;> rfl
def D7{l:List Tk}{k:Nat}(b:k<DB l):zt (l.take (k+1))=zt (l.take k)++(ite (l[k].1≠1) [l[k]] []):=by unfold zt;rw[YP b,List.filter_append];congr 1;by_cases h:l[k].1=1;simp[h];simp[h]
end
section
variable {s:Bs}
def td(h:(qz s).2.2=0):s.length<=65536/\(qz s).1.length<=DB s:=by unfold qz at h ⊢;split at h;simp at h;rename_i b;rw[za b];have:=AE (DB s) s 0 [];simp_all
def NM{gl:Fr}(hg:GL gl){R:(Bt×List Nd)×Int×Int->Prop}(hR:R ((bl (xh s).1.1,(xh s).1.2),(xh s).2.1,(xh s).2.2)):aa5 gl 226 [qr .str (bl s)] [.pair .str (.row gN),.int .i64,.int .i64] R:=by
 intro h M vs hM ag ha
 match vs,ha with
 |[u1],⟨a1,_⟩=>
  obtain rfl:=y0 (s:=bl s) a1;apply PX.of;apply Pq;intro h1;have⟨k1,z1,B1⟩:=yp (g:=h1) rfl;clear_value h1;have aS:AgM M h1:=ag.aa1 k1;refine Rm hg hM aS λf q t G rt=>⟨t,_,_,rfl,?_⟩;have B3:=B1.aa1 (G.aa1.get h.size ω);have z3:=G.aa1.size;have k3:Bk h.size h f:=k1.trans (c:=f) (m:=h.size) ⟨z3,λj w=>G.aa1.get j ω⟩ (YJ _);have bM:∀b,b<h.size->q b=M b:=λb y=>G.old b ω;have aL:M h.size=Te:=by
   cases e:M h.size with
   |none=>rfl
   |some x=>have:=ag.lt e;omega
  have ah:q h.size=Te:=by rw[G.old _ ω];exact aL
  refine⟨λU=>?_,λU=>?_⟩;have U:¬(qz s).2.2=0:=ψ U
  have H:xh s=(([],[]),((qz s).2.1:Int),(qz s).2.2):=by unfold xh;rw[za U]
  rw[H]at hR;refine Jr (u:=⟨#[]⟩) (v:=⟨Te,0,0⟩) B3 λh7 f7 z7 B7=>⟨_,_,B7.ld (cs:=[aa6 ⟨#[]⟩,aK ⟨Te,0,0⟩]),?_⟩;exact⟨M,_,up ag ⟨ω,λj w=>by rw[f7 j ω];exact k3.get j w⟩,mV (x:=[]) (l:=[]) _ _ J5,hR⟩;have U:(qz s).2.2=0:=ψ U
  have⟨hs,aQ⟩:=td U;have H:xh s=match Zr s 32 (0,0) ⟨zt (qz s).1,0,[]⟩with
   |.inl st=>ite (st.rest=[]) ((s,st.nodes),(DB s:Int),0) (([],[]),st.here (DB s),2)
   |.inr e=>(([],[]),e.1,e.2):=by unfold xh;rw[zi U];rfl
  have az:=Dp (En s);generalize (qz s).1=tl at rt aQ H az;have rl:=(Bx rt).1;intro am;have⟨aN,bz,aZ⟩:=yp (g:=am) rfl;clear_value am;have bu:∀c,f.size<=c->q c=Te:=λc i=>by
   cases e:q c with
   |none=>rfl
   |some x=>have:=G.ag.lt e;omega
  refine⟨λk g=>∃(n:Nat) (rs:Sl) (bs:ab1),k=(n:Int)/\n<=DB tl/\Fd (f.size+1) g q hH (zt (tl.take n)) rs bs/\Blk g f.size (rn s rs 0 0 ⟨Te,0,0⟩ 0 0).toArray/\Bk f.size f g,λk _=>DB tl-k.toNat,⟨0,⟨Te,0,0⟩,[],rfl,ω,.nil,aZ,aN⟩,?_⟩;rintro k g ⟨n,rs,bs,rfl,hn,ro,Bp,kg⟩;have agg:AgM q g:=G.ag.aa1 kg;have zg:f.size+1<=g.size:=χ Bp.lt
  refine⟨λL=>?_,λbm=>?_⟩;have L:n<DB tl:=χ (zB L)
  have⟨tb,o,e1,e2,e3,e4⟩:=gH agg rt L;have ax:=D7 L;refine⟨_,⟨e1,ω,ω⟩,tl[n].1,tl[n].2.1,tl[n].2.2,?_,?_⟩;rw[zm,YL];exact⟨by rw[zm];exact e2,by rw[zm];exact e3,by rw[zm];exact e4,trivial⟩;intro ay;have⟨bq,bB,aP⟩:=yp (g:=ay) rfl;clear_value ay;refine jZ aP λaa q1 q2 q3=>⟨tl[n].1,by rw[zm];exact q3.cell rfl,?_⟩;have Z:Bk g.size g aa:=⟨ω,λj w=>(q1 j ω).trans (bq.get j w)⟩;have D:=ro.frame (λc i=>Z.get c (ro.own c i).2.1) (Fr.le.refl q) λc i=>(ro.own c i).2.2;have V:=Bp.aa1 (Z.get _ ω);have ar:Bk f.size f aa:=kg.trans (c:=aa) (m:=f.size) ⟨ω,λj w=>Z.get j ω⟩ (YJ _);have ab:p3 ((n:Int)+1)=((n+1:Nat):Int):=by rw[bR ω];omega
  rw[ab];refine⟨λy=>⟨_,rfl,rs,by rw[zm];exact V.cell rfl,tl[n].1,tl[n].2.1,tl[n].2.2,q3.ld,?_⟩,λy=>?_⟩;have y:tl[n].1≠1:=ψ y
  rw[zi y]at ax;intro J;have⟨O,bP,aG⟩:=yp (g:=J) rfl;clear_value J;refine⟨by rw[zm];exact O.get f.size ω,?_⟩;have ak:=D.frame (λc i=>O.get c (D.own c i).2.1) (Fr.le.refl q) λc i=>(D.own c i).2.2;have aj:=V.aa1 (O.get _ ω);have S:Bk f.size f J:=ar.trans (c:=J) (m:=f.size) ⟨ω,λj w=>O.get j ω⟩ (YJ _);have aT:(zt (tl.take n)).length<=n:=by have:(zt (tl.take n)).length<=(tl.take n).length:=List.length_filter_le _ _;rw[ZV]at this;omega
  refine Fd.app wY ω (G.ag.aa1 S) ak ω aG (x5 _ _ _) ω λs' bE bs' aA bG c29 ai=>⟨s',rfl,_,rfl,?_⟩;rw[zm];have aE:f.size∉bs:=λQ=>χ ((ro.own _ Q).1)
  refine qj yF uo (aj.aa1 (ai _ ω aE)) (by show 1<7;omega) rfl λbe u1 u2 u3=>⟨⟨n+1,s',bs',rfl,ω,?_,u1,?_⟩,?_⟩;rw[ax];exact aA.frame (λc i=>u3 c λe=>η) (Fr.le.refl q) λc i=>(aA.own c i).2.2;refine S.trans (c:=be) (m:=f.size) ⟨ω,λj w=>?_⟩ (YJ _);rw[u3 j ω,ai j ω λQ=>χ ((ro.own j Q).1)];grind;grind;have aF:n=DB tl:=χ (zC bm)
  subst aF;rw[ZX]at ro;have aT:(zt tl).length<=DB tl:=List.length_filter_le _ _;have bj:=ro.rd agg (all:=bs) (λc i=>i) ω;have aI:AgM (MxL q g bs) g:=MxL.ag agg bs;have bA:∀c∈bs,f.size+1<=c:=λc i=>(ro.own c i).1;have a7:∀c,c∉bs->MxL q g bs c=q c:=λc i=>by unfold MxL;rw[za i]
  have aU:Fr.le gl (MxL q g bs):=hM.trans (G.le.trans (il agg bs));have P:PaS f.size g (MxL q g bs) f.size s ⟨zt tl,0,[]⟩ 0 0 (ft f.size [] ⟨Te,0,0⟩ 0):=by refine⟨rs,0,[],⟨Te,0,0⟩,0,#[],⟨Bp,bj,.nil,aI,⟨YJ _,?_⟩,?_⟩,rfl,rfl⟩;grind;rintro(⟨h1,_⟩|⟨p,hp,_⟩);exact h1 rfl;cases hp
  have hT:(⟨zt tl,0,[]⟩:PSt).T<=200000:=by unfold PSt.T;simp;omega
  have aY:=QL (lo:=f.size) (M:=MxL q g bs) (bp:=f.size) (s:=s) hg aU hs 32 (YJ _) (0,0) g _ 0 0 _ P ξ hT az;refine aY _ λb aH a a' e' O' P' S' n' B=>⟨b,rfl,?_⟩;intro aO an;have fin:∀(ok:Bool) (z:zb) (st1:PSt) (a1 e1:Int) (O1:ac5),PaS f.size z (MxL q g bs) f.size s st1 a1 e1 O1->Stp g (ft f.size [] ⟨Te,0,0⟩ 0) z O1->(ok=Tc->xh s=(([],[]),a1,e1))->(ok=Ta->xh s=((s,st1.nodes),(DB s:Int),0)/\DB st1.nodes<=4096/\st1.T<=200000)->aO ok z:=by
   intro ok z st1 a1 e1 O1 P1 S1 hf ht;refine an ok z ?_;have ba:∀c,c<f.size->¬ft f.size [] ⟨Te,0,0⟩ 0 c:=λc i=>by rintro(h1|⟨h1,_⟩|⟨p,hp,_⟩);omega;exact h1 rfl;cases hp
   have Y:∀j,j<f.size->z[j]?=f[j]?:=λj w=>(S1.fr j ω (ba j w)).trans (kg.get j w);have bF:=S1.le;have Bd:=B3.aa1 (Y h.size ω);have a6:=P1;have⟨ae,a8,A,C,b1,ap,I,r,bn⟩:=a6;have bH:=I.blk.lt;refine⟨λho=>⟨_,rfl,a1,by rw[zm];exact I.blk.cell rfl,_,rfl,e1,by rw[zm];exact I.blk.cell rfl,rfl,rfl,?_⟩,λho=>⟨_,rfl,C,by rw[zm];exact I.blk.cell rfl,?_⟩⟩;have ho:ok=Tc:=ψ ho
   refine Jr (u:=⟨#[]⟩) (v:=⟨Te,0,0⟩) Bd λbN aC bO aM=>?_;have E:=aC f.size ω;refine⟨by rw[zm];exact E,by rw[zm];exact E,by rw[zm];exact E,_,_,aM.ld (cs:=[aa6 ⟨#[]⟩,aK ⟨Te,0,0⟩]),?_⟩;rw[hf ho]at hR;exact⟨M,_,up ag ⟨ω,λj w=>by rw[aC j ω,Y j ω];exact k3.get j w⟩,mV (x:=[]) (l:=[]) _ _ J5,hR⟩;have ho:ok=Ta:=ψ ho
   have⟨bg,bL,bJ⟩:=ht ho;refine Jr (u:=bl s) (v:=C) Bd λN af bI br=>⟨_,_,br.ld (cs:=[aa6 (bl s),aK C]),?_⟩;rw[bg]at hR;rw[zf];have aV:MxL q g bs h.size=Te:=by rw[a7 _ λQ=>η];exact ah
   have au:NS f.size N (MxL q g bs) A C b1 ap:=I.ns.frame ω λc i=>af c λe=>χ ((I.ns.own i).1)
   have F:AgM (MxL q g bs) N:=i6 I.ag λj w Q=>af j λe=>Q (e ▸ aV);have bD:A.length=DB st1.nodes:=by rw[<-r,YO]
   have aB:=au.rd F ω λp hp=>by
    have:p.1∈st1.nodes:=by rw[<-r];exact List.mem_map_of_mem hp
    have:=nP this;omega
   rw[r]at aB;refine⟨MxL (MxL q g bs) N (gM A b1),_,⟨⟨ω,λj w=>by rw[af j ω,Y j ω];exact k3.get j w⟩,?_,λc i=>?_,MxL.ag F _⟩,mV _ _ aB,hR⟩;exact G.le.trans ((il agg bs).trans (il F _));have h1:c∉gM A b1:=λQ=>χ (ED au Q)
   have e1:MxL (MxL q g bs) N (gM A b1) c=MxL q g bs c:=by unfold MxL;rw[za h1]
   grind
  have aJ:=P';have⟨ae,a8,A,C,b1,ap,I,r,bn⟩:=aJ;have bC:=(Bx I.rd).1;refine⟨_,λ_=>rfl,ae,λ_=>by rw[zm];exact I.blk.cell rfl,λi=>?_,λi=>?_⟩;have y:b=Ta/\0<DB a.rest:=by
   cases b with
   |false=>simp at i
   |true=>grind
  refine X1 P' λg' P2 S2=>⟨Tc,rfl,fin Tc g' a _ _ O' P2 (S'.trans S2) (λ_=>?_) (λh=>(ε h))⟩;rw[H];cases hr:Zr s 32 (0,0) ⟨zt tl,0,[]⟩with
  |inl x=>rw[hr]at B;rw[B.2]at y ⊢;grind
  |inr x=>rw[hr]at B;rw[B.1]at y;grind
  refine fin b aH a a' e' O' P' S' (λy=>?_) (λy=>?_);rw[H];cases hr:Zr s 32 (0,0) ⟨zt tl,0,[]⟩with
  |inl x=>rw[hr]at B;rw[B.1]at y;cases y
  |inr x=>rw[hr]at B;rw[B.2]
  subst y;have hz:a.rest=[]:=by
   have:¬0<ae.len:=ψ i
   exact za2.1 ω
  cases hr:Zr s 32 (0,0) ⟨zt tl,0,[]⟩with
  |inl x=>rw[hr]at B H;have okv:=lh s 32 _ _ _ hr;rw[<-B.2]at okv H;dsimp only at H;rw[zi hz]at H;exact⟨H,okv.m ξ,χ okv.t⟩
  |inr x=>rw[hr]at B;exact absurd B.1 ξ
end
end
section
open Go.RowKit
section
def NW{gl:Fr}(hg:GL gl){s:Bs}{R:(Bt×List Nd)×Int×Int->Prop}(hR:R ((bl (xh s).1.1,(xh s).1.2),(xh s).2.1,(xh s).2.2)):aa5 gl 166 [qr .str (bl s)] [.pair .str (.row gN),.int .i64,.int .i64] R:=by
 intro h M vs hM ag ha
 match vs,ha with
 |[u1],⟨a1,_⟩=>
  obtain rfl:=y0 (s:=bl s) a1;apply PX.of;apply U5;intro h1;have⟨k1,z1,B1⟩:=yp (g:=h1) rfl;clear_value h1;have aN:AgM M h1:=ag.aa1 k1;refine(Lw (gl:=gl) (s:=s) (R:=λr=>r=((qz s).1,((qz s).2.1:Int),(qz s).2.2)) rfl).go hM aN (zn (a:=qr .str _) (DH _) zw) λv f i rr I hv E=>?_;subst E;obtain⟨vs,⟨v1,rest,rfl,aO,v2,aP,rfl,aU,v3,rfl,bj⟩,rfl⟩:=hv;rw[qn aU,qn bj];obtain⟨t,rfl,rt⟩:=lr aO;refine⟨t,_,_,rfl,?_⟩;have B3:=B1.aa1 (I.aa1.get h.size ω);have z3:=I.aa1.size;have k3:Bk h.size h f:=k1.trans (c:=f) (m:=h.size) ⟨z3,λj B=>I.aa1.get j ω⟩ (YJ _);have bL:∀b,b<h.size->i b=M b:=λb y=>I.old b ω;have aH:M h.size=Te:=by
   cases e:M h.size with
   |none=>rfl
   |some x=>have:=ag.lt e;omega
  have af:i h.size=Te:=by rw[I.old _ ω];exact aH
  refine⟨λY=>?_,λY=>?_⟩;have Y:¬(qz s).2.2=0:=ψ Y
  have J:xh s=(([],[]),((qz s).2.1:Int),(qz s).2.2):=by unfold xh;rw[za Y]
  rw[J]at hR;refine Jr (u:=⟨#[]⟩) (v:=⟨Te,0,0⟩) B3 λh7 f7 z7 B7=>⟨_,_,B7.ld (cs:=[aa6 ⟨#[]⟩,aK ⟨Te,0,0⟩]),?_⟩;exact⟨M,_,up ag ⟨ω,λj B=>by rw[f7 j ω];exact k3.get j B⟩,mV (x:=[]) (l:=[]) _ _ J5,hR⟩;have Y:(qz s).2.2=0:=ψ Y
  have⟨hs,aM⟩:=td Y;have J:xh s=match Zr s 32 (0,0) ⟨zt (qz s).1,0,[]⟩with
   |.inl st=>ite (st.rest=[]) ((s,st.nodes),(DB s:Int),0) (([],[]),st.here (DB s),2)
   |.inr e=>(([],[]),e.1,e.2):=by unfold xh;rw[zi Y];rfl
  have au:=Dp (En s);generalize (qz s).1=tl at rt aM J au;have rl:=(Bx rt).1;intro ak;have⟨aJ,bu,aY⟩:=yp (g:=ak) rfl;clear_value ak;have bq:∀c,f.size<=c->i c=Te:=λc q=>by
   cases e:i c with
   |none=>rfl
   |some x=>have:=I.ag.lt e;omega
  refine⟨λk g=>∃(n:Nat) (rs:Sl) (bs:ab1),k=(n:Int)/\n<=DB tl/\Fd (f.size+1) g i hH (zt (tl.take n)) rs bs/\Blk g f.size (lQ s rs 0 ⟨Te,0,0⟩ 0 0).toArray/\Bk f.size f g,λk _=>DB tl-k.toNat,⟨0,⟨Te,0,0⟩,[],rfl,ω,.nil,aY,aJ⟩,?_⟩;rintro k g ⟨n,rs,bs,rfl,hn,ro,Bp,kg⟩;have agg:AgM i g:=I.ag.aa1 kg;have zg:f.size+1<=g.size:=χ Bp.lt
  refine⟨λN=>?_,λbg=>?_⟩;have N:n<DB tl:=χ (zB N)
  have⟨tb,o,S,e2,e3,e4⟩:=gH agg rt N;have ar:=D7 N;have aa:p3 ((n:Int)+1)=((n+1:Nat):Int):=by rw[bR ω];omega
  rw[aa];refine⟨_,⟨S,ω,ω⟩,tl[n].1,by rw[zm,zm,YL];exact e2,λy=>?_,λy=>?_⟩;have y:tl[n].1≠1:=ψ y
  refine⟨_,rfl,rs,by rw[zm];exact Bp.cell rfl,_,⟨S,ω,ω⟩,tl[n].1,tl[n].2.1,tl[n].2.2,?_,?_⟩;rw[zm,YL];exact⟨by rw[zm];exact e2,by rw[zm];exact e3,by rw[zm];exact e4,trivial⟩;rw[zi y]at ar;intro L;have⟨Q,bO,aC⟩:=yp (g:=L) rfl;clear_value L;refine⟨by rw[zm];exact Q.get f.size ω,?_⟩;have aj:=ro.frame (λc q=>Q.get c (ro.own c q).2.1) (Fr.le.refl i) λc q=>(ro.own c q).2.2;have ai:=Bp.aa1 (Q.get _ ω);have V:Bk f.size f L:=kg.trans (c:=L) (m:=f.size) ⟨ω,λj B=>Q.get j ω⟩ (YJ _);have aQ:(zt (tl.take n)).length<=n:=by have:(zt (tl.take n)).length<=(tl.take n).length:=List.length_filter_le _ _;rw[ZV]at this;omega
  refine Fd.app wY ω (I.ag.aa1 V) aj ω aC (x5 _ _ _) ω λs' bD bs' ax bF c29 ah=>⟨s',rfl,_,rfl,?_⟩;rw[zm];have aA:f.size∉bs:=λU=>χ ((ro.own _ U).1)
  refine qj yF uo (ai.aa1 (ah _ ω aA)) (by show 1<6;omega) rfl λa8 u1 u2 u3=>⟨⟨n+1,s',bs',rfl,ω,?_,u1,?_⟩,?_⟩;rw[ar];exact ax.frame (λc q=>u3 c λe=>η) (Fr.le.refl i) λc q=>(ax.own c q).2.2;refine V.trans (c:=a8) (m:=f.size) ⟨ω,λj B=>?_⟩ (YJ _);rw[u3 j ω,ah j ω λU=>χ ((ro.own j U).1)];grind;grind;have aB:n=DB tl:=χ (zC bg)
  subst aB;rw[ZX]at ro;have aQ:(zt tl).length<=DB tl:=List.length_filter_le _ _;have be:=ro.rd agg (all:=bs) (λc q=>q) ω;have aF:AgM (MxL i g bs) g:=MxL.ag agg bs;have bz:∀c∈bs,f.size+1<=c:=λc q=>(ro.own c q).1;have a6:∀c,c∉bs->MxL i g bs c=i c:=λc q=>by unfold MxL;rw[za q]
  have aS:Fr.le gl (MxL i g bs):=hM.trans (I.le.trans (il agg bs));have P:RS f.size g (MxL i g bs) f.size s (zt tl) ⟨zt tl,0,[]⟩ 0 0 (ft f.size [] ⟨Te,0,0⟩ 0):=by refine⟨rs,0,[],⟨Te,0,0⟩,0,#[],⟨Bp,be,.nil,aF,⟨YJ _,?_⟩,?_⟩,⟨rfl,ZQ _,λt h=>absurd h ω⟩,rfl,rfl⟩;grind;rintro(⟨h1,_⟩|⟨p,hp,_⟩);exact h1 rfl;cases hp
  have hT:(⟨zt tl,0,[]⟩:PSt).T<=200000:=by unfold PSt.T;simp;omega
  have aV:=HZ (lo:=f.size) (M:=MxL i g bs) (bp:=f.size) (s:=s) (l:=zt tl) hg aS hs ω 32 (YJ _) (0,0) g _ 0 0 _ P ξ hT au;refine aV _ λb aE d a' e' O' P' S' n' C=>⟨b,rfl,?_⟩;intro aL am;have fin:∀(ok:Bool) (z:zb) (st1:PSt) (a1 S:Int) (O1:ac5),RS f.size z (MxL i g bs) f.size s (zt tl) st1 a1 S O1->Stp g (ft f.size [] ⟨Te,0,0⟩ 0) z O1->(ok=Tc->xh s=(([],[]),a1,S))->(ok=Ta->xh s=((s,st1.nodes),(DB s:Int),0)/\DB st1.nodes<=4096/\st1.T<=200000)->aL ok z:=by
   intro ok z st1 a1 S O1 P1 S1 hf ht;refine am ok z ?_;have a7:∀c,c<f.size->¬ft f.size [] ⟨Te,0,0⟩ 0 c:=λc q=>by rintro(h1|⟨h1,_⟩|⟨p,hp,_⟩);omega;exact h1 rfl;cases hp
   have Z:∀j,j<f.size->z[j]?=f[j]?:=λj B=>(S1.fr j ω (a7 j B)).trans (kg.get j B);have bE:=S1.le;have Bd:=B3.aa1 (Z h.size ω);have aZ:=P1;have⟨ab,k1,A,D,b1,an,H,A1,w,bm⟩:=aZ;have bG:=H.blk.lt;refine⟨λho=>⟨_,rfl,a1,by rw[zm];exact H.blk.cell rfl,_,rfl,S,by rw[zm];exact H.blk.cell rfl,rfl,rfl,?_⟩,λho=>⟨_,rfl,D,by rw[zm];exact H.blk.cell rfl,?_⟩⟩;have ho:ok=Tc:=ψ ho
   refine Jr (u:=⟨#[]⟩) (v:=⟨Te,0,0⟩) Bd λbM az bN aI=>?_;have F:=az f.size ω;refine⟨by rw[zm];exact F,by rw[zm];exact F,by rw[zm];exact F,_,_,aI.ld (cs:=[aa6 ⟨#[]⟩,aK ⟨Te,0,0⟩]),?_⟩;rw[hf ho]at hR;exact⟨M,_,up ag ⟨ω,λj B=>by rw[az j ω,Z j ω];exact k3.get j B⟩,mV (x:=[]) (l:=[]) _ _ J5,hR⟩;have ho:ok=Ta:=ψ ho
   have⟨ba,bJ,bI⟩:=ht ho;refine Jr (u:=bl s) (v:=D) Bd λO ae bH bn=>⟨_,_,bn.ld (cs:=[aa6 (bl s),aK D]),?_⟩;rw[ba]at hR;rw[zf];have aT:MxL i g bs h.size=Te:=by rw[a6 _ λU=>η];exact af
   have ap:NS f.size O (MxL i g bs) A D b1 an:=H.ns.frame ω λc q=>ae c λe=>χ ((H.ns.own q).1)
   have G:AgM (MxL i g bs) O:=i6 H.ag λj B U=>ae j λe=>U (e ▸ aT);have bC:A.length=DB st1.nodes:=by rw[<-w,YO]
   have ay:=ap.rd G ω λp hp=>by
    have:p.1∈st1.nodes:=by rw[<-w];exact List.mem_map_of_mem hp
    have:=nP this;omega
   rw[w]at ay;refine⟨MxL (MxL i g bs) O (gM A b1),_,⟨⟨ω,λj B=>by rw[ae j ω,Z j ω];exact k3.get j B⟩,?_,λc q=>?_,MxL.ag G _⟩,mV _ _ ay,hR⟩;exact I.le.trans ((il agg bs).trans (il G _));have h1:c∉gM A b1:=λU=>χ (ED ap U)
   have S:MxL (MxL i g bs) O (gM A b1) c=MxL i g bs c:=by unfold MxL;rw[za h1]
   grind
  have aG:=P';have⟨ab,k1,A,D,b1,an,H,A1,w,bm⟩:=aG;have bB:=(Bx H.rd).1;have bA:d.rest.length=(zt tl).length-k1:=by rw[A1.rest,ZE]
  have br:=A1.le;refine⟨_,λ_=>rfl,(k1:Int),λ_=>by rw[zm];exact H.blk.cell rfl,_,λ_=>rfl,ab,λ_=>by rw[zm];exact H.blk.cell rfl,λq=>?_,λq=>?_⟩;have y:b=Ta/\0<DB d.rest:=by
   cases b with
   |false=>simp at q
   |true=>grind
  refine Jq P' λg' P2 S2=>⟨Tc,rfl,fin Tc g' d _ _ O' P2 (S'.trans S2) (λ_=>?_) (λh=>(ε h))⟩;rw[J];cases E:Zr s 32 (0,0) ⟨zt tl,0,[]⟩with
  |inl x=>rw[E]at C;rw[C.2]at y ⊢;grind
  |inr x=>rw[E]at C;rw[C.1]at y;grind
  refine fin b aE d a' e' O' P' S' (λy=>?_) (λy=>?_);rw[J];cases E:Zr s 32 (0,0) ⟨zt tl,0,[]⟩with
  |inl x=>rw[E]at C;rw[C.1]at y;cases y
  |inr x=>rw[E]at C;rw[C.2]
  subst y;have hz:d.rest=[]:=by
   have:¬(k1:Int)<(ab.len:Int):=ψ q
   exact za2.1 ω
  cases E:Zr s 32 (0,0) ⟨zt tl,0,[]⟩with
  |inl x=>rw[E]at C J;have okv:=lh s 32 _ _ _ E;rw[<-C.2]at okv J;dsimp only at J;rw[zi hz]at J;exact⟨J,okv.m ξ,χ okv.t⟩
  |inr x=>rw[E]at C;exact absurd C.1 ξ
end
end
section
def Sy(D:Bt)(h:zb)(R:vvv) (H:let b:=h.push (.cells tC 25);aa4 166 #[aa6 D] b (λc d=>∃e f g i,c=.tuple #[.agg #[aa6 e,aK f],iV g,iV i]/\let j:=d.push (.cells #[aa6 (⟨#[]⟩:Bt),.slice Te 0 0] 162);wf Tp (YI 162 (aa7 (aa8 d)) (.agg #[aa6 e,aK f])) j (λk=>((i != 0)=Ta->wf Tp (YI 25 (aa7 (aa8 h)) (tZ)) k (λl=>∃m n o p,zc l (aa8 h) 0 (tL m n o p)/\R (.tuple #[tA m n o p,iV g,iV i]) l))/\((i != 0)=Tc->∃q r,zc k (aa8 d) 0 [aa6 q,aK r]/\aa4 167 #[.agg #[aa6 q,aK r],iV 0] k (λs t=>∃u v w x,s=tA u v w x/\wf Tp (YI 25 (aa7 (aa8 h)) (tA u v w x)) t (λy=>∃z A B C,zc y (aa8 h) 0 (tL z A B C)/\R (.tuple #[tA z A B C,iV g,iV 0]) y)))))):aa4 112 #[aa6 D] h R:=XF ⟨[],[],[]⟩ [.cell 2 25,.tmp 3,.tmp 4] 22 func112 H
def UQ(D:Bt)(h:zb)(R:vvv) (H:let b:=h.push (.cells tC 25);aa4 226 #[aa6 D] b (λc d=>∃e f g i,c=.tuple #[.agg #[aa6 e,aK f],iV g,iV i]/\let j:=d.push (.cells #[aa6 (⟨#[]⟩:Bt),.slice Te 0 0] 162);wf Tp (YI 162 (aa7 (aa8 d)) (.agg #[aa6 e,aK f])) j (λk=>((i != 0)=Ta->wf Tp (YI 25 (aa7 (aa8 h)) (tZ)) k (λl=>∃m n o p,zc l (aa8 h) 0 (tL m n o p)/\R (.tuple #[tA m n o p,iV g,iV i]) l))/\((i != 0)=Tc->∃q r,zc k (aa8 d) 0 [aa6 q,aK r]/\aa4 227 #[.agg #[aa6 q,aK r],iV 0,iV 1] k (λs t=>∃u v w x,s=tA u v w x/\wf Tp (YI 25 (aa7 (aa8 h)) (tA u v w x)) t (λy=>∃z A B C,zc y (aa8 h) 0 (tL z A B C)/\R (.tuple #[tA z A B C,iV g,iV 0]) y)))))):aa4 165 #[aa6 D] h R:=XF ⟨[],[],[]⟩ [.cell 2 25,.tmp 3,.tmp 4] 22 func165 H
end
section
open Go.RowKit
section
variable {s:Bs} {M gl:Fr} {h:zb} {K:Value -> zb -> Prop}
def DU(h:(xh s).2.2=0):(qz s).2.2=0:=by unfold xh at h;split at h;assumption;exact h
def Ib{x:Bs×List Nd}{i j:Int}{v:Value}(h:x7 M [.pair .str (.row gN),.int .i64,.int .i64] ((bl x.1,x.2),i,j) v):∃sl:Sl,v=.tuple #[.agg #[aa6 (bl x.1),aK sl],ab0 i,ab0 j]/\Rd M (.row gN) x.2 [aK sl]:=by
 obtain⟨vs,⟨r,rest,rfl,m,p,f,rfl,l,o,rfl,n⟩,rfl⟩:=h;rw[qn l,qn n];obtain⟨cs,rfl,c1,c2,rfl,b,k⟩:=m;have b:c1=[aa6 (bl x.1)]:=b;subst b;obtain⟨sl,rfl⟩:∃sl:Sl,c2=[aK sl]:=by have⟨w,e,a,c,q,_⟩:=k;exact⟨⟨a,_,c⟩,by rw[e,q];rfl⟩
 exact⟨sl,rfl,k⟩
def WM(J:GL gl)(I:Fr.le gl M)(ag:AgM M h) (t:∀(h':zb) (bs:ab1) (sk si:Sl),Bk h.size h h'->OT h' (qg s).1 bs (Z4 (qg s).1 sk si)->(∀b∈bs,h.size<=b)->K (.tuple #[.agg #[ab0 (qg s).1.Wf,aa6 (qg s).1.aa0,aK sk,aK si],ab0 (qg s).2.1,ab0 (qg s).2.2]) h'):aa4 165 #[aa6 (bl s)] h K:=by
 apply UQ;intro h1;have⟨H,z1,R1⟩:=yp (g:=h1) rfl;clear_value h1;refine(NM J (s:=s) (R:=λr=>r=((bl (xh s).1.1,(xh s).1.2),(xh s).2.1,(xh s).2.2)) rfl).go I (ag.aa1 H) (zn (a:=qr .str _) (DH _) zw) λv w M' r L hv hr=>?_;subst hr;obtain⟨sl,rfl,rd⟩:=Ib hv;refine⟨_,sl,_,_,rfl,?_⟩;have A:=L.aa1;have z3:=A.size;have E:Bk h.size h w:=H.trans (c:=w) (m:=h.size) ⟨z3,λj o=>A.get j ω⟩ (YJ _);have Q:=R1.aa1 (A.get h.size ω);intro O;have⟨V,z8,S⟩:=yp (g:=O) rfl;clear_value O;refine Jr (u:=bl (xh s).1.1) (v:=sl) S λn f9 z9 N=>?_;have q:Bk w.size w n:=⟨ω,λj o=>(f9 j ω).trans (V.get j o)⟩;have l:Bk h.size h n:=E.trans (c:=n) (m:=h.size) ⟨q.size,λj o=>q.get j ω⟩ (YJ _);have P:=Q.aa1 (q.get h.size ω);refine⟨λe=>?_,λe=>?_⟩;have e:¬(xh s).2.2=0:=ψ e
 have D:qg s=(.mk 0 (bl []) [] [],(xh s).2.1,(xh s).2.2):=by unfold qg;rw[za e]
 rw[D]at t;refine qt (k:=0) (s:=⟨#[]⟩) (sk:=⟨Te,0,0⟩) (si:=⟨Te,0,0⟩) P λg f z B=>⟨_,_,_,_,B.ld (cs:=[ab0 0,aa6 ⟨#[]⟩,aK ⟨Te,0,0⟩,aK ⟨Te,0,0⟩]),?_⟩;have⟨bs,ot,y⟩:=(Own.new (lo:=h.size) (hi:=g.size) (b0:=h.size) (k:=0) (s:=bl []) B (YJ _) (YJ _)).ot;exact t g bs ⟨Te,0,0⟩ ⟨Te,0,0⟩ (l.trans (c:=g) (m:=h.size) ⟨ω,λj o=>f j ω⟩ (YJ _)) ot (λb p=>(y b p).1);have e:(xh s).2.2=0:=ψ e
 have⟨lvs,G,e1,Z,e3,e4⟩:=FY e;have⟨hs,Y⟩:=td (DU e);have D:qg s=(Yd s (xh s).1.2 33 0,(DB s:Int),0):=by unfold qg;rw[zi e]
 rw[D]at t;rw[e1]at N;rw[Z];refine⟨_,sl,N.ld (cs:=[aa6 (bl s),aK sl]),?_⟩;have C:AgM M' n:=L.ag.aa1 q;refine DK J hs G (λx e=>by have:=e4 x e;unfold fF at this;omega) 33 0 1 1 rfl ω ω ω n M' sl (I.trans L.le) C rd _ λaa bs sk si i ot p=>⟨_,_,sk,si,rfl,?_⟩;have U:=i.size;refine qt (P.aa1 (i.get h.size ω)) λg f z B=>⟨_,_,sk,si,B.ld (cs:=[_,_,aK sk,aK si]),?_⟩;exact t g bs sk si (l.trans (c:=g) (m:=h.size) ⟨ω,λj o=>by rw[f j ω];exact i.get j ω⟩ (YJ _)) (ot.frame λc F=>f c (χ (p c F))) (λc F=>χ (p c F))
def EB(J:GL gl)(I:Fr.le gl M)(ag:AgM M h) (t:∀(h':zb) (bs:ab1) (sk si:Sl),Bk h.size h h'->OT h' (qg s).1 bs (Z4 (qg s).1 sk si)->(∀b∈bs,h.size<=b)->K (.tuple #[.agg #[ab0 (qg s).1.Wf,aa6 (qg s).1.aa0,aK sk,aK si],ab0 (qg s).2.1,ab0 (qg s).2.2]) h'):aa4 112 #[aa6 (bl s)] h K:=by
 apply Sy;intro h1;have⟨H,z1,R1⟩:=yp (g:=h1) rfl;clear_value h1;refine(NW J (s:=s) (R:=λr=>r=((bl (xh s).1.1,(xh s).1.2),(xh s).2.1,(xh s).2.2)) rfl).go I (ag.aa1 H) (zn (a:=qr .str _) (DH _) zw) λv w M' r L hv hr=>?_;subst hr;obtain⟨sl,rfl,rd⟩:=Ib hv;refine⟨_,sl,_,_,rfl,?_⟩;have A:=L.aa1;have z3:=A.size;have E:Bk h.size h w:=H.trans (c:=w) (m:=h.size) ⟨z3,λj o=>A.get j ω⟩ (YJ _);have Q:=R1.aa1 (A.get h.size ω);intro O;have⟨V,z8,S⟩:=yp (g:=O) rfl;clear_value O;refine Jr (u:=bl (xh s).1.1) (v:=sl) S λn f9 z9 N=>?_;have q:Bk w.size w n:=⟨ω,λj o=>(f9 j ω).trans (V.get j o)⟩;have l:Bk h.size h n:=E.trans (c:=n) (m:=h.size) ⟨q.size,λj o=>q.get j ω⟩ (YJ _);have P:=Q.aa1 (q.get h.size ω);refine⟨λe=>?_,λe=>?_⟩;have e:¬(xh s).2.2=0:=ψ e
 have D:qg s=(.mk 0 (bl []) [] [],(xh s).2.1,(xh s).2.2):=by unfold qg;rw[za e]
 rw[D]at t;refine qt (k:=0) (s:=⟨#[]⟩) (sk:=⟨Te,0,0⟩) (si:=⟨Te,0,0⟩) P λg f z B=>⟨_,_,_,_,B.ld (cs:=[ab0 0,aa6 ⟨#[]⟩,aK ⟨Te,0,0⟩,aK ⟨Te,0,0⟩]),?_⟩;have⟨bs,ot,y⟩:=(Own.new (lo:=h.size) (hi:=g.size) (b0:=h.size) (k:=0) (s:=bl []) B (YJ _) (YJ _)).ot;exact t g bs ⟨Te,0,0⟩ ⟨Te,0,0⟩ (l.trans (c:=g) (m:=h.size) ⟨ω,λj o=>f j ω⟩ (YJ _)) ot (λb p=>(y b p).1);have e:(xh s).2.2=0:=ψ e
 have⟨lvs,G,e1,Z,e3,e4⟩:=FY e;have⟨hs,Y⟩:=td (DU e);have D:qg s=(Yd s (xh s).1.2 33 0,(DB s:Int),0):=by unfold qg;rw[zi e]
 rw[D]at t;rw[e1]at N;rw[Z];refine⟨_,sl,N.ld (cs:=[aa6 (bl s),aK sl]),?_⟩;have C:AgM M' n:=L.ag.aa1 q;refine GA J hs G (λx e=>by have:=e4 x e;unfold fF at this;omega) 33 0 1 rfl ω n M' sl (I.trans L.le) C rd _ λaa bs sk si i ot p=>⟨_,_,sk,si,rfl,?_⟩;have U:=i.size;refine qt (P.aa1 (i.get h.size ω)) λg f z B=>⟨_,_,sk,si,B.ld (cs:=[_,_,aK sk,aK si]),?_⟩;exact t g bs sk si (l.trans (c:=g) (m:=h.size) ⟨ω,λj o=>by rw[f j ω];exact i.get j ω⟩ (YJ _)) (ot.frame λc F=>f c (χ (p c F))) (λc F=>χ (p c F))
end
section
section
variable {t : Bs} {nodes : List Nd} {lvs : List Nat} {gl : Fr}
def Ow(i:GL gl){s:Bs}{R:Tr×Int×Int->Prop}(c:R (qg s)):aa5 gl 165 [qr .str (bl s)] [.tree,.int .i64,.int .i64] R:=by
 intro h M vs e ag b
 match vs,b with
 |[u1],⟨a1,_⟩=>obtain rfl:=y0 (s:=bl s) a1;apply PX.of;exact WM i e ag λh' bs sk si k ot f=>⟨MxL M h' bs,_,MxL.later ag k f,⟨[_,_,_],⟨_,_,rfl,ot.rdv,_,_,rfl,Zj _ _,_,rfl,Zj _ _⟩,rfl⟩,c⟩
end
end
end
end Go.X
namespace Go.X.U
section
def lp(o:n9):Option Bool:=match o.op with
 |.fieldAddr _ _ _=>Td Ta
 |.indexAddr _ _ _=>Td Ta
 |.move _=>Td Ta
 |.assign _=>Td Ta
 |.load _ _=>Td Tc
 |.binOp _ _ _ _ _=>Td Ta
 |.call c=>match c.callee with
  |.builtin .len=>Td Ta
  |_=>Te
 |_=>Te
def oy(o:n9):Bool:=match lp o with
 |some _=>Ta
 |none=>Tc
def jr(o:n9):Bool:=match lp o with
 |some b=>!b
 |none=>Tc
end
end Go.X.U
namespace Go.X
section
def S0(gl:Fr)(b:Bt)(R:Tr->Prop) (H:R (Tr.mk 4 b [] [])):aa5 gl 98 [qr .str b] [.tree] R:=PF ⟨[],[],[],[]⟩ [.cell 2 25] 5 func98 H
end
section
open Go.RowKit
section
variable {h:zb} {g:Bool} {M:Fr} {b:Nat}
def gX(k:Int)(s:Bt)(a b:Sl):Value:=.agg #[.int .i64 k,.string s,aK a,aK b]
def pO{f:n5}{args:ab3}(i:g=Ta){b:Bool->zb->Prop}(E:aa4 f args h λv h'=>∃r,v=.bool r/\b r h'):∃J:vvv,(g=Ta->aa4 f args h λv h'=>∃r:Bool,v=.bool r/\J (aa9 r) h')/\(g=Tc->∃r:Bool,J (aa9 r) h)/\(g=Ta->∀v h',J v h'->∃r:Bool,v=.bool r)/\∀r:Bool,∀h',J (aa9 r) h'->b r h':=by refine⟨λv h'=>∃r,v=.bool r/\b r h',λ_=>XC.mono E λv h' ⟨r,e,H⟩=>⟨r,e,r,rfl,H⟩,λc=>(by rw[i]at c;cases c),λ_ v h' ⟨r,e,_⟩=>⟨r,e⟩,λr h' ⟨k,e,H⟩=>?_⟩;injection e with e;subst e;exact H
def Eg{h h1:zb}{s:Sl}(i:g=Ta){b:Sl->zb->Prop}(E:b s h1):∃J:vvv,(g=Ta->J (aK s) h1)/\(g=Tc->∃x:Sl,J (aK x) h)/\(g=Ta->∀v h',J v h'->∃x:Sl,v=aK x)/\∀x:Sl,∀h',J (aK x) h'->b x h':=by
 refine⟨λv h'=>∃x,v=aK x/\b x h',λ_=>⟨s,rfl,E⟩,λf=>(by rw[i]at f;cases f),λ_ v h' ⟨x,e,_⟩=>⟨x,e⟩,λx h' ⟨c,e,H⟩=>?_⟩;have:x=c:=by unfold aK at e;injection e with e1 e2 e3;cases x;cases c;simp_all
 subst this;exact H
def MH(n:M b=Te){k h:Tr}{w1 f:ab2}(h1:Rd M .tree k w1)(h2:Rd M .tree h f)(l:w1.length=4)(o:f.length=4):Rd (Mx M b (w1++f).toArray) (.row .tree) [k,h] [aK ⟨Td ⟨b,0,Te⟩,2,2⟩]:=by
 have le:Fr.le M (Mx M b (w1++f).toArray):=λc cs e=>by unfold Mx;by_cases m:c=b;subst m;rw[n]at e;cases e;rw[za m];exact e
 refine⟨_,rfl,_,_,rfl,ξ,.inr ⟨b,0,_,rfl,by unfold Mx;rw[zi rfl],λi hi=>?_⟩⟩;have hi:i<2:=hi;rcases(ω:i=0\/i=1)with rfl|rfl;have:cut (w1++f).toArray (0+0*sz .tree) (sz .tree)=w1:=by show List.take 4 (List.drop 0 (w1++f))=w1;rw[zbi,<-l,zdp]
 rw[this];exact Rd.mono le h1;have:cut (w1++f).toArray (0+1*sz .tree) (sz .tree)=f:=by show List.take 4 (List.drop 4 (w1++f))=f;rw[List.drop_left' l,<-o,ZX]
 rw[this];exact Rd.mono le h2
def P9{s1 s2:Bt}:Rd (Mx M b #[aa6 s1,aa6 s2]) (.row .str) [s1,s2] [aK ⟨Td ⟨b,0,Te⟩,2,2⟩]:=by refine⟨_,rfl,_,_,rfl,ξ,.inr ⟨b,0,_,rfl,by unfold Mx;rw[zi rfl],λi hi=>?_⟩⟩;have hi:i<2:=hi;rcases(ω:i=0\/i=1)with rfl|rfl <;> rfl
def v6{T:Tr}{k:Int}{s:Bt}{a b:Sl}(h:RdV M .tree T (gX k s a b)):Rd M .tree T [ab0 k,aa6 s,aK a,aK b]:=by
 unfold RdV at h;simp only[fh,if_true]at h;have⟨cs,e,c⟩:=h;unfold gX at e;injection e with e;have:cs=[ab0 k,aa6 s,aK a,aK b]:=by have:=congrArg Array.toList e;simpa using this.symm
 rw[<-this];exact c
section
variable {gl : Fr} {b2 b29 : Nat} {k2 k29 : Int} {s2 : Bt} {a2 c2 a29 c29 : Sl} {h : zb} {M : Fr}
end
end
section
variable {v:Tr} {sk si:Sl} {lv i:Nat}
section
variable {gl M : Fr} {b N : Nat} {ln : Bool}
def kj(gl M:Fr)(b N:Nat)(ln:Bool)(F:n5)(args:Array Value)(p:Bs):Prop:=
 ∀(l:Bs) (g:zb) (K:Value->zb->Prop),Prn g b ln (N:Int) l->Low gl M b g->l.length+p.length<=140737488355328->(∀g',Prn g' b ln (N:Int) (l++p)->FrP b g g'->K (.tuple #[]) g')->XC Tp F args g K
def EN{F:n5}(hF:zr Tp F=Ta)(hi:Rd M (.row .tree) v.WT [aK si])(hN:N<=8)(hv:lv<=90){o c:UInt8}{ps:List Bs}(P:ps.length=v.WT.length)(U:v.WT.length<=1000000) (hE:∀(i:Nat) (h:i<DB ps),kj gl M b N ln F (#[aa7 ⟨b,0,Te⟩]++#[gX v.Wf v.aa0 sk si,ab0 (i:Int),ab0 ((lv+1:Nat):Int)]++#[]) ps[i]):kj gl M b N ln 254 #[aa7 ⟨b,0,Te⟩,gX v.Wf v.aa0 sk si,ab0 (lv:Int),aa6 (bl [o,c]),.func (.func F) #[aa7 ⟨b,0,Te⟩] #[]] (o::Wx ln N lv ps++[c]):=by
 intro l g K H L V hK;have ab:=(Bx hi).1;have I:=H.lt;have e1:(o::Wx ln N lv ps++[c]).length=2+(wq ln N (lv+1) ps).length+(ite (ps=[]) [] (jl ln N lv:Bs)).length:=by unfold Wx;simp only[YU,YM,ZW];omega
 rw[e1]at V;apply VZ;intro h1;have Z:Bk g.size g h1:=rg _ _ (YJ _);have B1:h1[g.size]?=Td (.cells #[ab0 v.Wf,aa6 v.aa0,aK sk,aK si] 25 (0,0)):=jc _ _;clear_value h1;have f1:=FrP.aa3 Z (zdg I);have H1:=H.aa1 Z;refine⟨_,rfl,⟨ζ,by rw[zf];simp⟩,?_⟩;rw[PA];have eo:ze (bl [o,c]) (0:Int).toNat=(o.toNat:Int):=by rw[zx];rfl
 have ec:ze (bl [o,c]) (1:Int).toNat=(c.toNat:Int):=by rw[zx];rfl
 rw[eo];refine Yk H1 ω o λu H4 Y o4=>⟨_,rfl,?_⟩;have J:FrP b g u:=f1.trans ⟨Y,o4⟩;have box:∀g',FrP b u g'->Blk g' g.size #[ab0 v.Wf,aa6 v.aa0,aK sk,aK si]:=λg' f=>⟨_,f.blk ((⟨Y,o4⟩:FrP b h1 u).blk B1)⟩;refine⟨si,Blk.aa2 (o:=0) (k:=3) (box u (FrP.refl _ _)) rfl,?_⟩;refine⟨λi g'=>∃n:Nat,i=(n:Int)/\n<=DB ps/\Prn g' b ln (N:Int) (l++[o]++wq ln N (lv+1) (ps.take n))/\FrP b u g',λi _=>DB ps-i.toNat,⟨0,rfl,ω,by simpa[wq]using H4,FrP.refl _ _⟩,?_⟩;rintro i g' ⟨n,rfl,hn,A,f'⟩;have O:=J.trans f';have L':=L.frp O;have aa:=pH ln N (lv+1) hn;have s:(l++[o]++wq ln N (lv+1) (ps.take n)).length=DB l+1+(wq ln N (lv+1) (ps.take n)).length:=by rw[YM,YM];rfl
 refine⟨λq=>?_,λy=>?_⟩;have q:n<DB ps:=χ (zB q)
 have t:=pH ln N (lv+1) (ps:=ps) (n:=n+1) q;have B:=ti ln N (lv+1) q;rw[B]at t;simp only[YM]at t;intro D C;have p:∀r,Prn r b ln (N:Int) (l++[o]++wq ln N (lv+1) (ps.take n)++(ite (n=0) [] [44]))->FrP b u r->D r:=λr x w=>C _ (by have L2:=L.frp (J.trans w);rw[bR ω,show(lv:Int)+1=((lv+1:Nat):Int)from ω];refine ES x L2 hN ω (by rw[YM,s];omega) λS E Q=>⟨rfl,v.Wf,v.aa0,sk,si,(box S (w.trans Q)).ld (cs:=[_,_,aK sk,aK si]),hF,?_⟩;refine hE n q _ _ _ E (L2.frp Q) (by rw[YM,YM,s];omega) λg5 H5 f5=>⟨rfl,⟨n+1,by rw[bR ω];omega,q,?_,w.trans (Q.trans f5)⟩,?_⟩;rw[B];simpa[ZL]using H5;show (DB ps)-(p3 ((n:Int)+1)).toNat<DB ps-(n:Int).toNat;rw[bR ω];omega);refine⟨λm=>?_,λm=>?_⟩;have h0:n≠0:=χ (zB m)
 refine⟨_,rfl,?_⟩;rw[PA];refine Yk A (by rw[s];rw[za h0]at t;simp only[YU,ZW]at t;omega) 44 λr x k2 o2=>⟨_,rfl,p r ?_ (f'.trans ⟨k2,o2⟩)⟩;rw[za h0];exact x;have h0:n=0:=χ (zC m)
 refine p g' ?_ f';rw[zi h0,ZY];exact A;have y:n=DB ps:=χ (zC y)
 subst y;rw[ZX]at A s;intro G z;have p:∀r,Prn r b ln (N:Int) (l++[o]++wq ln N (lv+1) ps++(ite (ps=[]) [] (jl ln N lv)))->FrP b u r->G r:=λr x w=>z _ (by refine⟨_,rfl,⟨ζ,by rw[zf];simp⟩,?_⟩;rw[PA,ec];refine Yk x (by rw[YM,s];omega) c λS E k3 o3=>⟨_,rfl,hK S ?_ (J.trans (w.trans ⟨k3,o3⟩))⟩;unfold Wx;simpa[ZL]using E);refine⟨si,Blk.aa2 (o:=0) (k:=3) (box g' f') rfl,λm=>?_,λm=>?_⟩;have h0:ps≠[]:=λe=>by
  have:=zB m;have ae:v.WT.length=0:=by rw[<-P,e];rfl
  omega
 rw[za h0]at V;refine ES A L' hN ω (ο s) λr x w=>⟨rfl,p r ?_ (f'.trans w)⟩;rw[za h0];exact x;have h0:ps=[]:=by have:=zC m;apply List.eq_nil_of_length_eq_zero;omega
 refine p g' ?_ f';rw[zi h0,ZY];exact A
def IU:zr Tp 255=Ta:=κ
def UN:zr Tp 256=Ta:=κ
def Oc(hi:Rd M (.row .tree) v.WT [aK si])(h:i<v.WT.length){p:Bs}(q:∀(c e:Sl),Rd M (.row .str) v.WT[i].XK [aK c]->Rd M (.row .tree) v.WT[i].WT [aK e]->kj gl M b N ln 201 #[aa7 ⟨b,0,Te⟩,gX v.WT[i].Wf v.WT[i].aa0 c e,ab0 (lv:Int)] p):kj gl M b N ln 255 #[aa7 ⟨b,0,Te⟩,gX v.Wf v.aa0 sk si,ab0 (i:Int),ab0 (lv:Int)] p:=by intro l g K H L r y;have w:=(Bx hi).1;apply KD;intro h1;have⟨f,_,s⟩:=yp (g:=h1) rfl;clear_value h1;have m:=FrP.aa3 f (zdg H.lt);have n:=L.frp m;have⟨a,c,e,t,A,u,x⟩:=ie n.ag hi h;refine⟨si,Blk.aa2 (o:=0) (k:=3) s rfl,a,⟨t,ω,ω⟩,_,_,c,e,by rw[YL];exact A,?_⟩;exact q c e u x l h1 _ (H.aa1 f) n r λg' z f'=>⟨rfl,y g' z (m.trans f')⟩
def Mo(hg:GL gl)(Z:Brn gl)(G:Rd M (.row .str) v.XK [aK sk])(hi:Rd M (.row .tree) v.WT [aK si])(h:i<v.WT.length)(h2:i<v.XK.length)(u:(lb v.XK[i]).length<=1048576){p:Bs}(hE:∀(c e:Sl),Rd M (.row .str) v.WT[i].XK [aK c]->Rd M (.row .tree) v.WT[i].WT [aK e]->kj gl M b N ln 201 #[aa7 ⟨b,0,Te⟩,gX v.WT[i].Wf v.WT[i].aa0 c e,ab0 (lv:Int)] p):kj gl M b N ln 256 #[aa7 ⟨b,0,Te⟩,gX v.Wf v.aa0 sk si,ab0 (i:Int),ab0 (lv:Int)] (fa ln v.XK[i] p):=by intro l g K H L z J;unfold fa at z J;simp only[YM,YU]at z;have aa:=(Bx hi).1;have F:=(Bx G).1;apply Xz;intro h1;have E:Bk g.size g h1:=rg _ _ (YJ _);have O:h1[g.size]?=Td (.cells #[ab0 v.Wf,aa6 v.aa0,aK sk,aK si] 25 (0,0)):=jc _ _;clear_value h1;have I:=FrP.aa3 E (zdg H.lt);have D:=L.frp I;have⟨a,y,x,s,r⟩:=gS D.ag G h2 (i:=(i:Int)) rfl (L:=sk.len) rfl (Q:=λx=>x=v.XK[i]) rfl;subst r;refine⟨sk,Blk.aa2 (o:=0) (k:=2) ⟨_,O⟩ rfl,a,y,v.XK[i],s,?_⟩;refine E3 hg Z (H.aa1 E) D u ω λh6 V f6=>⟨rfl,_,rfl,?_⟩;rw[PA];refine Yk V (by simp only[YM];omega) 58 λP A k9 o9=>⟨_,rfl,?_⟩;have U:FrP b h1 P:=f6.trans ⟨k9,o9⟩;intro t q;have f:∀m,Prn m b ln (N:Int) (l++(eY (lb v.XK[i])).1++[58]++(ite ln [32] []))->FrP b h1 m->t m:=λm C B=>q _ (by have S:=D.frp B;have⟨a',c,e,e1,e2,e3,e4⟩:=ie S.ag hi h;refine⟨si,Blk.aa2 (o:=0) (k:=3) ⟨_,B.blk O⟩ rfl,a',⟨e1,ω,ω⟩,_,_,c,e,by rw[YL];exact e2,?_⟩;refine hE c e e3 e4 _ m _ C S (by simp only[YM,YU,ZW];omega) λg' H' f'=>⟨rfl,J g' ?_ (I.trans (B.trans f'))⟩;simpa[ZL]using H');have w:=A;have⟨p9,s9,e9,ab,Y⟩:=w;refine⟨_,rfl,ln,Blk.aa2 (o:=0) (k:=2) (cs:=#[.pointer p9,aK s9,aa9 ln,ab0 (N:Int)]) ⟨_,e9⟩ rfl,λn=>?_,λn=>?_⟩;subst n;refine⟨_,rfl,?_⟩;rw[PA];refine Yk A (by simp only[if_true,YU,ZW]at z;simp only[YM,YU,ZW];omega) 32 λm C k2 o2=>⟨_,rfl,f m C (U.trans ⟨k2,o2⟩)⟩;subst n;refine f P ?_ U;simpa using A
end
end
section
section
variable {gl M : Fr} {b N : Nat} {ln : Bool}
def I5{g:zb}{l:Bs}(H:Prn g b ln (N:Int) l)(s:Bt)(c:l.length+(lb s).length<=140737488355328){K:vvv}(e:∀g',Prn g' b ln (N:Int) (l++lb s)->Bk b g g'->Otk g g'->K (.tuple #[ab0 ((lb s).length:Int),.nilIface]) g'):aa4 68 #[aa7 ⟨b,0,Te⟩,aa6 s] g K:=by have:=Jo H (lb s) c e;rw[Zz]at this;exact this
def BS(S:GL gl)(J:Brn gl)(Y:N<=8):∀(n:Nat) (v:Tr) (lv:Nat) (sk si:Sl),n<=1000000->cK v<=n->Qc zq v=Ta->Sm v->lv+eM v<=90->Rd M (.row .str) v.XK [aK sk]->Rd M (.row .tree) v.WT [aK si] ->kj gl M b N ln 201 #[aa7 ⟨b,0,Te⟩,gX v.Wf v.aa0 sk si,ab0 (lv:Int)] (j9 ln N v lv)
 |0,v,lv,sk,si,_,h,_,_,_,_,_=>χ (Zn v)
 |n+1,v,lv,sk,si,hn,hz,hok,hsm,hd,hk,hi=>by
  intro l g K H L r t;have f:=hok;rw[y8,YR]at f;have s:∀(i:Nat) (h:i<v.WT.length) (m p:Sl),Rd M (.row .str) v.WT[i].XK [aK m]->Rd M (.row .tree) v.WT[i].WT [aK p]->kj gl M b N ln 201 #[aa7 ⟨b,0,Te⟩,gX v.WT[i].Wf v.WT[i].aa0 m p,ab0 ((lv+1:Nat):Int)] (j9 ln N v.WT[i] (lv+1)):=λi h m p h1 h2=>by
   have I:=YY h;have hs:=yc I;have aa:=qF I;have F:Qc zq v.WT[i]=Ta:=by rw[je,ZB]at f;exact f.2 _ I
   exact BS S J Y n v.WT[i] (lv+1) m p ω ω F (hsm.item I) ω h1 h2
  have G:v.WT.length<=1000000:=by have:=xq v.WT;rw[yo]at hz;omega
  rw[xx]at r t;apply Km;intro h1;have⟨Z,_,D⟩:=yp (g:=h1) rfl;clear_value h1;have B:=FrP.aa3 Z (zdg H.lt);have C:=H.aa1 Z;have P:=L.frp B;refine⟨v.Wf,Blk.aa2 (o:=0) (k:=0) D rfl,λq=>?_,λq=>⟨λu=>?_,λu=>⟨λy=>?_,λy=>⟨λz=>?_,λz=>?_⟩⟩⟩⟩;have q:v.Wf=1:=eq_of_beq q;rw[zi q]at r t;refine⟨_,rfl,?_⟩;rw[PA];exact Jo C [110,117,108,108] r λg' w O U=>⟨_,_,rfl,t g' w (B.trans ⟨O,U⟩)⟩;have A:v.Wf≠1:=λe=>by rw[e]at q;cases q
  have u:v.Wf=4:=eq_of_beq u;rw[za A,zi u]at r t;exact⟨v.aa0,Blk.aa2 (o:=0) (k:=1) D rfl,E3 S J C P hsm.aa0 r λg' w f'=>⟨rfl,t g' w (B.trans f')⟩⟩;have A:v.Wf≠1:=λe=>by rw[e]at q;cases q
  have E:v.Wf≠4:=λe=>by rw[e]at u;cases u
  have y:v.Wf=5:=eq_of_beq y;rw[za A,za E,zi y]at r t;refine⟨v.Wf,v.aa0,sk,si,D.ld (cs:=[_,_,aK sk,aK si]),?_⟩;refine EN (o:=91) (c:=93) (ps:=v.WT.map λx=>j9 ln N x (lv+1)) IU hi Y ω (YO _) G (λi h=>?_) l h1 _ C P r λg' w f'=>⟨rfl,t g' w (B.trans f')⟩;rw[YO]at h;rw[zby];exact Oc hi h λm p V a2=>s i h m p V a2;have A:v.Wf≠1:=λe=>by rw[e]at q;cases q
  have E:v.Wf≠4:=λe=>by rw[e]at u;cases u
  have Q:v.Wf≠5:=λe=>by rw[e]at y;cases y
  have z:v.Wf=6:=eq_of_beq z;rw[za A,za E,za Q,zi z]at r t;have ab:v.XK.length=v.WT.length:=by have:=f.1;unfold zq at this;simp[z]at this;exact this.1.2
  refine⟨v.Wf,v.aa0,sk,si,D.ld (cs:=[_,_,aK sk,aK si]),?_⟩;refine EN (o:=123) (c:=125) (ps:=List.zipWith (fa ln) v.XK (v.WT.map λx=>j9 ln N x (lv+1))) UN hi Y ω (by rw[List.length_zipWith,YO];omega) G (λi h=>?_) l h1 _ C P r λg' w f'=>⟨rfl,t g' w (B.trans f')⟩;rw[List.length_zipWith,YO]at h;rw[List.getElem_zipWith,zby];exact Mo S J hk hi ω ω (hsm.key (YY _)) λm p V a2=>s i ω m p V a2;have A:v.Wf≠1:=λe=>by rw[e]at q;cases q
  have E:v.Wf≠4:=λe=>by rw[e]at u;cases u
  have Q:v.Wf≠5:=λe=>by rw[e]at y;cases y
  have n6:v.Wf≠6:=λe=>by rw[e]at z;cases z
  rw[za A,za E,za Q,za n6]at r t;refine⟨_,rfl,v.aa0,Blk.aa2 (o:=0) (k:=1) D rfl,?_⟩;rw[PA];exact I5 C v.aa0 r λg' w O U=>⟨_,_,rfl,t g' w (B.trans ⟨O,U⟩)⟩
end
end
end
section
section
def JL(gl:Fr)(c:Tr)(R:ac4) (H:∃a:Bool->Prop,((c.Wf != 7)=Ta->aa5 gl 89 [qr .tree (Tr.mk c.Wf c.aa0 c.XK c.WT)] [.bool] a)/\∀b:Bool,((c.Wf != 7)=Ta->a b)->R (cond (c.Wf != 7) b Tc)):aa5 gl 88 [qr .tree c] [.bool] R:=PF ⟨[],[],[],[]⟩ [.tmp 2] 10 func88 H
end
section
variable {gl:Fr} {v:Tr} {R:Bool -> Prop}
def NL(f:GL gl)(i:Sm v)(h:R (hV (v.Wf≠7)&&zq v)):aa5 gl 88 [qr .tree v] [.bool] R:=by
 apply JL;simp only[Zp];refine⟨λb=>b=zq v,λ_=>BI f i rfl,λb c=>?_⟩;cases hk:(v.Wf != 7)with
 |false=>
  have e:v.Wf=7:=ψ hk
  have:(hV (v.Wf≠7)&&zq v)=Tc:=ϑ e
  rw[this]at h;simpa[hk]using h
 |true=>
  have e:v.Wf≠7:=ψ hk
  have c:=c hk;subst c;have:(hV (v.Wf≠7)&&zq v)=zq v:=ϑ e
  rw[this]at h;simpa[hk]using h
def HO(G:GL gl)(D:Sm v)(q:R (qh v)):aa5 gl 49 [qr .tree v] [.bool] R:=by
 intro h M vs C ag Q
 match vs,Q with
 |[u],⟨o,_⟩=>
  have o:RdV M .tree v u:=o;have n:=o;obtain⟨sk,si,rfl,U,Y⟩:=yg o;apply PX.of;apply PZ v.Wf v.aa0 sk si;intro h1;have s:wr h M h1 M:=wr.push ag _;have s1:h1.size=h.size+1:=YW _;have f:∀h':zb,Bk h1.size h1 h'->zc h' (aa8 h) 0 [ab0 v.Wf,aa6 v.aa0,aK sk,aK si]:=λh' k=>m8 (h':=h') (by rw[s1]at k;exact k);clear_value h1;refine⟨v.Wf,v.aa0,sk,si,f h1 (Bk.refl _ _),?_⟩;have y:aa5 gl 86 [qr .tree v] [.bool] (λr=>r=wy v):=DY D rfl;refine y.go (vs:=[.agg #[ab0 v.Wf,aa6 v.aa0,aK sk,aK si]]) (C.trans s.le) s.ag (zn (RdV.mono s.le n) zw) λw h2 N r z l L=>?_;refine⟨r,ez l,v.Wf,v.aa0,sk,si,λ_=>f h2 z.aa1,?_⟩;have c:=s.trans z;refine⟨λw t=>∃b,w=.bool b/\(r=Ta->b=Qc (λx=>decide (x.Wf≠7)&&zq x) v)/\∃B,wr h M t B,λP=>?_,λm=>⟨Ta,Ta,rfl,λe=>(by rw[e]at m;cases m),N,c⟩,λ_ w t ⟨b,e,_⟩=>⟨b,e⟩,?_⟩;refine(GU (F:=88) κ (p:=λx=>decide (x.Wf≠7)&&zq x) (λx O=>NL G O rfl) v D (C.trans c.le) z.ag (RdV.mono c.le n)).go λw V I b H i A=>⟨b,ez i,b,rfl,λ_=>A,I,c.trans H⟩;rintro b t ⟨S,e,E,B,J⟩;cases e;refine⟨B,_,J,Yu.2 (Fk _),?_⟩;unfold qh at q;rw[<-L]at q;cases r with
  |false=>exact q
  |true=>rw[zF,E rfl];exact q
end
end
section
open Go.Lib
section
variable {s t:Bs} {r a:Nat}
def WE{T:List Tk}{v:Tr}{m:Nat}(f:s.length<=65536)(L:Lex s 0 (DB s) T)(c:PV s 32 v (zt T) m)(o:m<=4096):qg s=(v,(DB s:Int),0):=by
 have l:=XT L f;have⟨_,_,e⟩:=yE 32 v _ m c;have⟨new,k,h⟩:=e (0,0) ⟨zt T,0,[]⟩ [] ξ φ;have b:xh s=((s,new),(DB s:Int),0):=by unfold xh;rw[l];dsimp only;rw[zi rfl,k];dsimp only;rw[zi rfl,zal]
 unfold qg;rw[b];dsimp only;rw[zi rfl];have:=h.val new (λi y n=>θ) 33 ω;simp_all
def Us:(zac 32).all (λk=>decide (f8 k≠0)||(eS [48,48,ZR (48+k / 16),lm (k % 16)]==Td k))=Ta:=κ
def Kn(h:hY r)(i:32<=r)(b:r≠34)(k:r≠92)(m:Bs):∃c t,encodeRune (r:Int)++m=c::t/\c≠34/\c≠92:=by
 have⟨_,h2,_⟩:=y7 h m;by_cases l:r<128;have e:encodeRune (r:Int)=[(r:Int).toNat.toUInt8]:=by unfold encodeRune;rw[encodeRuneZ_one ω ω];rfl
 have b0:=iq (x:=(r:Int)) ω ω;refine⟨_,m,π e,λe=>?_,λe=>?_⟩ <;> (rw[e]at b0;grind);have f:=Gf h ω;cases he:encodeRune (r:Int)with
 |nil=>simp_all
 |cons c t=>have:=f c θ;exact⟨c,t++m,rfl,λe=>θ,λe=>θ⟩
def Nr(h:hY r)(m:Bs):J4 (hO r++m)=Td (r,(hO r).length)/\(hO r++m).head?≠Td 34/\hO r≠[]:=by
 unfold hO;by_cases h0:f8 r≠0;rw[zi h0];have b:(r=34\/r=92)\/r=8\/r=12\/r=10\/r=13\/r=9:=by unfold f8 at h0;by_cases a:r=34\/r=92;exact .inl a;grind
 obtain (rfl|rfl)|rfl|rfl|rfl|rfl|rfl:=b <;> exact⟨rfl,ξ,ξ⟩;rw[za h0];have l:r≠34:=λe=>h0 (by subst e;decide)
 have i:r≠92:=λe=>h0 (by subst e;decide);by_cases f:32<=r;rw[zi f];have⟨n,w,h2⟩:=y7 h m;have⟨c,t,e,s,p⟩:=Kn h f l i m;refine⟨?_,θ,λe=>θ⟩;unfold J4;have u:eF (dec (encodeRune (r:Int)++m))=Tc:=by rw[n];unfold eF;simp only[zas,beq_eq_false_iff_ne,ne_eq];by_cases q:r=65533;omega;exact .inl q
 simp_all;rw[za f];have:=ZB.1 Us r (zaz.2 ω);rw[za1]at this;have k:eS [48,48,ZR (48+r / 16),lm (r % 16)]=Td r:=by obtain h|h:=this;simp_all;grind
 refine⟨?_,ξ,ξ⟩;unfold J4;rw[zi (show List.head? ([92,117,48,48,ZR (48+r / 16),lm (r % 16)]++m)=Td 92 from rfl)];unfold iO;simp only[ZT,zal];rw[show hG 117=Te from ζ];dsimp only;rw[zi trivial];unfold kL;have o:eS (48::48::ZR (48+r / 16)::lm (r % 16)::m)=Td r:=by unfold eS at k ⊢;rw[zi ξ]at k;rw[zi ξ];exact k
 grind
theorem TD(rest:Bs):∀(k:Nat) (t:Bs),DB t=k->xn t=Ta->gj (Jd t++34::rest)=(t,(Jd t).length+1,Ta):=by
 intro k;induction k using Nat.strongRecOn with
 |_ k o=>
  intro t u f;by_cases e:t=[];subst e;rw[show Jd ([]:Bs)++34::rest=34::rest from rfl,Yj ξ,zi (show(34::rest).head?=Td 34 from rfl)];rfl;have r:=zaj.2 e;have b:eF (dec t)=Tc:=by
   rw[Zk e]at f;cases hb:eF (dec t)with
   |true=>simp_all
   |false=>rfl
  have h:xn (t.drop (dec t).2)=Ta:=by rw[Zk e,b]at f;simpa using f
  have s:=ju t;have n:=Dv e b;have w:=pZ e b;have i:=vg t;have c:Jd t=hO (dec t).1++Jd (t.drop (dec t).2):=by rw[<-n,<-vN,List.take_append_drop]
  have p:=o (t.drop (dec t).2).length η _ rfl h;have⟨l,m,q⟩:=Nr i (Jd (t.drop (dec t).2)++34::rest);rw[c,ZL,Yj ξ,za m,l];simp_all;omega
def fq(t:Bs):Bs:=34::Jd t++[34]
theorem Df(t:Bs):(fq t).length=(Jd t).length+2:=by unfold fq;simp
def EI{t s rest:Bs}(e:xn t=Ta)(b:s.drop a=fq t++rest):ye s a=(t,a+(fq t).length,0):=by
 have c:s.drop (a+1)=Jd t++34::rest:=by rw[<-zap,b];unfold fq;simp
 unfold ye;rw[b,zi (by unfold fq;rfl),c,TD rest _ t rfl e];simp only[if_true];grind [Df]
theorem AS(b:xn t=Ta):(Qr (fq t)).1=t:=by have:=EI (s:=fq t) (a:=0) (rest:=[]) b ξ;unfold Qr;simp_all
def Gp{t s rest:Bs}(c:xn t=Ta)(b:s.drop a=fq t++rest):Zy s a=(8,a+(fq t).length,0):=by have e:=EI c b;unfold Zy;rw[b,show fq t++rest=34::(Jd t++[34]++rest)from rfl];dsimp only;rw[za ζ,za ζ,zi rfl,e,zi rfl]
def Yf{s rest:Bs}{c:UInt8}(b:c∈CT)(e:s.drop a=c::rest):Zy s a=(2+indexByte CT c,a+1,0):=by unfold Zy;simp_all
def yu{s r:Bs}(h:s.drop a=r)(b:r≠[]):a<DB s:=by obtain h1|h1:=zam a (DB s);exact h1;rw[zao h1]at h;simp_all
theorem Lex.step{a b e:Nat}{k:Int}{T:List Tk}(h:Zy s a=(k,e,0))(c:a<DB s)(L:Lex s e b T):Lex s a b ((k,((a:Int),(e:Int)))::T):=by have:=Lex.cons (s:=s) (i:=a) (j:=b) (T:=T) c (ϕ h) (ϖ h L);simp_all
def Rl{t s rest:Bs}{a d:Nat}(h:xn t=Ta)(c:s.drop a=fq t++rest):PV s (d+1) (.mk 4 (bl t) [] []) [(8,((a:Int),((a+(fq t).length:Nat):Int)))] 1:=by
 have e:=Df t;have f:a+(fq t).length<=DB s:=by have:=congrArg za6 c;rw[ZE,YM]at this;omega
 have b:zy s ((a:Int),((a+(fq t).length:Nat):Int))=fq t:=by rw[rW ω ω ω];unfold Yc;simp only[YL];rw[c,zcx,zdp]
 refine⟨_,.inl ⟨rfl,show zu 8≠0 by decide,show zu 8≠5 by decide,show zu 8≠6 by decide,?_,rfl⟩⟩;dsimp only;rw[b,show zu 8=4 from rfl];unfold Z3;simp_all[AS]
def Fs{c:UInt8}(h:yl c=Ta):c∈eA/\c∈fW:=by
 have all:(zac 256).all (λk=>!yl (ZR k)||(wh eA (ZR k)&&wh fW (ZR k)))=Ta:=κ
 have:=ZB.1 all c.toNat (zaz.2 c.toNat_lt);rw[UInt8.ofNat_toNat,h]at this;simp only[Bool.not_true,Bool.false_or,YR]at this;exact⟨zB this.1,zB this.2⟩
def uD{p:ac2}:∀{l:Bs},(GE p l).2.2=Ta->∃c,p c=Ta/\l=(GE p l).1++c::(GE p l).2.1
 |[],h=>by cases h
 |c::l,h=>by unfold GE at h ⊢;split;simp_all;rename_i e;rw[za e]at h;have⟨d,h1,h2⟩:=uD h;grind
def Tj(h:Xp s=Ta):(∀c∈s,c∈eA)/\∃c t,s=c::t/\c∈fW:=by
 unfold Xp at h;simp only[YR]at h;have⟨⟨⟨h1,h2⟩,C⟩,E⟩:=h;have G:∀{l:Bs},Z1 l=Ta->∀c∈l,c∈eA:=λ {l} z c f=>(Fs (ZB.1 (Q6 z) c f)).1;have F:∀c,gi c=Ta->c∈eA:=λc f=>by unfold gi at f;rw[za1]at f;obtain f|f:=f <;> (rw[eq_of_beq f];decide)
 have D:∀c,gp c=Ta->c∈eA:=λc f=>by unfold gp at f;rw[eq_of_beq f];decide
 have y:(∀c∈(jw s).1,c∈eA)/\∃c t,(jw s).1=c::t/\c∈fW:=by
  have q:∃c t,(jy s).1=c::t/\c∈fW:=by
   cases hq:(jy s).1 with
   |nil=>rw[hq]at h2;cases h2
   |cons c t=>exact⟨c,t,rfl,(Fs (ZB.1 (Q6 h2) c θ)).2⟩
  have⟨c0,u,o,n⟩:=q;cases hb:(jy s).2.2 with
  |false=>have:=(Wu (p:=gp) (l:=(jw s).1) hb).1;have this:(jy s).1=(jw s).1:=this;grind
  |true=>have⟨c,f,e⟩:=uD (p:=gp) (l:=(jw s).1) hb;have e:(jw s).1=(jy s).1++c::(jy s).2.1:=e;grind
 have A:(∀c∈fv s,c∈eA)/\∃c t,fv s=c::t/\c∈fW:=by
  have⟨w1,c0,u,o,n⟩:=y;cases hb:(jw s).2.2 with
  |false=>have:=(Wu (p:=gi) (l:=fv s) hb).1;have this:(jw s).1=fv s:=this;simp_all
  |true=>
   have⟨c,f,e⟩:=uD (p:=gi) (l:=fv s) hb;have e:fv s=(jw s).1++c::(jw s).2.1:=e;rw[hb]at h1;have h1:Z1 (eP s)=Ta:=ψ h1
   have B:∀x∈(jw s).2.1,x∈eA:=by
    unfold eP at h1;intro x i;split at h1;rename_i b;unfold Za at b;rw[YR]at b;cases hq:(jw s).2.1 with
    |nil=>grind
    |cons d r=>rw[hq]at i h1 b;obtain rfl|i:=YT.1 i;have:=b.2;simp at this;subst this;decide;grind
    split at h1;rename_i m;cases hq:(jw s).2.1 with
    |nil=>grind
    |cons d r=>rw[hq]at i h1 m;obtain rfl|i:=YT.1 i;simp at m;subst m;decide;grind
    grind
   grind
 have⟨s1,c0,u,o,n⟩:=A;unfold fv at s1 o;split at s1;rename_i k;rw[zi k]at o;cases hq:s with
 |nil=>simp_all
 |cons d r=>
  rw[hq]at s1 k;have w:d=45:=ψ k
  subst w;refine⟨λx i=>?_,45,r,rfl,ζ⟩;obtain rfl|i:=YT.1 i;decide;grind
 simp_all
end
section
variable {ln:Bool} {lv:Nat}
def UX(ln:Bool)(nd lv:Nat)(ps:List Bs):(wq ln nd lv ps).length<=(ps.map λp=>DB p+(1+(jl ln nd lv).length)).sum:=by
 cases ps with
 |nil=>exact YJ _
 |cons p ps=>
  have:∀b:List Bs,(b.flatMap λq=>44::(jl ln nd lv++q)).length=(b.map λp=>DB p+(1+(jl ln nd lv).length)).sum:=by
   intro b;induction b with
   |nil=>rfl
   |cons q b c=>grind
  rw[wq,YM,YM,this,ZC,List.sum_cons];omega
def AL{nd lv:Nat}(h:nd<=8)(b:lv<=100):(jl ln nd lv).length<=801:=by unfold jl;have:nd*lv<=800:=zbd (Nat.mul_le_mul h b) ω;grind
theorem qJ(t:Bs):(eY t).1.length<=6*DB t+2:=by unfold eY;grind [r7]
def uK{ln:Bool}{N:Nat}(s:N<=8):∀(n:Nat) (v:Tr) (lv:Nat),cK v<=n->Sm v->lv+eM v<=90->(j9 ln N v lv).length+10000000<=cK v*20000000
 |0,v,lv,h,_,_=>χ (Zn v)
 |n+1,v,lv,hz,hsm,hd=>by
  have B:=hsm.aa0;have t:=Zn v;have e:∀x∈v.WT,(j9 ln N x (lv+1)).length+10000000<=cK x*20000000:=λx r=>by have h1:=yc r;have h2:=qF r;exact uK s n x (lv+1) ω (hsm.item r) ω
  have A:=AL (ln:=ln) (lv:=lv) s ω;have w:=AL (ln:=ln) (lv:=lv+1) s ω;have f:∀l:List Tr,(∀x∈l,(j9 ln N x (lv+1)).length+10000000<=cK x*20000000)->(l.map λx=>(j9 ln N x (lv+1)).length+10000000).sum<=Ze l*20000000:=by
   intro l;induction l with
   |nil=>simp
   |cons x l m=>intro h;have h1:=h x ZD;have h2:=m λy q=>h y (ZA _ q);rw[ZC,List.sum_cons,Ze,zb8];omega
  have u:=f v.WT e;have b:∀ps:List Bs,(ps.map λp=>DB p+(1+(jl ln N (lv+1)).length)).sum<=Ze v.WT*20000000->∀o c:UInt8,(o::Wx ln N lv ps++[c]).length+10000000<=cK v*20000000:=λps z o c=>by
   have E:=UX ln N (lv+1) ps;have:(o::Wx ln N lv ps++[c]).length<=2+(wq ln N (lv+1) ps).length+(jl ln N lv).length:=by unfold Wx;simp only[YU,YM,ZW];split <;> simp <;> omega
   rw[yo,zb8];omega
  rw[xx];split;grind;split;grind [qJ];split;refine b _ (zbd ?_ u) 91 93;rw[List.map_map];have:∀l:List Tr,(l.map ((λp:Bs=>DB p+(1+(jl ln N (lv+1)).length)) ∘ λx=>j9 ln N x (lv+1))).sum<=(l.map λx=>(j9 ln N x (lv+1)).length+10000000).sum:=by
   intro l;induction l with
   |nil=>simp
   |cons x l m=>grind
  exact this _;split;refine b _ (zbd ?_ u) 123 125;have:∀(ks:List Bt) (l:List Tr),(∀k∈ks,(lb k).length<=1048576)->((List.zipWith (fa ln) ks (l.map λx=>j9 ln N x (lv+1))).map λp:Bs=>DB p+(1+(jl ln N (lv+1)).length)).sum<=(l.map λx=>(j9 ln N x (lv+1)).length+10000000).sum:=by
   intro ks;induction ks with
   |nil=>simp
   |cons k ks m=>
    intro l i;cases l with
    |nil=>simp
    |cons x l=>
     have h1:=m l λy q=>i y (ZA _ q);have h2:=i k ZD;have D:=qJ (lb k);have C:(fa ln k (j9 ln N x (lv+1))).length<=(eY (lb k)).1.length+2+(j9 ln N x (lv+1)).length:=by unfold fa;rw[YM,YU,YM];split <;> simp <;> omega
     simp only[ZC,List.zipWith_cons_cons,List.sum_cons];omega
  exact this v.XK v.WT λk i=>hsm.key i;omega
def MS{N:Nat}{v:Tr}(h:dR v=Ta):j9 ln N v lv≠[]:=by unfold dR at h;rw[YR]at h;have⟨k,h⟩:=h;unfold zq at h;rw[xx];by_cases h1:v.Wf=1;simp_all;rw[za h1]at h ⊢;by_cases b:v.Wf=4;rw[zi b];rw[b]at h;simp at h;unfold eY;simp_all;rw[za b];by_cases f:v.Wf=5;simp_all;rw[za f];by_cases c:v.Wf=6;simp_all;rw[za c];by_cases h2:v.Wf=2;grind;rw[za h2]at h;by_cases i:v.Wf=3;rw[zi i]at h;simp only[YR]at h;have:=h.1.1;unfold fI at this;simp only[YR,beq_iff_eq]at this;intro e;rw[e]at this;exact absurd this.1 ζ;simp_all
end
end
end Go.X
